/- Steps that only the proof takes: objects forgotten; tokens handed out. -/
import Derived.Test.YteimhnedflbkmaaDoorAbB7
set_option linter.unusedVariables false
set_option linter.unusedSimpArgs false
namespace Go.Ab
open Go.RowKit

/-! ### Objects forgotten -/
def cut (μ : Mu) (k : Nat) : Mu := fun id => if id < k then μ id else none

theorem cut_own {μ : Mu} {k b o : Nat} (h : Own (cut μ k) b o) : Own μ b o := by
  obtain ⟨id, h | ⟨e, g, h, he⟩⟩ := h
  · unfold cut at h
    split at h
    · exact ⟨id, .inl h⟩
    · cases h
  · unfold cut at h
    split at h
    · exact ⟨id, .inr ⟨e, g, h, he⟩⟩
    · cases h

theorem cut_free {μ : Mu} {F : Frm} {k b o : Nat} (h : Free μ F b o) : Free (cut μ k) F b o := ⟨h.1, fun ho => h.2 (cut_own ho)⟩

theorem cut_lies {μ : Mu} {k i b : Nat} (h : Lies (cut μ k) i b) : Lies μ i b := by
  rcases h with h | ⟨e, g, h⟩
  · unfold cut at h
    split at h
    · exact .inl h
    · cases h
  · unfold cut at h
    split at h
    · exact .inr ⟨e, g, h⟩
    · cases h

/-- What stands for x stands for y when the objects from k on are forgotten. -/
def SubC (k : Nat) (x y : AV) : Prop := ∀ (μ : Mu) (F : Frm) (w : World) (v : Value), Rep μ F w x v → Rep (cut μ k) F w y v

theorem SubC.of_closed {k : Nat} {x : AV} (h : Closed x) : SubC k x x := fun μ F w v hr => h μ (cut μ k) F F w v (fun _ _ hf => cut_free hf) hr
theorem SubC.sub {k : Nat} {x y z : AV} (h : SubC k x y) (h2 : Sub y z) : SubC k x z := fun μ F w v hr => h2 _ _ _ _ (h μ F w v hr)
theorem SubC.pre {k : Nat} {x y z : AV} (h : Sub x y) (h2 : SubC k y z) : SubC k x z := fun μ F w v hr => h2 _ _ _ _ (h μ F w v hr)
theorem SubC.top {k : Nat} {x : AV} : SubC k x .top := fun _ _ _ v _ => .top v
theorem SubC.ptr {k id off : Nat} (h : decide (id < k) = true) : SubC k (.ptr id off) (.ptr id off) := by
  intro μ F w v hr
  have h' := of_decide_eq_true h
  cases hr with
  | ptr _ _ _ h1 h2 h3 => exact .ptr _ _ _ h1 (by simp [cut, h', h2]) (fun b hb => h3 b (by simpa [cut, h'] using hb))
theorem SubC.map {k id : Nat} (h : decide (id < k) = true) : SubC k (.map id) (.map id) := by
  intro μ F w v hr
  have h' := of_decide_eq_true h
  cases hr with
  | map _ _ h1 h2 h3 => exact .map _ _ h1 (by simp [cut, h', h2]) (fun b hb => h3 b (by simpa [cut, h'] using hb))
theorem SubC.tok {k id g sz : Nat} {xs : List AV} (h : decide (id < k) = true) (hc : ∀ x, x ∈ xs → (∀ c, c ∈ x.cells → Closed c)) : SubC k (.sl sz xs (.tok id g)) (.sl sz xs (.tok id g)) := by
  intro μ F w v hr
  have h' := of_decide_eq_true h
  obtain ⟨A, cap, ad, vals, rfl, h1, h2, h3, h4, h5, h6, h7⟩ := hr.sl_inv
  refine .sl _ _ _ _ _ ad vals h1 h2 h3 h4 (fun i x j c hx hj => ⟨(h5 i x j c hx hj).1, cut_free (h5 i x j c hx hj).2⟩)
    (fun i x j c hx hj => hc x (List.mem_of_getElem? hx) c (List.mem_of_getElem? hj) μ _ F F w _ (fun _ _ hf => cut_free hf) (h6 i x j c hx hj)) ?_
  rcases h7 with h7 | ⟨p, g', h7, h8, h9⟩
  · exact .inl (by simp [cut, h', h7])
  · exact .inr ⟨p, g', by simp [cut, h', h7], h8, h9⟩
theorem SubC.fn {k : Nat} {g : Fn} {l1 l2 : List AV} (h1 : ∀ x, x ∈ l1 → SubC k x x) (h2 : ∀ x, x ∈ l2 → SubC k x x) : SubC k (.fn g l1 l2) (.fn g l1 l2) := by
  intro μ F w v h
  obtain ⟨c1, c2, rfl, g1, g2, g3, g4⟩ := h.fn_inv
  exact .fn _ _ _ _ _ g1 g2 (fun i x u hx hu => h1 x (List.mem_of_getElem? hx) μ F w u (g3 i x u hx hu)) (fun i x u hx hu => h2 x (List.mem_of_getElem? hx) μ F w u (g4 i x u hx hu))
theorem SubC.agg {k : Nat} {l : List AV} (hl : ∀ x, x ∈ l → SubC k x x) : SubC k (.agg l) (.agg l) := by
  intro μ F w v h
  obtain ⟨c, rfl, h1, h2, h3⟩ := h.agg_inv
  exact .agg _ _ h1 (fun i x u hx hu => hl x (List.mem_of_getElem? hx) μ F w u (h2 i x u hx hu)) h3

theorem Sub.untag {sz : Nat} {xs : List AV} {t : Tag} : Sub (.sl sz xs t) (.sl sz xs .none) := fun _ _ _ _ h => rep_untag h

/-- An empty slice is one of any elements. -/
theorem Sub.empty {sz sz' : Nat} {t : Tag} (ht : t = .none ∨ t = .full) : Sub (.sl sz [] t) (.sl sz' [] t) := by
  intro μ F w v h
  obtain ⟨A, cap, ad, vals, rfl, h1, h2, h3, h4, h5, h6, h7⟩ := h.sl_inv
  refine .sl _ [] _ _ _ ad vals (by simp) h2 (by simp) (by simp) (by simp) (by simp) ?_
  rcases ht with rfl | rfl
  · trivial
  · exact h7

def SubsC (k : Nat) (f : AF) : List (Nat × AV) → Prop
  | [] => True
  | (i, x) :: r => SubC k (f.get i) x ∧ SubsC k f r

theorem subsC_get {k : Nat} {f : AF} : ∀ {l : List (Nat × AV)} {d : List ADef}, SubsC k f l → ∀ t, SubC k (f.get t) (AF.get ⟨l, d⟩ t)
  | [], d, _, t => SubC.top
  | (i, x) :: r, d, h, t => by
    by_cases e : t = i
    · subst e
      have : AF.get ⟨(t, x) :: r, d⟩ t = x := by simp [AF.get, lookup]
      rw [this]; exact h.1
    · have : AF.get ⟨(i, x) :: r, d⟩ t = AF.get ⟨r, d⟩ t := by simp [AF.get, lookup, e]
      rw [this]; exact subsC_get h.2 t

def ObjC (k : Nat) : Option AObj → AObj → Prop
  | some (.cells l), .cells m => l.length = m.length ∧ ∀ (i : Nat) (x y : AV), l[i]? = some x → m[i]? = some y → SubC k x y
  | some (.spare g), .spare g' => g = g'
  | _, _ => False

def ObjsC (k : Nat) (M : Mem) : List (Nat × AObj) → Prop
  | [] => True
  | (i, o) :: r => i < k ∧ ObjC k (M.get i) o ∧ ObjsC k M r

theorem objsC_get {k : Nat} {M : Mem} : ∀ {l : List (Nat × AObj)} {i : Nat} {o : AObj}, ObjsC k M l → lookup l i = some o → i < k ∧ ObjC k (M.get i) o
  | [], i, o, _, h => by cases h
  | (j, p) :: r, i, o, h, hl => by
    simp only [lookup] at hl
    split at hl
    · rename_i e
      cases hl
      subst e
      exact ⟨h.1, h.2.1⟩
    · exact objsC_get h.2.2 hl

theorem gam_cut {μ : Mu} {F : Frm} {M : Mem} {w : World} (h : Gam μ F M w) {k : Nat} (hk : k ≤ M.next) {l : List (Nat × AObj)} (ho : ObjsC k M l) : Gam (cut μ k) F ⟨k, l⟩ w := by
  refine ⟨?_, ?_, ?_, ?_, ?_, ?_⟩
  · intro id
    unfold cut
    split
    · rename_i hlt
      exact ⟨fun _ => hlt, fun _ => (h.dom id).2 (Nat.lt_of_lt_of_le hlt hk)⟩
    · rename_i hlt
      exact ⟨fun e => absurd rfl e, fun e => absurd e hlt⟩
  · intro id m hm
    obtain ⟨hlt, hob⟩ := objsC_get ho hm
    cases hM : M.get id with
    | none => rw [hM] at hob; exact hob.elim
    | some o =>
      rw [hM] at hob
      cases o with
      | spare g => exact hob.elim
      | cells l0 =>
        obtain ⟨b, c, ty, h1, h2, h3, h4, h5⟩ := h.obj id l0 hM
        refine ⟨b, c, ty, by simp [cut, hlt, h1], h2, by rw [h3]; exact hob.1, h4, ?_⟩
        intro i x v hx hv
        have hi : i < l0.length := by rw [hob.1]; exact (List.getElem?_eq_some_iff.1 hx).1
        exact hob.2 i _ x (List.getElem?_eq_getElem hi) hx μ F w v (h5 i _ v (List.getElem?_eq_getElem hi) hv)
  · intro id g hm
    obtain ⟨hlt, hob⟩ := objsC_get ho hm
    cases hM : M.get id with
    | none => rw [hM] at hob; exact hob.elim
    | some o =>
      rw [hM] at hob
      cases o with
      | cells l0 => exact hob.elim
      | spare g' =>
        have : g' = g := hob
        subst this
        obtain ⟨p, h1, h2⟩ := h.spare id g' hM
        exact ⟨p, by simp [cut, hlt, h1], h2⟩
  · intro i j b hi hj
    exact h.inj i j b (cut_lies hi) (cut_lies hj)
  · intro b o ho'
    exact h.frm b o (cut_own ho')
  · exact ⟨fun b o ho' => h.fit.own b o (cut_own ho'), h.fit.frm⟩

theorem evo_cut {w0 w : World} {μ0 μ : Mu} (h : Evo w0 μ0 w μ) {k : Nat} (hk : ∀ id, μ0 id ≠ none → id < k) : Evo w0 μ0 w (cut μ k) := by
  refine ⟨h.os, h.tape, h.output, h.size, ?_, h.same, h.part, fun b o hb ho => h.own b o hb (cut_own ho)⟩
  intro id hid
  have := hk id hid
  simp only [cut, this, if_true]
  exact h.mu id hid

/-- The objects from k on are forgotten. -/
theorem Joint.cut {n0 : Nat} {f : AF} {M : Mem} {k : Nat} (hk : n0 ≤ k) (hk2 : k ≤ M.next) {t : List (Nat × AV)} {l : List (Nat × AObj)} (hd : f.d = []) (ht : SubsC k f t) (ho : ObjsC k M l) : Joint n0 f M ⟨t, []⟩ ⟨k, l⟩ := by
  intro μ0 μ F w0 w n a hn he hg hr
  refine ⟨Go.Ab.cut μ k, evo_cut he (fun id h => Nat.lt_of_lt_of_le (hn id h) hk), gam_cut hg hk2 ho, hr.size, fun i => subsC_get ht i μ F w _ (hr.tmps i), ?_⟩
  have := hr.defs
  rw [hd] at this
  show DefRep _ _ _ [] a.defers
  rw [defrep_nil this]
  trivial

/-! ### Tokens -/
theorem rep_tok {μ : Mu} {F : Frm} {M : Mem} {w : World} (hg : Gam μ F M w) : Evo w μ w (μ.put M.next (.spare none 0)) ∧ Gam (μ.put M.next (.spare none 0)) F (M.push (.spare 0)) w ∧
    ∀ (sz sz' : Nat) (xs : List AV) (v : Value), (sz' = sz ∨ xs = []) → Rep μ F w (.sl sz xs .full) v → Rep (μ.put M.next (.spare none 0)) F w (.sl sz' xs (.tok M.next 0)) v := by
  obtain ⟨hev, hG⟩ := gam_room hg (w' := w) (p := none) rfl rfl rfl (Nat.le_refl _) (id := M.next) (g := 0) (.inl ⟨rfl, fun _ _ => rfl⟩) (by intro b e h; cases h)
  refine ⟨hev, hG _ (by simp [Mem.push]) (fun i => Mem.get_push M _ i), ?_⟩
  intro sz sz' xs v hsx hr
  have hr' := hr.evo hev
  obtain ⟨A', cap', b, o, vals, hv, hsz, hcap, hA, hat, htag⟩ := hr'.sl_flat
  subst hv
  refine rep_sl (b := b) (o := o) (vals := vals) ?_ hcap hA hat (.inr ⟨none, 0, by simp [Mu.put], Nat.le_refl _, fun _ => htag⟩)
  rcases hsx with rfl | rfl
  · exact hsz
  · simp

/-- A slice that is full gets a token: one that the frame holds. -/
theorem Joint.tok {n0 : Nat} {t : List (Nat × AV)} {ds : List ADef} {M : Mem} (i : Nat) {sz : Nat} {xs : List AV} (h : AF.get ⟨t, ds⟩ i = .sl sz xs .full) {sz' : Nat} (hs : sz' = sz ∨ xs = []) :
    Joint n0 ⟨t, ds⟩ M ⟨(i, .sl sz' xs (.tok M.next 0)) :: t, ds⟩ (M.push (.spare 0)) := by
  intro μ0 μ F w0 w n a hn he hg hr
  obtain ⟨hev, hG, hrep⟩ := rep_tok hg
  refine ⟨_, he.trans hev, hG, hr.size, ?_, hr.defs.evo hev⟩
  intro j
  by_cases e : j = i
  · subst e
    have h1 := hr.tmps j
    rw [h] at h1
    have : AF.get ⟨(j, .sl sz' xs (.tok M.next 0)) :: t, ds⟩ j = .sl sz' xs (.tok M.next 0) := by simp [AF.get, lookup]
    rw [this]
    exact hrep sz sz' xs _ hs h1
  · have : AF.get ⟨(i, .sl sz' xs (.tok M.next 0)) :: t, ds⟩ j = AF.get ⟨t, ds⟩ j := by simp [AF.get, lookup, e]
    rw [this]
    exact (hr.tmps j).evo hev

/-- One that an object holds. -/
theorem Joint.tokM {n0 : Nat} {f : AF} {M : Mem} (id i : Nat) {l : List AV} (hM : M.get id = some (.cells l)) {sz : Nat} {xs : List AV} (h : l[i]? = some (.sl sz xs .full)) {sz' : Nat} (hs : sz' = sz ∨ xs = []) :
    Joint n0 f M f ((M.push (.spare 0)).set id (.cells (l.set i (.sl sz' xs (.tok M.next 0))))) := by
  intro μ0 μ F w0 w n a hn he hg hr
  obtain ⟨hev, hG, hrep⟩ := rep_tok hg
  refine ⟨_, he.trans hev, ?_, hr.evo hev⟩
  have hne : id ≠ M.next := by
    rintro rfl
    obtain ⟨b, c, ty, h1, _⟩ := hg.obj _ _ hM
    have := gam_next hg
    rw [this] at h1
    cases h1
  refine ⟨?_, ?_, ?_, hG.inj, hG.frm, hG.fit⟩
  · intro j
    exact hG.dom j
  · intro j m hm
    rw [Mem.get_set] at hm
    split at hm
    · rename_i e
      cases hm
      subst e
      obtain ⟨b, c, ty, h1, h2, h3, h4, h5⟩ := hg.obj j l hM
      refine ⟨b, c, ty, by simp [Mu.put, hne, h1], h2, by rw [List.length_set]; exact h3, h4, ?_⟩
      intro q x v hx hv
      rw [List.getElem?_set] at hx
      split at hx
      · rename_i e
        subst e
        split at hx
        · cases hx
          exact hrep sz sz' xs v hs (h5 i _ v h hv)
        · cases hx
      · exact (h5 q x v hx hv).evo hev
    · exact hG.obj j m hm
  · intro j g hm
    rw [Mem.get_set] at hm
    split at hm
    · cases hm
    · exact hG.spare j g hm

/-! ### At a call's end -/
/-- A contract whose end is another one, by steps that only the proof takes. -/
theorem ACalls.joint {P : Program} {g : FuncId} {args : List AV} {M : Mem} {R R' : AEnd → Mem → Prop} (h : ACalls P g args M R)
    (hr : ∀ x M', R (.ret x) M' → ∃ y N, R' (.ret y) N ∧ Joint M.next ⟨[(0, x)], []⟩ M' ⟨[(0, y)], []⟩ N)
    (hp : ∀ x M', R (.pan x) M' → ∃ y N, R' (.pan y) N ∧ Joint M.next ⟨[(0, x)], []⟩ M' ⟨[(0, y)], []⟩ N) : ACalls P g args M R' := by
  refine ⟨h.1, fun μ F w vs hg hv => (h.2 μ F w vs hg hv).mono ?_⟩
  rintro e w' ⟨μ', M', h1, h2, h3⟩
  have hdom : ∀ id, μ id ≠ none → id < M.next := fun id h => (hg.dom id).1 h
  have one : ∀ (x : AV) (v : Value), Rep μ' F w' x v → RepF μ' F w' 1 ⟨[(0, x)], []⟩ { tmps := #[v], defers := [] } := by
    intro x v hx
    refine ⟨rfl, ?_, trivial⟩
    intro t
    cases t with
    | zero => simpa [AF.get, lookup] using hx
    | succ t => exact .top _
  cases e with
  | returned v =>
    obtain ⟨x, h4, h5⟩ := h3
    obtain ⟨y, N, k1, k2⟩ := hr x M' h5
    obtain ⟨μ2, j1, j2, j3⟩ := k2 μ μ' F w w' 1 _ hdom h1 h2 (one x v h4)
    have := j3.tmps 0
    exact ⟨μ2, N, j1, j2, y, by simpa [AF.get, lookup] using this, k1⟩
  | panicked ch =>
    obtain ⟨x, v, h4, h5, h6⟩ := h3
    obtain ⟨y, N, k1, k2⟩ := hp x M' h6
    obtain ⟨μ2, j1, j2, j3⟩ := k2 μ μ' F w w' 1 _ hdom h1 h2 (one x v h5)
    have := j3.tmps 0
    exact ⟨μ2, N, j1, j2, y, v, h4, by simpa [AF.get, lookup] using this, k1⟩
  | outgrown => exact h3.elim

/-- Arguments of which less is known. -/
theorem ACalls.sub {P : Program} {g : FuncId} {args args' : List AV} {M : Mem} {R : AEnd → Mem → Prop} (h : ACalls P g args' M R) (hl : args.length = args'.length) (hs : ∀ (i : Nat) (x y : AV), args[i]? = some x → args'[i]? = some y → Sub x y) : ACalls P g args M R := by
  refine ⟨h.1, fun μ F w vs hg hv => h.2 μ F w vs hg ⟨by rw [hv.1, hl], fun i y v hy hv' => ?_⟩⟩
  have hi : i < args.length := by rw [hl]; exact (List.getElem?_eq_some_iff.1 hy).1
  exact hs i _ y (List.getElem?_eq_getElem hi) hy _ _ _ _ (hv.2 i _ v (List.getElem?_eq_getElem hi) hv')

end Go.Ab
