/- Parts of the proof, one behind the other: AbB8, AbB9, AbK1, AbK2. No further condition. -/
import Derived.Test.YteimhnedflbkmaaDoorM05
import Derived.Shelf.Strings.IndexAnyAll
import Derived.Shelf.Small.Utf8
import Derived.Shelf.RegionOpenPlain
import Derived.Laws.RangeAny
import Derived.WalkMore
import Derived.Lib.OthersKept
import Derived.Shelf.Strings.Split
import Derived.Shelf.Strings.LastIndex
import Derived.Shelf.Strings.OnBuilder
set_option linter.unusedVariables false
set_option linter.unusedSimpArgs false
/- Steps that only the proof takes: objects forgotten; tokens handed out. -/
set_option linter.unusedVariables false
set_option linter.unusedSimpArgs false
namespace Go.Ab
open Go.RowKit

/-! ### Objects forgotten -/
def cut (μ : Mu) (k : Nat) : Mu := fun id => if id < k then μ id else none

theorem cut_own {μ : Mu} {k b o : Nat} (h : Own (cut μ k) b o) : Own μ b o := by
  obtain ⟨id, h | ⟨e, g, h, he⟩⟩ := h
  · unfold cut at h
    split at h
    · exact ⟨id, .inl h⟩
    · cases h
  · unfold cut at h
    split at h
    · exact ⟨id, .inr ⟨e, g, h, he⟩⟩
    · cases h

theorem cut_free {μ : Mu} {F : Frm} {k b o : Nat} (h : Free μ F b o) : Free (cut μ k) F b o := ⟨h.1, fun ho => h.2 (cut_own ho)⟩

theorem cut_lies {μ : Mu} {k i b : Nat} (h : Lies (cut μ k) i b) : Lies μ i b := by
  rcases h with h | ⟨e, g, h⟩
  · unfold cut at h
    split at h
    · exact .inl h
    · cases h
  · unfold cut at h
    split at h
    · exact .inr ⟨e, g, h⟩
    · cases h

/-- What stands for x stands for y when the objects from k on are forgotten. -/
def SubC (k : Nat) (x y : AV) : Prop := ∀ (μ : Mu) (F : Frm) (w : World) (v : Value), Rep μ F w x v → Rep (cut μ k) F w y v

theorem SubC.of_closed {k : Nat} {x : AV} (h : Closed x) : SubC k x x := fun μ F w v hr => h μ (cut μ k) F F w v (fun _ _ hf => cut_free hf) hr
theorem SubC.sub {k : Nat} {x y z : AV} (h : SubC k x y) (h2 : Sub y z) : SubC k x z := fun μ F w v hr => h2 _ _ _ _ (h μ F w v hr)
theorem SubC.pre {k : Nat} {x y z : AV} (h : Sub x y) (h2 : SubC k y z) : SubC k x z := fun μ F w v hr => h2 _ _ _ _ (h μ F w v hr)
theorem SubC.top {k : Nat} {x : AV} : SubC k x .top := fun _ _ _ v _ => .top v
theorem SubC.ptr {k id off : Nat} (h : decide (id < k) = true) : SubC k (.ptr id off) (.ptr id off) := by
  intro μ F w v hr
  have h' := of_decide_eq_true h
  cases hr with
  | ptr _ _ _ h1 h2 h3 => exact .ptr _ _ _ h1 (by simp [cut, h', h2]) (fun b hb => h3 b (by simpa [cut, h'] using hb))
theorem SubC.map {k id : Nat} (h : decide (id < k) = true) : SubC k (.map id) (.map id) := by
  intro μ F w v hr
  have h' := of_decide_eq_true h
  cases hr with
  | map _ _ h1 h2 h3 => exact .map _ _ h1 (by simp [cut, h', h2]) (fun b hb => h3 b (by simpa [cut, h'] using hb))
theorem SubC.tok {k id g sz : Nat} {xs : List AV} (h : decide (id < k) = true) (hc : ∀ x, x ∈ xs → (∀ c, c ∈ x.cells → Closed c)) : SubC k (.sl sz xs (.tok id g)) (.sl sz xs (.tok id g)) := by
  intro μ F w v hr
  have h' := of_decide_eq_true h
  obtain ⟨A, cap, ad, vals, rfl, h1, h2, h3, h4, h5, h6, h7⟩ := hr.sl_inv
  refine .sl _ _ _ _ _ ad vals h1 h2 h3 h4 (fun i x j c hx hj => ⟨(h5 i x j c hx hj).1, cut_free (h5 i x j c hx hj).2⟩)
    (fun i x j c hx hj => hc x (List.mem_of_getElem? hx) c (List.mem_of_getElem? hj) μ _ F F w _ (fun _ _ hf => cut_free hf) (h6 i x j c hx hj)) ?_
  rcases h7 with h7 | ⟨p, g', h7, h8, h9⟩
  · exact .inl (by simp [cut, h', h7])
  · exact .inr ⟨p, g', by simp [cut, h', h7], h8, h9⟩
theorem SubC.fn {k : Nat} {g : Fn} {l1 l2 : List AV} (h1 : ∀ x, x ∈ l1 → SubC k x x) (h2 : ∀ x, x ∈ l2 → SubC k x x) : SubC k (.fn g l1 l2) (.fn g l1 l2) := by
  intro μ F w v h
  obtain ⟨c1, c2, rfl, g1, g2, g3, g4⟩ := h.fn_inv
  exact .fn _ _ _ _ _ g1 g2 (fun i x u hx hu => h1 x (List.mem_of_getElem? hx) μ F w u (g3 i x u hx hu)) (fun i x u hx hu => h2 x (List.mem_of_getElem? hx) μ F w u (g4 i x u hx hu))
theorem SubC.agg {k : Nat} {l : List AV} (hl : ∀ x, x ∈ l → SubC k x x) : SubC k (.agg l) (.agg l) := by
  intro μ F w v h
  obtain ⟨c, rfl, h1, h2, h3⟩ := h.agg_inv
  exact .agg _ _ h1 (fun i x u hx hu => hl x (List.mem_of_getElem? hx) μ F w u (h2 i x u hx hu)) h3

theorem Sub.untag {sz : Nat} {xs : List AV} {t : Tag} : Sub (.sl sz xs t) (.sl sz xs .none) := fun _ _ _ _ h => rep_untag h

/-- An empty slice is one of any elements. -/
theorem Sub.empty {sz sz' : Nat} {t : Tag} (ht : t = .none ∨ t = .full) : Sub (.sl sz [] t) (.sl sz' [] t) := by
  intro μ F w v h
  obtain ⟨A, cap, ad, vals, rfl, h1, h2, h3, h4, h5, h6, h7⟩ := h.sl_inv
  refine .sl _ [] _ _ _ ad vals (by simp) h2 (by simp) (by simp) (by simp) (by simp) ?_
  rcases ht with rfl | rfl
  · trivial
  · exact h7

def SubsC (k : Nat) (f : AF) : List (Nat × AV) → Prop
  | [] => True
  | (i, x) :: r => SubC k (f.get i) x ∧ SubsC k f r

theorem subsC_get {k : Nat} {f : AF} : ∀ {l : List (Nat × AV)} {d : List ADef}, SubsC k f l → ∀ t, SubC k (f.get t) (AF.get ⟨l, d⟩ t)
  | [], d, _, t => SubC.top
  | (i, x) :: r, d, h, t => by
    by_cases e : t = i
    · subst e
      have : AF.get ⟨(t, x) :: r, d⟩ t = x := by simp [AF.get, lookup]
      rw [this]; exact h.1
    · have : AF.get ⟨(i, x) :: r, d⟩ t = AF.get ⟨r, d⟩ t := by simp [AF.get, lookup, e]
      rw [this]; exact subsC_get h.2 t

def ObjC (k : Nat) : Option AObj → AObj → Prop
  | some (.cells l), .cells m => l.length = m.length ∧ ∀ (i : Nat) (x y : AV), l[i]? = some x → m[i]? = some y → SubC k x y
  | some (.spare g), .spare g' => g = g'
  | _, _ => False

def ObjsC (k : Nat) (M : Mem) : List (Nat × AObj) → Prop
  | [] => True
  | (i, o) :: r => i < k ∧ ObjC k (M.get i) o ∧ ObjsC k M r

theorem objsC_get {k : Nat} {M : Mem} : ∀ {l : List (Nat × AObj)} {i : Nat} {o : AObj}, ObjsC k M l → lookup l i = some o → i < k ∧ ObjC k (M.get i) o
  | [], i, o, _, h => by cases h
  | (j, p) :: r, i, o, h, hl => by
    simp only [lookup] at hl
    split at hl
    · rename_i e
      cases hl
      subst e
      exact ⟨h.1, h.2.1⟩
    · exact objsC_get h.2.2 hl

theorem gam_cut {μ : Mu} {F : Frm} {M : Mem} {w : World} (h : Gam μ F M w) {k : Nat} (hk : k ≤ M.next) {l : List (Nat × AObj)} (ho : ObjsC k M l) : Gam (cut μ k) F ⟨k, l⟩ w := by
  refine ⟨?_, ?_, ?_, ?_, ?_, ?_⟩
  · intro id
    unfold cut
    split
    · rename_i hlt
      exact ⟨fun _ => hlt, fun _ => (h.dom id).2 (Nat.lt_of_lt_of_le hlt hk)⟩
    · rename_i hlt
      exact ⟨fun e => absurd rfl e, fun e => absurd e hlt⟩
  · intro id m hm
    obtain ⟨hlt, hob⟩ := objsC_get ho hm
    cases hM : M.get id with
    | none => rw [hM] at hob; exact hob.elim
    | some o =>
      rw [hM] at hob
      cases o with
      | spare g => exact hob.elim
      | cells l0 =>
        obtain ⟨b, c, ty, h1, h2, h3, h4, h5⟩ := h.obj id l0 hM
        refine ⟨b, c, ty, by simp [cut, hlt, h1], h2, by rw [h3]; exact hob.1, h4, ?_⟩
        intro i x v hx hv
        have hi : i < l0.length := by rw [hob.1]; exact (List.getElem?_eq_some_iff.1 hx).1
        exact hob.2 i _ x (List.getElem?_eq_getElem hi) hx μ F w v (h5 i _ v (List.getElem?_eq_getElem hi) hv)
  · intro id g hm
    obtain ⟨hlt, hob⟩ := objsC_get ho hm
    cases hM : M.get id with
    | none => rw [hM] at hob; exact hob.elim
    | some o =>
      rw [hM] at hob
      cases o with
      | cells l0 => exact hob.elim
      | spare g' =>
        have : g' = g := hob
        subst this
        obtain ⟨p, h1, h2⟩ := h.spare id g' hM
        exact ⟨p, by simp [cut, hlt, h1], h2⟩
  · intro i j b hi hj
    exact h.inj i j b (cut_lies hi) (cut_lies hj)
  · intro b o ho'
    exact h.frm b o (cut_own ho')
  · exact ⟨fun b o ho' => h.fit.own b o (cut_own ho'), h.fit.frm⟩

theorem evo_cut {w0 w : World} {μ0 μ : Mu} (h : Evo w0 μ0 w μ) {k : Nat} (hk : ∀ id, μ0 id ≠ none → id < k) : Evo w0 μ0 w (cut μ k) := by
  refine ⟨h.os, h.tape, h.output, h.size, ?_, h.same, h.part, fun b o hb ho => h.own b o hb (cut_own ho)⟩
  intro id hid
  have := hk id hid
  simp only [cut, this, if_true]
  exact h.mu id hid

/-- The objects from k on are forgotten. -/
theorem Joint.cut {n0 : Nat} {f : AF} {M : Mem} {k : Nat} (hk : n0 ≤ k) (hk2 : k ≤ M.next) {t : List (Nat × AV)} {l : List (Nat × AObj)} (hd : f.d = []) (ht : SubsC k f t) (ho : ObjsC k M l) : Joint n0 f M ⟨t, []⟩ ⟨k, l⟩ := by
  intro μ0 μ F w0 w n a hn he hg hr
  refine ⟨Go.Ab.cut μ k, evo_cut he (fun id h => Nat.lt_of_lt_of_le (hn id h) hk), gam_cut hg hk2 ho, hr.size, fun i => subsC_get ht i μ F w _ (hr.tmps i), ?_, fun p hp => by cases hp⟩
  have := hr.defs
  rw [hd] at this
  show DefRep _ _ _ [] a.defers
  rw [defrep_nil this]
  trivial

/-! ### Tokens -/
theorem rep_tok {μ : Mu} {F : Frm} {M : Mem} {w : World} (hg : Gam μ F M w) : Evo w μ w (μ.put M.next (.spare none 0)) ∧ Gam (μ.put M.next (.spare none 0)) F (M.push (.spare 0)) w ∧
    ∀ (sz sz' : Nat) (xs : List AV) (v : Value), (sz' = sz ∨ xs = []) → Rep μ F w (.sl sz xs .full) v → Rep (μ.put M.next (.spare none 0)) F w (.sl sz' xs (.tok M.next 0)) v := by
  obtain ⟨hev, hG⟩ := gam_room hg (w' := w) (p := none) rfl rfl rfl (Nat.le_refl _) (id := M.next) (g := 0) (.inl ⟨rfl, fun _ _ => rfl⟩) (by intro b e h; cases h)
  refine ⟨hev, hG _ (by simp [Mem.push]) (fun i => Mem.get_push M _ i), ?_⟩
  intro sz sz' xs v hsx hr
  have hr' := hr.evo hev
  obtain ⟨A', cap', b, o, vals, hv, hsz, hcap, hA, hat, htag⟩ := hr'.sl_flat
  subst hv
  refine rep_sl (b := b) (o := o) (vals := vals) ?_ hcap hA hat (.inr ⟨none, 0, by simp [Mu.put], Nat.le_refl _, fun _ => htag⟩)
  rcases hsx with rfl | rfl
  · exact hsz
  · simp

/-- A slice that is full gets a token: one that the frame holds. -/
theorem Joint.tok {n0 : Nat} {t : List (Nat × AV)} {ds : List ADef} {M : Mem} (i : Nat) {sz : Nat} {xs : List AV} (h : AF.get ⟨t, ds⟩ i = .sl sz xs .full) {sz' : Nat} (hs : sz' = sz ∨ xs = []) :
    Joint n0 ⟨t, ds⟩ M ⟨(i, .sl sz' xs (.tok M.next 0)) :: t, ds⟩ (M.push (.spare 0)) := by
  intro μ0 μ F w0 w n a hn he hg hr
  obtain ⟨hev, hG, hrep⟩ := rep_tok hg
  refine ⟨_, he.trans hev, hG, hr.size, ?_, hr.defs.evo hev, fun p hp => (hr.kept p hp).evo hev⟩
  intro j
  by_cases e : j = i
  · subst e
    have h1 := hr.tmps j
    rw [h] at h1
    have : AF.get ⟨(j, .sl sz' xs (.tok M.next 0)) :: t, ds⟩ j = .sl sz' xs (.tok M.next 0) := by simp [AF.get, lookup]
    rw [this]
    exact hrep sz sz' xs _ hs h1
  · have : AF.get ⟨(i, .sl sz' xs (.tok M.next 0)) :: t, ds⟩ j = AF.get ⟨t, ds⟩ j := by simp [AF.get, lookup, e]
    rw [this]
    exact (hr.tmps j).evo hev

/-- One that an object holds. -/
theorem Joint.tokM {n0 : Nat} {f : AF} {M : Mem} (id i : Nat) {l : List AV} (hM : M.get id = some (.cells l)) {sz : Nat} {xs : List AV} (h : l[i]? = some (.sl sz xs .full)) {sz' : Nat} (hs : sz' = sz ∨ xs = []) :
    Joint n0 f M f ((M.push (.spare 0)).set id (.cells (l.set i (.sl sz' xs (.tok M.next 0))))) := by
  intro μ0 μ F w0 w n a hn he hg hr
  obtain ⟨hev, hG, hrep⟩ := rep_tok hg
  refine ⟨_, he.trans hev, ?_, hr.evo hev⟩
  have hne : id ≠ M.next := by
    rintro rfl
    obtain ⟨b, c, ty, h1, _⟩ := hg.obj _ _ hM
    have := gam_next hg
    rw [this] at h1
    cases h1
  refine ⟨?_, ?_, ?_, hG.inj, hG.frm, hG.fit⟩
  · intro j
    exact hG.dom j
  · intro j m hm
    rw [Mem.get_set] at hm
    split at hm
    · rename_i e
      cases hm
      subst e
      obtain ⟨b, c, ty, h1, h2, h3, h4, h5⟩ := hg.obj j l hM
      refine ⟨b, c, ty, by simp [Mu.put, hne, h1], h2, by rw [List.length_set]; exact h3, h4, ?_⟩
      intro q x v hx hv
      rw [List.getElem?_set] at hx
      split at hx
      · rename_i e
        subst e
        split at hx
        · cases hx
          exact hrep sz sz' xs v hs (h5 i _ v h hv)
        · cases hx
      · exact (h5 q x v hx hv).evo hev
    · exact hG.obj j m hm
  · intro j g hm
    rw [Mem.get_set] at hm
    split at hm
    · cases hm
    · exact hG.spare j g hm

/-! ### At a call's end -/
/-- A contract whose end is another one, by steps that only the proof takes. -/
theorem ACalls.joint {P : Program} {g : FuncId} {args : List AV} {M : Mem} {R R' : AEnd → Mem → Prop} (h : ACalls P g args M R)
    (hr : ∀ x M', R (.ret x) M' → ∃ y N, R' (.ret y) N ∧ Joint M.next ⟨[(0, x)], []⟩ M' ⟨[(0, y)], []⟩ N)
    (hp : ∀ x M', R (.pan x) M' → ∃ y N, R' (.pan y) N ∧ Joint M.next ⟨[(0, x)], []⟩ M' ⟨[(0, y)], []⟩ N) : ACalls P g args M R' := by
  refine ⟨h.1, fun μ F w vs hg hv => (h.2 μ F w vs hg hv).mono ?_⟩
  rintro e w' ⟨μ', M', h1, h2, h3⟩
  have hdom : ∀ id, μ id ≠ none → id < M.next := fun id h => (hg.dom id).1 h
  have one : ∀ (x : AV) (v : Value), Rep μ' F w' x v → RepF μ' F w' 1 ⟨[(0, x)], []⟩ { tmps := #[v], defers := [] } := by
    intro x v hx
    refine ⟨rfl, ?_, trivial, fun p hp => by cases hp⟩
    intro t
    cases t with
    | zero => simpa [AF.get, lookup] using hx
    | succ t => exact .top _
  cases e with
  | returned v =>
    obtain ⟨x, h4, h5⟩ := h3
    obtain ⟨y, N, k1, k2⟩ := hr x M' h5
    obtain ⟨μ2, j1, j2, j3⟩ := k2 μ μ' F w w' 1 _ hdom h1 h2 (one x v h4)
    have := j3.tmps 0
    exact ⟨μ2, N, j1, j2, y, by simpa [AF.get, lookup] using this, k1⟩
  | panicked ch =>
    obtain ⟨x, v, h4, h5, h6⟩ := h3
    obtain ⟨y, N, k1, k2⟩ := hp x M' h6
    obtain ⟨μ2, j1, j2, j3⟩ := k2 μ μ' F w w' 1 _ hdom h1 h2 (one x v h5)
    have := j3.tmps 0
    exact ⟨μ2, N, j1, j2, y, v, h4, by simpa [AF.get, lookup] using this, k1⟩
  | outgrown => exact h3.elim

/-- Arguments of which less is known. -/
theorem ACalls.sub {P : Program} {g : FuncId} {args args' : List AV} {M : Mem} {R : AEnd → Mem → Prop} (h : ACalls P g args' M R) (hl : args.length = args'.length) (hs : ∀ (i : Nat) (x y : AV), args[i]? = some x → args'[i]? = some y → Sub x y) : ACalls P g args M R := by
  refine ⟨h.1, fun μ F w vs hg hv => h.2 μ F w vs hg ⟨by rw [hv.1, hl], fun i y v hy hv' => ?_⟩⟩
  have hi : i < args.length := by rw [hl]; exact (List.getElem?_eq_some_iff.1 hy).1
  exact hs i _ y (List.getElem?_eq_getElem hi) hy _ _ _ _ (hv.2 i _ v (List.getElem?_eq_getElem hi) hv')

end Go.Ab

/- Calls that hand back what they made: the objects are forgotten at the end. -/
set_option linter.unusedVariables false
set_option linter.unusedSimpArgs false
namespace Go.Ab
open Go.RowKit

theorem closed1 {x : AV} (hx : Closed x) : ∀ z, z ∈ [x] → Closed z := by
  intro z hz
  simp only [List.mem_cons, List.not_mem_nil, or_false] at hz
  subst hz
  exact hx
theorem closed2 {x y : AV} (hx : Closed x) (hy : Closed y) : ∀ z, z ∈ [x, y] → Closed z := by
  intro z hz
  simp only [List.mem_cons, List.not_mem_nil, or_false] at hz
  rcases hz with rfl | rfl
  · exact hx
  · exact hy
theorem closed3 {x y u : AV} (hx : Closed x) (hy : Closed y) (hu : Closed u) : ∀ z, z ∈ [x, y, u] → Closed z := by
  intro z hz
  simp only [List.mem_cons, List.not_mem_nil, or_false] at hz
  rcases hz with rfl | rfl | rfl
  · exact hx
  · exact hy
  · exact hu

theorem SubC.tup2 {k : Nat} {a b c d : AV} (h1 : SubC k a c) (h2 : SubC k b d) : SubC k (.tup [a, b]) (.tup [c, d]) := by
  intro μ F w v hr
  obtain ⟨r, rfl, hs, hv⟩ := hr.tup_inv
  refine .tup _ _ hs ?_
  intro i x u hx hu
  match i with
  | 0 => simp at hx; subst hx; exact h1 μ F w u (hv 0 a u rfl hu)
  | 1 => simp at hx; subst hx; exact h2 μ F w u (hv 1 b u rfl hu)
  | i + 2 => simp at hx
theorem SubC.tup3 {k : Nat} {a b c a' b' c' : AV} (h1 : SubC k a a') (h2 : SubC k b b') (h3 : SubC k c c') : SubC k (.tup [a, b, c]) (.tup [a', b', c']) := by
  intro μ F w v hr
  obtain ⟨r, rfl, hs, hv⟩ := hr.tup_inv
  refine .tup _ _ hs ?_
  intro i x u hx hu
  match i with
  | 0 => simp at hx; subst hx; exact h1 μ F w u (hv 0 a u rfl hu)
  | 1 => simp at hx; subst hx; exact h2 μ F w u (hv 1 b u rfl hu)
  | 2 => simp at hx; subst hx; exact h3 μ F w u (hv 2 c u rfl hu)
  | i + 3 => simp at hx
theorem Sub.tup2 {a b c d : AV} (h1 : Sub a c) (h2 : Sub b d) : Sub (.tup [a, b]) (.tup [c, d]) := by
  intro μ F w v hr
  obtain ⟨r, rfl, hs, hv⟩ := hr.tup_inv
  refine .tup _ _ hs ?_
  intro i x u hx hu
  match i with
  | 0 => simp at hx; subst hx; exact h1 μ F w u (hv 0 a u rfl hu)
  | 1 => simp at hx; subst hx; exact h2 μ F w u (hv 1 b u rfl hu)
  | i + 2 => simp at hx

theorem closed_slmap {α : Type} {f : α → AV} {sz : Nat} {l : List α} (h : ∀ a, Closed (f a)) (hc : ∀ a, ∀ c, c ∈ (f a).cells → Closed c) : Closed (.sl sz (l.map f) .none) := by
  refine closed_sl (.inl rfl) ?_ ?_
  · intro x hx
    obtain ⟨a, _, rfl⟩ := List.mem_map.1 hx
    exact h a
  · intro x hx
    obtain ⟨a, _, rfl⟩ := List.mem_map.1 hx
    exact hc a
theorem closed_strs {l : List (List UInt8)} : Closed (.sl 1 (l.map .str) .none) :=
  closed_slmap (fun _ => closed_str) (fun a c hc => by simp [AV.cells] at hc; subst hc; exact closed_str)
theorem closed_bytes {l : List UInt8} {f : UInt8 → AV} (hf : ∀ b, ∃ n, f b = .int .u8 n) : Closed (.sl 1 (l.map f) .none) :=
  closed_slmap (fun b => by obtain ⟨n, h⟩ := hf b; rw [h]; exact closed_int) (fun b c hc => by
    obtain ⟨n, h⟩ := hf b
    rw [h] at hc
    simp [AV.cells] at hc
    subst hc
    exact closed_int)

/-- A slice's tag is forgotten, and the objects too. -/
theorem SubC.untag {k sz : Nat} {xs : List AV} {t : Tag} (h : Closed (.sl sz xs .none)) : SubC k (.sl sz xs t) (.sl sz xs .none) := SubC.pre Sub.untag (SubC.of_closed h)

theorem SubC.nil {k sz sz' : Nat} {t : Tag} : SubC k (.sl sz [] t) (.sl sz' [] .none) :=
  SubC.pre (y := .sl sz' [] .none) (fun μ F w v h => Sub.empty (.inl rfl) μ F w v (rep_untag h)) (SubC.of_closed (closed_sl (.inl rfl) (by simp) (by simp)))

/-- A call that hands back a value of its own making. -/
theorem pure_sub {P : Program} {g : FuncId} {args : List AV} {y : AV} (ha : ∀ x, x ∈ args → Closed x) (hy : Closed y) (h : ACalls P g args ⟨0, []⟩ (fun e _ => ∃ x, e = .ret x ∧ SubC 0 x y)) : APure P g args y := by
  refine apure_of ha hy ?_
  refine ACalls.mono (h.joint (R' := fun e _ => e = .ret y) ?_ ?_) (fun e M he => he)
  · rintro x M' ⟨z, e, hs⟩
    cases e
    exact ⟨_, ⟨0, []⟩, rfl, Joint.cut (Nat.le_refl _) (Nat.zero_le _) rfl ⟨hs, trivial⟩ trivial⟩
  · rintro x M' ⟨z, e, _⟩
    cases e

def tokM (g : Nat) : Mem := ⟨1, [(0, .spare g)]⟩
theorem tokM_of {g : Nat} {M : Mem} (hn : 1 = M.next) (h1 : M.get 0 = some (.spare g)) : (tokM g).le M := Mem.le_cons h1 (Mem.le_nil hn)
end Go.Ab

/- strings.IndexRune and strings.IndexAny at the two bytes "/" and 0, of any text. No further condition. -/
set_option linter.unusedVariables false
set_option linter.unusedSimpArgs false
namespace Go.Ab
open Go.Shelf Go.RowKit Go.Lib Go.Proofs
variable {P : Program} {ρ : Ren}

theorem encode_two (r : Int) (h0 : 128 ≤ r) (h1 : r ≤ 2047) : Utf8.encode r = ⟨#[UInt8.ofNat (0xC0 + r.toNat / 64), UInt8.ofNat (0x80 + r.toNat % 64)]⟩ := by
  unfold Utf8.encode
  have hv : Utf8.valid r = true := by simp [Utf8.valid]; omega
  simp only [hv, if_true]
  rw [if_neg (by omega), if_pos (by omega)]

theorem encode_long (r : Int) (h0 : 2048 ≤ r) (hv : Utf8.valid r = true) : ∃ s : ByteArray, Utf8.encode r = s ∧ 3 ≤ s.size ∧ s.size ≤ 4 := by
  refine ⟨_, rfl, ?_⟩
  unfold Utf8.encode
  simp only [hv, if_true]
  rw [if_neg (by omega), if_neg (by omega)]
  split
  · exact ⟨Nat.le_refl 3, by show 3 ≤ 4; omega⟩
  · exact ⟨by show 3 ≤ 4; omega, Nat.le_refl 4⟩

theorem conv_rune {src dst : TypeId} (hs : P.underlying src = some (.int .i32)) (hd : P.underlying dst = some .string) (r : Int) (w : World) :
    (convert src dst (.int .i32 r)).run P w = .ok (.string (Utf8.encode r)) w := by
  simp [convert, run_underlying hs, run_underlying hd, Conv.intToString]

theorem below_dn (w : World) (n : Nat) : Below w.heap.size w (w.drewN n) := ⟨rfl, rfl, rfl, Nat.le_refl _, fun _ _ => rfl⟩

set_option maxHeartbeats 4000000 in
set_option maxRecDepth 1000000 in
theorem indexRune_two (L : Lays.n152 P ρ) (r : Int) (w : World) (h0 : 128 ≤ r) (h1 : r ≤ 2047) :
    Calls P (ρ.f 152) #[.string ⟨#[47, 0]⟩, .int .i32 r] w fun e w' => e = .returned (.int .i64 (-1)) ∧ Below w.heap.size w w' := by
  have mixed := L.mixed
  have t3 := L.t3; have a3 := L.a3; have z3 := L.z3; have v3 := L.v3
  have t4 := L.t4; have a4 := L.a4; have z4 := L.z4; have v4 := L.v4
  have t5 := L.t5; have a5 := L.a5; have z5 := L.z5; have v5 := L.v5
  have t9 := L.t9; have a9 := L.a9; have z9 := L.z9; have v9 := L.v9
  have t21 := L.t21; have a21 := L.a21; have z21 := L.z21; have v21 := L.v21
  have e119 : ∀ args w, (callFunc (ρ.f 119) args).run P w = .ok (.enter (ρ.f 119) args) w := enters_of L.f119 (by kernel_rfl) rfl
  have e137 : ∀ args w, (callFunc (ρ.f 137) args).run P w = .ok (.enter (ρ.f 137) args) w := enters_of L.f137 (by kernel_rfl) rfl
  have g1 : decide (r < 128) = false := by simp; omega
  have g2 : (r == 65533) = false := by simp; omega
  have g3 : Lib.validRune r = true := by simp [Lib.validRune]; omega
  have hc := fun w => conv_rune (P := P) t21 t9 r w
  obtain ⟨b, hb, hbn⟩ : ∃ b : UInt8, UInt8.ofNat (0x80 + r.toNat % 64) = b ∧ b ≠ 0 := by
    refine ⟨_, rfl, fun h => ?_⟩
    have := congrArg UInt8.toNat h
    simp at this
    omega
  obtain ⟨a, ha⟩ : ∃ a : UInt8, UInt8.ofNat (0xC0 + r.toNat / 64) = a := ⟨_, rfl⟩
  rw [encode_two r h0 h1, hb, ha] at hc
  clear hb ha
  have hne : ((((⟨#[47, 0]⟩ : ByteArray)[1]'(by decide)).toNat : Int) != (((⟨#[a, b]⟩ : ByteArray)[1]'(by show 1 < 2; decide)).toNat : Int)) = true := by
    simp only [bne_iff_ne, ne_eq]
    intro h
    apply hbn
    apply UInt8.toNat_inj.1
    have h' : ((0 : UInt8).toNat : Int) = (b.toNat : Int) := h
    omega
  go_enter L.f152, Body.n152_ntmps ρ
  go_wp2_with (first | (go_at_fn (ρ.f 119); refine (Any.utf8_ValidRune { L with } _ _).mono ?_; rintro e w' ⟨rfl, hw⟩; rw [hw, g3]; clear hw))
  go_step3
  go_wp2
  apply wp_loop_once
  go_wp2
  go_step3
  go_wp2
  go_region_o
  all_goals go_wp2
  all_goals go_region_with_o (go_at_fn (ρ.f 137); refine (Any.strings_IndexByte { L with } _ _ _).mono ?_; rintro e w' ⟨rfl, hw⟩; rw [hw])
  all_goals go_wp2
  all_goals (change bodyPost P (Body.n152 ρ) (fun e w' => e = .returned (.int .i64 (-1)) ∧ Below w.heap.size w w') Exit.ret _ _; go_ret)
  all_goals exact ⟨rfl, below_dn w 2⟩

set_option maxHeartbeats 4000000 in
set_option maxRecDepth 1000000 in
theorem indexRune_long (L : Lays.n152 P ρ) (r : Int) (w : World) (h0 : 2048 ≤ r) (hv : Utf8.valid r = true) (hne : r ≠ 65533) :
    Calls P (ρ.f 152) #[.string ⟨#[47, 0]⟩, .int .i32 r] w fun e w' => e = .returned (.int .i64 (-1)) ∧ Below w.heap.size w w' := by
  have mixed := L.mixed
  have t3 := L.t3; have a3 := L.a3; have z3 := L.z3; have v3 := L.v3
  have t4 := L.t4; have a4 := L.a4; have z4 := L.z4; have v4 := L.v4
  have t5 := L.t5; have a5 := L.a5; have z5 := L.z5; have v5 := L.v5
  have t9 := L.t9; have a9 := L.a9; have z9 := L.z9; have v9 := L.v9
  have t21 := L.t21; have a21 := L.a21; have z21 := L.z21; have v21 := L.v21
  have e119 : ∀ args w, (callFunc (ρ.f 119) args).run P w = .ok (.enter (ρ.f 119) args) w := enters_of L.f119 (by kernel_rfl) rfl
  have g1 : decide (r < 128) = false := by simp; omega
  have g2 : (r == 65533) = false := by simpa using hne
  have g3 : Lib.validRune r = true := by
    simp [Utf8.valid] at hv
    simp [Lib.validRune]
    omega
  have hc := fun w => conv_rune (P := P) t21 t9 r w
  obtain ⟨s, hs, hl, hl4⟩ := encode_long r h0 hv
  rw [hs] at hc
  have g5 : wrap64 ((s.size : Int) - 1) = (s.size : Int) - 1 := by
    rcases (by omega : s.size = 3 ∨ s.size = 4) with h | h <;> rw [h] <;> simp [wrap64]
  have g4 : decide ((s.size : Int) - 1 < 2) = false := by simp; omega
  go_enter L.f152, Body.n152_ntmps ρ
  go_wp2_with (first | (go_at_fn (ρ.f 119); refine (Any.utf8_ValidRune { L with } _ _).mono ?_; rintro e w' ⟨rfl, hw⟩; rw [hw, g3]; clear hw))
  go_step3
  go_wp2
  apply wp_loop_once
  go_wp2
  (change bodyPost P (Body.n152 ρ) (fun e w' => e = .returned (.int .i64 (-1)) ∧ Below w.heap.size w w') Exit.ret _ _; go_ret)
  exact ⟨rfl, Below.refl _ _⟩

set_option maxHeartbeats 4000000 in
set_option maxRecDepth 1000000 in
theorem indexRune_bad (L : Lays.n152 P ρ) (r : Int) (w : World) (h0 : 2048 ≤ r) (hv : Lib.validRune r = false) :
    Calls P (ρ.f 152) #[.string ⟨#[47, 0]⟩, .int .i32 r] w fun e w' => e = .returned (.int .i64 (-1)) ∧ Below w.heap.size w w' := by
  have mixed := L.mixed
  have t3 := L.t3; have a3 := L.a3; have z3 := L.z3; have v3 := L.v3
  have t4 := L.t4; have a4 := L.a4; have z4 := L.z4; have v4 := L.v4
  have t9 := L.t9; have a9 := L.a9; have z9 := L.z9; have v9 := L.v9
  have t21 := L.t21; have a21 := L.a21; have z21 := L.z21; have v21 := L.v21
  have e119 : ∀ args w, (callFunc (ρ.f 119) args).run P w = .ok (.enter (ρ.f 119) args) w := enters_of L.f119 (by kernel_rfl) rfl
  have g1 : decide (r < 128) = false := by simp; omega
  have g2 : (r == 65533) = false := by
    simp
    rintro rfl
    cases hv
  go_enter L.f152, Body.n152_ntmps ρ
  go_wp2_with (first | (go_at_fn (ρ.f 119); refine (Any.utf8_ValidRune { L with } _ _).mono ?_; rintro e w' ⟨rfl, hw⟩; rw [hw, hv]; clear hw))
  all_goals go_ret
  all_goals exact ⟨rfl, Below.refl _ _⟩

theorem iter_below (w : World) (s : ByteArray) (p : Nat) : Below w.heap.size w (w.iter s p) := (Below.refl _ _).alloc (Nat.le_refl _) _

set_option maxHeartbeats 4000000 in
set_option maxRecDepth 1000000 in
theorem indexRune_err (L : Lays.n152 P ρ) (w : World) :
    Calls P (ρ.f 152) #[.string ⟨#[47, 0]⟩, .int .i32 65533] w fun e w' => e = .returned (.int .i64 (-1)) ∧ Below w.heap.size w w' := by
  have mixed := L.mixed
  have t3 := L.t3; have a3 := L.a3; have z3 := L.z3; have v3 := L.v3
  have t4 := L.t4; have a4 := L.a4; have z4 := L.z4; have v4 := L.v4
  have t9 := L.t9; have a9 := L.a9; have z9 := L.z9; have v9 := L.v9
  have t21 := L.t21; have a21 := L.a21; have z21 := L.z21; have v21 := L.v21
  go_enter L.f152, Body.n152_ntmps ρ
  go_wp2
  go_loopg [5, 6] 2 (fun g _ _ wx => ∃ i : Nat, i + g = 2 ∧ wx = w.iter ⟨#[47, 0]⟩ i)
  case atStart => exact ⟨0, rfl, rfl⟩
  case round =>
    obtain ⟨i, hig, rfl⟩ := hrel
    cases gk with
    | zero =>
      obtain rfl : i = 2 := by omega
      have hnx := run_next_end (P := P) w ⟨#[47, 0]⟩ 2
      go_wp2
      go_ret
      exact ⟨rfl, iter_below _ _ _⟩
    | succ g =>
      have hi : i < (⟨#[47, 0]⟩ : ByteArray).size := by show i < 2; omega
      have hx : (((⟨#[47, 0]⟩ : ByteArray)[i]'hi).toNat : Nat) < 128 := by
        rcases (by omega : i = 0 ∨ i = 1) with rfl | rfl
        · show (47 : UInt8).toNat < 128
          decide
        · show (0 : UInt8).toNat < 128
          decide
      have hnx := fun ty => run_next_ascii (P := P) w ⟨#[47, 0]⟩ i ty hi hx
      obtain ⟨x, hxe⟩ : ∃ x : Nat, ((⟨#[47, 0]⟩ : ByteArray)[i]'hi).toNat = x := ⟨_, rfl⟩
      rw [hxe] at hnx hx
      have g2 : ((x : Int) == 65533) = false := by simp; omega
      go_wp2
      go_roundg g
      case measure => omega
      case rel => exact ⟨i + 1, by omega, rfl⟩

theorem indexRune_high (L : Lays.n152 P ρ) (r : Int) (w : World) (h0 : 128 ≤ r) :
    Calls P (ρ.f 152) #[.string ⟨#[47, 0]⟩, .int .i32 r] w fun e w' => e = .returned (.int .i64 (-1)) ∧ Below w.heap.size w w' := by
  by_cases h1 : r ≤ 2047
  · exact indexRune_two L r w h0 h1
  by_cases h2 : r = 65533
  · subst h2
    exact indexRune_err L w
  cases hv : Lib.validRune r with
  | false => exact indexRune_bad L r w (by omega) hv
  | true =>
    refine indexRune_long L r w (by omega) ?_ h2
    simp [Lib.validRune] at hv
    simp [Utf8.valid]
    omega

theorem get_data (s : ByteArray) (i : Nat) (h : i < s.size) {b : UInt8} (hb : s.data.toList[i]? = some b) : s.get! i = b := by
  have h1 := get_at s i h
  have h2 := Lib.data_getElem? s i h
  rw [hb] at h2
  cases h2
  simpa using h1

/-- A step over a character that is no ASCII: all its bytes are high ones. -/
theorem decode_skip (s : ByteArray) (pos : Nat) (h : pos < s.size) (ha : 128 ≤ (s[pos]'h).toNat) :
    pos + (Utf8.decode s pos).2 ≤ s.size ∧ ∀ (j : Nat) (b : UInt8), pos ≤ j → j < pos + (Utf8.decode s pos).2 → s.data.toList[j]? = some b → 128 ≤ b.toNat := by
  have h0 : (s.get! (pos + 0)).toNat = (s[pos]'h).toNat := congrArg UInt8.toNat (get_at s pos h)
  have hn : ¬ (s[pos]'h).toNat < 128 := by omega
  have base : ∀ b : UInt8, s.data.toList[pos]? = some b → 128 ≤ b.toNat := by
    intro b hb
    have := get_data s pos h hb
    rw [← this]
    show 128 ≤ (s.get! (pos + 0)).toNat
    omega
  have one : pos + 1 ≤ s.size ∧ ∀ (j : Nat) (b : UInt8), pos ≤ j → j < pos + 1 → s.data.toList[j]? = some b → 128 ≤ b.toNat := by
    refine ⟨h, fun j b h1 h2 hb => ?_⟩
    obtain rfl : j = pos := by omega
    exact base b hb
  have cont : ∀ k, (decide (pos + k < s.size) && (s.get! (pos + k)).toNat / 64 == 2) = true → pos + k < s.size ∧ ∀ b : UInt8, s.data.toList[pos + k]? = some b → 128 ≤ b.toNat := by
    intro k hk
    simp only [Bool.and_eq_true, decide_eq_true_eq, beq_iff_eq] at hk
    refine ⟨hk.1, fun b hb => ?_⟩
    have := get_data s (pos + k) hk.1 hb
    rw [this] at hk
    omega
  unfold Utf8.decode
  simp only [h0, hn, if_false]
  split
  · rename_i h1
    simp only [Bool.and_eq_true] at h1
    obtain ⟨c1, d1⟩ := cont 1 (by simpa using h1.2)
    split
    · refine ⟨by show pos + 2 ≤ _; omega, fun j b g1 g2 hb => ?_⟩
      have g2' : j < pos + 2 := g2
      rcases (by omega : j = pos ∨ j = pos + 1) with rfl | rfl
      · exact base b hb
      · exact d1 b hb
    · exact one
  · split
    · rename_i h1
      simp only [Bool.and_eq_true] at h1
      obtain ⟨c1, d1⟩ := cont 1 (by simpa using h1.1.2)
      obtain ⟨c2, d2⟩ := cont 2 (by simpa using h1.2)
      split
      · refine ⟨by show pos + 3 ≤ _; omega, fun j b g1 g2 hb => ?_⟩
        have g2' : j < pos + 3 := g2
        rcases (by omega : j = pos ∨ j = pos + 1 ∨ j = pos + 2) with rfl | rfl | rfl
        · exact base b hb
        · exact d1 b hb
        · exact d2 b hb
      · exact one
    · split
      · rename_i h1
        simp only [Bool.and_eq_true] at h1
        obtain ⟨c1, d1⟩ := cont 1 (by simpa using h1.1.1.2)
        obtain ⟨c2, d2⟩ := cont 2 (by simpa using h1.1.2)
        obtain ⟨c3, d3⟩ := cont 3 (by simpa using h1.2)
        split
        · refine ⟨by show pos + 4 ≤ _; omega, fun j b g1 g2 hb => ?_⟩
          have g2' : j < pos + 4 := g2
          rcases (by omega : j = pos ∨ j = pos + 1 ∨ j = pos + 2 ∨ j = pos + 3) with rfl | rfl | rfl | rfl
          · exact base b hb
          · exact d1 b hb
          · exact d2 b hb
          · exact d3 b hb
        · exact one
      · exact one

theorem noany_skip {s : ByteArray} {i k : Nat} (h : NoAny s.data.toList [47, 0] i) (hk : ∀ (j : Nat) (b : UInt8), i ≤ j → j < i + k → s.data.toList[j]? = some b → 128 ≤ b.toNat) : NoAny s.data.toList [47, 0] (i + k) := by
  intro j b hj hb
  by_cases hji : j < i
  · exact h j b hji hb
  · have := hk j b (by omega) hj hb
    simp only [List.contains_eq_mem, List.mem_cons, List.not_mem_nil, or_false, decide_eq_false_iff_not, not_or]
    constructor
    · rintro rfl
      simp at this
    · rintro rfl
      simp at this

set_option maxHeartbeats 8000000 in
set_option maxRecDepth 1000000 in
theorem indexAny_short (L : Lays.n153 P ρ) (s : ByteArray) (w : World) (h8 : s.size ≤ 8) :
    Calls P (ρ.f 153) #[.string s, .string ⟨#[47, 0]⟩] w fun e w' => e = .returned (.int .i64 (Lib.indexAny s.data.toList [47, 0])) ∧ Below w.heap.size w w' := by
  have h8z : decide ((8 : Int) < (s.size : Int)) = false := decide_eq_false (by omega)
  have mixed := L.mixed
  have t3 := L.t3; have a3 := L.a3; have z3 := L.z3; have v3 := L.v3
  have t4 := L.t4; have a4 := L.a4; have z4 := L.z4; have v4 := L.v4
  have t5 := L.t5; have a5 := L.a5; have z5 := L.z5; have v5 := L.v5
  have t9 := L.t9; have a9 := L.a9; have z9 := L.z9; have v9 := L.v9
  have t21 := L.t21; have a21 := L.a21; have z21 := L.z21; have v21 := L.v21
  have e152 : ∀ args w, (callFunc (ρ.f 152) args).run P w = .ok (.enter (ρ.f 152) args) w := enters_of L.f152 (by kernel_rfl) rfl
  have e226 : ∀ args w, (callFunc (ρ.f 226) args).run P w = .ok (.enter (ρ.f 226) args) w := enters_of L.f226 (by kernel_rfl) rfl
  go_enter L.f153, Body.n153_ntmps ρ
  go_wp2_with (go_at_fn (ρ.f 226); refine (Any.strings_shouldUseASCIISet { L with } _ _).mono ?_; rintro e w' ⟨rfl, hw⟩; rw [hw, h8z])
  go_loopg [9, 10] s.size (fun g _ _ wx => ∃ i : Nat, i + g = s.size ∧ wx.heap[w.heap.size]? = some (.stringIter s i) ∧ Below w.heap.size w wx ∧ Lib.NoAny s.data.toList [47, 0] i)
  case atStart => exact ⟨0, by omega, World.iter_heap _ _ _, iter_below _ _ _, Lib.NoAny.zero _ _⟩
  case round =>
    obtain ⟨i, hig, hk, hbw, hno⟩ := hrel
    have HN : Aside (Lib.NoAny s.data.toList [47, 0] i) := hno
    have HB : Aside (Below w.heap.size w wr) := hbw
    clear hno hbw
    cases gk with
    | zero =>
      obtain rfl : i = s.size := by omega
      have hnx := fun ty => run_next_end_at (P := P) wr w.heap.size s s.size ty hk (by omega)
      go_wp2
      go_ret
      exact ⟨by rw [Lib.indexAny_none (by rw [← Lib.size_eq]; exact HN.out)]; rfl, HB.out⟩
    | succ g =>
      have hi : i < s.size := by omega
      obtain ⟨x, hx⟩ : ∃ x : UInt8, s[i]'hi = x := ⟨_, rfl⟩
      have hxl : s.data.toList[i]? = some x := by rw [← hx]; exact Lib.data_getElem? s i hi
      by_cases hlow : x.toNat < 128
      · have hnx := fun ty => run_next_ascii_at (P := P) wr w.heap.size s i ty hk hi (by rw [hx]; exact hlow)
        rw [hx] at hnx
        have HK : Aside ((wr.iterAt w.heap.size s (i + 1)).heap[w.heap.size]? = some (.stringIter s (i + 1))) := iterAt_heap wr _ s i (i + 1) hk
        have HB' : Aside (Below w.heap.size w (wr.iterAt w.heap.size s (i + 1))) := below_iterAt HB.out (Nat.le_refl _) _ _
        have Hx : Aside (s.data.toList[i]? = some x) := hxl
        clear hxl hx
        have hcon := Lib.contains_iff_indexByte [47, 0] x
        have hback : ((x.toNat : Int)).toNat.toUInt8 = x := by simp
        cases hin : ([47, 0] : List UInt8).contains x
        · rw [hin] at hcon
          have hlt : ¬ ((0 : Int) ≤ Lib.indexByte [47, 0] x) := of_decide_eq_false hcon.symm
          clear hcon
          go_wp2_with (go_at_fn (ρ.f 152); refine (Any.strings_IndexRune_ascii { L with } _ _ _ (by omega) (by omega)).mono ?_; rintro e w' ⟨rfl, hw⟩; rw [hw, hback])
          go_roundg g
          case measure => omega
          case rel => exact ⟨i + 1, by omega, HK.out, HB'.out, HN.out.succ Hx.out hin⟩
        · rw [hin] at hcon
          have hge : (0 : Int) ≤ Lib.indexByte [47, 0] x := of_decide_eq_true hcon.symm
          clear hcon
          go_wp2_with (go_at_fn (ρ.f 152); refine (Any.strings_IndexRune_ascii { L with } _ _ _ (by omega) (by omega)).mono ?_; rintro e w' ⟨rfl, hw⟩; rw [hw, hback])
          go_ret
          exact ⟨by rw [Lib.indexAny_hit HN.out Hx.out hin]; rfl, HB'.out⟩
      · have hhi : 128 ≤ (s[i]'hi).toNat := by rw [hx]; omega
        have hdh := decode_high s i hi hhi
        have hsk := decode_skip s i hi hhi
        have hnx := fun ty => run_next_any_at (P := P) wr w.heap.size s i ty hk hi
        obtain ⟨rk, hrk⟩ : ∃ rk, Utf8.decode s i = rk := ⟨_, rfl⟩
        obtain ⟨r, k⟩ := rk
        rw [hrk] at hnx hsk hdh
        simp only at hnx hsk hdh
        have HK : Aside ((wr.iterAt w.heap.size s (i + k)).heap[w.heap.size]? = some (.stringIter s (i + k))) := iterAt_heap wr _ s i (i + k) hk
        have HB' : Aside (Below w.heap.size w (wr.iterAt w.heap.size s (i + k))) := below_iterAt HB.out (Nat.le_refl _) _ _
        have HNk : Aside (Lib.NoAny s.data.toList [47, 0] (i + k)) := noany_skip HN.out hsk.2
        have hle := hsk.1
        have hlt : w.heap.size < (wr.iterAt w.heap.size s (i + k)).heap.size := (Array.getElem?_eq_some_iff.1 HK.out).1
        have HL : Aside (w.heap.size < (wr.iterAt w.heap.size s (i + k)).heap.size) := hlt
        clear hsk hx hxl hrk hlt
        go_wp2_with (go_at_fn (ρ.f 152); refine (indexRune_high { L with } _ _ (by omega)).mono ?_; rintro e w' ⟨rfl, hw⟩)
        go_roundg (s.size - (i + k))
        case measure => omega
        case rel => exact ⟨i + k, by omega, (hw.block _ HL.out).trans HK.out, HB'.out.trans (hw.mono HB'.out.size), HNk.out⟩

/-- strings.ContainsAny, of "/" and the byte 0. -/
theorem containsAny_two (L : Lays.n150 P ρ) (hv116 : ∀ w, (zeroValue (ρ.t 116)).run P w = .ok (.agg (Array.replicate 256 (.bool false))) w) (hi116 : (P.info? (ρ.t 116)).map (·.size) = some 256) (s : ByteArray) (w : World) (hs : s.size < 4294967281) :
    Calls P (ρ.f 150) #[.string s, .string ⟨#[47, 0]⟩] w fun e w' => e = .returned (.bool (decide (0 ≤ Lib.indexAny s.data.toList [47, 0]))) ∧ Below w.heap.size w w' := by
  have hac : ∀ (j : Nat) b, (⟨#[47, 0]⟩ : ByteArray).data.toList[j]? = some b → b.toNat < 128 := by
    intro j b h
    have hm : b ∈ ([47, 0] : List UInt8) := List.mem_of_getElem? h
    simp at hm
    rcases hm with rfl | rfl <;> decide
  have c : Calls P (ρ.f 153) #[.string s, .string ⟨#[47, 0]⟩] w fun e w' => e = .returned (.int .i64 (Lib.indexAny s.data.toList [47, 0])) ∧ Below w.heap.size w w' := by
    by_cases h8 : s.size ≤ 8
    · exact indexAny_short { L with } s w h8
    · refine (Any.strings_IndexAny_long { L with } hv116 hi116 s ⟨#[47, 0]⟩ w (by show 2 ≤ 2; omega) (by omega) hs (by show 2 < 4294967281; omega) hac).mono fun e w' ⟨h1, h2⟩ => ⟨h1, ?_⟩
      rw [h2]
      exact ((Below.refl _ _).alloc (Nat.le_refl _) _).alloc (by simp) _
  have t3 := L.t3; have a3 := L.a3; have z3 := L.z3; have v3 := L.v3
  have t4 := L.t4; have a4 := L.a4; have z4 := L.z4; have v4 := L.v4
  have t9 := L.t9; have a9 := L.a9; have z9 := L.z9; have v9 := L.v9
  have e153 : ∀ args w, (callFunc (ρ.f 153) args).run P w = .ok (.enter (ρ.f 153) args) w := enters_of L.f153 (by kernel_rfl) rfl
  go_enter L.f150, Body.n150_ntmps ρ
  go_wp2_with (go_at_fn (ρ.f 153); refine c.mono ?_; rintro e w' ⟨rfl, hw⟩)
  go_ret
  exact ⟨rfl, hw⟩

theorem indexAny_neg (s : List UInt8) : decide (0 ≤ Lib.indexAny s [47, 0]) = s.any fun b => b == 47 || b == 0 := by
  induction s with
  | nil => rfl
  | cons b l ih =>
    unfold Lib.indexAny
    have hc : ([47, 0] : List UInt8).contains b = (b == 47 || b == 0) := by
      simp only [List.contains_cons, List.contains_nil, Bool.or_false]
    rw [hc, List.any_cons, ← ih]
    cases hb : (b == 47 || b == 0)
    · have hge := Lib.indexAny_ge [47, 0] l
      simp only [Bool.false_eq_true, if_false, Bool.false_or]
      split
      · rename_i h
        have := beq_iff_eq.1 h
        simp [this]
      · rename_i h
        have : ¬ Lib.indexAny l [47, 0] = -1 := fun e => h (beq_iff_eq.2 e)
        apply decide_eq_decide.2
        omega
    · simp
end Go.Ab

/- The kit's contracts of Go's library, told of abstract values: strings.Split, Join, LastIndex, ContainsAny. No further condition. -/
set_option linter.unusedVariables false
set_option linter.unusedSimpArgs false
namespace Go.Ab
open Go.Shelf Go.RowKit Go.Proofs

/-- A function that lays new blocks alone, by the kit's contract. -/
theorem apure_calls {P : Program} {g : FuncId} {args : List AV} {r : AV} (he : Enters P g) (h : ∀ (μ : Mu) (F : Frm) (w : World) (vs : Array Value), Fit μ F w → RepL μ F w args vs →
    Calls P g vs w fun e w' => ∃ v, e = .returned v ∧ Below w.heap.size w w' ∧ Rep μ F w' r v) : APure P g args r := by
  intro M
  refine ⟨he, fun μ F w vs hg hv => (h μ F w vs hg.fit hv).mono ?_⟩
  rintro e w' ⟨v, rfl, hb, hr⟩
  exact ⟨μ, M, Evo.of_below μ hb, hg.below hb, r, hr, rfl, rfl⟩

theorem args_ss {μ : Mu} {F : Frm} {w : World} {a b : List UInt8} {vs : Array Value} (h : RepL μ F w [.str a, .str b] vs) : vs = #[.string ⟨a.toArray⟩, .string ⟨b.toArray⟩] := by
  obtain ⟨hl, hr⟩ := h
  match vs, hl with
  | ⟨[x, y]⟩, _ =>
    have h1 := hr 0 _ x rfl rfl
    have h2 := hr 1 _ y rfl rfl
    cases h1
    cases h2
    rfl

theorem rep_new_strs {μ : Mu} {F : Frm} {w : World} (hf : Fit μ F w) (l : List (List UInt8)) (ty : TypeId) :
    Rep μ F (w.alloc (.cells ((l.map fun s => Value.string ⟨s.toArray⟩).toArray) ty)) (.sl 1 (l.map .str) .none) (.slice (some ⟨w.heap.size, 0, none⟩) l.length l.length) := by
  have hlen : (l.map AV.str).length = l.length := by simp
  rw [← hlen]
  have key : ∀ (i : Nat) (x : AV) (j : Nat) (c : AV), (l.map AV.str)[i]? = some x → x.cells[j]? = some c → ∃ s, l[i]? = some s ∧ j = 0 ∧ c = .str s := by
    intro i x j c hx hc
    simp only [List.getElem?_map, Option.map_eq_some_iff] at hx
    obtain ⟨s, hs, rfl⟩ := hx
    cases j with
    | zero => simp [AV.cells] at hc; exact ⟨s, hs, rfl, hc.symm⟩
    | succ j => simp [AV.cells] at hc
  refine .sl 1 _ .none _ _ ⟨w.heap.size, 0, none⟩ (fun k => Value.string ⟨(l.getD k []).toArray⟩) ?_ (Nat.le_refl _) (fun _ => ⟨rfl, rfl⟩) ?_ ?_ ?_ trivial
  · intro x hx
    obtain ⟨s, _, rfl⟩ := List.mem_map.1 hx
    rfl
  · intro i x j c _ _
    rfl
  · intro i x j c hx hc
    obtain ⟨s, hs, rfl, rfl⟩ := key i x j c hx hc
    refine ⟨?_, hf.new (Nat.le_refl _)⟩
    have hb : (w.alloc (.cells ((l.map fun s => Value.string ⟨s.toArray⟩).toArray) ty)).heap[w.heap.size]? = some (.cells ((l.map fun s => Value.string ⟨s.toArray⟩).toArray) ty (0, 0)) := Array.getElem?_push_size
    rw [cell_mk hb]
    simp [hs]
  · intro i x j c hx hc
    obtain ⟨s, hs, rfl, rfl⟩ := key i x j c hx hc
    simp [hs]
    exact .str s

/-- The parts of a text, by a byte. -/
def splitOn (c : UInt8) : List UInt8 → List (List UInt8)
  | [] => [[]]
  | b :: l => if b = c then [] :: splitOn c l else
    match splitOn c l with
    | [] => [[b]]
    | p :: r => (b :: p) :: r

theorem splitOn_ne (c : UInt8) : ∀ s, splitOn c s ≠ []
  | [] => by simp [splitOn]
  | b :: l => by
    unfold splitOn
    split
    · simp
    · split <;> simp

theorem index_cons (b c : UInt8) (l : List UInt8) (h : b ≠ c) : Lib.index (b :: l) [c] = if Lib.index l [c] == -1 then -1 else Lib.index l [c] + 1 := by
  rw [Lib.index]
  have : ([c] : List UInt8).isPrefixOf (b :: l) = false := by simp [List.isPrefixOf, Ne.symm h]
  rw [this]
  simp

theorem splitK_one (c : UInt8) : ∀ s : List UInt8, Lib.splitK [c] 0 (Lib.count s [c]) s = splitOn c s
  | [] => rfl
  | b :: l => by
    have ih := splitK_one c l
    by_cases h : b = c
    · subst h
      rw [Lib.count_cons_eq, Nat.add_comm]
      have hi : Lib.index (b :: l) [b] = 0 := by rw [Lib.index]; simp [List.isPrefixOf]
      unfold Lib.splitK splitOn
      rw [if_pos rfl, hi]
      simp [ih]
    · rw [Lib.count_cons_ne b c l h]
      unfold splitOn
      rw [if_neg h, ← ih]
      cases hk : Lib.count l [c] with
      | zero => rfl
      | succ k =>
        unfold Lib.splitK
        rw [index_cons b c l h]
        by_cases hm : Lib.index l [c] = -1
        · simp [hm]
        · have hge := Lib.index_ge l [c]
          have h1 : (Lib.index l [c] == -1) = false := by simpa using hm
          have h2 : (Lib.index l [c] + 1 == -1) = false := by simp; omega
          have h3 : (Lib.index l [c] + 1).toNat = (Lib.index l [c]).toNat + 1 := by omega
          simp only [h1, h2, h3, Bool.false_eq_true, if_false]
          simp [Nat.add_right_comm]

theorem split_ok {P : Program} {ρ : Ren} (L : Lays.n146 P ρ) (hi9 : (P.info? (ρ.t 9)).map (fun i => (i.zero, i.size, i.bytes)) = some (some (.string ByteArray.empty), 1, 16)) (he : Enters P (ρ.f 146)) (s : List UInt8) (c : UInt8) (hs : s.length < 4294967281) :
    APure P (ρ.f 146) [.str s, .str [c]] (.sl 1 ((splitOn c s).map .str) .none) := by
  refine apure_calls he fun μ F w vs hf hv => ?_
  rw [args_ss hv]
  have t3 := L.t3; have t9 := L.t9; have t31 := L.t31
  have a3 := L.a3; have a9 := L.a9; have a31 := L.a31
  have z3 := L.z3; have v3 := L.v3; have z9 := L.z9; have v9 := L.v9; have z31 := L.z31; have v31 := L.v31
  have hle := Lib.countB_le ⟨#[c]⟩ (Nat.le_refl 1) (⟨s.toArray⟩ : ByteArray).size ⟨s.toArray⟩ (Nat.le_refl _)
  have hlen := Lib.splitB_all ⟨#[c]⟩ (Nat.le_refl 1) 0 _ ⟨s.toArray⟩ rfl
  have hsz : (⟨s.toArray⟩ : ByteArray).size < 4294967281 := by simpa [ByteArray.size] using hs
  have g := Any.strings_genSplit_core { L with } hi9 ⟨s.toArray⟩ ⟨#[c]⟩ 0 (-1) (Lib.countB ⟨s.toArray⟩ ⟨#[c]⟩ + 1) w hsz (Nat.le_refl 1) (Nat.zero_le _)
    (fun x cc hx => (Any.strings_Index_one { L with } x c _).mono fun e w' ⟨h1, h2⟩ => ⟨by rw [h1, Lib.indexB, Lib.index_one], h2⟩)
    ((Any.strings_Count_one { L with } ⟨s.toArray⟩ c w).mono fun e w' ⟨h1, h2⟩ => ⟨by rw [h1, Lib.countB, Lib.count_one]; rfl, h2⟩) (by decide) (by decide) (by rw [if_pos (by decide)]; omega)
  rw [Nat.add_sub_cancel, hlen] at g
  have e2 : Lib.cellsOf (Lib.splitB ⟨#[c]⟩ 0 (Lib.countB ⟨s.toArray⟩ ⟨#[c]⟩) ⟨s.toArray⟩) (Lib.countB ⟨s.toArray⟩ ⟨#[c]⟩ + 1) = ((splitOn c s).map fun s => Value.string ⟨s.toArray⟩).toArray := by
    rw [← hlen, Lib.cellsOf_full]
    have h1 := Lib.splitB_data ⟨#[c]⟩ 0 (Lib.countB ⟨s.toArray⟩ ⟨#[c]⟩) ⟨s.toArray⟩
    have h2 := splitK_one c s
    have h3 : Lib.splitK [c] 0 (Lib.countB ⟨s.toArray⟩ ⟨#[c]⟩) s = splitOn c s := h2
    rw [show ((⟨#[c]⟩ : ByteArray).data.toList) = [c] from rfl, show ((⟨s.toArray⟩ : ByteArray).data.toList) = s from rfl, h3] at h1
    rw [← h1]
    simp
  have e3 : Lib.countB ⟨s.toArray⟩ ⟨#[c]⟩ + 1 = (splitOn c s).length := by
    rw [← hlen]
    have h1 := congrArg List.length (Lib.splitB_data ⟨#[c]⟩ 0 (Lib.countB ⟨s.toArray⟩ ⟨#[c]⟩) ⟨s.toArray⟩)
    rw [List.length_map] at h1
    rw [h1]
    have h2 := splitK_one c s
    exact congrArg List.length h2
  rw [e2, e3] at g
  have e221 : ∀ args w, (callFunc (ρ.f 221) args).run P w = .ok (.enter (ρ.f 221) args) w := enters_of L.f221 (by kernel_rfl) rfl
  go_enter L.f146, Body.n146_ntmps ρ
  go_wp2_with (go_at_fn (ρ.f 221); refine g.mono ?_; rintro e w' ⟨rfl, hw⟩; rw [hw])
  go_ret
  exact ⟨_, rfl, (Below.refl _ _).alloc (Nat.le_refl _) _, rep_new_strs hf (splitOn c s) (ρ.t 9)⟩

/-- The texts, one behind the other, with a text between. -/
def glueL (sep : List UInt8) : List (List UInt8) → List UInt8
  | [] => []
  | [x] => x
  | x :: r => x ++ sep ++ glueL sep r

theorem join_glue (sep : List UInt8) : ∀ l : List (List UInt8), Lib.join l sep = glueL sep l
  | [] => rfl
  | [x] => by rw [Lib.join_one]; rfl
  | x :: y :: r => by
    have ih := join_glue sep (y :: r)
    rw [Lib.join_cons] at ih ⊢
    rw [glueL, ← ih]
    · simp [Lib.joinTail]
    · simp

theorem join_ok {P : Program} {ρ : Ren} (L : Lays.n156 P ρ) (X : Builder.Extra P ρ) (he : Enters P (ρ.f 156)) (l : List (List UInt8)) (t : Tag) (sep : List UInt8) (hN : l.length ≤ 140737488355328) (hlen : (glueL sep l).length ≤ 140737488355328) :
    APure P (ρ.f 156) [.sl 1 (l.map .str) t, .str sep] (.str (glueL sep l)) := by
  refine apure_calls he fun μ F w vs hf hv => ?_
  obtain ⟨hl, hr⟩ := hv
  match vs, hl with
  | ⟨[x, y]⟩, _ =>
    have h1 := hr 0 _ x rfl rfl
    have h2 := hr 1 _ y rfl rfl
    cases h2
    obtain ⟨A, cap, ad, vals, rfl, g1, g2, g3, g4, g5, g6, g7⟩ := h1.sl_inv
    have hlen' : (l.map AV.str).length = l.length := by simp
    rw [hlen'] at g2 g3 ⊢
    by_cases h0 : l = []
    · subst h0
      refine (Any.strings_Join_none L X A cap ⟨sep.toArray⟩ w).mono ?_
      rintro e w' ⟨rfl, rfl⟩
      exact ⟨_, rfl, Below.refl _ _, .str []⟩
    · have hpos : 0 < l.length := List.length_pos_iff.2 h0
      obtain ⟨rfl, hspot⟩ := g3 hpos
      have hcell : ∀ (j : Nat) (s : List UInt8), l[j]? = some s → w.cell? ⟨ad.block, ad.off + j, none⟩ = some (.string ⟨s.toArray⟩) := by
        intro j s hs
        have k1 := g5 j (.str s) 0 (.str s) (by simp [hs]) rfl
        have k2 := g6 j (.str s) 0 (.str s) (by simp [hs]) rfl
        simp only [Nat.mul_one, Nat.add_zero] at k1 k2
        rw [k1.1]
        generalize vals j = v at k2
        cases k2
        rfl
      have hblk : ad.block < w.heap.size := by
        obtain ⟨s, hs⟩ : ∃ s, l[0]? = some s := ⟨_, List.getElem?_eq_getElem hpos⟩
        exact cell_lt (hcell 0 s hs)
      have hm : (l.map fun s => (⟨s.toArray⟩ : ByteArray)).map (·.data.toList) = l := by simp [Function.comp_def]
      have hj : Lib.join ((l.map fun s => (⟨s.toArray⟩ : ByteArray)).map (·.data.toList)) (⟨sep.toArray⟩ : ByteArray).data.toList = glueL sep l := by rw [hm]; exact join_glue sep l
      have g := Any.strings_Join L X ad.block ad.off cap (l.map fun s => (⟨s.toArray⟩ : ByteArray)) ⟨sep.toArray⟩ w (fun j b hb => by
        simp only [List.getElem?_map, Option.map_eq_some_iff] at hb
        obtain ⟨s, hs, rfl⟩ := hb
        exact hcell j s hs) hblk (by simpa using hN) (by simpa using g2) (by rw [hj]; exact hlen)
      rw [hj] at g
      simp only [List.length_map] at g
      have had : ad = ⟨ad.block, ad.off, none⟩ := by
        cases ad
        simp only at hspot
        subst hspot
        rfl
      rw [had]
      refine g.mono ?_
      rintro e w' ⟨rfl, hb⟩
      exact ⟨_, rfl, hb, .str _⟩

/-- The last place of a byte, or -1. -/
def lastAt (c : UInt8) : List UInt8 → Int
  | [] => -1
  | b :: l => if 0 ≤ lastAt c l then lastAt c l + 1 else if b = c then 0 else -1

theorem lastAt_spec (c : UInt8) : ∀ s : List UInt8, (lastAt c s = -1 ∧ ∀ (j : Nat) b, s[j]? = some b → b ≠ c) ∨
    ∃ i : Nat, lastAt c s = i ∧ s[i]? = some c ∧ ∀ (j : Nat) b, i < j → s[j]? = some b → b ≠ c
  | [] => .inl ⟨rfl, by simp⟩
  | b :: l => by
    unfold lastAt
    rcases lastAt_spec c l with ⟨h1, h2⟩ | ⟨i, h1, h2, h3⟩
    · rw [h1, if_neg (by omega)]
      by_cases hb : b = c
      · rw [if_pos hb]
        refine .inr ⟨0, rfl, by simp [hb], fun j x hj hx => ?_⟩
        cases j with
        | zero => omega
        | succ j => exact h2 j x (by simpa using hx)
      · rw [if_neg hb]
        refine .inl ⟨rfl, fun j x hx => ?_⟩
        cases j with
        | zero => simp at hx; exact hx ▸ hb
        | succ j => exact h2 j x (by simpa using hx)
    · rw [h1, if_pos (by omega)]
      refine .inr ⟨i + 1, by push_cast; rfl, by simpa using h2, fun j x hj hx => ?_⟩
      cases j with
      | zero => omega
      | succ j => exact h3 j x (by omega) (by simpa using hx)

theorem lastIndex_at (s : List UInt8) (c : UInt8) : Lib.lastIndexByte ⟨s.toArray⟩ (c.toNat : Int) = lastAt c s := by
  have hb : ∀ (j : Nat) (b : UInt8), s[j]? = some b → ((⟨s.toArray⟩ : ByteArray).data[j]!) = b := by
    intro j b h
    have hj := (List.getElem?_eq_some_iff.1 h).1
    simp [getElem!_pos, hj]
    exact (List.getElem?_eq_some_iff.1 h).2
  have hsz : (⟨s.toArray⟩ : ByteArray).size = s.length := by simp [ByteArray.size]
  have hc : ∀ b : UInt8, (b.toNat : Int) = (c.toNat : Int) → b = c := fun b h => UInt8.toNat_inj.1 (by omega)
  rcases Lib.lastIndexByte_spec ⟨s.toArray⟩ (c.toNat : Int) with ⟨h1, h2⟩ | ⟨i, hi, h1, h2, h3⟩ <;> rcases lastAt_spec c s with ⟨k1, k2⟩ | ⟨m, k1, k2, k3⟩
  · omega
  · have := h2 m (by rw [hsz]; exact (List.getElem?_eq_some_iff.1 k2).1)
    rw [hb m c k2] at this
    exact absurd rfl this
  · rw [hsz] at hi
    obtain ⟨b, hbb⟩ : ∃ b, s[i]? = some b := ⟨_, List.getElem?_eq_getElem hi⟩
    rw [hb i b hbb] at h2
    exact absurd (hc b h2) (k2 i b hbb)
  · rw [hsz] at hi
    obtain ⟨b, hbb⟩ : ∃ b, s[i]? = some b := ⟨_, List.getElem?_eq_getElem hi⟩
    have hbc : b = c := by
      rw [hb i b hbb] at h2
      exact hc b h2
    subst hbc
    have hm := (List.getElem?_eq_some_iff.1 k2).1
    have : i = m := by
      rcases Nat.lt_trichotomy i m with h | h | h
      · have := h3 m h (by rw [hsz]; exact hm)
        rw [hb m b k2] at this
        exact absurd rfl this
      · exact h
      · exact absurd rfl (k3 i b h hbb)
    rw [h1, k1, this]

theorem lastIndex_ok {P : Program} {ρ : Ren} (L : Lays.n148 P ρ) (he : Enters P (ρ.f 148)) (s : List UInt8) (c : UInt8) (hs : s.length < 4611686018427387904) : APure P (ρ.f 148) [.str s, .str [c]] (.int .i64 (lastAt c s)) := by
  refine apure_calls he fun μ F w vs hf hv => ?_
  rw [args_ss hv]
  refine (Any.strings_LastIndex_one L ⟨s.toArray⟩ ⟨#[c]⟩ rfl (by simpa [ByteArray.size] using hs) w).mono ?_
  rintro e w' ⟨rfl, rfl⟩
  refine ⟨_, rfl, Below.refl _ _, ?_⟩
  have := lastIndex_at s c
  rw [← this]
  exact .int _ _

theorem containsAny_ok {P : Program} {ρ : Ren} (L : Lays.n150 P ρ) (h116 : (P.info? (ρ.t 116)).map (fun i => (i.zero, i.size)) = some (some (.agg (Array.replicate 256 (.bool false))), 256)) (he : Enters P (ρ.f 150)) (s : List UInt8) (hs : s.length < 4294967281) :
    APure P (ρ.f 150) [.str s, .str [47, 0]] (.bool (s.any fun b => b == 47 || b == 0)) := by
  refine apure_calls he fun μ F w vs hf hv => ?_
  rw [args_ss hv, ← indexAny_neg]
  refine (containsAny_two L (zero_of_info h116).1 (zero_of_info h116).2 ⟨s.toArray⟩ w (by simpa [ByteArray.size] using hs)).mono ?_
  rintro e w' ⟨rfl, hb⟩
  exact ⟨_, rfl, hb, .bool _⟩
end Go.Ab
