/- Parts of the proof, one behind the other: AbB8, AbR1, AbR2, Tab, AbC4. No further condition. -/
import Derived.Test.YthdeopopodhimaaDoorM05
import Derived.ProofKit
import Derived.ReadAgain
import Derived.Test.YthdeopopodhimaaDoorM03
import Derived.Test.YthdeopopodhimaaDoorProg
import Derived.KernelRfl
set_option linter.unusedVariables false
set_option linter.unusedSimpArgs false
/- Steps that only the proof takes: objects forgotten; tokens handed out. -/
set_option linter.unusedVariables false
set_option linter.unusedSimpArgs false
namespace Go.Ab
open Go.RowKit

/-! ### Objects forgotten -/
def cut (μ : Mu) (k : Nat) : Mu := fun id => if id < k then μ id else none

theorem cut_own {μ : Mu} {k b o : Nat} (h : Own (cut μ k) b o) : Own μ b o := by
  obtain ⟨id, h | ⟨e, g, h, he⟩⟩ := h
  · unfold cut at h
    split at h
    · exact ⟨id, .inl h⟩
    · cases h
  · unfold cut at h
    split at h
    · exact ⟨id, .inr ⟨e, g, h, he⟩⟩
    · cases h

theorem cut_free {μ : Mu} {F : Frm} {k b o : Nat} (h : Free μ F b o) : Free (cut μ k) F b o := ⟨h.1, fun ho => h.2 (cut_own ho)⟩

theorem cut_lies {μ : Mu} {k i b : Nat} (h : Lies (cut μ k) i b) : Lies μ i b := by
  rcases h with h | ⟨e, g, h⟩
  · unfold cut at h
    split at h
    · exact .inl h
    · cases h
  · unfold cut at h
    split at h
    · exact .inr ⟨e, g, h⟩
    · cases h

/-- What stands for x stands for y when the objects from k on are forgotten. -/
def SubC (k : Nat) (x y : AV) : Prop := ∀ (μ : Mu) (F : Frm) (w : World) (v : Value), Rep μ F w x v → Rep (cut μ k) F w y v

theorem SubC.of_closed {k : Nat} {x : AV} (h : Closed x) : SubC k x x := fun μ F w v hr => h μ (cut μ k) F F w v (fun _ _ hf => cut_free hf) hr
theorem SubC.sub {k : Nat} {x y z : AV} (h : SubC k x y) (h2 : Sub y z) : SubC k x z := fun μ F w v hr => h2 _ _ _ _ (h μ F w v hr)
theorem SubC.pre {k : Nat} {x y z : AV} (h : Sub x y) (h2 : SubC k y z) : SubC k x z := fun μ F w v hr => h2 _ _ _ _ (h μ F w v hr)
theorem SubC.top {k : Nat} {x : AV} : SubC k x .top := fun _ _ _ v _ => .top v
theorem SubC.ptr {k id off : Nat} (h : decide (id < k) = true) : SubC k (.ptr id off) (.ptr id off) := by
  intro μ F w v hr
  have h' := of_decide_eq_true h
  cases hr with
  | ptr _ _ _ h1 h2 h3 => exact .ptr _ _ _ h1 (by simp [cut, h', h2]) (fun b hb => h3 b (by simpa [cut, h'] using hb))
theorem SubC.map {k id : Nat} (h : decide (id < k) = true) : SubC k (.map id) (.map id) := by
  intro μ F w v hr
  have h' := of_decide_eq_true h
  cases hr with
  | map _ _ h1 h2 h3 => exact .map _ _ h1 (by simp [cut, h', h2]) (fun b hb => h3 b (by simpa [cut, h'] using hb))
theorem SubC.tok {k id g sz : Nat} {xs : List AV} (h : decide (id < k) = true) (hc : ∀ x, x ∈ xs → (∀ c, c ∈ x.cells → Closed c)) : SubC k (.sl sz xs (.tok id g)) (.sl sz xs (.tok id g)) := by
  intro μ F w v hr
  have h' := of_decide_eq_true h
  obtain ⟨A, cap, ad, vals, rfl, h1, h2, h3, h4, h5, h6, h7⟩ := hr.sl_inv
  refine .sl _ _ _ _ _ ad vals h1 h2 h3 h4 (fun i x j c hx hj => ⟨(h5 i x j c hx hj).1, cut_free (h5 i x j c hx hj).2⟩)
    (fun i x j c hx hj => hc x (List.mem_of_getElem? hx) c (List.mem_of_getElem? hj) μ _ F F w _ (fun _ _ hf => cut_free hf) (h6 i x j c hx hj)) ?_
  rcases h7 with h7 | ⟨p, g', h7, h8, h9⟩
  · exact .inl (by simp [cut, h', h7])
  · exact .inr ⟨p, g', by simp [cut, h', h7], h8, h9⟩
theorem SubC.fn {k : Nat} {g : Fn} {l1 l2 : List AV} (h1 : ∀ x, x ∈ l1 → SubC k x x) (h2 : ∀ x, x ∈ l2 → SubC k x x) : SubC k (.fn g l1 l2) (.fn g l1 l2) := by
  intro μ F w v h
  obtain ⟨c1, c2, rfl, g1, g2, g3, g4⟩ := h.fn_inv
  exact .fn _ _ _ _ _ g1 g2 (fun i x u hx hu => h1 x (List.mem_of_getElem? hx) μ F w u (g3 i x u hx hu)) (fun i x u hx hu => h2 x (List.mem_of_getElem? hx) μ F w u (g4 i x u hx hu))
theorem SubC.agg {k : Nat} {l : List AV} (hl : ∀ x, x ∈ l → SubC k x x) : SubC k (.agg l) (.agg l) := by
  intro μ F w v h
  obtain ⟨c, rfl, h1, h2, h3⟩ := h.agg_inv
  exact .agg _ _ h1 (fun i x u hx hu => hl x (List.mem_of_getElem? hx) μ F w u (h2 i x u hx hu)) h3

theorem Sub.untag {sz : Nat} {xs : List AV} {t : Tag} : Sub (.sl sz xs t) (.sl sz xs .none) := fun _ _ _ _ h => rep_untag h

/-- An empty slice is one of any elements. -/
theorem Sub.empty {sz sz' : Nat} {t : Tag} (ht : t = .none ∨ t = .full) : Sub (.sl sz [] t) (.sl sz' [] t) := by
  intro μ F w v h
  obtain ⟨A, cap, ad, vals, rfl, h1, h2, h3, h4, h5, h6, h7⟩ := h.sl_inv
  refine .sl _ [] _ _ _ ad vals (by simp) h2 (by simp) (by simp) (by simp) (by simp) ?_
  rcases ht with rfl | rfl
  · trivial
  · exact h7

def SubsC (k : Nat) (f : AF) : List (Nat × AV) → Prop
  | [] => True
  | (i, x) :: r => SubC k (f.get i) x ∧ SubsC k f r

theorem subsC_get {k : Nat} {f : AF} : ∀ {l : List (Nat × AV)} {d : List ADef}, SubsC k f l → ∀ t, SubC k (f.get t) (AF.get ⟨l, d⟩ t)
  | [], d, _, t => SubC.top
  | (i, x) :: r, d, h, t => by
    by_cases e : t = i
    · subst e
      have : AF.get ⟨(t, x) :: r, d⟩ t = x := by simp [AF.get, lookup]
      rw [this]; exact h.1
    · have : AF.get ⟨(i, x) :: r, d⟩ t = AF.get ⟨r, d⟩ t := by simp [AF.get, lookup, e]
      rw [this]; exact subsC_get h.2 t

def ObjC (k : Nat) : Option AObj → AObj → Prop
  | some (.cells l), .cells m => l.length = m.length ∧ ∀ (i : Nat) (x y : AV), l[i]? = some x → m[i]? = some y → SubC k x y
  | some (.spare g), .spare g' => g = g'
  | _, _ => False

def ObjsC (k : Nat) (M : Mem) : List (Nat × AObj) → Prop
  | [] => True
  | (i, o) :: r => i < k ∧ ObjC k (M.get i) o ∧ ObjsC k M r

theorem objsC_get {k : Nat} {M : Mem} : ∀ {l : List (Nat × AObj)} {i : Nat} {o : AObj}, ObjsC k M l → lookup l i = some o → i < k ∧ ObjC k (M.get i) o
  | [], i, o, _, h => by cases h
  | (j, p) :: r, i, o, h, hl => by
    simp only [lookup] at hl
    split at hl
    · rename_i e
      cases hl
      subst e
      exact ⟨h.1, h.2.1⟩
    · exact objsC_get h.2.2 hl

theorem gam_cut {μ : Mu} {F : Frm} {M : Mem} {w : World} (h : Gam μ F M w) {k : Nat} (hk : k ≤ M.next) {l : List (Nat × AObj)} (ho : ObjsC k M l) : Gam (cut μ k) F ⟨k, l⟩ w := by
  refine ⟨?_, ?_, ?_, ?_, ?_, ?_⟩
  · intro id
    unfold cut
    split
    · rename_i hlt
      exact ⟨fun _ => hlt, fun _ => (h.dom id).2 (Nat.lt_of_lt_of_le hlt hk)⟩
    · rename_i hlt
      exact ⟨fun e => absurd rfl e, fun e => absurd e hlt⟩
  · intro id m hm
    obtain ⟨hlt, hob⟩ := objsC_get ho hm
    cases hM : M.get id with
    | none => rw [hM] at hob; exact hob.elim
    | some o =>
      rw [hM] at hob
      cases o with
      | spare g => exact hob.elim
      | cells l0 =>
        obtain ⟨b, c, ty, h1, h2, h3, h4, h5⟩ := h.obj id l0 hM
        refine ⟨b, c, ty, by simp [cut, hlt, h1], h2, by rw [h3]; exact hob.1, h4, ?_⟩
        intro i x v hx hv
        have hi : i < l0.length := by rw [hob.1]; exact (List.getElem?_eq_some_iff.1 hx).1
        exact hob.2 i _ x (List.getElem?_eq_getElem hi) hx μ F w v (h5 i _ v (List.getElem?_eq_getElem hi) hv)
  · intro id g hm
    obtain ⟨hlt, hob⟩ := objsC_get ho hm
    cases hM : M.get id with
    | none => rw [hM] at hob; exact hob.elim
    | some o =>
      rw [hM] at hob
      cases o with
      | cells l0 => exact hob.elim
      | spare g' =>
        have : g' = g := hob
        subst this
        obtain ⟨p, h1, h2⟩ := h.spare id g' hM
        exact ⟨p, by simp [cut, hlt, h1], h2⟩
  · intro i j b hi hj
    exact h.inj i j b (cut_lies hi) (cut_lies hj)
  · intro b o ho'
    exact h.frm b o (cut_own ho')
  · exact ⟨fun b o ho' => h.fit.own b o (cut_own ho'), h.fit.frm⟩

theorem evo_cut {w0 w : World} {μ0 μ : Mu} (h : Evo w0 μ0 w μ) {k : Nat} (hk : ∀ id, μ0 id ≠ none → id < k) : Evo w0 μ0 w (cut μ k) := by
  refine ⟨h.os, h.tape, h.output, h.size, ?_, h.same, h.part, fun b o hb ho => h.own b o hb (cut_own ho)⟩
  intro id hid
  have := hk id hid
  simp only [cut, this, if_true]
  exact h.mu id hid

/-- The objects from k on are forgotten. -/
theorem Joint.cut {n0 : Nat} {f : AF} {M : Mem} {k : Nat} (hk : n0 ≤ k) (hk2 : k ≤ M.next) {t : List (Nat × AV)} {l : List (Nat × AObj)} (hd : f.d = []) (ht : SubsC k f t) (ho : ObjsC k M l) : Joint n0 f M ⟨t, []⟩ ⟨k, l⟩ := by
  intro μ0 μ F w0 w n a hn he hg hr
  refine ⟨Go.Ab.cut μ k, evo_cut he (fun id h => Nat.lt_of_lt_of_le (hn id h) hk), gam_cut hg hk2 ho, hr.size, fun i => subsC_get ht i μ F w _ (hr.tmps i), ?_, fun p hp => by cases hp⟩
  have := hr.defs
  rw [hd] at this
  show DefRep _ _ _ [] a.defers
  rw [defrep_nil this]
  trivial

/-! ### Tokens -/
theorem rep_tok {μ : Mu} {F : Frm} {M : Mem} {w : World} (hg : Gam μ F M w) : Evo w μ w (μ.put M.next (.spare none 0)) ∧ Gam (μ.put M.next (.spare none 0)) F (M.push (.spare 0)) w ∧
    ∀ (sz sz' : Nat) (xs : List AV) (v : Value), (sz' = sz ∨ xs = []) → Rep μ F w (.sl sz xs .full) v → Rep (μ.put M.next (.spare none 0)) F w (.sl sz' xs (.tok M.next 0)) v := by
  obtain ⟨hev, hG⟩ := gam_room hg (w' := w) (p := none) rfl rfl rfl (Nat.le_refl _) (id := M.next) (g := 0) (.inl ⟨rfl, fun _ _ => rfl⟩) (by intro b e h; cases h)
  refine ⟨hev, hG _ (by simp [Mem.push]) (fun i => Mem.get_push M _ i), ?_⟩
  intro sz sz' xs v hsx hr
  have hr' := hr.evo hev
  obtain ⟨A', cap', b, o, vals, hv, hsz, hcap, hA, hat, htag⟩ := hr'.sl_flat
  subst hv
  refine rep_sl (b := b) (o := o) (vals := vals) ?_ hcap hA hat (.inr ⟨none, 0, by simp [Mu.put], Nat.le_refl _, fun _ => htag⟩)
  rcases hsx with rfl | rfl
  · exact hsz
  · simp

/-- A slice that is full gets a token: one that the frame holds. -/
theorem Joint.tok {n0 : Nat} {t : List (Nat × AV)} {ds : List ADef} {M : Mem} (i : Nat) {sz : Nat} {xs : List AV} (h : AF.get ⟨t, ds⟩ i = .sl sz xs .full) {sz' : Nat} (hs : sz' = sz ∨ xs = []) :
    Joint n0 ⟨t, ds⟩ M ⟨(i, .sl sz' xs (.tok M.next 0)) :: t, ds⟩ (M.push (.spare 0)) := by
  intro μ0 μ F w0 w n a hn he hg hr
  obtain ⟨hev, hG, hrep⟩ := rep_tok hg
  refine ⟨_, he.trans hev, hG, hr.size, ?_, hr.defs.evo hev, fun p hp => (hr.kept p hp).evo hev⟩
  intro j
  by_cases e : j = i
  · subst e
    have h1 := hr.tmps j
    rw [h] at h1
    have : AF.get ⟨(j, .sl sz' xs (.tok M.next 0)) :: t, ds⟩ j = .sl sz' xs (.tok M.next 0) := by simp [AF.get, lookup]
    rw [this]
    exact hrep sz sz' xs _ hs h1
  · have : AF.get ⟨(i, .sl sz' xs (.tok M.next 0)) :: t, ds⟩ j = AF.get ⟨t, ds⟩ j := by simp [AF.get, lookup, e]
    rw [this]
    exact (hr.tmps j).evo hev

/-- One that an object holds. -/
theorem Joint.tokM {n0 : Nat} {f : AF} {M : Mem} (id i : Nat) {l : List AV} (hM : M.get id = some (.cells l)) {sz : Nat} {xs : List AV} (h : l[i]? = some (.sl sz xs .full)) {sz' : Nat} (hs : sz' = sz ∨ xs = []) :
    Joint n0 f M f ((M.push (.spare 0)).set id (.cells (l.set i (.sl sz' xs (.tok M.next 0))))) := by
  intro μ0 μ F w0 w n a hn he hg hr
  obtain ⟨hev, hG, hrep⟩ := rep_tok hg
  refine ⟨_, he.trans hev, ?_, hr.evo hev⟩
  have hne : id ≠ M.next := by
    rintro rfl
    obtain ⟨b, c, ty, h1, _⟩ := hg.obj _ _ hM
    have := gam_next hg
    rw [this] at h1
    cases h1
  refine ⟨?_, ?_, ?_, hG.inj, hG.frm, hG.fit⟩
  · intro j
    exact hG.dom j
  · intro j m hm
    rw [Mem.get_set] at hm
    split at hm
    · rename_i e
      cases hm
      subst e
      obtain ⟨b, c, ty, h1, h2, h3, h4, h5⟩ := hg.obj j l hM
      refine ⟨b, c, ty, by simp [Mu.put, hne, h1], h2, by rw [List.length_set]; exact h3, h4, ?_⟩
      intro q x v hx hv
      rw [List.getElem?_set] at hx
      split at hx
      · rename_i e
        subst e
        split at hx
        · cases hx
          exact hrep sz sz' xs v hs (h5 i _ v h hv)
        · cases hx
      · exact (h5 q x v hx hv).evo hev
    · exact hG.obj j m hm
  · intro j g hm
    rw [Mem.get_set] at hm
    split at hm
    · cases hm
    · exact hG.spare j g hm

/-! ### At a call's end -/
/-- A contract whose end is another one, by steps that only the proof takes. -/
theorem ACalls.joint {P : Program} {g : FuncId} {args : List AV} {M : Mem} {R R' : AEnd → Mem → Prop} (h : ACalls P g args M R)
    (hr : ∀ x M', R (.ret x) M' → ∃ y N, R' (.ret y) N ∧ Joint M.next ⟨[(0, x)], []⟩ M' ⟨[(0, y)], []⟩ N)
    (hp : ∀ x M', R (.pan x) M' → ∃ y N, R' (.pan y) N ∧ Joint M.next ⟨[(0, x)], []⟩ M' ⟨[(0, y)], []⟩ N) : ACalls P g args M R' := by
  refine ⟨h.1, fun μ F w vs hg hv => (h.2 μ F w vs hg hv).mono ?_⟩
  rintro e w' ⟨μ', M', h1, h2, h3⟩
  have hdom : ∀ id, μ id ≠ none → id < M.next := fun id h => (hg.dom id).1 h
  have one : ∀ (x : AV) (v : Value), Rep μ' F w' x v → RepF μ' F w' 1 ⟨[(0, x)], []⟩ { tmps := #[v], defers := [] } := by
    intro x v hx
    refine ⟨rfl, ?_, trivial, fun p hp => by cases hp⟩
    intro t
    cases t with
    | zero => simpa [AF.get, lookup] using hx
    | succ t => exact .top _
  cases e with
  | returned v =>
    obtain ⟨x, h4, h5⟩ := h3
    obtain ⟨y, N, k1, k2⟩ := hr x M' h5
    obtain ⟨μ2, j1, j2, j3⟩ := k2 μ μ' F w w' 1 _ hdom h1 h2 (one x v h4)
    have := j3.tmps 0
    exact ⟨μ2, N, j1, j2, y, by simpa [AF.get, lookup] using this, k1⟩
  | panicked ch =>
    obtain ⟨x, v, h4, h5, h6⟩ := h3
    obtain ⟨y, N, k1, k2⟩ := hp x M' h6
    obtain ⟨μ2, j1, j2, j3⟩ := k2 μ μ' F w w' 1 _ hdom h1 h2 (one x v h5)
    have := j3.tmps 0
    exact ⟨μ2, N, j1, j2, y, v, h4, by simpa [AF.get, lookup] using this, k1⟩
  | outgrown => exact h3.elim

/-- Arguments of which less is known. -/
theorem ACalls.sub {P : Program} {g : FuncId} {args args' : List AV} {M : Mem} {R : AEnd → Mem → Prop} (h : ACalls P g args' M R) (hl : args.length = args'.length) (hs : ∀ (i : Nat) (x y : AV), args[i]? = some x → args'[i]? = some y → Sub x y) : ACalls P g args M R := by
  refine ⟨h.1, fun μ F w vs hg hv => h.2 μ F w vs hg ⟨by rw [hv.1, hl], fun i y v hy hv' => ?_⟩⟩
  have hi : i < args.length := by rw [hl]; exact (List.getElem?_eq_some_iff.1 hy).1
  exact hs i _ y (List.getElem?_eq_getElem hi) hy _ _ _ _ (hv.2 i _ v (List.getElem?_eq_getElem hi) hv')

end Go.Ab

/- Arguments that a row hands in: what was read of them stands for abstract values. -/
set_option linter.unusedVariables false
set_option linter.unusedSimpArgs false
namespace Go.Ab
open Go.RowKit

def mu0 : Mu := fun _ => none
def fr0 : Frm := fun _ _ => False

theorem free0 (b o : Nat) : Free mu0 fr0 b o := ⟨fun h => h, by rintro ⟨id, h | ⟨e, g, h, _⟩⟩ <;> cases h⟩

structure RepCs (w : World) (l : List AV) (cs : List Value) : Prop where
  len : l.length = cs.length
  rep : ∀ (i : Nat) (x : AV) (v : Value), l[i]? = some x → cs[i]? = some v → Rep mu0 fr0 w x v ∧ v.oneCell' = true

def sizeT (τ : Tab) (e : TypeId) : Nat := match lookup τ e with | some i => i.size | none => 0
def elA (τ : Tab) (e : TypeId) (c : List AV) : AV := match lookup τ e with | some i => (if i.agg = true then .agg c else c.getD 0 .top) | none => .top

def shapes (sh : TypeId → List AV → Prop) : List (Nat × TypeId) → List AV → Prop
  | [], l => l = []
  | (_, ft) :: r, l => ∃ a b, l = a ++ b ∧ sh ft a ∧ shapes sh r b

/-- Cells of a type that is made of numbers, bools, strings, slices and structs. -/
def shape (τ : Tab) : Nat → TypeId → List AV → Prop
  | 0, _, _ => False
  | n + 1, t, l =>
    match lookup τ t with
    | none => False
    | some i =>
      match i.k with
      | .int k => ∃ m, l = [.int k m] ∧ (Lit.int k m).wf = true
      | .bool => ∃ b, l = [.bool b]
      | .str => ∃ s, l = [.str s] ∧ s.length ≤ reachBytes
      | .slice e => ∃ xs, l = [.sl (sizeT τ e) xs .none] ∧ xs.length ≤ reachBytes ∧ ∀ x, x ∈ xs → ∃ c, x = elA τ e c ∧ shape τ n e c
      | .struct fs => shapes (shape τ n) fs l
      | _ => False

def offsOK (τ : Tab) : List (Nat × TypeId) → Nat → Nat → Bool
  | [], o, s => o == s
  | (o', ft) :: r, o, s => o' == o && (match lookup τ ft with | some fi => offsOK τ r (o + fi.size) s | none => false)

def plainT (τ : Tab) : Nat → TypeId → Bool
  | 0, _ => false
  | n + 1, t =>
    match lookup τ t with
    | none => false
    | some i =>
      match i.k with
      | .int _ => true
      | .bool => true
      | .str => true
      | .slice e => plainT τ n e && (match lookup τ e with | some ei => decide (0 < ei.size) && decide (0 < ei.bytes) && (ei.agg || ei.size == 1) | none => false)
      | .struct fs => fs.all (fun p => plainT τ n p.2) && offsOK τ fs 0 i.size
      | _ => false

section
variable {H : Type} {enc : TypeId × Value → H} {P : Program} {τ : Tab} {w : World} {base : Nat} {spare : Nat → Bool} {held : Bool}

theorem repCs_one {x : AV} {v : Value} (h : Rep mu0 fr0 w x v) (h1 : v.oneCell' = true) : RepCs w [x] [v] := by
  refine ⟨rfl, ?_⟩
  intro i y u hy hu
  cases i with
  | zero => cases hy; cases hu; exact ⟨h, h1⟩
  | succ i => simp at hy

theorem repCs_app {l m : List AV} {c d : List Value} (h : RepCs w l c) (k : RepCs w m d) : RepCs w (l ++ m) (c ++ d) := by
  refine ⟨by simp [h.len, k.len], ?_⟩
  intro i x v hx hv
  by_cases hi : i < l.length
  · rw [List.getElem?_append_left hi] at hx
    rw [List.getElem?_append_left (by rw [← h.len]; exact hi)] at hv
    exact h.rep i x v hx hv
  · rw [List.getElem?_append_right (by omega)] at hx
    rw [List.getElem?_append_right (by rw [← h.len]; omega), ← h.len] at hv
    exact k.rep _ x v hx hv

/-- The fields, one after the other. -/
theorem fields_rep {n : Nat} {cs : List Value} {size : Nat} (hlen : cs.length = size) : ∀ (fs : List (Nat × TypeId)) (o : Nat), offsOK τ fs o size = true → o ≤ size →
    (∀ p, p ∈ fs → ∀ fi, lookup τ p.2 = some fi → ∃ l, RepCs w l ((cs.drop p.1).take fi.size) ∧ shape τ n p.2 l) → ∃ l, RepCs w l (cs.drop o) ∧ shapes (shape τ n) fs l
  | [], o, h, ho, _ => by
    simp only [offsOK, beq_iff_eq] at h
    refine ⟨[], ⟨by simp [hlen, h], by simp⟩, rfl⟩
  | (o', ft) :: r, o, h, ho, hall => by
    simp only [offsOK, Bool.and_eq_true, beq_iff_eq] at h
    obtain ⟨h1, h2⟩ := h
    subst h1
    split at h2
    case h_2 => cases h2
    rename_i fi hfi
    obtain ⟨a, ha, hsa⟩ := hall (o', ft) List.mem_cons_self fi hfi
    have hle : o' + fi.size ≤ size := by
      clear hall ha hsa
      have key : ∀ (r : List (Nat × TypeId)) (o : Nat), offsOK τ r o size = true → o ≤ size := by
        intro r
        induction r with
        | nil => intro o h; simp only [offsOK, beq_iff_eq] at h; omega
        | cons p r ih =>
          intro o h
          obtain ⟨po, pt⟩ := p
          simp only [offsOK, Bool.and_eq_true, beq_iff_eq] at h
          obtain ⟨h3, h4⟩ := h
          split at h4
          · have := ih _ h4; omega
          · cases h4
      exact key r _ h2
    obtain ⟨b, hb, hsb⟩ := fields_rep hlen r (o' + fi.size) h2 hle (fun p hp => hall p (List.mem_cons_of_mem _ hp))
    refine ⟨a ++ b, ?_, a, b, rfl, hsa, hsb⟩
    have e : cs.drop o' = (cs.drop o').take fi.size ++ cs.drop (o' + fi.size) := by
      rw [← List.drop_drop]
      exact (List.take_append_drop _ _).symm
    rw [e]
    exact repCs_app ha hb

theorem weightsAll_get {e : TypeId} : ∀ {l : List (DataW H)}, (DataW.weightsAll P e l).all (· ≤ reachBytes) = true → ∀ {i : Nat} {d : DataW H}, l[i]? = some d → (d.weights P e).all (· ≤ reachBytes) = true
  | [], _, i, _, hd => by simp at hd
  | a :: r, h, 0, d, hd => by
    cases hd
    simp only [DataW.weightsAll, List.all_append, Bool.and_eq_true] at h
    exact h.1
  | a :: r, h, i + 1, d, hd => by
    simp only [DataW.weightsAll, List.all_append, Bool.and_eq_true] at h
    exact weightsAll_get h.2 hd
theorem weightsEach_get : ∀ {ts : List TypeId} {l : List (DataW H)}, (DataW.weightsEach P ts l).all (· ≤ reachBytes) = true → ∀ {i : Nat} {t : TypeId} {d : DataW H}, ts[i]? = some t → l[i]? = some d → (d.weights P t).all (· ≤ reachBytes) = true
  | [], _, _, i, _, _, ht, _ => by simp at ht
  | _ :: _, [], _, i, _, _, _, hd => by simp at hd
  | t :: ts, a :: r, h, 0, _, d, ht, hd => by
    cases hd
    cases ht
    simp only [DataW.weightsEach, List.all_append, Bool.and_eq_true] at h
    exact h.1
  | t :: ts, a :: r, h, i + 1, _, d, ht, hd => by
    simp only [DataW.weightsEach, List.all_append, Bool.and_eq_true] at h
    exact weightsEach_get h.2 ht hd

theorem trod_rep (hτ : TabOK P τ) : ∀ (n fuel : Nat) (t : TypeId) (cs : List Value) (x : DataW H × List MemPlace), plainT τ n t = true → DataW.trod enc P w base spare held fuel t cs = some x → (x.1.weights P t).all (· ≤ reachBytes) = true →
    ∃ l, RepCs w l cs ∧ shape τ n t l
  | 0, _, _, _, _, h, _, _ => by cases h
  | n + 1, fuel, t, cs, x, hp, h, hwt => by
    simp only [plainT] at hp
    split at hp
    case h_1 => cases hp
    rename_i i hi
    obtain ⟨f, fd, z, HI⟩ := TI.spec hτ hi
    have hf := HI.fits
    have hu := HI.und
    have hfuel : ∃ m, fuel = m + 1 := by
      cases fuel with
      | zero => simp [DataW.trod] at h
      | succ m => exact ⟨m, rfl⟩
    obtain ⟨m, rfl⟩ := hfuel
    have hsh : ∀ l, shape τ (n + 1) t l = (match i.k with
      | .int k => ∃ m, l = [.int k m] ∧ (Lit.int k m).wf = true
      | .bool => ∃ b, l = [.bool b]
      | .str => ∃ s, l = [.str s] ∧ s.length ≤ reachBytes
      | .slice e => ∃ xs, l = [.sl (sizeT τ e) xs .none] ∧ xs.length ≤ reachBytes ∧ ∀ x, x ∈ xs → ∃ c, x = elA τ e c ∧ shape τ n e c
      | .struct fs => shapes (shape τ n) fs l
      | _ => False) := fun l => by simp only [shape, hi]
    split at hp
    · rename_i k hk
      rw [hk] at hf
      cases fd <;> simp [TK.fits] at hf
      subst hf
      obtain ⟨n0, hcs, _, hwf⟩ := DataW.trod_int hu h
      subst hcs
      refine ⟨[.int k n0], repCs_one (.int _ _) rfl, ?_⟩
      rw [hsh, hk]
      exact ⟨n0, rfl, hwf⟩
    · rename_i hk
      rw [hk] at hf
      cases fd <;> simp [TK.fits] at hf
      obtain ⟨b0, hcs, _⟩ := DataW.trod_bool hu h
      subst hcs
      refine ⟨[.bool b0], repCs_one (.bool _) rfl, ?_⟩
      rw [hsh, hk]
      exact ⟨b0, rfl⟩
    · rename_i hk
      rw [hk] at hf
      cases fd <;> simp [TK.fits] at hf
      obtain ⟨s0, hcs, hx0, _⟩ := DataW.trod_string hu h
      subst hcs
      rw [hx0] at hwt
      have hle : s0.data.toList.length ≤ reachBytes := by simpa [DataW.weights] using hwt
      have hs := Rep.str (μ := mu0) (F := fr0) (w := w) s0.data.toList
      refine ⟨[.str s0.data.toList], repCs_one (by simpa using hs) rfl, ?_⟩
      rw [hsh, hk]
      exact ⟨_, rfl, hle⟩
    · rename_i e hk
      rw [hk] at hf
      cases fd <;> simp [TK.fits] at hf
      subst hf
      simp only [Bool.and_eq_true] at hp
      obtain ⟨hpe, hp2⟩ := hp
      split at hp2
      case h_2 => cases hp2
      rename_i ei hei
      simp only [Bool.and_eq_true, decide_eq_true_eq] at hp2
      obtain ⟨⟨hpos, hby⟩, hone⟩ := hp2
      obtain ⟨fe, de, ze, HE⟩ := TI.spec hτ hei
      have hce : P.cellsOf e = ei.size := HE.cellsOf
      have hsz : sizeT τ e = ei.size := by simp [sizeT, hei]
      rcases DataW.trod_slice hu h with ⟨rfl, _⟩ | ⟨a, len, cap, elems, rest, m', hm', rfl, hx0, hb, hlc, hcm, hel, hall, _⟩
      · refine ⟨[.sl ei.size [] .none], repCs_one ?_ rfl, ?_⟩
        · exact Rep.sl _ [] .none none 0 ⟨0, 0, none⟩ (fun _ => undef) (by simp) (by simp) (by simp) (by simp) (by simp) (by simp) trivial
        · rw [hsh, hk]
          exact ⟨[], by rw [hsz], by simp, by simp⟩
      · rw [hx0] at hwt
        have hbe : P.bytesOf e = ei.bytes := by simp [Program.bytesOf, HE.info, HE.bytes]
        simp only [DataW.weights, hu, List.all_cons, List.all_append, Bool.and_eq_true, decide_eq_true_eq, List.length_map] at hwt
        obtain ⟨hw1, hw2, _⟩ := hwt
        rw [hbe, hel] at hw1
        have hlr : len ≤ reachBytes := by
          have h1 : (len + rest.length) * 1 ≤ (len + rest.length) * ei.bytes := Nat.mul_le_mul_left _ hby
          omega
        have hget : ∀ i, i < len → ∃ cs' l, (w.cells? base (a.add (i * ei.size)) ei.size = some cs') ∧ RepCs w l cs' ∧ shape τ n e l := by
          intro i hi'
          have h1 := hall i hi'
          rw [hce] at h1
          have h2 : ∃ y, elems[i]? = some y := ⟨_, List.getElem?_eq_getElem (by omega)⟩
          obtain ⟨y, hy⟩ := h2
          rw [hy] at h1
          obtain ⟨cs', h3, h4⟩ := Option.bind_eq_some_iff.1 h1
          obtain ⟨l, h5, h6⟩ := trod_rep hτ n _ e cs' y hpe h4 (weightsAll_get hw2 (i := i) (by rw [List.getElem?_map, hy]; rfl))
          exact ⟨cs', l, h3, h5, h6⟩
        have hget' : ∀ i : Nat, ∃ p : List Value × List AV, i < len → (w.cells? base (a.add (i * ei.size)) ei.size = some p.1) ∧ RepCs w p.2 p.1 ∧ shape τ n e p.2 := by
          intro i
          by_cases hi' : i < len
          · obtain ⟨cs', l, h1, h2, h3⟩ := hget i hi'
            exact ⟨(cs', l), fun _ => ⟨h1, h2, h3⟩⟩
          · exact ⟨([], []), fun h => absurd h hi'⟩
        obtain ⟨CL, hCL0⟩ := Classical.axiomOfChoice hget'
        obtain ⟨C, hC⟩ : ∃ C : Nat → List Value, ∀ i, C i = (CL i).1 := ⟨_, fun _ => rfl⟩
        obtain ⟨L, hL0⟩ : ∃ L : Nat → List AV, ∀ i, L i = (CL i).2 := ⟨_, fun _ => rfl⟩
        have hCL : ∀ i, i < len → (w.cells? base (a.add (i * ei.size)) ei.size = some (C i)) ∧ RepCs w (L i) (C i) ∧ shape τ n e (L i) := by
          intro i hi'
          rw [hC, hL0]
          exact hCL0 i hi'
        have hlenL : ∀ i, i < len → (L i).length = ei.size := by
          intro i hi'
          obtain ⟨h1, h2, _⟩ := hCL i hi'
          rw [h2.len]
          exact (World.cells?_some h1).2.1
        have hcells : ∀ i, i < len → (elA τ e (L i)).cells = L i := by
          intro i hi'
          have h1 := hlenL i hi'
          simp only [elA, hei]
          by_cases hagg : ei.agg = true
          · simp [hagg, AV.cells]
          · have h1' : ei.size = 1 := by
              rcases Bool.or_eq_true _ _ ▸ hone with h | h
              · exact absurd h hagg
              · simpa using h
            rw [if_neg hagg]
            rw [h1'] at h1
            match hL : L i, h1 with
            | [y], _ =>
              obtain ⟨g1, g2, g3⟩ := hCL i hi'
              have hcl : (C i).length = 1 := by rw [← g2.len, hL]; rfl
              obtain ⟨v, hv⟩ : ∃ v, (C i)[0]? = some v := ⟨_, List.getElem?_eq_getElem (by omega)⟩
              have hr := g2.rep 0 y v (by rw [hL]; rfl) hv
              simp only [List.getD_cons_zero]
              cases y <;> first | rfl | skip
              obtain ⟨c, rfl, _⟩ := hr.1.agg_inv
              simp [Value.oneCell'] at hr
        have hspot : 0 < len → a.spot = none := by
          intro h0
          obtain ⟨h1, _⟩ := hCL 0 h0
          obtain ⟨_, g2, g3⟩ := World.cells?_some h1
          have h4 := g3 0 hpos
          have h5 : ∃ v, (C 0)[0]? = some v := ⟨_, List.getElem?_eq_getElem (by omega)⟩
          obtain ⟨v, hv⟩ := h5
          rw [hv] at h4
          simpa [Addr.add] using World.cell?_spot h4
        refine ⟨[.sl ei.size ((List.range len).map fun i => elA τ e (L i)) .none], repCs_one ?_ rfl, ?_⟩
        · have hxs : ∀ (i : Nat) (x : AV), ((List.range len).map fun i => elA τ e (L i))[i]? = some x → i < len ∧ x = elA τ e (L i) := by
            intro i x hx
            simp only [List.getElem?_map, List.getElem?_range, Option.map_eq_some_iff] at hx
            by_cases hi' : i < len
            · simp [hi'] at hx
              exact ⟨hi', hx.symm⟩
            · simp [hi'] at hx
          have hl0 : ((List.range len).map fun i => elA τ e (L i)).length = len := by simp
          have hv : Value.slice (some a) len cap = Value.slice (some a) ((List.range len).map fun i => elA τ e (L i)).length cap := by rw [hl0]
          rw [hv]
          refine Rep.sl ei.size _ .none (some a) cap a (fun p => (C (p / ei.size)).getD (p % ei.size) undef) ?_ (by rw [hl0]; exact hlc) ?_ ?_ ?_ ?_ trivial
          · intro x hx
            obtain ⟨i, hi'⟩ := List.getElem?_of_mem hx
            obtain ⟨h1, rfl⟩ := hxs i x hi'
            rw [hcells i h1]
            exact hlenL i h1
          · intro h0
            rw [hl0] at h0
            exact ⟨rfl, hspot h0⟩
          all_goals
            intro i x j c hx hc
            obtain ⟨h1, rfl⟩ := hxs i x hx
            rw [hcells i h1] at hc
            obtain ⟨g1, g2, g3⟩ := hCL i h1
            have hj : j < ei.size := by rw [← hlenL i h1]; exact (List.getElem?_eq_some_iff.1 hc).1
            have hd : (i * ei.size + j) / ei.size = i := by
              rw [Nat.mul_comm, Nat.mul_add_div hpos, Nat.div_eq_of_lt hj, Nat.add_zero]
            have hmd : (i * ei.size + j) % ei.size = j := by
              rw [Nat.mul_comm, Nat.mul_add_mod, Nat.mod_eq_of_lt hj]
            have hcl : j < (C i).length := by rw [← g2.len, hlenL i h1]; exact hj
            have hval : (C i).getD j undef = (C i)[j] := by simp [List.getD, List.getElem?_eq_getElem hcl]
            have hr := g2.rep j c _ hc (List.getElem?_eq_getElem hcl)
            simp only [hd, hmd, hval]
          · exact hr.2
          · refine ⟨?_, free0 _ _⟩
            obtain ⟨_, k2, k3⟩ := World.cells?_some g1
            have k4 := k3 j hj
            rw [List.getElem?_eq_getElem hcl] at k4
            rw [← k4]
            have hs := hspot (by omega)
            obtain ⟨ab, ao, ags⟩ := a
            simp only at hs
            subst hs
            congr 1
            rw [Addr.add_lit, Addr.add_lit]
            simp [Nat.add_assoc]
          · exact hr.1
        · rw [hsh, hk]
          refine ⟨_, by rw [hsz], by simp; exact hlr, ?_⟩
          intro x hx
          obtain ⟨i, hi', rfl⟩ := List.mem_map.1 hx
          exact ⟨L i, rfl, (hCL i (List.mem_range.1 hi')).2.2⟩
    · rename_i fs hk
      rw [hk] at hf
      cases fd <;> simp [TK.fits] at hf
      rename_i gs
      simp only [Bool.and_eq_true] at hp
      obtain ⟨hpf, hoffs⟩ := hp
      obtain ⟨xs, n', _, hx0, hcl, hxl, hget⟩ := DataW.trod_struct hu h
      rw [hx0] at hwt
      simp only [DataW.weights, hu] at hwt
      have hci : P.cellsOf t = i.size := HI.cellsOf
      rw [hci] at hcl
      obtain ⟨l, h1, h2⟩ := fields_rep (n := n) hcl fs 0 hoffs (Nat.zero_le _) (by
        intro p hpm fi hfi
        have hp1 : plainT τ n p.2 = true := List.all_eq_true.1 hpf p hpm
        rw [← hf] at hpm
        obtain ⟨g, hg, rfl⟩ := List.mem_map.1 hpm
        obtain ⟨j, hj⟩ := List.getElem?_of_mem hg
        have hgj : gs[j]? = some g := by simpa using hj
        have h3 := hget j g hgj
        have hj2 : j < xs.length := by rw [hxl]; exact (Array.getElem?_eq_some_iff.1 hgj).1
        rw [List.getElem?_eq_getElem hj2] at h3
        obtain ⟨ff, fd', fz, HF⟩ := TI.spec hτ hfi
        rw [HF.cellsOf] at h3
        exact trod_rep hτ n _ _ _ _ hp1 h3 (weightsEach_get hwt (i := j) (by rw [List.getElem?_map, hj]; rfl) (by rw [List.getElem?_map, List.getElem?_eq_getElem hj2]; rfl)))
      refine ⟨l, by simpa using h1, ?_⟩
      rw [hsh, hk]
      exact h2
    · cases hp
end
end Go.Ab

/- A law's row out of its function's contract. -/
set_option linter.unusedVariables false
set_option linter.unusedSimpArgs false
namespace Go.Ab
open Go.RowKit Go.ChangeShapes

section
variable {H : Type} {enc : TypeId × Value → H} {P : Program}

/-- An argument of one cell, read. -/
theorem arg_one {τ : Tab} (hτ : TabOK P τ) {n : Nat} {t : TypeId} (hp : plainT τ n t = true) {w : World} {base : Nat} {spare : Nat → Bool} {held : Bool} {v : Value} {d : DataW H} {p : List MemPlace} (h : DataW.Trod enc P w base spare held t v d p)
    (hw : (d.weights P t).all (· ≤ reachBytes) = true) (hv : v.cells.toList = [v]) : ∃ x, Rep mu0 fr0 w x v ∧ shape τ n t [x] := by
  obtain ⟨fuel, hf⟩ := h
  rw [hv] at hf
  obtain ⟨l, h1, h2⟩ := trod_rep hτ n fuel t [v] _ hp hf hw
  have hl := h1.len
  match l, hl with
  | [x], _ => exact ⟨x, (h1.rep 0 x v rfl rfl).1, h2⟩

/-- An argument that is a struct. -/
theorem arg_agg {τ : Tab} (hτ : TabOK P τ) {n : Nat} {t : TypeId} (hp : plainT τ n t = true) {w : World} {base : Nat} {spare : Nat → Bool} {held : Bool} {cs : Array Value} {d : DataW H} {p : List MemPlace} (h : DataW.Trod enc P w base spare held t (.agg cs) d p)
    (hw : (d.weights P t).all (· ≤ reachBytes) = true) : ∃ l, Rep mu0 fr0 w (.agg l) (.agg cs) ∧ shape τ n t l := by
  obtain ⟨fuel, hf⟩ := h
  obtain ⟨l, h1, h2⟩ := trod_rep hτ n fuel t _ _ hp hf hw
  refine ⟨l, ?_, h2⟩
  refine .agg _ _ (by have := h1.len; simpa [Value.cells] using this.symm) ?_ ?_
  · intro i x v hx hv
    exact (h1.rep i x v hx (by simpa [Value.cells] using hv)).1
  · intro i v hv
    have hi : i < l.length := by
      rw [h1.len]
      have := (Array.getElem?_eq_some_iff.1 hv).1
      simpa [Value.cells] using this
    exact (h1.rep i _ v (List.getElem?_eq_getElem hi) (by simpa [Value.cells] using hv)).2

theorem trodAll_stays (hl : laidOutB P = true) {W W' : World} (hb : Below W.heap.size W W') {sp : Nat → Bool} : ∀ {ts : List TypeId} {vs : List Value} {ds : List (DataW H)} {ps : List MemPlace}, (∀ t ∈ ts, P.readableRec t = true ∧ t < P.types.size) →
    DataW.TrodAll enc P W 0 (fun _ => true) true ts vs ds ps → (∀ p ∈ ps, p.block < W.heap.size) → (∀ p ∈ ps, sp p.block = true) → DataW.TrodAll enc P W' 0 sp true ts vs ds ps
  | [], [], [], _, _, h, _, _ => h
  | t :: ts, v :: vs, d :: ds, _, hts, ⟨p, q, h1, h2, e⟩, hlt, hs => by
    subst e
    refine ⟨p, q, ?_, trodAll_stays hl hb (fun t ht => hts t (List.mem_cons_of_mem _ ht)) h2 (fun x hx => hlt x (List.mem_append_right _ hx)) (fun x hx => hs x (List.mem_append_right _ hx)), rfl⟩
    exact WideElems.Trod_stays hl (hts t List.mem_cons_self).1 (hts t List.mem_cons_self).2 h1 (fun x hx => hb.same (hlt x (List.mem_append_left _ hx))) (fun x hx => hs x (List.mem_append_left _ hx))
  | [], _ :: _, _, _, _, h, _, _ => h.elim
  | [], [], _ :: _, _, _, h, _, _ => h.elim
  | _ :: _, [], _, _, _, h, _, _ => h.elim
  | _ :: _, _ :: _, [], _, _, h, _, _ => h.elim

/-- What a law's row asks behind the call. -/
theorem law_post (hl : laidOutB P = true) {f : Func} {s : ChangeSpec} (hv : s.vars = []) {tb : TypeId} (htb : P.underlying tb = some .bool) (hrt : f.resultTypes = #[tb]) (hts : ∀ t ∈ f.params.toList, P.readableRec t = true ∧ t < P.types.size)
    {W W' : World} {args : Array Value} {ds gs : List (DataW H)} {before : List MemPlace} (hW : DataW.Whole enc P f.params.toList s.vars false W args.toList ds gs before) (hb : Below W.heap.size W W')
    (hres : (s.fn H (ds ++ gs)).results = [.lit (.bool true)]) (hargs : (s.fn H (ds ++ gs)).args = ds) (hvars : (s.fn H (ds ++ gs)).vars = []) : s.post enc P f false true false false W args (.bool true) W' := by
  have hlt := hW.lt
  obtain ⟨p, q, hA, hV, hps, _, _⟩ := id hW
  rw [hv] at hV
  obtain ⟨hgs, hq⟩ := trodVars_none hV
  refine ⟨ds, gs, before, [], p, [], hW, ?_, ?_, ?_, hb.frame _, fun h => by cases h⟩
  · rw [hres, hrt]
    exact trodAll_mk1 (shut_bool htb true)
  · rw [hargs]
    refine trodAll_stays hl hb hts hA ?_ ?_
    · intro x hx
      exact hlt x (by rw [hps]; exact List.mem_append_left _ hx)
    · intro x hx
      simpa using hlt x (by rw [hps]; exact List.mem_append_left _ hx)
  · rw [hvars, hv]
    rfl

/-- A contract, at the row's start. -/
theorem law_calls {g : FuncId} {args : List AV} (h : APure P g args (.bool true)) {w : World} {vs : Array Value} (hv : RepL mu0 fr0 w args vs) : Calls P g vs w fun e w' => e = .returned (.bool true) ∧ Below w.heap.size w w' := by
  have hno : ∀ b o, ¬ Own mu0 b o := by rintro b o ⟨id, h | ⟨e, g, h, _⟩⟩ <;> cases h
  have hg : Gam mu0 fr0 ⟨0, []⟩ w := by
    refine { dom := fun id => (by simp [mu0]), obj := fun id l hM => (by cases hM), spare := fun id g hM => (by cases hM), inj := ?_, frm := fun b o ho => absurd ho (hno b o), fit := ⟨fun b o ho => absurd ho (hno b o), fun b o h => h.elim⟩ }
    rintro i j b (h | ⟨_, _, h⟩) _ <;> cases h
  refine ((h ⟨0, []⟩).2 mu0 fr0 w vs hg hv).mono ?_
  rintro e w' ⟨μ', M', h1, h2, h3⟩
  have hb : Below w.heap.size w w' := ⟨h1.os, h1.tape, h1.output, h1.size, fun k hk => h1.same k hk (hno k)⟩
  cases e with
  | returned v =>
    obtain ⟨x, h4, h5⟩ := h3
    obtain ⟨e, _⟩ := h5
    cases e
    cases h4
    exact ⟨rfl, hb⟩
  | panicked ch =>
    obtain ⟨x, v, _, _, e, _⟩ := h3
    cases e
  | outgrown => exact h3.elim

theorem list_of {α : Type} {f : α → AV} : ∀ {xs : List AV}, (∀ x, x ∈ xs → ∃ a, x = f a) → ∃ l : List α, xs = l.map f
  | [], _ => ⟨[], rfl⟩
  | x :: r, h => by
    obtain ⟨a, rfl⟩ := h _ List.mem_cons_self
    obtain ⟨l, rfl⟩ := list_of fun x hx => h x (List.mem_cons_of_mem _ hx)
    exact ⟨a :: l, rfl⟩

theorem list_all {α : Type} {f : α → AV} {q : α → Prop} : ∀ {xs : List AV}, (∀ x, x ∈ xs → ∃ a, x = f a ∧ q a) → ∃ l : List α, xs = l.map f ∧ ∀ a, a ∈ l → q a
  | [], _ => ⟨[], rfl, by simp⟩
  | x :: r, h => by
    obtain ⟨a, rfl, hq⟩ := h _ List.mem_cons_self
    obtain ⟨l, rfl, hl⟩ := list_all fun x hx => h x (List.mem_cons_of_mem _ hx)
    exact ⟨a :: l, rfl, by
      intro y hy
      rcases List.mem_cons.1 hy with rfl | hy
      · exact hq
      · exact hl y hy⟩
end
end Go.Ab

/- The seat's types. -/
namespace Go.Proofs.YthdeopopodhimaaDoor
def tab : Go.Ab.Tab := [
  (1, ⟨1, 8, .other, [.nilFunc]⟩),
  (2, ⟨1, 8, .int .i64, [.int .i64 0]⟩),
  (3, ⟨1, 8, .int .i64, [.int .i64 0]⟩),
  (4, ⟨1, 1, .bool, [.bool false]⟩),
  (5, ⟨1, 1, .int .u8, [.int .u8 0]⟩),
  (6, ⟨1, 1, .int .u8, [.int .u8 0]⟩),
  (7, ⟨4, 24, .struct [(0, 2), (1, 3), (2, 4), (3, 6)], [.int .i64 0, .int .i64 0, .bool false, .int .u8 0]⟩),
  (8, ⟨4, 24, .struct [(0, 2), (1, 3), (2, 4), (3, 6)], [.int .i64 0, .int .i64 0, .bool false, .int .u8 0]⟩),
  (9, ⟨1, 16, .str, [.str []]⟩),
  (10, ⟨1, 16, .str, [.str []]⟩),
  (11, ⟨1, 16, .str, [.str []]⟩),
  (12, ⟨1, 8, .int .u64, [.int .u64 0]⟩),
  (13, ⟨2, 24, .struct [(0, 9), (1, 12)], [.str [], .int .u64 0]⟩),
  (14, ⟨2, 24, .struct [(0, 9), (1, 12)], [.str [], .int .u64 0]⟩),
  (15, ⟨1, 8, .ptr 124, [.nilptr]⟩),
  (16, ⟨1, 8, .ptr 127, [.nilptr]⟩),
  (17, ⟨1, 8, .ptr 135, [.nilptr]⟩),
  (18, ⟨1, 8, .struct [(0, 17)], [.nilptr]⟩),
  (19, ⟨1, 8, .struct [(0, 17)], [.nilptr]⟩),
  (20, ⟨1, 16, .iface, [.nilIface]⟩),
  (21, ⟨1, 4, .int .i32, [.int .i32 0]⟩),
  (22, ⟨1, 24, .slice 30, [.sl 0 [] .full]⟩),
  (23, ⟨2, 24, .struct [(0, 9), (1, 3)], [.str [], .int .i64 0]⟩),
  (24, ⟨2, 24, .struct [(0, 9), (1, 3)], [.str [], .int .i64 0]⟩),
  (25, ⟨1, 8, .other, [.nilFunc]⟩),
  (26, ⟨1, 8, .ptr 76, [.nilptr]⟩),
  (27, ⟨1, 8, .other, [.nilFunc]⟩),
  (28, ⟨1, 8, .other, [.nilFunc]⟩),
  (29, ⟨3, 40, .struct [(0, 24), (2, 9)], [.str [], .int .i64 0, .str []]⟩),
  (30, ⟨3, 40, .struct [(0, 24), (2, 9)], [.str [], .int .i64 0, .str []]⟩),
  (31, ⟨1, 8, .other, [.nilFunc]⟩),
  (32, ⟨1, 8, .other, [.nilFunc]⟩),
  (33, ⟨1, 8, .other, [.nilFunc]⟩),
  (34, ⟨1, 8, .other, [.nilFunc]⟩),
  (35, ⟨1, 24, .slice 47, [.sl 0 [] .full]⟩),
  (36, ⟨1, 8, .ptr 66, [.nilptr]⟩),
  (37, ⟨1, 8, .int .i64, [.int .i64 0]⟩),
  (39, ⟨1, 8, .other, [.nilFunc]⟩),
  (41, ⟨1, 8, .other, [.nilFunc]⟩),
  (42, ⟨1, 8, .other, [.nilFunc]⟩),
  (43, ⟨1, 8, .ptr 45, [.nilptr]⟩),
  (44, ⟨2, 32, .struct [(0, 22), (1, 3)], [.sl 0 [] .full, .int .i64 0]⟩),
  (45, ⟨2, 32, .struct [(0, 22), (1, 3)], [.sl 0 [] .full, .int .i64 0]⟩),
  (46, ⟨3, 32, .struct [(0, 3), (1, 24)], [.int .i64 0, .str [], .int .i64 0]⟩),
  (47, ⟨3, 32, .struct [(0, 3), (1, 24)], [.int .i64 0, .str [], .int .i64 0]⟩),
  (49, ⟨1, 8, .other, [.nilFunc]⟩),
  (51, ⟨1, 8, .other, [.nilFunc]⟩),
  (52, ⟨1, 8, .other, [.nilFunc]⟩),
  (53, ⟨1, 8, .other, [.nilFunc]⟩),
  (54, ⟨1, 8, .other, [.nilFunc]⟩),
  (55, ⟨1, 8, .other, [.nilFunc]⟩),
  (56, ⟨1, 8, .other, [.nilFunc]⟩),
  (57, ⟨1, 8, .other, [.nilFunc]⟩),
  (58, ⟨1, 8, .other, [.nilFunc]⟩),
  (59, ⟨1, 8, .other, [.nilFunc]⟩),
  (60, ⟨1, 8, .other, [.nilFunc]⟩),
  (61, ⟨1, 8, .other, [.nilFunc]⟩),
  (62, ⟨1, 8, .other, [.nilFunc]⟩),
  (63, ⟨1, 8, .other, [.nilFunc]⟩),
  (64, ⟨1, 8, .other, [.nilFunc]⟩),
  (65, ⟨3, 40, .struct [(0, 26), (1, 63), (2, 22)], [.nilptr, .nilFunc, .sl 0 [] .full]⟩),
  (66, ⟨3, 40, .struct [(0, 26), (1, 63), (2, 22)], [.nilptr, .nilFunc, .sl 0 [] .full]⟩),
  (67, ⟨1, 8, .other, [.nilFunc]⟩),
  (68, ⟨1, 16, .iface, [.nilIface]⟩),
  (69, ⟨1, 16, .iface, [.nilIface]⟩),
  (70, ⟨1, 8, .other, [.nilFunc]⟩),
  (71, ⟨1, 8, .other, [.nilFunc]⟩),
  (73, ⟨1, 8, .other, [.nilFunc]⟩),
  (74, ⟨1, 24, .slice 30, [.sl 0 [] .full]⟩),
  (75, ⟨1, 16, .struct [(0, 69)], [.nilIface]⟩),
  (76, ⟨1, 16, .struct [(0, 69)], [.nilIface]⟩),
  (77, ⟨1, 24, .slice 69, [.sl 0 [] .full]⟩),
  (78, ⟨1, 8, .other, [.nilFunc]⟩),
  (79, ⟨1, 8, .other, [.nilFunc]⟩),
  (80, ⟨1, 8, .other, [.nilFunc]⟩),
  (81, ⟨1, 8, .other, [.nilFunc]⟩),
  (82, ⟨1, 24, .slice 9, [.sl 0 [] .full]⟩),
  (83, ⟨1, 8, .other, [.nilFunc]⟩),
  (85, ⟨1, 8, .other, [.nilFunc]⟩),
  (86, ⟨1, 24, .slice 77, [.sl 0 [] .full]⟩),
  (87, ⟨1, 8, .other, [.nilFunc]⟩),
  (88, ⟨2, 32, .struct [(0, 77), (1, 3)], [.sl 0 [] .full, .int .i64 0]⟩),
  (89, ⟨2, 32, .struct [(0, 77), (1, 3)], [.sl 0 [] .full, .int .i64 0]⟩),
  (90, ⟨1, 8, .other, [.nilFunc]⟩),
  (91, ⟨1, 8, .other, [.nilFunc]⟩),
  (92, ⟨2, 24, .struct [(0, 9), (1, 3)], [.str [], .int .i64 0]⟩),
  (93, ⟨1, 8, .other, [.nilFunc]⟩),
  (94, ⟨1, 8, .other, [.nilFunc]⟩),
  (95, ⟨1, 8, .other, [.nilFunc]⟩),
  (96, ⟨1, 8, .other, [.nilFunc]⟩),
  (97, ⟨1, 8, .other, [.nilFunc]⟩),
  (98, ⟨1, 8, .other, [.nilFunc]⟩),
  (99, ⟨1, 24, .slice 3, [.sl 0 [] .full]⟩),
  (100, ⟨1, 8, .other, [.nilFunc]⟩),
  (101, ⟨1, 8, .other, [.nilFunc]⟩),
  (103, ⟨1, 8, .other, [.nilFunc]⟩),
  (104, ⟨1, 8, .other, [.nilFunc]⟩),
  (105, ⟨1, 8, .other, [.nilFunc]⟩),
  (106, ⟨256, 256, .array 256 4, [.bool false, .bool false, .bool false, .bool false, .bool false, .bool false, .bool false, .bool false, .bool false, .bool false, .bool false, .bool false, .bool false, .bool false, .bool false, .bool false, .bool false, .bool false, .bool false, .bool false, .bool false, .bool false, .bool false, .bool false, .bool false, .bool false, .bool false, .bool false, .bool false, .bool false, .bool false, .bool false, .bool false, .bool false, .bool false, .bool false, .bool false, .bool false, .bool false, .bool false, .bool false, .bool false, .bool false, .bool false, .bool false, .bool false, .bool false, .bool false, .bool false, .bool false, .bool false, .bool false, .bool false, .bool false, .bool false, .bool false, .bool false, .bool false, .bool false, .bool false, .bool false, .bool false, .bool false, .bool false, .bool false, .bool false, .bool false, .bool false, .bool false, .bool false, .bool false, .bool false, .bool false, .bool false, .bool false, .bool false, .bool false, .bool false, .bool false, .bool false, .bool false, .bool false, .bool false, .bool false, .bool false, .bool false, .bool false, .bool false, .bool false, .bool false, .bool false, .bool false, .bool false, .bool false, .bool false, .bool false, .bool false, .bool false, .bool false, .bool false, .bool false, .bool false, .bool false, .bool false, .bool false, .bool false, .bool false, .bool false, .bool false, .bool false, .bool false, .bool false, .bool false, .bool false, .bool false, .bool false, .bool false, .bool false, .bool false, .bool false, .bool false, .bool false, .bool false, .bool false, .bool false, .bool false, .bool false, .bool false, .bool false, .bool false, .bool false, .bool false, .bool false, .bool false, .bool false, .bool false, .bool false, .bool false, .bool false, .bool false, .bool false, .bool false, .bool false, .bool false, .bool false, .bool false, .bool false, .bool false, .bool false, .bool false, .bool false, .bool false, .bool false, .bool false, .bool false, .bool false, .bool false, .bool false, .bool false, .bool false, .bool false, .bool false, .bool false, .bool false, .bool false, .bool false, .bool false, .bool false, .bool false, .bool false, .bool false, .bool false, .bool false, .bool false, .bool false, .bool false, .bool false, .bool false, .bool false, .bool false, .bool false, .bool false, .bool false, .bool false, .bool false, .bool false, .bool false, .bool false, .bool false, .bool false, .bool false, .bool false, .bool false, .bool false, .bool false, .bool false, .bool false, .bool false, .bool false, .bool false, .bool false, .bool false, .bool false, .bool false, .bool false, .bool false, .bool false, .bool false, .bool false, .bool false, .bool false, .bool false, .bool false, .bool false, .bool false, .bool false, .bool false, .bool false, .bool false, .bool false, .bool false, .bool false, .bool false, .bool false, .bool false, .bool false, .bool false, .bool false, .bool false, .bool false, .bool false, .bool false, .bool false, .bool false, .bool false, .bool false, .bool false, .bool false, .bool false, .bool false, .bool false, .bool false, .bool false, .bool false, .bool false, .bool false, .bool false, .bool false, .bool false, .bool false, .bool false, .bool false, .bool false, .bool false, .bool false, .bool false]⟩),
  (107, ⟨256, 256, .array 256 4, [.bool false, .bool false, .bool false, .bool false, .bool false, .bool false, .bool false, .bool false, .bool false, .bool false, .bool false, .bool false, .bool false, .bool false, .bool false, .bool false, .bool false, .bool false, .bool false, .bool false, .bool false, .bool false, .bool false, .bool false, .bool false, .bool false, .bool false, .bool false, .bool false, .bool false, .bool false, .bool false, .bool false, .bool false, .bool false, .bool false, .bool false, .bool false, .bool false, .bool false, .bool false, .bool false, .bool false, .bool false, .bool false, .bool false, .bool false, .bool false, .bool false, .bool false, .bool false, .bool false, .bool false, .bool false, .bool false, .bool false, .bool false, .bool false, .bool false, .bool false, .bool false, .bool false, .bool false, .bool false, .bool false, .bool false, .bool false, .bool false, .bool false, .bool false, .bool false, .bool false, .bool false, .bool false, .bool false, .bool false, .bool false, .bool false, .bool false, .bool false, .bool false, .bool false, .bool false, .bool false, .bool false, .bool false, .bool false, .bool false, .bool false, .bool false, .bool false, .bool false, .bool false, .bool false, .bool false, .bool false, .bool false, .bool false, .bool false, .bool false, .bool false, .bool false, .bool false, .bool false, .bool false, .bool false, .bool false, .bool false, .bool false, .bool false, .bool false, .bool false, .bool false, .bool false, .bool false, .bool false, .bool false, .bool false, .bool false, .bool false, .bool false, .bool false, .bool false, .bool false, .bool false, .bool false, .bool false, .bool false, .bool false, .bool false, .bool false, .bool false, .bool false, .bool false, .bool false, .bool false, .bool false, .bool false, .bool false, .bool false, .bool false, .bool false, .bool false, .bool false, .bool false, .bool false, .bool false, .bool false, .bool false, .bool false, .bool false, .bool false, .bool false, .bool false, .bool false, .bool false, .bool false, .bool false, .bool false, .bool false, .bool false, .bool false, .bool false, .bool false, .bool false, .bool false, .bool false, .bool false, .bool false, .bool false, .bool false, .bool false, .bool false, .bool false, .bool false, .bool false, .bool false, .bool false, .bool false, .bool false, .bool false, .bool false, .bool false, .bool false, .bool false, .bool false, .bool false, .bool false, .bool false, .bool false, .bool false, .bool false, .bool false, .bool false, .bool false, .bool false, .bool false, .bool false, .bool false, .bool false, .bool false, .bool false, .bool false, .bool false, .bool false, .bool false, .bool false, .bool false, .bool false, .bool false, .bool false, .bool false, .bool false, .bool false, .bool false, .bool false, .bool false, .bool false, .bool false, .bool false, .bool false, .bool false, .bool false, .bool false, .bool false, .bool false, .bool false, .bool false, .bool false, .bool false, .bool false, .bool false, .bool false, .bool false, .bool false, .bool false, .bool false, .bool false, .bool false, .bool false, .bool false, .bool false, .bool false, .bool false, .bool false, .bool false, .bool false, .bool false, .bool false, .bool false, .bool false, .bool false, .bool false, .bool false, .bool false, .bool false]⟩),
  (109, ⟨1, 8, .other, [.nilFunc]⟩),
  (110, ⟨1, 8, .other, [.nilFunc]⟩),
  (111, ⟨1, 8, .other, [.nilFunc]⟩),
  (112, ⟨1, 8, .int .u64, [.int .u64 0]⟩),
  (113, ⟨1, 8, .other, [.nilFunc]⟩),
  (114, ⟨1, 8, .ptr 107, [.nilptr]⟩),
  (115, ⟨256, 256, .array 256 5, [.int .u8 0, .int .u8 0, .int .u8 0, .int .u8 0, .int .u8 0, .int .u8 0, .int .u8 0, .int .u8 0, .int .u8 0, .int .u8 0, .int .u8 0, .int .u8 0, .int .u8 0, .int .u8 0, .int .u8 0, .int .u8 0, .int .u8 0, .int .u8 0, .int .u8 0, .int .u8 0, .int .u8 0, .int .u8 0, .int .u8 0, .int .u8 0, .int .u8 0, .int .u8 0, .int .u8 0, .int .u8 0, .int .u8 0, .int .u8 0, .int .u8 0, .int .u8 0, .int .u8 0, .int .u8 0, .int .u8 0, .int .u8 0, .int .u8 0, .int .u8 0, .int .u8 0, .int .u8 0, .int .u8 0, .int .u8 0, .int .u8 0, .int .u8 0, .int .u8 0, .int .u8 0, .int .u8 0, .int .u8 0, .int .u8 0, .int .u8 0, .int .u8 0, .int .u8 0, .int .u8 0, .int .u8 0, .int .u8 0, .int .u8 0, .int .u8 0, .int .u8 0, .int .u8 0, .int .u8 0, .int .u8 0, .int .u8 0, .int .u8 0, .int .u8 0, .int .u8 0, .int .u8 0, .int .u8 0, .int .u8 0, .int .u8 0, .int .u8 0, .int .u8 0, .int .u8 0, .int .u8 0, .int .u8 0, .int .u8 0, .int .u8 0, .int .u8 0, .int .u8 0, .int .u8 0, .int .u8 0, .int .u8 0, .int .u8 0, .int .u8 0, .int .u8 0, .int .u8 0, .int .u8 0, .int .u8 0, .int .u8 0, .int .u8 0, .int .u8 0, .int .u8 0, .int .u8 0, .int .u8 0, .int .u8 0, .int .u8 0, .int .u8 0, .int .u8 0, .int .u8 0, .int .u8 0, .int .u8 0, .int .u8 0, .int .u8 0, .int .u8 0, .int .u8 0, .int .u8 0, .int .u8 0, .int .u8 0, .int .u8 0, .int .u8 0, .int .u8 0, .int .u8 0, .int .u8 0, .int .u8 0, .int .u8 0, .int .u8 0, .int .u8 0, .int .u8 0, .int .u8 0, .int .u8 0, .int .u8 0, .int .u8 0, .int .u8 0, .int .u8 0, .int .u8 0, .int .u8 0, .int .u8 0, .int .u8 0, .int .u8 0, .int .u8 0, .int .u8 0, .int .u8 0, .int .u8 0, .int .u8 0, .int .u8 0, .int .u8 0, .int .u8 0, .int .u8 0, .int .u8 0, .int .u8 0, .int .u8 0, .int .u8 0, .int .u8 0, .int .u8 0, .int .u8 0, .int .u8 0, .int .u8 0, .int .u8 0, .int .u8 0, .int .u8 0, .int .u8 0, .int .u8 0, .int .u8 0, .int .u8 0, .int .u8 0, .int .u8 0, .int .u8 0, .int .u8 0, .int .u8 0, .int .u8 0, .int .u8 0, .int .u8 0, .int .u8 0, .int .u8 0, .int .u8 0, .int .u8 0, .int .u8 0, .int .u8 0, .int .u8 0, .int .u8 0, .int .u8 0, .int .u8 0, .int .u8 0, .int .u8 0, .int .u8 0, .int .u8 0, .int .u8 0, .int .u8 0, .int .u8 0, .int .u8 0, .int .u8 0, .int .u8 0, .int .u8 0, .int .u8 0, .int .u8 0, .int .u8 0, .int .u8 0, .int .u8 0, .int .u8 0, .int .u8 0, .int .u8 0, .int .u8 0, .int .u8 0, .int .u8 0, .int .u8 0, .int .u8 0, .int .u8 0, .int .u8 0, .int .u8 0, .int .u8 0, .int .u8 0, .int .u8 0, .int .u8 0, .int .u8 0, .int .u8 0, .int .u8 0, .int .u8 0, .int .u8 0, .int .u8 0, .int .u8 0, .int .u8 0, .int .u8 0, .int .u8 0, .int .u8 0, .int .u8 0, .int .u8 0, .int .u8 0, .int .u8 0, .int .u8 0, .int .u8 0, .int .u8 0, .int .u8 0, .int .u8 0, .int .u8 0, .int .u8 0, .int .u8 0, .int .u8 0, .int .u8 0, .int .u8 0, .int .u8 0, .int .u8 0, .int .u8 0, .int .u8 0, .int .u8 0, .int .u8 0, .int .u8 0, .int .u8 0, .int .u8 0, .int .u8 0, .int .u8 0, .int .u8 0, .int .u8 0, .int .u8 0, .int .u8 0, .int .u8 0, .int .u8 0, .int .u8 0, .int .u8 0, .int .u8 0, .int .u8 0, .int .u8 0, .int .u8 0, .int .u8 0, .int .u8 0, .int .u8 0, .int .u8 0, .int .u8 0]⟩),
  (116, ⟨2, 2, .struct [(0, 5), (1, 5)], [.int .u8 0, .int .u8 0]⟩),
  (117, ⟨2, 2, .struct [(0, 5), (1, 5)], [.int .u8 0, .int .u8 0]⟩),
  (118, ⟨32, 32, .array 16 117, [.int .u8 0, .int .u8 0, .int .u8 0, .int .u8 0, .int .u8 0, .int .u8 0, .int .u8 0, .int .u8 0, .int .u8 0, .int .u8 0, .int .u8 0, .int .u8 0, .int .u8 0, .int .u8 0, .int .u8 0, .int .u8 0, .int .u8 0, .int .u8 0, .int .u8 0, .int .u8 0, .int .u8 0, .int .u8 0, .int .u8 0, .int .u8 0, .int .u8 0, .int .u8 0, .int .u8 0, .int .u8 0, .int .u8 0, .int .u8 0, .int .u8 0, .int .u8 0]⟩),
  (119, ⟨1, 4, .int .u32, [.int .u32 0]⟩),
  (121, ⟨1, 8, .other, [.nilFunc]⟩),
  (122, ⟨1, 8, .other, [.nilFunc]⟩),
  (123, ⟨4, 40, .struct [(0, 17), (1, 17), (2, 17), (3, 9)], [.nilptr, .nilptr, .nilptr, .str []]⟩),
  (124, ⟨4, 40, .struct [(0, 17), (1, 17), (2, 17), (3, 9)], [.nilptr, .nilptr, .nilptr, .str []]⟩),
  (125, ⟨0, 0, .array 0 16, []⟩),
  (126, ⟨0, 0, .struct [(0, 125)], []⟩),
  (127, ⟨0, 0, .struct [(0, 125)], []⟩),
  (128, ⟨1, 1, .int .u8, [.int .u8 0]⟩),
  (129, ⟨1, 1, .int .u8, [.int .u8 0]⟩),
  (130, ⟨1, 8, .other, [.nilFunc]⟩),
  (131, ⟨1, 8, .ptr 5, [.nilptr]⟩),
  (132, ⟨1, 4, .int .i32, [.int .i32 0]⟩),
  (133, ⟨1, 4, .int .i32, [.int .i32 0]⟩),
  (134, ⟨11, 48, .struct [(0, 12), (1, 12), (2, 119), (3, 128), (4, 5), (5, 5), (6, 129), (7, 130), (8, 131), (9, 132), (10, 133)], [.int .u64 0, .int .u64 0, .int .u32 0, .int .u8 0, .int .u8 0, .int .u8 0, .int .u8 0, .nilFunc, .nilptr, .int .i32 0, .int .i32 0]⟩),
  (135, ⟨11, 48, .struct [(0, 12), (1, 12), (2, 119), (3, 128), (4, 5), (5, 5), (6, 129), (7, 130), (8, 131), (9, 132), (10, 133)], [.int .u64 0, .int .u64 0, .int .u32 0, .int .u8 0, .int .u8 0, .int .u8 0, .int .u8 0, .nilFunc, .nilptr, .int .i32 0, .int .i32 0]⟩),
  (136, ⟨1, 8, .other, [.nilFunc]⟩),
  (137, ⟨1, 8, .other, [.nilFunc]⟩),
  (138, ⟨1, 8, .other, [.nilFunc]⟩),
  (139, ⟨1, 8, .other, [.nilFunc]⟩),
  (140, ⟨1, 24, .slice 22, [.sl 0 [] .full]⟩),
  (141, ⟨1, 8, .other, [.nilFunc]⟩),
  (142, ⟨1, 8, .other, [.nilFunc]⟩),
  (143, ⟨1, 8, .other, [.nilFunc]⟩),
  (144, ⟨1, 8, .other, [.nilFunc]⟩),
  (145, ⟨1, 8, .other, [.nilFunc]⟩),
  (146, ⟨1, 8, .other, [.nilFunc]⟩),
  (147, ⟨1, 8, .other, [.nilFunc]⟩),
  (148, ⟨1, 8, .other, [.nilFunc]⟩)]
def eqs : List Go.TypeId := [24, 30, 47, 92]
theorem tabOK : Go.Ab.TabOK Tryd.prog tab := Go.Ab.tabOK_of (by kernel_rfl)
end Go.Proofs.YthdeopopodhimaaDoor

/- One rule for all steps that need no help. -/
set_option linter.unusedVariables false
set_option linter.unusedSimpArgs false
namespace Go.Ab
open Go.RowKit

def dput (dst : Option Tmp) (x : AV) (t : List (Nat × AV)) : List (Nat × AV) := match dst with | some d => (d, x) :: t | none => t

def stepA (τ : Tab) (es : List TypeId) (ops : Array Oper) (cls : Nat → Cls) (ds : List ADef) (i : Nat) (t : List (Nat × AV)) (M : Mem) : Option (List (Nat × AV) × Mem) :=
  match ops[i]? with
  | none => none
  | some o =>
    match wantedA ops ⟨t, ds⟩ o with
    | none => none
    | some false => some (match o.dst with | some d => (d, .tup []) :: t | none => t, M)
    | some true =>
      match forceP (stepP3 τ es (AF.ev ⟨t, ds⟩) o.op) with
      | some x => (match o.dst with | some d => some ((d, x) :: t, M) | none => some (t, M))
      | none =>
        match (match notP (cls i) with | true => forceP (stepR2 τ (AF.ev ⟨t, ds⟩) M o.op) | false => none) with
        | some x => (match o.dst with | some d => some ((d, x) :: t, M) | none => some (t, M))
        | none =>
          match (match isE (cls i) with | true => forceE (stepE τ (AF.ev ⟨t, ds⟩) M o.op) | false => none) with
          | some (x, N) => (match o.dst with | some d => some ((d, x) :: t, N) | none => some (t, N))
          | none => none

theorem DW_A {P : Program} {τ : Tab} {es : List TypeId} (hT : TabOK P τ ∧ EqTab P es) {ops : Array Oper} {cls : Nat → Cls} {Q : AX → AF → Mem → Prop} {ds : List ADef} {l : List Nat} {i : Nat} {t t' : List (Nat × AV)} {M M' : Mem}
    (hs : stepA τ es ops cls ds i t M = some (t', M')) (h : DW P ops cls Q ds l t' M') : DW P ops cls Q ds (i :: l) t M := by
  have hput : ∀ (o : Oper) (x : AV), (AF.put ⟨t, ds⟩ o.dst x).t = (match o.dst with | some d => (d, x) :: t | none => t) := by
    intro o x
    cases o.dst <;> rfl
  unfold stepA at hs
  split at hs
  case h_1 => cases hs
  rename_i o hi
  split at hs
  case h_1 => cases hs
  · rename_i hw
    simp only [Option.some.injEq, Prod.mk.injEq] at hs
    obtain ⟨rfl, rfl⟩ := hs
    refine ⟨?_⟩
    unfold DWr
    simp only [hi, hw]
    rw [hput]
    exact h.run
  · rename_i hw
    split at hs
    · rename_i x hx
      have hk : DW P ops cls Q ds l (AF.put ⟨t, ds⟩ o.dst x).t M := by
        rw [hput]
        cases hd : o.dst <;> rw [hd] at hs <;> cases hs <;> exact h
      exact DW_run hi hw (SC.of_P (stepP3_sound hT.1 hT.2 (forceP_spec hx)) hk)
    · split at hs
      · rename_i x hx
        have hk : DW P ops cls Q ds l (AF.put ⟨t, ds⟩ o.dst x).t M := by
          rw [hput]
          cases hd : o.dst <;> rw [hd] at hs <;> cases hs <;> exact h
        split at hx
        · rename_i hc
          exact DW_run hi hw (SC.of_R hc (stepR2_sound hT.1 (forceP_spec hx)) hk)
        · cases hx
      · split at hs
        · rename_i x N hx
          have hk : DW P ops cls Q ds l (AF.put ⟨t, ds⟩ o.dst x).t N := by
            rw [hput]
            cases hd : o.dst <;> rw [hd] at hs <;> cases hs <;> exact h
          split at hx
          · rename_i hc
            exact DW_run hi hw (SC.of_E hc (stepE_sound hT.1 (forceE_spec hx)) hk)
          · cases hx
        · cases hs

end Go.Ab
