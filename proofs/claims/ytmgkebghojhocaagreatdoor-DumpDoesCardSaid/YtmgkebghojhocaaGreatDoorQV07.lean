/- Parts of the proof, one behind the other: AbB8, AbC4, AbC6, AbD1, AbD2, AbC7, AbC8. No further condition. -/
import Derived.Test.YtmgkebghojhocaaGreatDoorQV06
import Derived.Laws.BytesString
import Derived.Lib.ConvBytes
import Derived.Laws.AppendOwn
import Derived.Recover
import Derived.Scope
import Derived.Laws.Externs
import Derived.Laws.MakeOwn
set_option linter.unusedVariables false
set_option linter.unusedSimpArgs false
/- Steps that only the proof takes: objects forgotten; tokens handed out. -/
set_option linter.unusedVariables false
set_option linter.unusedSimpArgs false
namespace Go.Ab
open Go.RowKit
def cut (μ : Mu) (k : Nat) : Mu := fun id => if id < k then μ id else none
theorem cut_own {μ : Mu} {k b o : Nat} (h : Own (cut μ k) b o) : Own μ b o := by
 obtain ⟨id, h | ⟨e, g, h, he⟩⟩ := h
 ·unfold cut at h
  split at h
  ·exact ⟨id, .inl h⟩
  ·cases h
 ·unfold cut at h
  split at h
  ·exact ⟨id, .inr ⟨e, g, h, he⟩⟩
  ·cases h
theorem cut_free {μ : Mu} {F : Frm} {k b o : Nat} (h : Free μ F b o) : Free (cut μ k) F b o := ⟨h.1, fun ho => h.2 (cut_own ho)⟩
theorem cut_lies {μ : Mu} {k i b : Nat} (h : Lies (cut μ k) i b) : Lies μ i b := by
 rcases h with h | ⟨e, g, h⟩
 ·unfold cut at h
  split at h
  ·exact .inl h
  ·cases h
 ·unfold cut at h
  split at h
  ·exact .inr ⟨e, g, h⟩
  ·cases h
/-- What stands for x stands for y when the objects from k on are forgotten. -/
def SubC (k : Nat) (x y : AV) : Prop := ∀ (μ : Mu) (F : Frm) (w : World) (v : Value), Rep μ F w x v → Rep (cut μ k) F w y v
theorem SubC.of_closed {k : Nat} {x : AV} (h : Closed x) : SubC k x x := fun μ F w v hr => h μ (cut μ k) F F w v (fun _ _ hf => cut_free hf) hr
theorem SubC.sub {k : Nat} {x y z : AV} (h : SubC k x y) (h2 : Sub y z) : SubC k x z := fun μ F w v hr => h2 _ _ _ _ (h μ F w v hr)
theorem SubC.pre {k : Nat} {x y z : AV} (h : Sub x y) (h2 : SubC k y z) : SubC k x z := fun μ F w v hr => h2 _ _ _ _ (h μ F w v hr)
theorem SubC.top {k : Nat} {x : AV} : SubC k x .top := fun _ _ _ v _ => .top v
theorem SubC.ptr {k id off : Nat} (h : decide (id < k) = true) : SubC k (.ptr id off) (.ptr id off) := by
 intro μ F w v hr
 have h' := of_decide_eq_true h
 cases hr with
 | ptr _ _ _ h1 h2 h3 => exact .ptr _ _ _ h1 (by simp [cut, h', h2]) (fun b hb => h3 b (by simpa [cut, h'] using hb))
theorem SubC.map {k id : Nat} (h : decide (id < k) = true) : SubC k (.map id) (.map id) := by
 intro μ F w v hr
 have h' := of_decide_eq_true h
 cases hr with
 | map _ _ h1 h2 h3 => exact .map _ _ h1 (by simp [cut, h', h2]) (fun b hb => h3 b (by simpa [cut, h'] using hb))
theorem SubC.tok {k id g sz : Nat} {xs : List AV} (h : decide (id < k) = true) (hc : ∀ x, x ∈ xs → (∀ c, c ∈ x.cells → Closed c)) : SubC k (.sl sz xs (.tok id g)) (.sl sz xs (.tok id g)) := by
 intro μ F w v hr
 have h' := of_decide_eq_true h
 obtain ⟨A, cap, ad, vals, rfl, h1, h2, h3, h4, h5, h6, h7⟩ := hr.sl_inv
 refine .sl _ _ _ _ _ ad vals h1 h2 h3 h4 (fun i x j c hx hj => ⟨(h5 i x j c hx hj).1, cut_free (h5 i x j c hx hj).2⟩)
  (fun i x j c hx hj => hc x (List.mem_of_getElem? hx) c (List.mem_of_getElem? hj) μ _ F F w _ (fun _ _ hf => cut_free hf) (h6 i x j c hx hj)) ?_
 rcases h7 with h7 | ⟨p, g', h7, h8, h9⟩
 ·exact .inl (by simp [cut, h', h7])
 ·exact .inr ⟨p, g', by simp [cut, h', h7], h8, h9⟩
theorem SubC.fn {k : Nat} {g : Fn} {l1 l2 : List AV} (h1 : ∀ x, x ∈ l1 → SubC k x x) (h2 : ∀ x, x ∈ l2 → SubC k x x) : SubC k (.fn g l1 l2) (.fn g l1 l2) := by
 intro μ F w v h
 obtain ⟨c1, c2, rfl, g1, g2, g3, g4⟩ := h.fn_inv
 exact .fn _ _ _ _ _ g1 g2 (fun i x u hx hu => h1 x (List.mem_of_getElem? hx) μ F w u (g3 i x u hx hu)) (fun i x u hx hu => h2 x (List.mem_of_getElem? hx) μ F w u (g4 i x u hx hu))
theorem SubC.agg {k : Nat} {l : List AV} (hl : ∀ x, x ∈ l → SubC k x x) : SubC k (.agg l) (.agg l) := by
 intro μ F w v h
 obtain ⟨c, rfl, h1, h2, h3⟩ := h.agg_inv
 exact .agg _ _ h1 (fun i x u hx hu => hl x (List.mem_of_getElem? hx) μ F w u (h2 i x u hx hu)) h3
theorem Sub.untag {sz : Nat} {xs : List AV} {t : Tag} : Sub (.sl sz xs t) (.sl sz xs .none) := fun _ _ _ _ h => rep_untag h
/-- An empty slice is one of any elements. -/
theorem Sub.empty {sz sz' : Nat} {t : Tag} (ht : t = .none ∨ t = .full) : Sub (.sl sz [] t) (.sl sz' [] t) := by
 intro μ F w v h
 obtain ⟨A, cap, ad, vals, rfl, h1, h2, h3, h4, h5, h6, h7⟩ := h.sl_inv
 refine .sl _ [] _ _ _ ad vals (by simp) h2 (by simp) (by simp) (by simp) (by simp) ?_
 rcases ht with rfl | rfl
 ·trivial
 ·exact h7
def SubsC (k : Nat) (f : AF) : List (Nat × AV) → Prop
 | [] => True
 | (i, x) :: r => SubC k (f.get i) x ∧ SubsC k f r
theorem subsC_get {k : Nat} {f : AF} : ∀ {l : List (Nat × AV)} {d : List ADef}, SubsC k f l → ∀ t, SubC k (f.get t) (AF.get ⟨l, d⟩ t)
 | [], d, _, t => SubC.top
 | (i, x) :: r, d, h, t => by
  by_cases e : t = i
  ·subst e
   have : AF.get ⟨(t, x) :: r, d⟩ t = x := by simp [AF.get, lookup]
   rw [this]; exact h.1
  ·have : AF.get ⟨(i, x) :: r, d⟩ t = AF.get ⟨r, d⟩ t := by simp [AF.get, lookup, e]
   rw [this]; exact subsC_get h.2 t
def ObjC (k : Nat) : Option AObj → AObj → Prop
 | some (.cells l), .cells m => l.length = m.length ∧ ∀ (i : Nat) (x y : AV), l[i]? = some x → m[i]? = some y → SubC k x y
 | some (.spare g), .spare g' => g = g'
 | some (.raw g o vs t), .raw g' o' vs' t' => g = g' ∧ o = o' ∧ vs = vs' ∧ ∀ i, SubC k ((lookup t i).getD .top) ((lookup t' i).getD .top)
 | _, _ => False
def ObjsC (k : Nat) (M : Mem) : List (Nat × AObj) → Prop
 | [] => True
 | (i, o) :: r => i < k ∧ ObjC k (M.get i) o ∧ ObjsC k M r
theorem objsC_get {k : Nat} {M : Mem} : ∀ {l : List (Nat × AObj)} {i : Nat} {o : AObj}, ObjsC k M l → lookup l i = some o → i < k ∧ ObjC k (M.get i) o
 | [], i, o, _, h => by cases h
 | (j, p) :: r, i, o, h, hl => by
  simp only [lookup] at hl
  split at hl
  ·rename_i e
   cases hl
   subst e
   exact ⟨h.1, h.2.1⟩
  ·exact objsC_get h.2.2 hl
theorem gam_cut {μ : Mu} {F : Frm} {M : Mem} {w : World} (h : Gam μ F M w) {k : Nat} (hk : k ≤ M.next) {l : List (Nat × AObj)} (ho : ObjsC k M l) : Gam (cut μ k) F ⟨k, l⟩ w := by
 refine ⟨?_, ?_, ?_, ?_, ?_, ?_, ?_⟩
 ·intro id
  unfold cut
  split
  ·rename_i hlt
   exact ⟨fun _ => hlt, fun _ => (h.dom id).2 (Nat.lt_of_lt_of_le hlt hk)⟩
  ·rename_i hlt
   exact ⟨fun e => absurd rfl e, fun e => absurd e hlt⟩
 ·intro id m hm
  obtain ⟨hlt, hob⟩ := objsC_get ho hm
  cases hM : M.get id with
  | none => rw [hM] at hob; exact hob.elim
  | some o =>
   rw [hM] at hob
   cases o with
   | spare g => exact hob.elim
   | raw g o vs t => exact hob.elim
   | cells l0 =>
    obtain ⟨b, c, ty, h1, h2, h3, h4, h5⟩ := h.obj id l0 hM
    refine ⟨b, c, ty, by simp [cut, hlt, h1], h2, by rw [h3]; exact hob.1, h4, ?_⟩
    intro i x v hx hv
    have hi : i < l0.length := by rw [hob.1]; exact (List.getElem?_eq_some_iff.1 hx).1
    exact hob.2 i _ x (List.getElem?_eq_getElem hi) hx μ F w v (h5 i _ v (List.getElem?_eq_getElem hi) hv)
 ·intro id g hm
  obtain ⟨hlt, hob⟩ := objsC_get ho hm
  cases hM : M.get id with
  | none => rw [hM] at hob; exact hob.elim
  | some o =>
   rw [hM] at hob
   cases o with
   | cells l0 => exact hob.elim
   | raw g o vs t => exact hob.elim
   | spare g' =>
    have : g' = g := hob
    subst this
    obtain ⟨p, h1, h2⟩ := h.spare id g' hM
    exact ⟨p, by simp [cut, hlt, h1], h2⟩
 ·intro i j b hi hj
  exact h.inj i j b (cut_lies hi) (cut_lies hj)
 ·intro b o ho'
  exact h.frm b o (cut_own ho')
 ·exact ⟨fun b o ho' => h.fit.own b o (cut_own ho'), h.fit.frm⟩
 ·intro id gg o vs t hm
  obtain ⟨hlt, hob⟩ := objsC_get ho hm
  cases hM : M.get id with
  | none => rw [hM] at hob; exact hob.elim
  | some q =>
   rw [hM] at hob
   cases q with
   | cells l0 => exact hob.elim
   | spare g => exact hob.elim
   | raw g0 o0 vs0 t0 =>
    obtain ⟨h0, h1, h2, h3⟩ : g0 = gg ∧ o0 = o ∧ vs0 = vs ∧ ∀ i, SubC k ((lookup t0 i).getD .top) ((lookup t i).getD .top) := hob
    subst h0
    subst h1
    subst h2
    obtain ⟨b, h4, h5, h6⟩ := h.raw id _ _ _ _ hM
    exact ⟨b, h4.congr (by simp [cut, hlt]), h5, fun i => h3 i μ F w _ (h6 i)⟩
theorem evo_cut {w0 w : World} {μ0 μ : Mu} (h : Evo w0 μ0 w μ) {k : Nat} (hk : ∀ id, μ0 id ≠ none → id < k) : Evo w0 μ0 w (cut μ k) := by
 refine ⟨h.os, h.tape, h.output, h.size, ?_, h.same, h.part, fun b o hb ho => h.own b o hb (cut_own ho)⟩
 intro id hid
 have := hk id hid
 simp only [cut, this, if_true]
 exact h.mu id hid
/-- The objects from k on are forgotten. -/
theorem Joint.cut {n0 : Nat} {f : AF} {M : Mem} {k : Nat} (hk : n0 ≤ k) (hk2 : k ≤ M.next) {t : List (Nat × AV)} {l : List (Nat × AObj)} (hd : f.d = []) (ht : SubsC k f t) (ho : ObjsC k M l) : Joint n0 f M ⟨t, []⟩ ⟨k, l⟩ := by
 intro μ0 μ F w0 w n a hn he hg hr
 refine ⟨Go.Ab.cut μ k, evo_cut he (fun id h => Nat.lt_of_lt_of_le (hn id h) hk), gam_cut hg hk2 ho, hr.size, fun i => subsC_get ht i μ F w _ (hr.tmps i), ?_, fun p hp => by cases hp⟩
 have := hr.defs
 rw [hd] at this
 show DefRep _ _ _ [] a.defers
 rw [defrep_nil this]
 trivial
theorem rep_tok {μ : Mu} {F : Frm} {M : Mem} {w : World} (hg : Gam μ F M w) : Evo w μ w (μ.put M.next (.spare none 0)) ∧ Gam (μ.put M.next (.spare none 0)) F (M.push (.spare 0)) w ∧
  ∀ (sz sz' : Nat) (xs : List AV) (v : Value), (sz' = sz ∨ xs = []) → Rep μ F w (.sl sz xs .full) v → Rep (μ.put M.next (.spare none 0)) F w (.sl sz' xs (.tok M.next 0)) v := by
 obtain ⟨hev, hG⟩ := gam_room hg (w' := w) (p := none) rfl rfl rfl (Nat.le_refl _) (id := M.next) (g := 0) (.inl ⟨rfl, fun _ _ => rfl⟩) (by intro b e h; cases h)
 refine ⟨hev, hG _ (by simp [Mem.push]) (fun i => Mem.get_push M _ i), ?_⟩
 intro sz sz' xs v hsx hr
 have hr' := hr.evo hev
 obtain ⟨A', cap', b, o, vals, hv, hsz, hcap, hA, hat, htag⟩ := hr'.sl_flat
 subst hv
 refine rep_sl (b := b) (o := o) (vals := vals) ?_ hcap hA hat (.inr ⟨none, 0, by simp [Mu.put], Nat.le_refl _, fun _ => htag⟩)
 rcases hsx with rfl | rfl
 ·exact hsz
 ·simp
/-- A slice that is full gets a token: one that the frame holds. -/
theorem Joint.tok {n0 : Nat} {t : List (Nat × AV)} {ds : List ADef} {M : Mem} (i : Nat) {sz : Nat} {xs : List AV} (h : AF.get ⟨t, ds⟩ i = .sl sz xs .full) {sz' : Nat} (hs : sz' = sz ∨ xs = []) :
  Joint n0 ⟨t, ds⟩ M ⟨(i, .sl sz' xs (.tok M.next 0)) :: t, ds⟩ (M.push (.spare 0)) := by
 intro μ0 μ F w0 w n a hn he hg hr
 obtain ⟨hev, hG, hrep⟩ := rep_tok hg
 refine ⟨_, he.trans hev, hG, hr.size, ?_, hr.defs.evo hev, fun p hp => (hr.kept p hp).evo hev⟩
 intro j
 by_cases e : j = i
 ·subst e
  have h1 := hr.tmps j
  rw [h] at h1
  have : AF.get ⟨(j, .sl sz' xs (.tok M.next 0)) :: t, ds⟩ j = .sl sz' xs (.tok M.next 0) := by simp [AF.get, lookup]
  rw [this]
  exact hrep sz sz' xs _ hs h1
 ·have : AF.get ⟨(i, .sl sz' xs (.tok M.next 0)) :: t, ds⟩ j = AF.get ⟨t, ds⟩ j := by simp [AF.get, lookup, e]
  rw [this]
  exact (hr.tmps j).evo hev
/-- One that an object holds. -/
theorem Joint.tokM {n0 : Nat} {f : AF} {M : Mem} (id i : Nat) {l : List AV} (hM : M.get id = some (.cells l)) {sz : Nat} {xs : List AV} (h : l[i]? = some (.sl sz xs .full)) {sz' : Nat} (hs : sz' = sz ∨ xs = []) :
  Joint n0 f M f ((M.push (.spare 0)).set id (.cells (l.set i (.sl sz' xs (.tok M.next 0))))) := by
 intro μ0 μ F w0 w n a hn he hg hr
 obtain ⟨hev, hG, hrep⟩ := rep_tok hg
 refine ⟨_, he.trans hev, ?_, hr.evo hev⟩
 have hne : id ≠ M.next := by
  rintro rfl
  obtain ⟨b, c, ty, h1, _⟩ := hg.obj _ _ hM
  have := gam_next hg
  rw [this] at h1
  cases h1
 refine ⟨?_, ?_, ?_, hG.inj, hG.frm, hG.fit, ?_⟩
 ·intro j
  exact hG.dom j
 ·intro j m hm
  rw [Mem.get_set] at hm
  split at hm
  ·rename_i e
   cases hm
   subst e
   obtain ⟨b, c, ty, h1, h2, h3, h4, h5⟩ := hg.obj j l hM
   refine ⟨b, c, ty, by simp [Mu.put, hne, h1], h2, by rw [List.length_set]; exact h3, h4, ?_⟩
   intro q x v hx hv
   rw [List.getElem?_set] at hx
   split at hx
   ·rename_i e
    subst e
    split at hx
    ·cases hx
     exact hrep sz sz' xs v hs (h5 i _ v h hv)
    ·cases hx
   ·exact (h5 q x v hx hv).evo hev
  ·exact hG.obj j m hm
 ·intro j g hm
  rw [Mem.get_set] at hm
  split at hm
  ·cases hm
  ·exact hG.spare j g hm
 ·intro j gg o vs t hm
  rw [Mem.get_set] at hm
  split at hm
  ·cases hm
  ·exact hG.raw j gg o vs t hm
/-- A contract whose end is another one, by steps that only the proof takes. -/
theorem ACalls.joint {P : Program} {g : FuncId} {args : List AV} {M : Mem} {R R' : AEnd → Mem → Prop} (h : ACalls P g args M R)
  (hr : ∀ x M', R (.ret x) M' → ∃ y N, R' (.ret y) N ∧ Joint M.next ⟨[(0, x)], []⟩ M' ⟨[(0, y)], []⟩ N)
  (hp : ∀ x M', R (.pan x) M' → ∃ y N, R' (.pan y) N ∧ Joint M.next ⟨[(0, x)], []⟩ M' ⟨[(0, y)], []⟩ N) : ACalls P g args M R' := by
 refine ⟨h.1, fun μ F w vs hg hv => (h.2 μ F w vs hg hv).mono ?_⟩
 rintro e w' ⟨μ', M', h1, h2, h3⟩
 have hdom : ∀ id, μ id ≠ none → id < M.next := fun id h => (hg.dom id).1 h
 have one : ∀ (x : AV) (v : Value), Rep μ' F w' x v → RepF μ' F w' 1 ⟨[(0, x)], []⟩ { tmps := #[v], defers := [] } := by
  intro x v hx
  refine ⟨rfl, ?_, trivial, fun p hp => by cases hp⟩
  intro t
  cases t with
  | zero => simpa [AF.get, lookup] using hx
  | succ t => exact .top _
 cases e with
 | returned v =>
  obtain ⟨x, h4, h5⟩ := h3
  obtain ⟨y, N, k1, k2⟩ := hr x M' h5
  obtain ⟨μ2, j1, j2, j3⟩ := k2 μ μ' F w w' 1 _ hdom h1 h2 (one x v h4)
  have := j3.tmps 0
  exact ⟨μ2, N, j1, j2, y, by simpa [AF.get, lookup] using this, k1⟩
 | panicked ch =>
  obtain ⟨x, v, h4, h5, h6⟩ := h3
  obtain ⟨y, N, k1, k2⟩ := hp x M' h6
  obtain ⟨μ2, j1, j2, j3⟩ := k2 μ μ' F w w' 1 _ hdom h1 h2 (one x v h5)
  have := j3.tmps 0
  exact ⟨μ2, N, j1, j2, y, v, h4, by simpa [AF.get, lookup] using this, k1⟩
 | outgrown => exact h3.elim
/-- Arguments of which less is known. -/
theorem ACalls.sub {P : Program} {g : FuncId} {args args' : List AV} {M : Mem} {R : AEnd → Mem → Prop} (h : ACalls P g args' M R) (hl : args.length = args'.length) (hs : ∀ (i : Nat) (x y : AV), args[i]? = some x → args'[i]? = some y → Sub x y) : ACalls P g args M R := by
 refine ⟨h.1, fun μ F w vs hg hv => h.2 μ F w vs hg ⟨by rw [hv.1, hl], fun i y v hy hv' => ?_⟩⟩
 have hi : i < args.length := by rw [hl]; exact (List.getElem?_eq_some_iff.1 hy).1
 exact hs i _ y (List.getElem?_eq_getElem hi) hy _ _ _ _ (hv.2 i _ v (List.getElem?_eq_getElem hi) hv')
end Go.Ab
/- One rule for all steps that need no help. -/
set_option linter.unusedVariables false
set_option linter.unusedSimpArgs false
namespace Go.Ab
open Go.RowKit
def stepA (τ : Tab) (es : List TypeId) (ops : Array Oper) (cls : Nat → Cls) (ds : List ADef) (i : Nat) (t : List (Nat × AV)) (M : Mem) : Option (List (Nat × AV) × Mem) :=
 match ops[i]? with
 | none => none
 | some o =>
  match wantedA ops ⟨t, ds⟩ o with
  | none => none
  | some false => some (match o.dst with | some d => (d, .tup []) :: t | none => t, M)
  | some true =>
   match forceP (stepP3 τ es (AF.ev ⟨t, ds⟩) o.op) with
   | some x => (match o.dst with | some d => some ((d, x) :: t, M) | none => some (t, M))
   | none =>
    match (match notP (cls i) with | true => forceP (stepR2 τ (AF.ev ⟨t, ds⟩) M o.op) | false => none) with
    | some x => (match o.dst with | some d => some ((d, x) :: t, M) | none => some (t, M))
    | none =>
     match (match isE (cls i) with | true => forceE (stepE τ (AF.ev ⟨t, ds⟩) M o.op) | false => none) with
     | some (x, N) => (match o.dst with | some d => some ((d, x) :: t, N) | none => some (t, N))
     | none => none
theorem DW_A {P : Program} {τ : Tab} {es : List TypeId} (hT : TabOK P τ ∧ EqTab P es) {ops : Array Oper} {cls : Nat → Cls} {Q : AX → AF → Mem → Prop} {ds : List ADef} {l : List Nat} {i : Nat} {t t' : List (Nat × AV)} {M M' : Mem}
  (hs : stepA τ es ops cls ds i t M = some (t', M')) (h : DW P ops cls Q ds l t' M') : DW P ops cls Q ds (i :: l) t M := by
 have hput : ∀ (o : Oper) (x : AV), (AF.put ⟨t, ds⟩ o.dst x).t = (match o.dst with | some d => (d, x) :: t | none => t) := by
  intro o x
  cases o.dst <;> rfl
 unfold stepA at hs
 split at hs
 case h_1 => cases hs
 rename_i o hi
 split at hs
 case h_1 => cases hs
 ·rename_i hw
  simp only [Option.some.injEq, Prod.mk.injEq] at hs
  obtain ⟨rfl, rfl⟩ := hs
  refine ⟨?_⟩
  unfold DWr
  simp only [hi, hw]
  rw [hput]
  exact h.run
 ·rename_i hw
  split at hs
  ·rename_i x hx
   have hk : DW P ops cls Q ds l (AF.put ⟨t, ds⟩ o.dst x).t M := by
    rw [hput]
    cases hd : o.dst <;> rw [hd] at hs <;> cases hs <;> exact h
   exact DW_run hi hw (SC.of_P (stepP3_sound hT.1 hT.2 (forceP_spec hx)) hk)
  ·split at hs
   ·rename_i x hx
    have hk : DW P ops cls Q ds l (AF.put ⟨t, ds⟩ o.dst x).t M := by
     rw [hput]
     cases hd : o.dst <;> rw [hd] at hs <;> cases hs <;> exact h
    split at hx
    ·rename_i hc
     exact DW_run hi hw (SC.of_R hc (stepR2_sound hT.1 (forceP_spec hx)) hk)
    ·cases hx
   ·split at hs
    ·rename_i x N hx
     have hk : DW P ops cls Q ds l (AF.put ⟨t, ds⟩ o.dst x).t N := by
      rw [hput]
      cases hd : o.dst <;> rw [hd] at hs <;> cases hs <;> exact h
     split at hx
     ·rename_i hc
      exact DW_run hi hw (SC.of_E hc (stepE_sound hT.1 (forceE_spec hx)) hk)
     ·cases hx
    ·cases hs
end Go.Ab
/- Bytes to strings, strings to bytes. -/
set_option linter.unusedVariables false
set_option linter.unusedSimpArgs false
namespace Go.Ab
open Go.RowKit
theorem foldl_bytes : ∀ (l : List UInt8) (acc : ByteArray), (l.map fun c => (c.toNat : Int)).foldl (fun r n => r.push (UInt8.ofNat n.toNat)) acc = ⟨(acc.data.toList ++ l).toArray⟩
 | [], acc => by simp
 | c :: l, acc => by
  rw [List.map_cons, List.foldl_cons, foldl_bytes l]
  simp [ByteArray.push]
theorem opP_b2s {P : Program} {τ : Tab} (hτ : TabOK P τ) {s d e : TypeId} {si di ei : TI} (hs : lookup τ s = some si) (hks : si.k = .slice e) (he : lookup τ e = some ei) (hke : ei.k = .int .u8) (hd : lookup τ d = some di) (hkd : di.k = .str)
  {x : Operand} {ty : TypeId} {ρ : Operand → AV} {l : List UInt8} {tag : Tag} (hx : ρ x = .sl 1 (l.map byteAV) tag) : OpP P (.convert s d x) ty ρ (.str l) := by
 refine opP_of_same ?_
 intro μ F w ρc o ho ht hr
 have h1 := hr x (by simp [Op.operands])
 rw [hx] at h1
 obtain ⟨A, cap, ad, vals, hv, hsz, hcap, hA, hone, hcell, hrep, _⟩ := h1.sl_inv
 obtain ⟨fs, ds, zs, HS⟩ := TI.spec hτ hs
 obtain ⟨fd, dd, zd, HD⟩ := TI.spec hτ hd
 obtain ⟨fe, de, ze, HE⟩ := TI.spec hτ he
 have f1 := HS.fits
 have f2 := HD.fits
 have f3 := HE.fits
 rw [hks] at f1
 rw [hkd] at f2
 rw [hke] at f3
 cases ds <;> simp [TK.fits] at f1
 cases dd <;> simp [TK.fits] at f2
 cases de <;> simp [TK.fits] at f3
 subst f1
 subst f3
 have hu1 := HS.und
 have hu2 := HD.und
 have hu3 := HE.und
 have hlen : (l.map byteAV).length = l.length := by simp
 rw [hlen] at hv hA
 refine ⟨.string ⟨l.toArray⟩, ?_, .str l⟩
 have hconv := run_convert_bytes_string w s d e A l.length cap hu1 hu3 hu2
 have hb2s : (Conv.bytesToString (.slice A l.length cap)).run P w = .ok (.string ⟨l.toArray⟩) w := by
  by_cases h0 : l = []
  ·subst h0
   cases A with
   | none => simp [Conv.bytesToString]; rfl
   | some a =>
    have := run_bytesToString (P := P) w a 0 cap [] (by simp [loadCells, loadCellsFrom])
    exact this
  ·have hpos : 0 < l.length := List.length_pos_iff.2 h0
   obtain ⟨rfl, hsp⟩ := hA hpos
   obtain ⟨ab, ao, ags⟩ := ad
   simp only at hsp
   subst hsp
   have hl := run_loadCells (P := P) w ⟨ab, ao, none⟩ l.length (fun j => .int .u8 ((l.getD j 0).toNat)) (fun j hj => by
    have e1 : (l.map byteAV)[j]? = some (byteAV (l.getD j 0)) := by simp [List.getD, hj]
    have hc := (hcell j _ 0 _ e1 rfl).1
    have hr2 := hrep j _ 0 _ e1 rfl
    rw [Addr.add_lit]
    simp only [Nat.mul_one, Nat.add_zero] at hc hr2
    rw [hc]
    generalize vals j = u at hr2
    cases hr2
    rfl)
   have hl2 : (loadCells ⟨ab, ao, none⟩ l.length).run P w = .ok ((l.map fun c => (c.toNat : Int)).map (Value.int .u8)).toArray w := by
    rw [hl]
    congr 2
    apply List.ext_getElem?
    intro i
    by_cases hi : i < l.length
    ·simp [hi, List.getD]
    ·simp [hi, List.getElem?_eq_none (Nat.le_of_not_lt hi)]
   have := run_bytesToString (P := P) w ⟨ab, ao, none⟩ l.length cap _ hl2
   rw [foldl_bytes] at this
   simpa using this
 rw [hb2s] at hconv
 simp [execOp, ho, hv, hconv]
/-- A new row of bytes, its owner's. -/
theorem opE_s2b {P : Program} {τ : Tab} (hτ : TabOK P τ) {s d e : TypeId} {si di ei : TI} (hs : lookup τ s = some si) (hd : lookup τ d = some di) (hkd : di.k = .slice e) (he : lookup τ e = some ei) (hke : ei.k = .int .u8)
  {x : Operand} {ty : TypeId} {ρ : Operand → AV} {M : Mem} {l : List UInt8} (hx : ρ x = .str l) : OpE P (.convert s d x) ty ρ M (.sl 1 (l.map byteAV) (.tok M.next 0)) (M.push (.spare 0)) := by
 intro μ F w ρc o hg ho ht hr
 have h1 := hr x (by simp [Op.operands])
 rw [hx] at h1
 generalize hvx : ρc x = vx at h1
 cases h1
 obtain ⟨fs, ds, zs, HS⟩ := TI.spec hτ hs
 obtain ⟨fd, dd, zd, HD⟩ := TI.spec hτ hd
 obtain ⟨fe, de, ze, HE⟩ := TI.spec hτ he
 have f2 := HD.fits
 have f3 := HE.fits
 rw [hkd] at f2
 rw [hke] at f3
 cases dd <;> simp [TK.fits] at f2
 cases de <;> simp [TK.fits] at f3
 subst f2
 subst f3
 have hconv := Lib.run_convert_string_bytes (P := P) w s d e ⟨l.toArray⟩ HS.und HD.und HE.und
 generalize hw' : Lib.bytesWorld w e ⟨l.toArray⟩ = w' at hconv
 have hnew := Lib.bytesWorld_at_new w e ⟨l.toArray⟩
 rw [hw'] at hnew
 have hsize : w'.heap.size = w.heap.size + 1 := by rw [← hw']; exact Lib.bytesWorld_size _ _ _
 have hold : ∀ k, k < w.heap.size → w'.heap[k]? = w.heap[k]? := fun k hk => by rw [← hw']; exact Lib.bytesWorld_at_old _ _ _ _ hk
 have hcs : (Lib.bytesCells w e ⟨l.toArray⟩).size = l.length + (grownCap w l.length 0 e - l.length) := by simp [Lib.bytesCells, ByteArray.size]
 have hos : w'.os = w.os ∧ w'.tape = w.tape ∧ w'.output = w.output := by rw [← hw']; exact ⟨rfl, rfl, rfl⟩
 obtain ⟨hev, hG⟩ := gam_room hg (w' := w') (p := some (w.heap.size, l.length)) hos.1 hos.2.1 hos.2.2 (by omega) (id := M.next) (g := 0) (.inl ⟨rfl, hold⟩) (by
  intro b n h
  cases h
  refine ⟨⟨_, _, _, hnew, by omega, ?_⟩, .inl (Nat.le_refl _)⟩
  intro q hq
  simp only
  omega)
 have hsz : (⟨l.toArray⟩ : ByteArray).size = l.length := by simp [ByteArray.size]
 rw [hsz] at hconv
 refine ⟨_, .value (.slice (some ⟨w.heap.size, 0, none⟩) l.length (grownCap w l.length 0 e)), .slice (some ⟨w.heap.size, 0, none⟩) l.length (grownCap w l.length 0 e), w', ?_, .inl rfl, hev, hG _ (by simp [Mem.push]) (fun i => Mem.get_push M _ i), ?_⟩
 ·simp [execOp, ho, hvx, hconv]
 ·have hle : l.length ≤ grownCap w l.length 0 e := grownCap_ge w l.length 0 e
  have hlm : (l.map byteAV).length = l.length := by simp
  have hgoal := rep_sl (μ := μ.put M.next (.spare (some (w.heap.size, l.length)) 0)) (F := F) (w := w') (xs := l.map byteAV) (t := .tok M.next 0) (A := some ⟨w.heap.size, 0, none⟩) (cap := grownCap w l.length 0 e) (sz := 1) (b := w.heap.size) (o := 0)
   (vals := fun p => .int .u8 ((l.getD p 0).toNat)) (by
    intro y hy
    obtain ⟨c, _, rfl⟩ := List.mem_map.1 hy
    rfl) (by rw [hlm]; exact hle) (fun _ => rfl) (by
    intro p c hc
    rw [flat_bytes] at hc
    have hp : p < l.length := by
     have := (List.getElem?_eq_some_iff.1 hc).1
     simpa using this
    have hcell : w'.cell? ⟨w.heap.size, p, none⟩ = some (.int .u8 ((l.getD p 0).toNat)) := by
     have := Lib.bytesWorld_cell w e ⟨l.toArray⟩ p (by rw [hsz]; exact hp)
     rw [hw'] at this
     simpa using this
    refine ⟨rfl, by rw [Nat.zero_add]; exact hcell, ⟨?_, ?_⟩, ?_⟩
    ·intro hF
     have := hg.fit.frm _ _ hF
     omega
    ·rintro ⟨i, h | ⟨q, g, h, hq⟩⟩
     ·unfold Mu.put at h
      split at h
      ·cases h
      ·have := hg.fit.own w.heap.size 0 ⟨i, .inl h⟩
       omega
     ·unfold Mu.put at h
      split at h
      ·cases h
       omega
      ·have := hg.fit.own w.heap.size q ⟨i, .inr ⟨q, g, h, Nat.le_refl _⟩⟩
       omega
    ·have : c = byteAV (l.getD p 0) := by
      simp only [List.getElem?_map, List.getElem?_eq_getElem hp, Option.map_some, Option.some.injEq] at hc
      rw [← hc]
      simp [List.getD, hp]
     subst this
     exact .int _ _) (.inr ⟨some (w.heap.size, l.length), 0, by simp [Mu.put], Nat.le_refl _, fun _ => ⟨rfl, by rw [hlm, Nat.mul_one], _, _, _, hnew, by rw [hcs, Nat.mul_one]; omega⟩⟩)
  rw [hlm] at hgoal
  exact hgoal
section
variable {P : Program} {τ : Tab} {ops : Array Oper} {cls : Nat → Cls} {Q : AX → AF → Mem → Prop} {ds : List ADef} {l : List Nat} {i : Nat} {o : Oper} {t : List (Nat × AV)} {M : Mem}
/-- string(b). -/
theorem DW_b2s (hτ : TabOK P τ) {d : Nat} (hi : ops[i]? = some o) (hw : wantedA ops ⟨t, ds⟩ o = some true) (hd : o.dst = some d) {s e dt : TypeId} {X : Operand} (ho : o.op = .convert s dt X) {si di ei : TI} (hs : lookup τ s = some si) (hks : si.k = .slice e)
  (he : lookup τ e = some ei) (hke : ei.k = .int .u8) (hdt : lookup τ dt = some di) (hkd : di.k = .str) {bs : List UInt8} {xs : List AV} {tag : Tag} (hX : AF.ev ⟨t, ds⟩ X = .sl 1 xs tag) (hbs : xs = bs.map byteAV)
  (h : DW P ops cls Q ds l ((d, .str bs) :: t) M) : DW P ops cls Q ds (i :: l) t M :=
 DW_ofP hi hw hd (by rw [ho]; exact opP_b2s hτ hs hks he hke hdt hkd (by rw [hX, hbs])) h
/-- []byte(s). -/
theorem DW_s2b (hτ : TabOK P τ) {d : Nat} (hi : ops[i]? = some o) (hw : wantedA ops ⟨t, ds⟩ o = some true) (hd : o.dst = some d) {s e dt : TypeId} {X : Operand} (ho : o.op = .convert s dt X) {si di ei : TI} (hs : lookup τ s = some si)
  (hdt : lookup τ dt = some di) (hkd : di.k = .slice e) (he : lookup τ e = some ei) (hke : ei.k = .int .u8) {bs : List UInt8} (hX : AF.ev ⟨t, ds⟩ X = .str bs) (hc : isE (cls i) = true)
  (h : DW P ops cls Q ds l ((d, .sl 1 (bs.map byteAV) (.tok M.next 0)) :: t) (M.push (.spare 0))) : DW P ops cls Q ds (i :: l) t M :=
 DW_ofE hi hw hd hc (by rw [ho]; exact opE_s2b hτ hs hdt hkd he hke hX) h
end
end Go.Ab
/- Labels; type assertions; deferred calls, and what they catch. -/
set_option linter.unusedVariables false
set_option linter.unusedSimpArgs false
namespace Go.Ab
open Go.RowKit
section
variable {P : Program} {n : Nat} {Q : AX → AF → Mem → Prop} {f : AF} {M : Mem}
theorem W_scope {c : Code} (h : W none P n c Q f M) : W none P n (.scope c) Q f M := by
 refine ⟨fun μ F w a hg hr => (wpIn_wide (n := 9)).2 (wp_scope_straight (wp_mono (wp_of0 (h.run μ F w a hg hr)) ?_))⟩
 rintro e a' w' ⟨μ', f', M', x, h1, h2, h3, h4, h5⟩
 cases e with
 | goto l => cases x <;> exact h4.elim
 | outgrown => cases x <;> exact h4.elim
 | _ => exact ⟨μ', f', M', x, h1, h2, h3, h4, h5⟩
theorem W_label {r : Option Nat} {l : Nat} (h : Q .normal f M) : W r P n (.label l) Q f M :=
 ⟨fun μ F w a hg hr => wpIn_label ⟨μ, f, M, .normal, Evo.refl _ _, hg, hr, trivial, h⟩⟩
end
def aassert (τ : Tab) (ags : TypeId) (x : AV) : Option AV :=
 match lookup τ ags with
 | some i => if notIface i.k = true ∧ (i.agg = true ∨ i.size = 1) then
   (match x with
   | .iface t v => if t = ags then some (.tup [v, .bool true]) else some (.tup [i.zv, .bool false])
   | .nilIface => some (.tup [i.zv, .bool false])
   | _ => none)
  else none
 | none => none
theorem rep_tup2 {μ : Mu} {F : Frm} {w : World} {x y : AV} {u v : Value} (h1 : Rep μ F w x u) (h2 : Rep μ F w y v) : Rep μ F w (.tup [x, y]) (.tuple #[u, v]) := by
 have h := (RepL.cons h1).app (RepL.cons h2)
 exact .tup _ _ rfl fun i a b ha hb => h.2 i a b ha (by simpa using hb)
theorem opP_assert {P : Program} {τ : Tab} (hτ : TabOK P τ) {ags xt : TypeId} {x : Operand} {ty : TypeId} {ρ : Operand → AV} {r : AV} (h : aassert τ ags (ρ x) = some r) : OpP P (.typeAssert x xt ags true) ty ρ r := by
 refine opP_of_same ?_
 intro μ F w ρc o ho ht hr
 have hx := hr x (by simp [Op.operands])
 unfold aassert at h
 split at h
 case h_2 => cases h
 rename_i i hi
 split at h
 case isFalse => cases h
 rename_i hn
 obtain ⟨hn1, hn2⟩ := hn
 obtain ⟨fi, d, z, H⟩ := TI.spec hτ hi
 have hf := H.fits
 have hz : (zeroValue ags).run P w = .ok z w := by simp [zeroValue, typeInfo, H.info, H.zero]
 have hzr := H.zrep hn2 μ F w
 have hd : ∀ m, d ≠ .interface m := by
  intro m e
  subst e
  generalize i.k = kk at hf hn1
  cases kk <;> simp [TK.fits, notIface] at hf hn1
 generalize hv : ρc x = v at hx
 split at h
 ·rename_i t y he
  rw [he] at hx
  cases hx with
  | iface _ _ u hu =>
   split at h
   ·rename_i e
    cases h
    subst e
    refine ⟨.tuple #[u, .bool true], ?_, rep_tup2 hu (.bool _)⟩
    simp only [execOp, ho, hv, Sem.run_bind, Instr.typeAssert, run_underlying H.und, Result.andThen_ok]
    cases d <;> first | exact absurd rfl (hd _) | simp
   ·rename_i e
    cases h
    refine ⟨.tuple #[z, .bool false], ?_, rep_tup2 hzr (.bool _)⟩
    simp only [execOp, ho, hv, Sem.run_bind, Instr.typeAssert, run_underlying H.und, Result.andThen_ok]
    cases d <;> first | exact absurd rfl (hd _) | simp [e, hz]
 ·rename_i he
  rw [he] at hx
  cases hx
  cases h
  refine ⟨.tuple #[z, .bool false], ?_, rep_tup2 hzr (.bool _)⟩
  simp only [execOp, ho, hv, Sem.run_bind, Instr.typeAssert, run_underlying H.und, Result.andThen_ok]
  cases d <;> first | exact absurd rfl (hd _) | simp [hz]
 ·cases h
theorem DW_assert {P : Program} {τ : Tab} (hτ : TabOK P τ) {ops : Array Oper} {cls : Nat → Cls} {Q : AX → AF → Mem → Prop} {ds : List ADef} {l : List Nat} {i : Nat} {o : Oper} {t : List (Nat × AV)} {M : Mem} {d : Nat} (hi : ops[i]? = some o) (hw : wantedA ops ⟨t, ds⟩ o = some true) (hd : o.dst = some d)
  {ags xt : TypeId} {x : Operand} (ho : o.op = .typeAssert x xt ags true) {r : AV} (hr : aassert τ ags (AF.ev ⟨t, ds⟩ x) = some r) (h : DW P ops cls Q ds l ((d, r) :: t) M) : DW P ops cls Q ds (i :: l) t M :=
 DW_ofP hi hw hd (by rw [ho]; exact opP_assert hτ hr) h
theorem WL_defer {P : Program} {n : Nat} {ops : Array Oper} {Q : AX → AF → Mem → Prop} {rest : List Oper} {o : Oper} {f : AF} {M : Mem} (hw : wantedA ops f o = some true) {x : Operand} {ags : Array Operand} {ts : Array TypeId}
  (ho : o.op = .defer { callee := .value x, args := ags, argTypes := ts }) (hd : o.dst = none) {g : FuncId} {fi ca : List AV} (hx : f.ev x = .fn (.func g) fi ca) (kp : List (Nat × AV)) (hk : ∀ p, p ∈ kp → f.get p.1 = p.2)
  (h : WL none P n ops Q rest ⟨f.t, { f := .func g, cap := ca, args := fi ++ ags.toList.map f.ev, keep := kp } :: f.d⟩ M) : WL none P n ops Q (o :: rest) f M := by
 intro μ F w a hg hr Q' hQ
 unfold wpListIn
 rw [wanted_of hr hw, if_pos rfl]
 have hv := hr.ev x
 rw [hx] at hv
 obtain ⟨c1, c2, he, hs1, hs2, h1, h2⟩ := hv.fn_inv
 have hargs : RepL μ F w (ags.toList.map f.ev) (ags.map a.eval) := RepL.map fun y _ => hr.ev y
 have hrun : (execOp a.eval o).run P w = .ok (.defer { target := .fn (.func g) c2, args := c1 ++ ags.map a.eval }) w := by
  simp [execOp, ho, resolve, he, Deferred.ofValue]
 refine ⟨fun _ _ => trivial, ?_⟩
 show o.uponIn (fn0 none) 9 P a _ Q' ((execOp a.eval o).run P w)
 rw [hrun]
 simp only [Oper.uponIn, hd, Act.put]
 refine h μ F w { a with defers := { target := .fn (.func g) c2, args := c1 ++ ags.map a.eval } :: a.defers } hg ⟨hr.size, hr.tmps, ?_, ?_⟩ Q' hQ
 ·show DefRep1 _ _ _ _ _ ∧ DefRep _ _ _ _ _
  exact ⟨⟨fun _ => ⟨c2, rfl, ⟨hs2, h2⟩⟩, RepL.app ⟨hs1, h1⟩ hargs, fun y hy => by cases hy⟩, hr.defs⟩
 intro p hp
 simp only [keepT, List.mem_append] at hp
 rcases hp with hp | hp
 ·have := hr.tmps p.1
  rw [hk p hp] at this
  exact this
 ·exact hr.kept p hp
/-- How a function is while its deferred calls run. -/
inductive AMode where
 | ret
 | pan (x : AV)
def ModeRep (μ : Mu) (F : Frm) (w : World) : AMode → FrameMode → Prop
 | .ret, u => u = .returning
 | .pan x, u => ∃ v, u = .panicking [{ v, recovered := false }] ∧ Rep μ F w x v
theorem ModeRep.run {μ : Mu} {F : Frm} {w : World} {m : AMode} {u : FrameMode} (h : ModeRep μ F w m u) : u ≠ .run := by
 cases m with
 | ret => rw [show u = .returning from h]; simp
 | pan x => obtain ⟨v, rfl, _⟩ := h; simp
/-- A deferred call's contract: it returns. -/
def ACallsD (P : Program) (g : FuncId) (args : List AV) (m : AMode) (M : Mem) (R : AMode → Mem → Prop) : Prop :=
 Enters P g ∧ ∀ (μ : Mu) (F : Frm) (w : World) (vs : Array Value) (u : FrameMode), Gam μ F M w → RepL μ F w args vs → ModeRep μ F w m u →
  CallsD P g vs u w fun e u' w' => (∃ v, e = .returned v) ∧ ∃ μ' M' m', Evo w μ w' μ' ∧ Gam μ' F M' w' ∧ ModeRep μ' F w' m' (settle u') ∧ R m' M'
def ALeaves (P : Program) (τ : Tab) (fn : Func) (f : AF) (R : AEnd → Mem → Prop) : List ADef → AMode → Mem → Prop
 | [], .ret, M => ∃ r, resA τ M f fn.results = some r ∧ R (.ret r) M
 | [], .pan x, M => R (.pan x) M
 | d :: ds, m, M => d.mark = none ∧ ∃ g, d.f = .func g ∧ ACallsD P g (d.args ++ d.cap) m M fun m' M' => ALeaves P τ fn f R ds m' M'
def callPost (F : Frm) (μ0 : Mu) (w0 : World) (R : AEnd → Mem → Prop) : Ending → World → Prop := fun e w' => ∃ μ' M', Evo w0 μ0 w' μ' ∧ Gam μ' F M' w' ∧
 match e with
 | .returned v => ∃ x, Rep μ' F w' x v ∧ R (.ret x) M'
 | .panicked ch => ∃ x v, ch = [{ v, recovered := false }] ∧ Rep μ' F w' x v ∧ R (.pan x) M'
 | .outgrown => False
theorem leaves_of {P : Program} {τ : Tab} (hτ : TabOK P τ) {fn : Func} {n : Nat} {t : List (Nat × AV)} {R : AEnd → Mem → Prop} {F : Frm} {μ0 : Mu} {w0 : World} {tmps : Array Value} :
  ∀ (ds : List ADef) (rs : List Deferred) (m : AMode) (M : Mem) (μ : Mu) (w : World) (u : FrameMode), ALeaves P τ fn ⟨t, []⟩ R ds m M → Evo w0 μ0 w μ → Gam μ F M w → RepF μ F w n ⟨t, []⟩ { tmps := tmps, defers := [] } → DefRep μ F w ds rs → ModeRep μ F w m u →
   Leaves P fn tmps (callPost F μ0 w0 R) rs u w
 | [], [], .ret, M, μ, w, u, h, he, hg, hr, _, hm => by
  rw [show u = .returning from hm]
  obtain ⟨r, h1, h2⟩ := h
  obtain ⟨v, hv, hrep⟩ := run_resA (P := P) hτ hg hr h1
  exact ⟨v, hv, μ, M, he, hg, r, hrep, h2⟩
 | [], [], .pan x, M, μ, w, u, h, he, hg, hr, _, hm => by
  obtain ⟨v, rfl, hx⟩ := hm
  exact ⟨μ, M, he, hg, x, v, rfl, hx, h⟩
 | [], _ :: _, _, _, _, _, _, _, _, _, _, hd, _ => hd.elim
 | _ :: _, [], _, _, _, _, _, _, _, _, _, hd, _ => hd.elim
 | d :: ds, r :: rs, m, M, μ, w, u, h, he, hg, hr, hd, hm => by
  obtain ⟨hmk, g, hfg, hcall⟩ := h
  obtain ⟨⟨h0, h3, _⟩, hds⟩ := hd
  obtain ⟨c, h1, h2⟩ := h0 hmk
  obtain ⟨tgt, args⟩ := r
  simp only at h1 h3
  subst h1
  rw [hfg]
  have hall : RepL μ F w (d.args ++ d.cap) (args ++ c) := h3.app h2
  refine leaves_cons (f := g) (args := args ++ c) hm.run (by simp [invoke, run_enter hcall.1]) ?_
  refine (hcall.2 μ F w _ u hg hall hm).mono ?_
  rintro e u' w' ⟨⟨v, rfl⟩, μ', M', m', e1, e2, e3, e4⟩
  exact leaves_of hτ ds rs m' M' μ' w' (settle u') e4 (he.trans e1) e2 (hr.evo e1) (hds.evo e1) e3
def fnPostD (P : Program) (τ : Tab) (fn : Func) (R : AEnd → Mem → Prop) : AX → AF → Mem → Prop
 | .normal, f, M | .ret, f, M => ALeaves P τ fn ⟨f.t, []⟩ R f.d .ret M
 | .panic v, f, M => ALeaves P τ fn ⟨f.t, []⟩ R f.d (.pan v) M
 | .exit _, _, _ => False
theorem acalls_of_d {P : Program} {τ : Tab} (hτ : TabOK P τ) {g : FuncId} {fn : Func} {c : Code} (hf : P.funcs[g]? = some fn) (hb : fn.body = some c) (hn : fn.name ≠ "runtime.NumGoroutine") {args : List AV} {M : Mem} {R : AEnd → Mem → Prop}
  (hlen : args.length ≤ fn.ntmps) (h : W none P fn.ntmps c (fnPostD P τ fn R) (initF args) M) : ACalls P g args M R := by
 refine ⟨⟨fn, c, hf, hb, hn⟩, fun μ F w vs hg hv => ?_⟩
 refine (calls_of_wp_defers (R := callPost F μ w R) hf hb ?_).mono (fun e w' hp => hp)
 refine wp_mono (wp_of0 (h.run μ F w _ hg (initF_rep hlen hv))) ?_
 rintro e a' w' ⟨μ', f', M', x, h1, h2, h3, h4, h5⟩
 have hr : RepF μ' F w' fn.ntmps ⟨f'.t, []⟩ { tmps := a'.tmps, defers := [] } := ⟨h3.size, h3.tmps, trivial, fun p hp => by cases hp⟩
 cases e with
 | normal =>
  cases x <;> first | exact h4.elim | skip
  exact leaves_of hτ _ _ _ _ _ _ _ h5 h1 h2 hr h3.defs rfl
 | exit id => cases x <;> first | exact h4.elim | exact h5.elim
 | goto l => cases x <;> exact h4.elim
 | ret =>
  cases x <;> first | exact h4.elim | skip
  exact leaves_of hτ _ _ _ _ _ _ _ h5 h1 h2 hr h3.defs rfl
 | panic ch =>
  cases x <;> first | exact h4.elim | skip
  obtain ⟨v, rfl, hrep⟩ := h4
  exact leaves_of hτ _ _ _ _ _ _ _ h5 h1 h2 hr h3.defs ⟨v, rfl, hrep⟩
 | outgrown => cases x <;> exact h4.elim
end Go.Ab
/- A deferred function that asks first what is to be recovered. -/
set_option linter.unusedVariables false
set_option linter.unusedSimpArgs false
namespace Go.Ab
open Go.RowKit
theorem opsS_of_upon {P : Program} {ops : Array Oper} {Qs : Exit → Act → List Frame → World → Prop} {o : Oper} {a : Act} {cs : List Frame} {w : World} {rest : List Nat} (h : o.wp P a w (fun a' w' => wpOpsS P ops Qs rest a' cs w') (fun e a' w' => Qs e a' cs w')) :
  (match (execOp a.eval o).run P w with
   | .ok .recover w' => (match recoverD cs with
    | some (v, cs') => wpOpsS P ops Qs rest (a.put o.dst v) cs' w'
    | none => wpOpsS P ops Qs rest (a.put o.dst .nilIface) cs w')
   | r => o.upon P a (fun a' w' => wpOpsS P ops Qs rest a' cs w') (fun e a' w' => Qs e a' cs w') r) := by
 unfold Oper.wp at h
 generalize (execOp a.eval o).run P w = r at h
 split
 ·exact h.elim
 ·exact h
theorem dwS {P : Program} {n : Nat} {ops : Array Oper} {QA : AX → AF → Mem → Prop} {ds : List ADef} {Qs : Exit → Act → List Frame → World → Prop} (hd : (ops.all fun o => dstOK ds o n) = true) : ∀ (rest : List Oper) (k : Nat) (t : List (Nat × AV)) (M : Mem), (∀ j, rest[j]? = ops[k + j]?) →
  DWr P ops (fun _ => .E) QA ds (List.range' k rest.length) t M → ∀ (μ : Mu) (F : Frm) (w : World) (a : Act) (cs : List Frame), Gam μ F M w → RepF μ F w n ⟨t, ds⟩ a → (∀ e a' w', Post n QA μ F w e a' w' → Qs e a' cs w') →
  wpOpsS P ops Qs (List.range' k rest.length) a cs w
 | [], k, t, M, _, h, μ, F, w, a, cs, hg, hr, hQ => hQ _ _ _ ⟨μ, ⟨t, ds⟩, M, .normal, Evo.refl _ _, hg, hr, trivial, h⟩
 | o :: rest, k, t, M, hl, h, μ, F, w, a, cs, hg, hr, hQ => by
  have h0 : ops[k]? = some o := by simpa using (hl 0).symm
  have hl' : ∀ j, rest[j]? = ops[k + 1 + j]? := fun j => by have := hl (j + 1); simpa [Nat.add_assoc, Nat.add_comm 1 j] using this
  have hdo := dstOK_spec ((Array.all_eq_true_iff_forall_mem.1 hd) o (Array.mem_of_getElem? h0))
  simp only [List.length_cons, List.range'_succ] at h ⊢
  unfold DWr at h
  simp only [h0] at h
  unfold wpOpsS
  simp only [h0]
  split at h
  ·rename_i hw
   have hww := wanted_of hr hw
   rw [hww]
   simp only [if_true]
   refine opsS_of_upon (h μ F w a hg (fun y _ => hr.ev y) _ _ ?_ ?_)
   ·intro μ' M' w' v u e1 e2 e3 e4
    have hput : AF.put ⟨t, ds⟩ o.dst u = ⟨(AF.put ⟨t, ds⟩ o.dst u).t, ds⟩ := by cases o.dst <;> rfl
    have hrf := (hr.evo e1).put hdo e3
    rw [hput] at hrf
    exact dwS hd rest (k + 1) _ M' hl' e4 μ' F w' _ cs e2 hrf fun e a' w'' hp => hQ _ _ _ (hp.trans e1)
   ·intro μ' M' w' v u e1 e2 e3 e4
    exact hQ _ _ _ ⟨μ', ⟨keepT ds, ds⟩, M', .panic u, e1, e2, ⟨(hr.evo e1).size, kept_get (hr.evo e1).kept, (hr.evo e1).defs, (hr.evo e1).kept⟩, ⟨v, rfl, e3⟩, e4⟩
  ·rename_i hw
   have hww := wanted_of hr hw
   rw [hww]
   simp only [Bool.false_eq_true, if_false]
   have hput : AF.put ⟨t, ds⟩ o.dst (.tup []) = ⟨(AF.put ⟨t, ds⟩ o.dst (.tup [])).t, ds⟩ := by cases o.dst <;> rfl
   have hrf := hr.put (v := undef) hdo rep_undef
   rw [hput] at hrf
   exact dwS hd rest (k + 1) _ M hl' h μ F w _ cs hg hrf hQ
  ·exact h.elim
def AMode.val : AMode → AV
 | .ret => .nilIface
 | .pan x => x
def QD (τ : Tab) (fn : Func) (R : Mem → Prop) : AX → AF → Mem → Prop
 | .normal, f, M | .ret, f, M => f.d = [] ∧ (∃ r, resA τ M f fn.results = some r) ∧ R M
 | _, _, _ => False
theorem acallsD_recover {P : Program} {τ : Tab} (hτ : TabOK P τ) {g : FuncId} {fn : Func} {id : Nat} {ops : Array Oper} {c2 : Code} (hf : P.funcs[g]? = some fn) (hb : fn.body = some (.seq (.region id ops false) c2)) (hn : fn.name ≠ "runtime.NumGoroutine")
  {o0 : Oper} {rest : List Oper} (hops : ops.toList = o0 :: rest) {ags : Array Operand} {ts : Array TypeId} (ho : o0.op = .call { callee := .builtin .recover, args := ags, argTypes := ts }) (hgd : o0.guard = none) {d : Nat} (hdst : o0.dst = some d)
  (hd : (ops.toList.all fun o => dstOK [] o fn.ntmps) = true) {args : List AV} {m : AMode} {M : Mem} {R : Mem → Prop} (hlen : args.length ≤ fn.ntmps)
  (h : DW P ops (fun _ => .E) (thenX (fun f M => W none P fn.ntmps c2 (QD τ fn R) f M) (QD τ fn R)) [] (List.range' 1 rest.length) ((d, m.val) :: (initF args).t) M) : ACallsD P g args m M (fun m' M' => m' = .ret ∧ R M') := by
 refine ⟨⟨fn, _, hf, hb, hn⟩, fun μ F w vs u hg hv hm => ?_⟩
 refine callsD_of_wpS hf hb fun c₀ cs hu => ?_
 have hd' : (ops.all fun o => dstOK [] o fn.ntmps) = true := by rw [← Array.all_toList]; exact hd
 have hsz : ops.size = rest.length + 1 := by rw [← Array.length_toList, hops]; rfl
 have h0 : ops[0]? = some o0 := by rw [← Array.getElem?_toList, hops]; rfl
 have hl : ∀ j, rest[j]? = ops[1 + j]? := fun j => by rw [← Array.getElem?_toList, hops, Nat.add_comm]; rfl
 have hdo := dstOK_spec ((Array.all_eq_true_iff_forall_mem.1 hd') o0 (Array.mem_of_getElem? h0))
 refine wpS_seq (wpS_region ?_)
 rw [List.range_eq_range', hsz, List.range'_succ]
 have hini := initF_rep (μ := μ) (F := F) (w := w) (n := fn.ntmps) hlen hv
 generalize hact : ({ tmps := vs ++ Array.replicate (fn.ntmps - vs.size) undef, defers := [] } : Act) = act at hini
 have hrun : (execOp act.eval o0).run P w = .ok .recover w := by
  simp [execOp, ho, resolve, invoke, builtin]
 unfold wpOpsS
 simp only [h0]
 have hw : Region.wanted o0 (yielded ops act.tmps) = true := by simp [Region.wanted, hgd]
 rw [if_pos hw, hrun]
 simp only
 -- what it hands back, and how the caller's frame stands then
 obtain ⟨v, u2, hrec, hrep, hset⟩ : ∃ (v : Value) (u2 : FrameMode), (match recoverD (c₀ :: cs) with
   | some (v', cs') => v' = v ∧ cs' = { c₀ with mode := u2 } :: cs
   | none => v = .nilIface ∧ ({ c₀ with mode := u2 } : Frame) = c₀) ∧ Rep μ F w m.val v ∧ settle u2 = .returning := by
  cases m with
  | ret =>
   have hu' : u = .returning := hm
   refine ⟨.nilIface, .returning, ?_, .nilIface, rfl⟩
   have : c₀.mode = .returning := hu.trans hu'
   simp only [recoverD, this]
   refine ⟨trivial, ?_⟩
   cases c₀
   simp only at this
   subst this
   rfl
  | pan x =>
   obtain ⟨v, rfl, hx⟩ := hm
   refine ⟨v, .panicking [{ v, recovered := true }], ?_, hx, rfl⟩
   simp only [recoverD, hu]
   exact ⟨trivial, trivial⟩
 have fin : ∀ (fr : List Frame), fr = { c₀ with mode := u2 } :: cs → wpOpsS P ops (Exit.thenS (c2.wpS P (bodyPostS P fn c₀ cs fun e u' w' => (∃ v, e = .returned v) ∧ ∃ μ' M' m', Evo w μ w' μ' ∧ Gam μ' F M' w' ∧ ModeRep μ' F w' m' (settle u') ∧ m' = .ret ∧ R M'))
   (bodyPostS P fn c₀ cs fun e u' w' => (∃ v, e = .returned v) ∧ ∃ μ' M' m', Evo w μ w' μ' ∧ Gam μ' F M' w' ∧ ModeRep μ' F w' m' (settle u') ∧ m' = .ret ∧ R M')) (List.range' (0 + 1) rest.length) (act.put o0.dst v) fr w := by
  intro fr hfr
  subst hfr
  have hput : AF.put (initF args) o0.dst m.val = ⟨(d, m.val) :: (initF args).t, []⟩ := by simp [AF.put, hdst, initF]
  have hrf := hini.put hdo hrep
  rw [hput] at hrf
  have last : ∀ (e : Exit) (a' : Act) (w' : World), Post fn.ntmps (QD τ fn R) μ F w e a' w' → bodyPostS P fn c₀ cs (fun e u' w' => (∃ v, e = .returned v) ∧ ∃ μ' M' m', Evo w μ w' μ' ∧ Gam μ' F M' w' ∧ ModeRep μ' F w' m' (settle u') ∧ m' = .ret ∧ R M') e a' ({ c₀ with mode := u2 } :: cs) w' := by
   rintro e a' w' ⟨μ', f', M', x, h1, h2, h3, h4, h5⟩
   cases e with
   | normal =>
    cases x <;> first | exact h4.elim | skip
    obtain ⟨k1, ⟨r, k2⟩, k3⟩ := h5
    obtain ⟨v', hv', _⟩ := run_resA (P := P) hτ h2 h3 k2
    have hdd := h3.defs
    rw [k1] at hdd
    exact ⟨defrep_nil hdd, u2, rfl, v', hv', ⟨v', rfl⟩, μ', M', .ret, h1, h2, hset, rfl, k3⟩
   | ret =>
    cases x <;> first | exact h4.elim | skip
    obtain ⟨k1, ⟨r, k2⟩, k3⟩ := h5
    obtain ⟨v', hv', _⟩ := run_resA (P := P) hτ h2 h3 k2
    have hdd := h3.defs
    rw [k1] at hdd
    exact ⟨defrep_nil hdd, u2, rfl, v', hv', ⟨v', rfl⟩, μ', M', .ret, h1, h2, hset, rfl, k3⟩
   | exit id => cases x <;> first | exact h4.elim | exact h5.elim
   | goto l => cases x <;> exact h4.elim
   | panic ch => cases x <;> first | exact h4.elim | exact h5.elim
   | outgrown => cases x <;> exact h4.elim
  refine dwS hd' rest 1 _ M hl h.run μ F w _ _ hg hrf ?_
  rintro e a' w' ⟨μ', f', M', x, h1, h2, h3, h4, h5⟩
  cases e with
  | normal =>
   cases x <;> first | exact h4.elim | skip
   refine wpS_of_wp (wp_mono (wp_of0 (h5.run μ' F w' a' h2 h3)) ?_)
   intro e' a'' w'' hp
   exact last e' a'' w'' (hp.trans h1)
  | exit id => cases x <;> first | exact h4.elim | exact h5.elim
  | goto l => cases x <;> exact h4.elim
  | ret =>
   cases x <;> first | exact h4.elim | skip
   exact last .ret a' w' ⟨μ', f', M', .ret, h1, h2, h3, trivial, h5⟩
  | panic ch => cases x <;> first | exact h4.elim | exact h5.elim
  | outgrown => cases x <;> exact h4.elim
 split at hrec
 ·rename_i v' cs' hr2
  obtain ⟨rfl, rfl⟩ := hrec
  simp only [hact, hr2]
  exact fin _ rfl
 ·rename_i hr2
  obtain ⟨rfl, e⟩ := hrec
  simp only [hact, hr2]
  exact fin _ (by rw [e])
theorem ACallsD.mono {P : Program} {g : FuncId} {args : List AV} {m : AMode} {M : Mem} {R R' : AMode → Mem → Prop} (h : ACallsD P g args m M R) (hr : ∀ m M, R m M → R' m M) : ACallsD P g args m M R' := by
 refine ⟨h.1, fun μ F w vs u hg hv hm => (h.2 μ F w vs u hg hv hm).mono ?_⟩
 rintro e u' w' ⟨h1, μ', M', m', h2, h3, h4, h5⟩
 exact ⟨h1, μ', M', m', h2, h3, h4, hr _ _ h5⟩
theorem ACallsD.le {P : Program} {g : FuncId} {args : List AV} {m : AMode} {M N : Mem} {R : AMode → Mem → Prop} (hM : N.le M) (h : ACallsD P g args m N R) : ACallsD P g args m M R :=
 ⟨h.1, fun μ F w vs u hg hv hm => h.2 μ F w vs u (hg.le hM) hv hm⟩
end Go.Ab
/- Calls of functions that have no text: what the model says of them. -/
set_option linter.unusedVariables false
set_option linter.unusedSimpArgs false
namespace Go.Ab
open Go.RowKit
end Go.Ab
/- Slices of own objects: made, measured, indexed, cut; frozen at last. -/
set_option linter.unusedVariables false
set_option linter.unusedSimpArgs false
namespace Go.Ab
open Go.RowKit
theorem gam_osl {μ : Mu} {F : Frm} {M : Mem} {w : World} (hg : Gam μ F M w) {id off n cap sz : Nat} {l : List AV} (hM : M.get id = some (.cells l)) {v : Value} (hr : Rep μ F w (.osl id off n cap sz) v) :
  ∃ b, μ id = some (.at b) ∧ v = .slice (some ⟨b, off, none⟩) n cap := by
 obtain ⟨b, c, ty, h1, h2, h3, h4, h5⟩ := hg.obj id l hM
 cases hr with
 | osl _ _ _ _ _ _ h1' h hv => exact ⟨b, h1, hv b h1⟩
theorem opR_olen {P : Program} {τ : Tab} (hτ : TabOK P τ) {t : TypeId} {ti : TI} (ht : lookup τ t = some ti) {e : TypeId} (hk : ti.k = .slice e) {x : Operand} {ty : TypeId} {ρ : Operand → AV} {M : Mem} {id off n cap sz : Nat} {l : List AV}
  (hx : ρ x = .osl id off n cap sz) (hM : M.get id = some (.cells l)) : OpR P (.call { callee := .builtin .len, args := #[x], argTypes := #[t] }) ty ρ M (.int .i64 n) := by
 intro μ F w ρc o hg ho hty hr
 have h1 := hr x (by simp [Op.operands, Call.operands])
 rw [hx] at h1
 obtain ⟨b, hb, hv⟩ := gam_osl hg hM h1
 obtain ⟨f, d, z, H⟩ := TI.spec hτ ht
 have hf := H.fits
 rw [hk] at hf
 cases d <;> simp [TK.fits] at hf
 have hu := H.und
 exact ⟨_, w, by simp [execOp, ho, resolve, invoke, builtin, Builtin.len_, hv, run_underlying hu, goInt], Below.refl _ _, .int _ _⟩
theorem opR_oindex {P : Program} {τ : Tab} (hτ : TabOK P τ) {t e : TypeId} {ti ei : TI} (ht : lookup τ t = some ti) (hk : ti.k = .slice e) (he : lookup τ e = some ei) {X I : Operand} {ty : TypeId} {ρ : Operand → AV} {M : Mem} {id off n cap sz : Nat} {l : List AV}
  {k : IntKind} {i : Int} (hX : ρ X = .osl id off n cap sz) (hM : M.get id = some (.cells l)) (hI : ρ I = .int k i) (h0 : 0 ≤ i) (hin : i < n) (hsz : sz = ei.size) : OpR P (.indexAddr t X I) ty ρ M (.ptr id (off + i.toNat * sz)) := by
 intro μ F w ρc o hg ho hty hr
 have hx := hr X (by simp [Op.operands])
 have hi := hr I (by simp [Op.operands])
 rw [hX] at hx
 rw [hI] at hi
 obtain ⟨b, hb, hv⟩ := gam_osl hg hM hx
 generalize hvi : ρc I = vi at hi
 cases hi
 obtain ⟨ft, dt, zt, HT⟩ := TI.spec hτ ht
 obtain ⟨fe, de, ze, HE⟩ := TI.spec hτ he
 have hf := HT.fits
 rw [hk] at hf
 have hdd : dt = .slice e := by
  cases dt <;> simp [TK.fits] at hf
  rw [hf]
 subst hdd
 refine ⟨.pointer (some ⟨b, off + i.toNat * sz, none⟩), w, ?_, Below.refl _ _, .ptr _ _ _ rfl (by rw [hb]; simp) (fun b' hb' => by rw [hb] at hb'; cases hb'; rfl)⟩
 simp only [execOp, ho, hv, hvi, Instr.indexAt, asIntOf, Sem.run_bind, Sem.run_pure, Result.andThen_ok, run_underlying HT.und]
 rw [if_pos ⟨h0, by omega⟩]
 simp [run_sizeOf w HE.info, HE.cellsOf, HE.size, hsz, Addr.add_lit]
end Go.Ab
