/- Regions that draw their order, walked in one order that is chosen. -/
import Derived.Test.YteimhnedflbkmaaDoorAbB4
import Derived.Test.YteimhnedflbkmaaDoorAbC2
set_option linter.unusedVariables false
set_option linter.unusedSimpArgs false
namespace Go.Ab
open Go.RowKit

/-- What may come up while operation i has not. -/
def clos (ops : Array Oper) (i : Nat) (listed : Array Bool) : Array Bool :=
  (List.range ops.size).foldl (fun R j => if j ≠ i ∧ ((ops[j]?).map fun o => o.after.all fun e => !Region.binds .any e || R.getD e.on false).getD false = true then R.setIfInBounds j true else R) listed

def closedB (ops : Array Oper) (i : Nat) (R : Array Bool) : Bool :=
  (List.range ops.size).all fun j => j == i || R.getD j false || !((ops[j]?).map fun o => o.after.all fun e => !Region.binds .any e || R.getD e.on false).getD false

def subB (n : Nat) (listed R : Array Bool) : Bool := listed.size == n && (List.range n).all fun j => !listed.getD j false || R.getD j false

def stepOK (ops : Array Oper) (cls : Nat → Cls) (i : Nat) (listed : Array Bool) : Bool :=
  match ops[i]? with
  | none => false
  | some oi =>
    let R := clos ops i listed
    closedB ops i R && subB ops.size listed R && (List.range ops.size).all fun j => j == i || listed.getD j true || !R.getD j false || (match ops[j]? with | some oj => oi.apart ops oj && compat (cls i) (cls j) | none => true)

def dOK (ops : Array Oper) (cls : Nat → Cls) : List Nat → Array Bool → Bool
  | [], listed => (Region.ready .any ops listed).isEmpty
  | i :: l, listed => (Region.ready .any ops listed).contains i && stepOK ops cls i listed && dOK ops cls l (listed.setIfInBounds i true)

def DWr (P : Program) (ops : Array Oper) (cls : Nat → Cls) (Q : AX → AF → Mem → Prop) (ds : List ADef) : List Nat → List (Nat × AV) → Mem → Prop
  | [], t, M => Q .normal ⟨t, ds⟩ M
  | i :: l, t, M =>
    match ops[i]? with
    | none => False
    | some o =>
      match wantedA ops ⟨t, ds⟩ o with
      | some true => SC P o (cls i) (AF.ev ⟨t, ds⟩) M (fun x M' => DWr P ops cls Q ds l (AF.put ⟨t, ds⟩ o.dst x).t M') fun v M' => Q (.panic v) ⟨[], ds⟩ M'
      | some false => DWr P ops cls Q ds l (AF.put ⟨t, ds⟩ o.dst (.tup [])).t M
      | none => False

/-- The rest of a region, in the order that is chosen. -/
structure DW (P : Program) (ops : Array Oper) (cls : Nat → Cls) (Q : AX → AF → Mem → Prop) (ds : List ADef) (l : List Nat) (t : List (Nat × AV)) (M : Mem) : Prop where
  run : DWr P ops cls Q ds l t M

section
variable {P : Program} {ops : Array Oper} {cls : Nat → Cls} {Q : AX → AF → Mem → Prop} {ds : List ADef}

def frOf (t : List (Nat × AV)) : Fr := fun i => (lookup t i).getD .top

theorem frOf_put (t : List (Nat × AV)) (dst : Option Tmp) (x : AV) : frOf (AF.put ⟨t, ds⟩ dst x).t = putF (frOf t) dst x := by
  cases dst with
  | none => rfl
  | some d =>
    funext i
    simp only [frOf, AF.put, lookup, putF]
    by_cases h : i = d <;> simp [h]

theorem evF_frOf (t : List (Nat × AV)) (x : Operand) : evF (frOf t) x = AF.ev ⟨t, ds⟩ x := by
  cases x <;> rfl

theorem wantF_frOf (t : List (Nat × AV)) (o : Oper) : wantF ops (frOf t) o = wantedA ops ⟨t, ds⟩ o := rfl

theorem dw_sound : ∀ (ord : List Nat) (listed : Array Bool) (t : List (Nat × AV)) (M : Mem), dOK ops cls ord listed = true → DWr P ops cls Q ds ord t M →
    AnyA P ops cls (fun v M' => Q (.panic v) ⟨[], ds⟩ M') (fun φ M => ∃ t, frOf t = φ ∧ Q .normal ⟨t, ds⟩ M) ord.length listed (frOf t) M
  | [], listed, t, M, hk, h => ⟨by simpa [dOK] using hk, t, rfl, h⟩
  | i :: l, listed, t, M, hk, h => by
    simp only [dOK, Bool.and_eq_true, List.contains_iff_mem] at hk
    obtain ⟨⟨h1, h2⟩, h3⟩ := hk
    unfold stepOK at h2
    split at h2
    case h_1 => cases h2
    rename_i oi hoi
    simp only [Bool.and_eq_true] at h2
    obtain ⟨⟨h4, h5⟩, h6⟩ := h2
    have hall := List.all_eq_true.1 h6
    unfold subB at h5
    simp only [Bool.and_eq_true, beq_iff_eq] at h5
    obtain ⟨hsz, h5⟩ := h5
    refine any_first hoi (R := fun j => (clos ops i listed).getD j false) ?_ l.length listed (frOf t) M ?_ h1 ?_ ?_
    · intro j oj hji hoj hpre
      have hj : j < ops.size := (Array.getElem?_eq_some_iff.1 hoj).1
      have := (List.all_eq_true.1 h4) j (List.mem_range.2 hj)
      simp only [Bool.or_eq_true, beq_iff_eq, Bool.not_eq_true'] at this
      rcases this with (hh | hh) | hh
      · exact absurd hh hji
      · exact hh
      · exfalso
        rw [hoj] at hh
        simp only [Option.map_some, Option.getD_some] at hh
        have ht : (oj.after.all fun e => !Region.binds .any e || (clos ops i listed).getD e.on false) = true := by
          rw [Array.all_eq_true_iff_forall_mem]
          intro e he
          cases hb : Region.binds .any e with
          | false => rfl
          | true => simpa using hpre e he hb
        rw [ht] at hh
        cases hh
    · intro j hj
      have hlt : j < ops.size := by
        rcases Nat.lt_or_ge j ops.size with h | h
        · exact h
        · rw [Array.getD_eq_getD_getElem?, Array.getElem?_eq_none (by omega)] at hj
          cases hj
      have := (List.all_eq_true.1 h5) j (List.mem_range.2 hlt)
      simp only [hj, Bool.not_true, Bool.false_or] at this
      exact this
    · intro j oj hoj hji hR hun
      have hj : j < ops.size := (Array.getElem?_eq_some_iff.1 hoj).1
      have := hall j (List.mem_range.2 hj)
      simp only [hR, hun, hoj, Bool.not_true, Bool.or_false, Bool.or_eq_true, beq_iff_eq, Bool.and_eq_true] at this
      rcases this with hh | hh
      · first | exact absurd hh hji | (rcases hh with hh | hh <;> first | exact absurd hh hji | cases hh)
      · exact hh
    · unfold DWr at h
      unfold opA
      simp only [hoi] at h ⊢
      rw [wantF_frOf (ds := ds)]
      split at h
      · rename_i hw
        rw [hw]
        refine SC.mono (SC.congr h fun y _ => evF_frOf t y) fun u N _ hu => ?_
        have := dw_sound l _ _ N h3 hu
        rw [frOf_put] at this
        exact this
      · rename_i hw
        rw [hw]
        have := dw_sound l _ _ M h3 h
        rw [frOf_put] at this
        exact this
      · exact h.elim

theorem W_draw {n id : Nat} {t : List (Nat × AV)} {M : Mem} (hm : P.follows .mixedOrders = true) (ord : List Nat) (cl : List Cls) (hd0 : (ops.toList.all fun o => dstOK o n) = true) (hl : ord.length = ops.size)
    (hk : dOK ops (fun i => cl.getD i .E) ord (Array.replicate ops.size false) = true) (h : DW P ops (fun i => cl.getD i .E) Q ds ord t M) : W P n (.region id ops true) Q ⟨t, ds⟩ M := by
  have hd : (ops.all fun o => dstOK o n) = true := by rw [← Array.all_toList]; exact hd0
  refine ⟨fun μ F w a hg hr => ?_⟩
  refine wp_region_any hm ?_
  have hb : Below w.heap.size w { w with drawn := w.drawn + 1 } := ⟨rfl, rfl, rfl, Nat.le_refl _, fun _ _ => rfl⟩
  have hev := Evo.of_below μ hb
  have hany := dw_sound ord _ t M hk h.run
  rw [hl] at hany
  have hrf : RepΦ μ F w n (frOf t) ds a := ⟨hr.size, hr.tmps, hr.defs⟩
  refine any_sound hd (ds := ds) (F := F) ops.size _ (frOf t) M μ { w with drawn := w.drawn + 1 } a (hg.below hb) (hrf.evo hev) ?_ ?_ hany
  · rintro μ' φ' M' w' a' e1 e2 e3 ⟨t', rfl, hq⟩
    exact ⟨μ', ⟨t', ds⟩, M', .normal, hev.trans e1, e2, ⟨e3.size, e3.tmps, e3.defs⟩, trivial, hq⟩
  · intro μ' φ' M' w' a' v u e1 e2 e3 e4 hq
    exact ⟨μ', ⟨[], ds⟩, M', .panic u, hev.trans e1, e2, ⟨e3.size, fun _ => .top _, e3.defs⟩, ⟨v, rfl, e4⟩, hq⟩
end

end Go.Ab
