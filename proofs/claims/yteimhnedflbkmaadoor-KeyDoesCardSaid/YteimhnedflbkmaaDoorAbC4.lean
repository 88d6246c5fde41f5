/- One rule for all steps that need no help. -/
import Derived.Test.YteimhnedflbkmaaDoorAbB8
set_option linter.unusedVariables false
set_option linter.unusedSimpArgs false
namespace Go.Ab
open Go.RowKit

def dput (dst : Option Tmp) (x : AV) (t : List (Nat × AV)) : List (Nat × AV) := match dst with | some d => (d, x) :: t | none => t

def stepA (τ : Tab) (es : List TypeId) (ops : Array Oper) (cls : Nat → Cls) (ds : List ADef) (i : Nat) (t : List (Nat × AV)) (M : Mem) : Option (List (Nat × AV) × Mem) :=
  match ops[i]? with
  | none => none
  | some o =>
    match wantedA ops ⟨t, ds⟩ o with
    | none => none
    | some false => some (match o.dst with | some d => (d, .tup []) :: t | none => t, M)
    | some true =>
      match forceP (stepP3 τ es (AF.ev ⟨t, ds⟩) o.op) with
      | some x => (match o.dst with | some d => some ((d, x) :: t, M) | none => some (t, M))
      | none =>
        match (match notP (cls i) with | true => forceP (stepR2 τ (AF.ev ⟨t, ds⟩) M o.op) | false => none) with
        | some x => (match o.dst with | some d => some ((d, x) :: t, M) | none => some (t, M))
        | none =>
          match (match isE (cls i) with | true => forceE (stepE τ (AF.ev ⟨t, ds⟩) M o.op) | false => none) with
          | some (x, N) => (match o.dst with | some d => some ((d, x) :: t, N) | none => some (t, N))
          | none => none

theorem DW_A {P : Program} {τ : Tab} {es : List TypeId} (hT : TabOK P τ ∧ EqTab P es) {ops : Array Oper} {cls : Nat → Cls} {Q : AX → AF → Mem → Prop} {ds : List ADef} {l : List Nat} {i : Nat} {t t' : List (Nat × AV)} {M M' : Mem}
    (hs : stepA τ es ops cls ds i t M = some (t', M')) (h : DW P ops cls Q ds l t' M') : DW P ops cls Q ds (i :: l) t M := by
  have hput : ∀ (o : Oper) (x : AV), (AF.put ⟨t, ds⟩ o.dst x).t = (match o.dst with | some d => (d, x) :: t | none => t) := by
    intro o x
    cases o.dst <;> rfl
  unfold stepA at hs
  split at hs
  case h_1 => cases hs
  rename_i o hi
  split at hs
  case h_1 => cases hs
  · rename_i hw
    simp only [Option.some.injEq, Prod.mk.injEq] at hs
    obtain ⟨rfl, rfl⟩ := hs
    refine ⟨?_⟩
    unfold DWr
    simp only [hi, hw]
    rw [hput]
    exact h.run
  · rename_i hw
    split at hs
    · rename_i x hx
      have hk : DW P ops cls Q ds l (AF.put ⟨t, ds⟩ o.dst x).t M := by
        rw [hput]
        cases hd : o.dst <;> rw [hd] at hs <;> cases hs <;> exact h
      exact DW_run hi hw (SC.of_P (stepP3_sound hT.1 hT.2 (forceP_spec hx)) hk)
    · split at hs
      · rename_i x hx
        have hk : DW P ops cls Q ds l (AF.put ⟨t, ds⟩ o.dst x).t M := by
          rw [hput]
          cases hd : o.dst <;> rw [hd] at hs <;> cases hs <;> exact h
        split at hx
        · rename_i hc
          exact DW_run hi hw (SC.of_R hc (stepR2_sound hT.1 (forceP_spec hx)) hk)
        · cases hx
      · split at hs
        · rename_i x N hx
          have hk : DW P ops cls Q ds l (AF.put ⟨t, ds⟩ o.dst x).t N := by
            rw [hput]
            cases hd : o.dst <;> rw [hd] at hs <;> cases hs <;> exact h
          split at hx
          · rename_i hc
            exact DW_run hi hw (SC.of_E hc (stepE_sound hT.1 (forceE_spec hx)) hk)
          · cases hx
        · cases hs

end Go.Ab
