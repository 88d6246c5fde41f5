/- Helps for the rows: arguments read as values. No further condition. -/
import Derived.Test.YteimhnedflbkmaaDoorTie
import Derived.Test.YteimhnedflbkmaaDoorCards
import Derived.Test.YteimhnedflbkmaaDoorAbR2
import Derived.Test.YteimhnedflbkmaaDoorKeyA
import Derived.ProofKit
import Derived.OpenShut
import Derived.LaidMore
import Derived.Lay
import Derived.SevenTiedAt
import Derived.Stop.Joined
set_option linter.unusedVariables false
set_option linter.unusedSimpArgs false
namespace Go.Proofs.YteimhnedflbkmaaDoor
open Go.Ab Go.RowKit Go.ChangeShapes Go.WideShapes Go.ChangeAt

theorem Tryd.own : ownKnob Tryd.prog.godebug = none := by kernel_rfl
theorem Tryd.laidOut : laidOutB Tryd.prog = true := by kernel_rfl

theorem one_str {t : TypeId} {W : World} {base : Nat} {v : Value} (ht : Tryd.prog.underlying t = some .string) (h : Value.okWide Tryd.prog W .any base t v) : v.cells.toList = [v] := by
  obtain ⟨s, rfl⟩ := okWide_string ht h
  rfl
theorem one_int {t : TypeId} {k : IntKind} {W : World} {base : Nat} {v : Value} (ht : Tryd.prog.underlying t = some (.int k)) (h : Value.okWide Tryd.prog W .any base t v) : v.cells.toList = [v] := by
  obtain ⟨n, rfl⟩ := okWide_int ht h
  rfl
theorem str_of {n : Nat} {t : TypeId} {x : AV} (h : Go.Ab.shape tab n t [x]) (hk : (lookup tab t).map (·.k) = some .str) : ∃ s : Bytes, x = .str s := by
  cases n with
  | zero => exact h.elim
  | succ n =>
    simp only [Go.Ab.shape] at h
    cases hl : lookup tab t with
    | none => rw [hl] at h; exact h.elim
    | some i =>
      rw [hl] at h hk
      simp only [Option.map_some, Option.some.injEq] at hk
      simp only [hk] at h
      obtain ⟨s, hs, _⟩ := h
      cases hs
      exact ⟨s, rfl⟩
theorem int_of {n : Nat} {t : TypeId} {k : IntKind} {x : AV} (h : Go.Ab.shape tab n t [x]) (hk : (lookup tab t).map (·.k) = some (.int k)) : ∃ m : Int, x = .int k m := by
  cases n with
  | zero => exact h.elim
  | succ n =>
    simp only [Go.Ab.shape] at h
    cases hl : lookup tab t with
    | none => rw [hl] at h; exact h.elim
    | some i =>
      rw [hl] at h hk
      simp only [Option.map_some, Option.some.injEq] at hk
      simp only [hk] at h
      obtain ⟨s, hs, _⟩ := h
      cases hs
      exact ⟨s, rfl⟩

theorem key_of {l : List AV} (h : Go.Ab.shape tab 8 23 l) : ∃ k : Ky, AV.agg l = k.av := by
  obtain ⟨a, b, rfl, ⟨p, rfl, _⟩, a2, b2, rfl, ⟨t, rfl, _⟩, rfl⟩ := h
  exact ⟨⟨p, t⟩, rfl⟩
end Go.Proofs.YteimhnedflbkmaaDoor
