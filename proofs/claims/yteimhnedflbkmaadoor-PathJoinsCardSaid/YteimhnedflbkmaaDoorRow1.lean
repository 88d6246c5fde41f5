/- A text that is handed in is not larger than a machine holds. No further condition. -/
import Derived.Test.YteimhnedflbkmaaDoorM15
set_option linter.unusedVariables false
set_option linter.unusedSimpArgs false
namespace Go.Proofs.YteimhnedflbkmaaDoor
open Go.Ab Go.RowKit Go.ChangeShapes Go.WideShapes Go.ChangeAt

theorem str_lit {H : Type} {enc : TypeId × Value → H} {w : World} {base : Nat} {spare : Nat → Bool} {held : Bool} {t : TypeId} {v : Value} {d : DataW H} {p : List MemPlace} {a : Bytes}
    (h : DataW.Trod enc Tryd.prog w base spare held t v d p) (ht : Tryd.prog.underlying t = some .string) (hr : Rep mu0 fr0 w (.str a) v) : d = .lit (.string a) := by
  cases hr
  obtain ⟨fuel, hf⟩ := h
  cases fuel with
  | zero => simp [DataW.trod] at hf
  | succ n =>
    have e : (Value.string ⟨a.toArray⟩).cells.toList = [Value.string ⟨a.toArray⟩] := rfl
    rw [e] at hf
    simp only [DataW.trod, ht] at hf
    split at hf
    · simp at hf
      exact hf.1.symm
    · cases hf
end Go.Proofs.YteimhnedflbkmaaDoor
