/- The types and orders that the walks lean on. No further condition. -/
import Derived.Test.YteimhnedflbkmaaDoorTab
import Derived.Test.YteimhnedflbkmaaDoorChecked
import Derived.Test.YteimhnedflbkmaaDoorAbC4
import Derived.Test.YteimhnedflbkmaaDoorAbC6
set_option linter.unusedVariables false
set_option linter.unusedSimpArgs false
namespace Go.Proofs.YteimhnedflbkmaaDoor
open Go.Ab

theorem eqOK : EqTab Tryd.prog eqs := eqTab_of (by kernel_rfl)
theorem tabs : TabOK Tryd.prog tab ∧ EqTab Tryd.prog eqs := ⟨tabOK, eqOK⟩
theorem mixed : Tryd.prog.follows .mixedOrders = true := by kernel_rfl

abbrev Bytes := List UInt8
def intA (n : Int) : AV := .int .i64 n
end Go.Proofs.YteimhnedflbkmaaDoor
