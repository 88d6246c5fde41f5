/- Parts of the proof, one behind the other: SLawB. No further condition. -/
import Derived.Test.YtmgkebghojhocaaGreatDoorQV24
set_option linter.unusedVariables false
set_option linter.unusedSimpArgs false
/- The document's rows on stores. No further condition. -/
set_option linter.unusedVariables false
set_option linter.unusedSimpArgs false
namespace Go.Proofs.YtmgkebghojhocaaGreatDoor
open Go.Ab
def m1 : Mt := ⟨1, 0, []⟩
def v1 : Bytes := (valueM m1 false).1
def l1 : List Pr := [⟨⟨[97], 1⟩, v1⟩, ⟨⟨[98], 1⟩, v1⟩]
def l3 : List Pr := [⟨⟨[97], 3⟩, [0]⟩, ⟨⟨[97], 1⟩, v1⟩, ⟨⟨[98], 1⟩, v1⟩]
end Go.Proofs.YtmgkebghojhocaaGreatDoor
