/- Parts of the proof, one behind the other: StoF, StoG, BatA, StoH. No further condition. -/
import Derived.Test.YtmgkebghojhocaaGreatDoorQV21
import Derived.Test.YtmgkebghojhocaaGreatDoorQV17
import Derived.Test.YtmgkebghojhocaaGreatDoorQV07
import Derived.Lib.Bytealg
set_option linter.unusedVariables false
set_option linter.unusedSimpArgs false
/- The store's List. No further condition. -/
set_option linter.unusedVariables false
set_option linter.unusedSimpArgs false
namespace Go.Proofs.YtmgkebghojhocaaGreatDoor
open Go.Ab
end Go.Proofs.YtmgkebghojhocaaGreatDoor
/- The store's History. No further condition. -/
set_option linter.unusedVariables false
set_option linter.unusedSimpArgs false
namespace Go.Proofs.YtmgkebghojhocaaGreatDoor
open Go.Ab
end Go.Proofs.YtmgkebghojhocaaGreatDoor
/- Which batches may be. No further condition. -/
set_option linter.unusedVariables false
set_option linter.unusedSimpArgs false
namespace Go.Proofs.YtmgkebghojhocaaGreatDoor
open Go.Ab
structure Ch where
 path : Bytes
 gone : Bool
 meta_ : Mt
deriving DecidableEq
def Ch.cells (c : Ch) : List AV := [.str c.path, .bool c.gone, .int .i64 c.meta_.size, .int .i64 c.meta_.mode, iA c.meta_.ch .none]
def Ch.av (c : Ch) : AV := .agg c.cells
def chA (l : List Ch) (t : Tag) : AV := .sl 5 (l.map Ch.av) t
def zeroB (m : Mt) : Bool := decide (m.size = 0) && decide (m.mode = 0) && decide ((m.ch.length : Int) = 0)
def mayB (c : Ch) : Bool := !(c.path == []) && isPathB c.path && isM c.meta_ && (!c.gone || zeroB c.meta_)
abbrev RiseC (l : List Ch) : Prop := l.Pairwise fun a b => bl a.path b.path = true
end Go.Proofs.YtmgkebghojhocaaGreatDoor
/- The store's Lay. No further condition. -/
set_option linter.unusedVariables false
set_option linter.unusedSimpArgs false
namespace Go.Proofs.YtmgkebghojhocaaGreatDoor
open Go.Ab
end Go.Proofs.YtmgkebghojhocaaGreatDoor
