/- Parts of the proof, one behind the other: StoQ, ShoA, AbG9, TreeJ, TreeK. No further condition. -/
import Derived.Test.YtmgkebghojhocaaGreatDoorQV23
import Derived.Test.YtmgkebghojhocaaGreatDoorQV11
import Derived.Test.YtmgkebghojhocaaGreatDoorQV19
import Derived.Test.YtmgkebghojhocaaGreatDoorQV07
import Derived.Test.YtmgkebghojhocaaGreatDoorQV09
set_option linter.unusedVariables false
set_option linter.unusedSimpArgs false
/- Stores of batches: what was laid last is told. No further condition. -/
set_option linter.unusedVariables false
set_option linter.unusedSimpArgs false
namespace Go.Proofs.YtmgkebghojhocaaGreatDoor
open Go.Ab
def lastAt (l : List Ld) : Int := l.foldl (fun _ x => x.at_) 0
def hitL (x : Ld) (p : Bytes) (w : Int) : Option (Ch × Int) := if x.at_ ≤ w then (x.batch.find? fun c => c.path == p).map fun c => (c, x.at_) else none
def lastT (l : List Ld) (p : Bytes) (w : Int) : Option (Ch × Int) := l.foldl (fun r x => (hitL x p w).or r) none
def entT (p : Bytes) (r : Option (Ch × Int)) : Option En := r.bind fun y => if y.1.gone = true then none else some ⟨p, y.2, y.1.meta_⟩
structure LaidInv (t : Tr) (took : List Ld) : Prop where
 st : isSt t.all = true
 last : lastL t.all = lastAt took
 rises : ∀ (i : Nat) x, took[i]? = some x → lastAt (took.take i) < x.at_
 told : ∀ p w, atL t.all p w = entT p (lastT took p w)
end Go.Proofs.YtmgkebghojhocaaGreatDoor
/- What a store tells has few chunks; lists of stores that tell the same are the same. No further condition. -/
set_option linter.unusedVariables false
set_option linter.unusedSimpArgs false
namespace Go.Proofs.YtmgkebghojhocaaGreatDoor
open Go.Ab
end Go.Proofs.YtmgkebghojhocaaGreatDoor
/- Own slices of wider elements, frozen. -/
set_option linter.unusedVariables false
set_option linter.unusedSimpArgs false
namespace Go.Ab
open Go.RowKit
end Go.Ab
/- Rows of pairs grow, and are laid one behind the other (leaves). No further condition. -/
set_option linter.unusedVariables false
set_option linter.unusedSimpArgs false
namespace Go.Proofs.YtmgkebghojhocaaGreatDoor
open Go.Ab
end Go.Proofs.YtmgkebghojhocaaGreatDoor
/- A pair is dropped: rows, leaves, forks, trees. No further condition. -/
set_option linter.unusedVariables false
set_option linter.unusedSimpArgs false
namespace Go.Proofs.YtmgkebghojhocaaGreatDoor
open Go.Ab
end Go.Proofs.YtmgkebghojhocaaGreatDoor
