/-
  DERIVED. GIVEN WITH THE SEED: THE CARDS: each row of YthnhbmlefiafaaaGreatDoorRows.lean that lists a variable, with what it lists TIED to the program's text (the seventh form; the later family's looks); each row that meets fmt, with fmt's text TOLD by the authors' own Lean function (tested against real Go, not proved from fmt's source: count such statements apart). THE CARD IS WHAT COUNTS. Prove the row's statement (the work); the ties are given (YthnhbmlefiafaaaGreatDoorTie.lean); close each card by the builder's one call (the guide's Derived/Test/ToyasCard.lean, 'card_holds'). Laid BY PROGRAM, IN A SANDBOX (cutbox-door.mjs). By AI agents, Wed Nov 11 2026. No macro, syntax, notation, axiom, sorry.
-/
import Derived.Test.YthnhbmlefiafaaaGreatDoorRows
import GoSem.ClaimSeven
namespace Go.Proofs.YthnhbmlefiafaaaGreatDoor
namespace Rows

/-- THE TIED CARD OF 'sextonlaw21.OpBytes'. -/
def opBytesCard : Claim7 := { stood := { row := opBytesRow, standIns := [], harness := (true, "316a27a0e1dd7e7e782b404ba12355bdcafd556a700157946e7655a50c2caf46"), looks := true }, kinds := [], alts := [], laidByText := true, laidKinds := [.data, .pinned], laidTests := true, laidLooks := .later }
def OpBytesCardSaid : Prop := Claim7.holds Tryz.pinned (.plain (OpenSpec.ofChange opBytesSpec)) opBytesCard

/-- THE TIED CARD OF 'sextonlaw21.OpBack'. -/
def opBackCard : Claim7 := { stood := { row := opBackRow, standIns := [], harness := (true, "316a27a0e1dd7e7e782b404ba12355bdcafd556a700157946e7655a50c2caf46"), looks := true }, kinds := [], alts := [], laidByText := true, laidKinds := [.data, .pinned], laidTests := true, laidLooks := .later }
def OpBackCardSaid : Prop := Claim7.holds Tryz.pinned (.plain (OpenSpec.ofChange opBackSpec)) opBackCard

/-- THE TIED CARD OF 'sextonlaw21.OpApplies'. -/
def opAppliesCard : Claim7 := { stood := { row := opAppliesRow, standIns := [], harness := (true, "316a27a0e1dd7e7e782b404ba12355bdcafd556a700157946e7655a50c2caf46"), looks := true }, kinds := [], alts := [], laidByText := true, laidKinds := [.data, .pinned], laidTests := true, laidLooks := .later }
def OpAppliesCardSaid : Prop := Claim7.holds Tryz.pinned (.plain (OpenSpec.ofChange opAppliesSpec)) opAppliesCard

/-- THE TIED CARD OF 'sextonlaw21.OpRuns'. -/
def opRunsCard : Claim7 := { stood := { row := opRunsRow, standIns := [], harness := (true, "316a27a0e1dd7e7e782b404ba12355bdcafd556a700157946e7655a50c2caf46"), looks := true }, kinds := [], alts := [], laidByText := true, laidKinds := [.data, .pinned], laidTests := true, laidLooks := .later }
def OpRunsCardSaid : Prop := Claim7.holds Tryz.pinned (.plain (OpenSpec.ofChange opRunsSpec)) opRunsCard

/-- THE TIED CARD OF 'sextonlaw21.OpAgain'. -/
def opAgainCard : Claim7 := { stood := { row := opAgainRow, standIns := [], harness := (true, "316a27a0e1dd7e7e782b404ba12355bdcafd556a700157946e7655a50c2caf46"), looks := true }, kinds := [], alts := [], laidByText := true, laidKinds := [.data, .pinned], laidTests := true, laidLooks := .later }
def OpAgainCardSaid : Prop := Claim7.holds Tryz.pinned (.plain (OpenSpec.ofChange opAgainSpec)) opAgainCard

/-- THE SECOND FORM's CARD OF 'sextonlaw21.OpBytes'. -/
def opBytesUptoCard : Claim7 := { stood := { row := opBytesUptoRow, standIns := [], harness := (true, "316a27a0e1dd7e7e782b404ba12355bdcafd556a700157946e7655a50c2caf46"), looks := true }, kinds := [], alts := [], laidByText := true, laidKinds := [.data, .pinned], laidTests := true, laidLooks := .later }
def OpBytesUptoCardSaid : Prop := Claim7.holds Tryz.pinned (.plain (OpenSpec.upto opBytesSpec)) opBytesUptoCard

/-- THE SECOND FORM's CARD OF 'sextonlaw21.OpBack'. -/
def opBackUptoCard : Claim7 := { stood := { row := opBackUptoRow, standIns := [], harness := (true, "316a27a0e1dd7e7e782b404ba12355bdcafd556a700157946e7655a50c2caf46"), looks := true }, kinds := [], alts := [], laidByText := true, laidKinds := [.data, .pinned], laidTests := true, laidLooks := .later }
def OpBackUptoCardSaid : Prop := Claim7.holds Tryz.pinned (.plain (OpenSpec.upto opBackSpec)) opBackUptoCard

/-- THE SECOND FORM's CARD OF 'sextonlaw21.OpApplies'. -/
def opAppliesUptoCard : Claim7 := { stood := { row := opAppliesUptoRow, standIns := [], harness := (true, "316a27a0e1dd7e7e782b404ba12355bdcafd556a700157946e7655a50c2caf46"), looks := true }, kinds := [], alts := [], laidByText := true, laidKinds := [.data, .pinned], laidTests := true, laidLooks := .later }
def OpAppliesUptoCardSaid : Prop := Claim7.holds Tryz.pinned (.plain (OpenSpec.upto opAppliesSpec)) opAppliesUptoCard

/-- THE SECOND FORM's CARD OF 'sextonlaw21.OpRuns'. -/
def opRunsUptoCard : Claim7 := { stood := { row := opRunsUptoRow, standIns := [], harness := (true, "316a27a0e1dd7e7e782b404ba12355bdcafd556a700157946e7655a50c2caf46"), looks := true }, kinds := [], alts := [], laidByText := true, laidKinds := [.data, .pinned], laidTests := true, laidLooks := .later }
def OpRunsUptoCardSaid : Prop := Claim7.holds Tryz.pinned (.plain (OpenSpec.upto opRunsSpec)) opRunsUptoCard

/-- THE SECOND FORM's CARD OF 'sextonlaw21.OpAgain'. -/
def opAgainUptoCard : Claim7 := { stood := { row := opAgainUptoRow, standIns := [], harness := (true, "316a27a0e1dd7e7e782b404ba12355bdcafd556a700157946e7655a50c2caf46"), looks := true }, kinds := [], alts := [], laidByText := true, laidKinds := [.data, .pinned], laidTests := true, laidLooks := .later }
def OpAgainUptoCardSaid : Prop := Claim7.holds Tryz.pinned (.plain (OpenSpec.upto opAgainSpec)) opAgainUptoCard
end Rows
end Go.Proofs.YthnhbmlefiafaaaGreatDoor
