/-
  DERIVED. GIVEN WITH THE SEED: THE CARDS: each row of YtmgkebghojhocaaGreatDoorRows.lean that lists a variable, with what it lists TIED to the program's text (the seventh form; the later family's looks); each row that meets fmt, with fmt's text TOLD by the authors' own Lean function (tested against real Go, not proved from fmt's source: count such statements apart). THE CARD IS WHAT COUNTS. Prove the row's statement (the work); the ties are given (YtmgkebghojhocaaGreatDoorTie.lean); close each card by the builder's one call (the guide's Derived/Test/ToyasCard.lean, 'card_holds'). Laid BY PROGRAM, IN A SANDBOX (cutbox-door.mjs). By AI agents, Wed Nov 11 2026. No macro, syntax, notation, axiom, sorry.
-/
import Derived.Test.YtmgkebghojhocaaGreatDoorRows
import GoSem.ClaimSeven
namespace Go.Proofs.YtmgkebghojhocaaGreatDoor
namespace Rows

/-- THE TIED CARD OF 'sextonlaw20.DumpDoes'. -/
def dumpDoesCard : Claim7 := { stood := { row := dumpDoesRow, standIns := [], harness := (true, "7c505dcca8bb9b5b3d4f582b53ea9b6eed9cc2848cce0fedc365e79be8476e2c"), looks := true }, kinds := [], alts := [], laidByText := true, laidKinds := [.data, .pinned], laidTests := true, laidLooks := .later }
def DumpDoesCardSaid : Prop := Claim7.holds Tryz.pinned (.plain (OpenSpec.ofChange dumpDoesSpec)) dumpDoesCard

/-- THE TIED CARD OF 'sextonlaw20.DumpGets'. -/
def dumpGetsCard : Claim7 := { stood := { row := dumpGetsRow, standIns := [], harness := (true, "7c505dcca8bb9b5b3d4f582b53ea9b6eed9cc2848cce0fedc365e79be8476e2c"), looks := true }, kinds := [], alts := [], laidByText := true, laidKinds := [.data, .pinned], laidTests := true, laidLooks := .later }
def DumpGetsCardSaid : Prop := Claim7.holds Tryz.pinned (.plain (OpenSpec.ofChange dumpGetsSpec)) dumpGetsCard

/-- THE TIED CARD OF 'sextonlaw20.DumpBack'. -/
def dumpBackCard : Claim7 := { stood := { row := dumpBackRow, standIns := [], harness := (true, "7c505dcca8bb9b5b3d4f582b53ea9b6eed9cc2848cce0fedc365e79be8476e2c"), looks := true }, kinds := [], alts := [], laidByText := true, laidKinds := [.data, .pinned], laidTests := true, laidLooks := .later }
def DumpBackCardSaid : Prop := Claim7.holds Tryz.pinned (.plain (OpenSpec.ofChange dumpBackSpec)) dumpBackCard

/-- THE TIED CARD OF 'sextonlaw20.DumpLess'. -/
def dumpLessCard : Claim7 := { stood := { row := dumpLessRow, standIns := [], harness := (true, "7c505dcca8bb9b5b3d4f582b53ea9b6eed9cc2848cce0fedc365e79be8476e2c"), looks := true }, kinds := [], alts := [], laidByText := true, laidKinds := [.data, .pinned], laidTests := true, laidLooks := .later }
def DumpLessCardSaid : Prop := Claim7.holds Tryz.pinned (.plain (OpenSpec.ofChange dumpLessSpec)) dumpLessCard

/-- THE TIED CARD OF 'sextonlaw18.VacuumLeast'. -/
def vacuumLeastCard : Claim7 := { stood := { row := vacuumLeastRow, standIns := [], harness := (true, "7c505dcca8bb9b5b3d4f582b53ea9b6eed9cc2848cce0fedc365e79be8476e2c"), looks := true }, kinds := [], alts := [], laidByText := true, laidKinds := [.data, .pinned], laidTests := true, laidLooks := .later }
def VacuumLeastCardSaid : Prop := Claim7.holds Tryz.pinned (.plain (OpenSpec.ofChange vacuumLeastSpec)) vacuumLeastCard

/-- THE TIED CARD OF 'sextonlaw20.DumpTree'. -/
def dumpTreeCard : Claim7 := { stood := { row := dumpTreeRow, standIns := [], harness := (true, "7c505dcca8bb9b5b3d4f582b53ea9b6eed9cc2848cce0fedc365e79be8476e2c"), looks := true }, kinds := [], alts := [], laidByText := true, laidKinds := [.data, .pinned], laidTests := true, laidLooks := .later }
def DumpTreeCardSaid : Prop := Claim7.holds Tryz.pinned (.plain (OpenSpec.ofChange dumpTreeSpec)) dumpTreeCard

/-- THE TIED CARD OF 'sextonlaw16.DiffBack'. -/
def diffBackCard : Claim7 := { stood := { row := diffBackRow, standIns := [], harness := (true, "7c505dcca8bb9b5b3d4f582b53ea9b6eed9cc2848cce0fedc365e79be8476e2c"), looks := true }, kinds := [], alts := [], laidByText := true, laidKinds := [.data, .pinned], laidTests := true, laidLooks := .later }
def DiffBackCardSaid : Prop := Claim7.holds Tryz.pinned (.plain (OpenSpec.ofChange diffBackSpec)) diffBackCard

/-- THE TIED CARD OF 'sextonlaw16.DiffThen'. -/
def diffThenCard : Claim7 := { stood := { row := diffThenRow, standIns := [], harness := (true, "7c505dcca8bb9b5b3d4f582b53ea9b6eed9cc2848cce0fedc365e79be8476e2c"), looks := true }, kinds := [], alts := [], laidByText := true, laidKinds := [.data, .pinned], laidTests := true, laidLooks := .later }
def DiffThenCardSaid : Prop := Claim7.holds Tryz.pinned (.plain (OpenSpec.ofChange diffThenSpec)) diffThenCard

/-- THE TIED CARD OF 'sextonlaw16.DiffTells'. -/
def diffTellsCard : Claim7 := { stood := { row := diffTellsRow, standIns := [], harness := (true, "7c505dcca8bb9b5b3d4f582b53ea9b6eed9cc2848cce0fedc365e79be8476e2c"), looks := true }, kinds := [], alts := [], laidByText := true, laidKinds := [.data, .pinned], laidTests := true, laidLooks := .later }
def DiffTellsCardSaid : Prop := Claim7.holds Tryz.pinned (.plain (OpenSpec.ofChange diffTellsSpec)) diffTellsCard

/-- THE TIED CARD OF 'sextonlaw18.VacuumKeeps'. -/
def vacuumKeepsCard : Claim7 := { stood := { row := vacuumKeepsRow, standIns := [], harness := (true, "7c505dcca8bb9b5b3d4f582b53ea9b6eed9cc2848cce0fedc365e79be8476e2c"), looks := true }, kinds := [], alts := [], laidByText := true, laidKinds := [.data, .pinned], laidTests := true, laidLooks := .later }
def VacuumKeepsCardSaid : Prop := Claim7.holds Tryz.pinned (.plain (OpenSpec.ofChange vacuumKeepsSpec)) vacuumKeepsCard

/-- THE SECOND FORM's CARD OF 'sextonlaw20.DumpDoes'. -/
def dumpDoesUptoCard : Claim7 := { stood := { row := dumpDoesUptoRow, standIns := [], harness := (true, "7c505dcca8bb9b5b3d4f582b53ea9b6eed9cc2848cce0fedc365e79be8476e2c"), looks := true }, kinds := [], alts := [], laidByText := true, laidKinds := [.data, .pinned], laidTests := true, laidLooks := .later }
def DumpDoesUptoCardSaid : Prop := Claim7.holds Tryz.pinned (.plain (OpenSpec.upto dumpDoesSpec)) dumpDoesUptoCard

/-- THE SECOND FORM's CARD OF 'sextonlaw20.DumpGets'. -/
def dumpGetsUptoCard : Claim7 := { stood := { row := dumpGetsUptoRow, standIns := [], harness := (true, "7c505dcca8bb9b5b3d4f582b53ea9b6eed9cc2848cce0fedc365e79be8476e2c"), looks := true }, kinds := [], alts := [], laidByText := true, laidKinds := [.data, .pinned], laidTests := true, laidLooks := .later }
def DumpGetsUptoCardSaid : Prop := Claim7.holds Tryz.pinned (.plain (OpenSpec.upto dumpGetsSpec)) dumpGetsUptoCard

/-- THE SECOND FORM's CARD OF 'sextonlaw20.DumpBack'. -/
def dumpBackUptoCard : Claim7 := { stood := { row := dumpBackUptoRow, standIns := [], harness := (true, "7c505dcca8bb9b5b3d4f582b53ea9b6eed9cc2848cce0fedc365e79be8476e2c"), looks := true }, kinds := [], alts := [], laidByText := true, laidKinds := [.data, .pinned], laidTests := true, laidLooks := .later }
def DumpBackUptoCardSaid : Prop := Claim7.holds Tryz.pinned (.plain (OpenSpec.upto dumpBackSpec)) dumpBackUptoCard

/-- THE SECOND FORM's CARD OF 'sextonlaw20.DumpLess'. -/
def dumpLessUptoCard : Claim7 := { stood := { row := dumpLessUptoRow, standIns := [], harness := (true, "7c505dcca8bb9b5b3d4f582b53ea9b6eed9cc2848cce0fedc365e79be8476e2c"), looks := true }, kinds := [], alts := [], laidByText := true, laidKinds := [.data, .pinned], laidTests := true, laidLooks := .later }
def DumpLessUptoCardSaid : Prop := Claim7.holds Tryz.pinned (.plain (OpenSpec.upto dumpLessSpec)) dumpLessUptoCard

/-- THE SECOND FORM's CARD OF 'sextonlaw18.VacuumLeast'. -/
def vacuumLeastUptoCard : Claim7 := { stood := { row := vacuumLeastUptoRow, standIns := [], harness := (true, "7c505dcca8bb9b5b3d4f582b53ea9b6eed9cc2848cce0fedc365e79be8476e2c"), looks := true }, kinds := [], alts := [], laidByText := true, laidKinds := [.data, .pinned], laidTests := true, laidLooks := .later }
def VacuumLeastUptoCardSaid : Prop := Claim7.holds Tryz.pinned (.plain (OpenSpec.upto vacuumLeastSpec)) vacuumLeastUptoCard

/-- THE SECOND FORM's CARD OF 'sextonlaw20.DumpTree'. -/
def dumpTreeUptoCard : Claim7 := { stood := { row := dumpTreeUptoRow, standIns := [], harness := (true, "7c505dcca8bb9b5b3d4f582b53ea9b6eed9cc2848cce0fedc365e79be8476e2c"), looks := true }, kinds := [], alts := [], laidByText := true, laidKinds := [.data, .pinned], laidTests := true, laidLooks := .later }
def DumpTreeUptoCardSaid : Prop := Claim7.holds Tryz.pinned (.plain (OpenSpec.upto dumpTreeSpec)) dumpTreeUptoCard

/-- THE SECOND FORM's CARD OF 'sextonlaw16.DiffBack'. -/
def diffBackUptoCard : Claim7 := { stood := { row := diffBackUptoRow, standIns := [], harness := (true, "7c505dcca8bb9b5b3d4f582b53ea9b6eed9cc2848cce0fedc365e79be8476e2c"), looks := true }, kinds := [], alts := [], laidByText := true, laidKinds := [.data, .pinned], laidTests := true, laidLooks := .later }
def DiffBackUptoCardSaid : Prop := Claim7.holds Tryz.pinned (.plain (OpenSpec.upto diffBackSpec)) diffBackUptoCard

/-- THE SECOND FORM's CARD OF 'sextonlaw16.DiffThen'. -/
def diffThenUptoCard : Claim7 := { stood := { row := diffThenUptoRow, standIns := [], harness := (true, "7c505dcca8bb9b5b3d4f582b53ea9b6eed9cc2848cce0fedc365e79be8476e2c"), looks := true }, kinds := [], alts := [], laidByText := true, laidKinds := [.data, .pinned], laidTests := true, laidLooks := .later }
def DiffThenUptoCardSaid : Prop := Claim7.holds Tryz.pinned (.plain (OpenSpec.upto diffThenSpec)) diffThenUptoCard

/-- THE SECOND FORM's CARD OF 'sextonlaw16.DiffTells'. -/
def diffTellsUptoCard : Claim7 := { stood := { row := diffTellsUptoRow, standIns := [], harness := (true, "7c505dcca8bb9b5b3d4f582b53ea9b6eed9cc2848cce0fedc365e79be8476e2c"), looks := true }, kinds := [], alts := [], laidByText := true, laidKinds := [.data, .pinned], laidTests := true, laidLooks := .later }
def DiffTellsUptoCardSaid : Prop := Claim7.holds Tryz.pinned (.plain (OpenSpec.upto diffTellsSpec)) diffTellsUptoCard

/-- THE SECOND FORM's CARD OF 'sextonlaw18.VacuumKeeps'. -/
def vacuumKeepsUptoCard : Claim7 := { stood := { row := vacuumKeepsUptoRow, standIns := [], harness := (true, "7c505dcca8bb9b5b3d4f582b53ea9b6eed9cc2848cce0fedc365e79be8476e2c"), looks := true }, kinds := [], alts := [], laidByText := true, laidKinds := [.data, .pinned], laidTests := true, laidLooks := .later }
def VacuumKeepsUptoCardSaid : Prop := Claim7.holds Tryz.pinned (.plain (OpenSpec.upto vacuumKeepsSpec)) vacuumKeepsUptoCard
end Rows
end Go.Proofs.YtmgkebghojhocaaGreatDoor
