/-
  DERIVED. GIVEN WITH THE SEED: THE CARDS: each row of YteliblifgdofgaaGreatDoorRows.lean that lists a variable, with what it lists TIED to the program's text (the seventh form; the later family's looks); each row that meets fmt, with fmt's text TOLD by the authors' own Lean function (tested against real Go, not proved from fmt's source: count such statements apart). THE CARD IS WHAT COUNTS. Prove the row's statement (the work); the ties are given (YteliblifgdofgaaGreatDoorTie.lean); close each card by the builder's one call (the guide's Derived/Test/ToyasCard.lean, 'card_holds'). Laid BY PROGRAM, IN A SANDBOX (cutbox-door.mjs). By AI agents, Wed Nov 11 2026. No macro, syntax, notation, axiom, sorry.
-/
import Derived.Test.YteliblifgdofgaaGreatDoorRows
import GoSem.ClaimSeven
namespace Go.Proofs.YteliblifgdofgaaGreatDoor
namespace Rows

/-- THE TIED CARD OF 'sextonlaw27.ReadFront'. -/
def readFrontCard : Claim7 := { stood := { row := readFrontRow, standIns := [], harness := (true, "1642c1bdcb9f767c9cb3b2620a4ebd727fd21ba7b9669ca7633764c850ed8646"), looks := true }, kinds := [], alts := [], laidByText := true, laidKinds := [.data, .pinned], laidTests := true, laidLooks := .later }
def ReadFrontCardSaid : Prop := Claim7.holds Tryz.pinned (.plain (OpenSpec.ofChange readFrontSpec)) readFrontCard

/-- THE TIED CARD OF 'sextonlaw27.ReadAgain'. -/
def readAgainCard : Claim7 := { stood := { row := readAgainRow, standIns := [], harness := (true, "1642c1bdcb9f767c9cb3b2620a4ebd727fd21ba7b9669ca7633764c850ed8646"), looks := true }, kinds := [], alts := [], laidByText := true, laidKinds := [.data, .pinned], laidTests := true, laidLooks := .later }
def ReadAgainCardSaid : Prop := Claim7.holds Tryz.pinned (.plain (OpenSpec.ofChange readAgainSpec)) readAgainCard

/-- THE TIED CARD OF 'sextonlaw27.ReadTells'. -/
def readTellsCard : Claim7 := { stood := { row := readTellsRow, standIns := [], harness := (true, "1642c1bdcb9f767c9cb3b2620a4ebd727fd21ba7b9669ca7633764c850ed8646"), looks := true }, kinds := [], alts := [], laidByText := true, laidKinds := [.data, .pinned], laidTests := true, laidLooks := .later }
def ReadTellsCardSaid : Prop := Claim7.holds Tryz.pinned (.plain (OpenSpec.ofChange readTellsSpec)) readTellsCard

/-- THE SECOND FORM's CARD OF 'sextonlaw27.ReadFront'. -/
def readFrontUptoCard : Claim7 := { stood := { row := readFrontUptoRow, standIns := [], harness := (true, "1642c1bdcb9f767c9cb3b2620a4ebd727fd21ba7b9669ca7633764c850ed8646"), looks := true }, kinds := [], alts := [], laidByText := true, laidKinds := [.data, .pinned], laidTests := true, laidLooks := .later }
def ReadFrontUptoCardSaid : Prop := Claim7.holds Tryz.pinned (.plain (OpenSpec.upto readFrontSpec)) readFrontUptoCard

/-- THE SECOND FORM's CARD OF 'sextonlaw27.ReadAgain'. -/
def readAgainUptoCard : Claim7 := { stood := { row := readAgainUptoRow, standIns := [], harness := (true, "1642c1bdcb9f767c9cb3b2620a4ebd727fd21ba7b9669ca7633764c850ed8646"), looks := true }, kinds := [], alts := [], laidByText := true, laidKinds := [.data, .pinned], laidTests := true, laidLooks := .later }
def ReadAgainUptoCardSaid : Prop := Claim7.holds Tryz.pinned (.plain (OpenSpec.upto readAgainSpec)) readAgainUptoCard

/-- THE SECOND FORM's CARD OF 'sextonlaw27.ReadTells'. -/
def readTellsUptoCard : Claim7 := { stood := { row := readTellsUptoRow, standIns := [], harness := (true, "1642c1bdcb9f767c9cb3b2620a4ebd727fd21ba7b9669ca7633764c850ed8646"), looks := true }, kinds := [], alts := [], laidByText := true, laidKinds := [.data, .pinned], laidTests := true, laidLooks := .later }
def ReadTellsUptoCardSaid : Prop := Claim7.holds Tryz.pinned (.plain (OpenSpec.upto readTellsSpec)) readTellsUptoCard
end Rows
end Go.Proofs.YteliblifgdofgaaGreatDoor
