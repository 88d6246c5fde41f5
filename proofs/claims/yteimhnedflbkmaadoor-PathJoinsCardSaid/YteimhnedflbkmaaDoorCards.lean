/-
  DERIVED. GIVEN WITH THE SEED: THE CARDS: each row of YteimhnedflbkmaaDoorRows.lean that lists a variable, with what it lists TIED to the program's text (the seventh form; the later family's looks); each row that meets fmt, with fmt's text TOLD by the authors' own Lean function (tested against real Go, not proved from fmt's source: count such statements apart). THE CARD IS WHAT COUNTS. Prove the row's statement (the work); the ties are given (YteimhnedflbkmaaDoorTie.lean); close each card by the builder's one call (the guide's Derived/Test/ToyasCard.lean, 'card_holds'). Laid BY PROGRAM, IN A SANDBOX (cutbox-door.mjs). By AI agents, Wed Nov 11 2026. No macro, syntax, notation, axiom, sorry.
-/
import Derived.Test.YteimhnedflbkmaaDoorRows
import GoSem.ClaimSeven
namespace Go.Proofs.YteimhnedflbkmaaDoor
namespace Rows

/-- THE TIED CARD OF 'sextonlaw08.KeyBack'. -/
def keyBackCard : Claim7 := { stood := { row := keyBackRow, standIns := [], harness := (true, "bc1c2c23500d136d1106924a578add6f958c00696695304cf84b8614b06065d8"), looks := true }, kinds := [], alts := [], laidByText := true, laidKinds := [.data, .pinned], laidTests := true, laidLooks := .later }
def KeyBackCardSaid : Prop := Claim7.holds Tryd.pinned (.plain (OpenSpec.ofChange keyBackSpec)) keyBackCard

/-- THE TIED CARD OF 'sextonlaw08.KeyOrder'. -/
def keyOrderCard : Claim7 := { stood := { row := keyOrderRow, standIns := [], harness := (true, "bc1c2c23500d136d1106924a578add6f958c00696695304cf84b8614b06065d8"), looks := true }, kinds := [], alts := [], laidByText := true, laidKinds := [.data, .pinned], laidTests := true, laidLooks := .later }
def KeyOrderCardSaid : Prop := Claim7.holds Tryd.pinned (.plain (OpenSpec.ofChange keyOrderSpec)) keyOrderCard

/-- THE TIED CARD OF 'sextonlaw08.KeyDoes'. -/
def keyDoesCard : Claim7 := { stood := { row := keyDoesRow, standIns := [], harness := (true, "bc1c2c23500d136d1106924a578add6f958c00696695304cf84b8614b06065d8"), looks := true }, kinds := [], alts := [], laidByText := true, laidKinds := [.data, .pinned], laidTests := true, laidLooks := .later }
def KeyDoesCardSaid : Prop := Claim7.holds Tryd.pinned (.plain (OpenSpec.ofChange keyDoesSpec)) keyDoesCard

/-- THE TIED CARD OF 'sextonlaw08.KeyFirst'. -/
def keyFirstCard : Claim7 := { stood := { row := keyFirstRow, standIns := [], harness := (true, "bc1c2c23500d136d1106924a578add6f958c00696695304cf84b8614b06065d8"), looks := true }, kinds := [], alts := [], laidByText := true, laidKinds := [.data, .pinned], laidTests := true, laidLooks := .later }
def KeyFirstCardSaid : Prop := Claim7.holds Tryd.pinned (.plain (OpenSpec.ofChange keyFirstSpec)) keyFirstCard

/-- THE TIED CARD OF 'sextonlaw08.KeyUnder'. -/
def keyUnderCard : Claim7 := { stood := { row := keyUnderRow, standIns := [], harness := (true, "bc1c2c23500d136d1106924a578add6f958c00696695304cf84b8614b06065d8"), looks := true }, kinds := [], alts := [], laidByText := true, laidKinds := [.data, .pinned], laidTests := true, laidLooks := .later }
def KeyUnderCardSaid : Prop := Claim7.holds Tryd.pinned (.plain (OpenSpec.ofChange keyUnderSpec)) keyUnderCard

/-- THE TIED CARD OF 'sextonlaw02.PathTwice'. -/
def pathTwiceCard : Claim7 := { stood := { row := pathTwiceRow, standIns := [], harness := (true, "bc1c2c23500d136d1106924a578add6f958c00696695304cf84b8614b06065d8"), looks := true }, kinds := [], alts := [], laidByText := true, laidKinds := [.data, .pinned], laidTests := true, laidLooks := .later }
def PathTwiceCardSaid : Prop := Claim7.holds Tryd.pinned (.plain (OpenSpec.ofChange pathTwiceSpec)) pathTwiceCard

/-- THE TIED CARD OF 'sextonlaw02.PathUnder'. -/
def pathUnderCard : Claim7 := { stood := { row := pathUnderRow, standIns := [], harness := (true, "bc1c2c23500d136d1106924a578add6f958c00696695304cf84b8614b06065d8"), looks := true }, kinds := [], alts := [], laidByText := true, laidKinds := [.data, .pinned], laidTests := true, laidLooks := .later }
def PathUnderCardSaid : Prop := Claim7.holds Tryd.pinned (.plain (OpenSpec.ofChange pathUnderSpec)) pathUnderCard

/-- THE TIED CARD OF 'sextonlaw02.PathParts'. -/
def pathPartsCard : Claim7 := { stood := { row := pathPartsRow, standIns := [], harness := (true, "bc1c2c23500d136d1106924a578add6f958c00696695304cf84b8614b06065d8"), looks := true }, kinds := [], alts := [], laidByText := true, laidKinds := [.data, .pinned], laidTests := true, laidLooks := .later }
def PathPartsCardSaid : Prop := Claim7.holds Tryd.pinned (.plain (OpenSpec.ofChange pathPartsSpec)) pathPartsCard

/-- THE TIED CARD OF 'sextonlaw02.PathNorms'. -/
def pathNormsCard : Claim7 := { stood := { row := pathNormsRow, standIns := [], harness := (true, "bc1c2c23500d136d1106924a578add6f958c00696695304cf84b8614b06065d8"), looks := true }, kinds := [], alts := [], laidByText := true, laidKinds := [.data, .pinned], laidTests := true, laidLooks := .later }
def PathNormsCardSaid : Prop := Claim7.holds Tryd.pinned (.plain (OpenSpec.ofChange pathNormsSpec)) pathNormsCard

/-- THE TIED CARD OF 'sextonlaw02.PathJoins'. -/
def pathJoinsCard : Claim7 := { stood := { row := pathJoinsRow, standIns := [], harness := (true, "bc1c2c23500d136d1106924a578add6f958c00696695304cf84b8614b06065d8"), looks := true }, kinds := [], alts := [], laidByText := true, laidKinds := [.data, .pinned], laidTests := true, laidLooks := .later }
def PathJoinsCardSaid : Prop := Claim7.holds Tryd.pinned (.plain (OpenSpec.ofChange pathJoinsSpec)) pathJoinsCard

/-- THE TIED CARD OF 'sextonlaw02.PathBack'. -/
def pathBackCard : Claim7 := { stood := { row := pathBackRow, standIns := [], harness := (true, "bc1c2c23500d136d1106924a578add6f958c00696695304cf84b8614b06065d8"), looks := true }, kinds := [], alts := [], laidByText := true, laidKinds := [.data, .pinned], laidTests := true, laidLooks := .later }
def PathBackCardSaid : Prop := Claim7.holds Tryd.pinned (.plain (OpenSpec.ofChange pathBackSpec)) pathBackCard

/-- THE SECOND FORM's CARD OF 'sextonlaw08.KeyBack'. -/
def keyBackUptoCard : Claim7 := { stood := { row := keyBackUptoRow, standIns := [], harness := (true, "bc1c2c23500d136d1106924a578add6f958c00696695304cf84b8614b06065d8"), looks := true }, kinds := [], alts := [], laidByText := true, laidKinds := [.data, .pinned], laidTests := true, laidLooks := .later }
def KeyBackUptoCardSaid : Prop := Claim7.holds Tryd.pinned (.plain (OpenSpec.upto keyBackSpec)) keyBackUptoCard

/-- THE SECOND FORM's CARD OF 'sextonlaw08.KeyOrder'. -/
def keyOrderUptoCard : Claim7 := { stood := { row := keyOrderUptoRow, standIns := [], harness := (true, "bc1c2c23500d136d1106924a578add6f958c00696695304cf84b8614b06065d8"), looks := true }, kinds := [], alts := [], laidByText := true, laidKinds := [.data, .pinned], laidTests := true, laidLooks := .later }
def KeyOrderUptoCardSaid : Prop := Claim7.holds Tryd.pinned (.plain (OpenSpec.upto keyOrderSpec)) keyOrderUptoCard

/-- THE SECOND FORM's CARD OF 'sextonlaw08.KeyDoes'. -/
def keyDoesUptoCard : Claim7 := { stood := { row := keyDoesUptoRow, standIns := [], harness := (true, "bc1c2c23500d136d1106924a578add6f958c00696695304cf84b8614b06065d8"), looks := true }, kinds := [], alts := [], laidByText := true, laidKinds := [.data, .pinned], laidTests := true, laidLooks := .later }
def KeyDoesUptoCardSaid : Prop := Claim7.holds Tryd.pinned (.plain (OpenSpec.upto keyDoesSpec)) keyDoesUptoCard

/-- THE SECOND FORM's CARD OF 'sextonlaw08.KeyFirst'. -/
def keyFirstUptoCard : Claim7 := { stood := { row := keyFirstUptoRow, standIns := [], harness := (true, "bc1c2c23500d136d1106924a578add6f958c00696695304cf84b8614b06065d8"), looks := true }, kinds := [], alts := [], laidByText := true, laidKinds := [.data, .pinned], laidTests := true, laidLooks := .later }
def KeyFirstUptoCardSaid : Prop := Claim7.holds Tryd.pinned (.plain (OpenSpec.upto keyFirstSpec)) keyFirstUptoCard

/-- THE SECOND FORM's CARD OF 'sextonlaw08.KeyUnder'. -/
def keyUnderUptoCard : Claim7 := { stood := { row := keyUnderUptoRow, standIns := [], harness := (true, "bc1c2c23500d136d1106924a578add6f958c00696695304cf84b8614b06065d8"), looks := true }, kinds := [], alts := [], laidByText := true, laidKinds := [.data, .pinned], laidTests := true, laidLooks := .later }
def KeyUnderUptoCardSaid : Prop := Claim7.holds Tryd.pinned (.plain (OpenSpec.upto keyUnderSpec)) keyUnderUptoCard

/-- THE SECOND FORM's CARD OF 'sextonlaw02.PathTwice'. -/
def pathTwiceUptoCard : Claim7 := { stood := { row := pathTwiceUptoRow, standIns := [], harness := (true, "bc1c2c23500d136d1106924a578add6f958c00696695304cf84b8614b06065d8"), looks := true }, kinds := [], alts := [], laidByText := true, laidKinds := [.data, .pinned], laidTests := true, laidLooks := .later }
def PathTwiceUptoCardSaid : Prop := Claim7.holds Tryd.pinned (.plain (OpenSpec.upto pathTwiceSpec)) pathTwiceUptoCard

/-- THE SECOND FORM's CARD OF 'sextonlaw02.PathUnder'. -/
def pathUnderUptoCard : Claim7 := { stood := { row := pathUnderUptoRow, standIns := [], harness := (true, "bc1c2c23500d136d1106924a578add6f958c00696695304cf84b8614b06065d8"), looks := true }, kinds := [], alts := [], laidByText := true, laidKinds := [.data, .pinned], laidTests := true, laidLooks := .later }
def PathUnderUptoCardSaid : Prop := Claim7.holds Tryd.pinned (.plain (OpenSpec.upto pathUnderSpec)) pathUnderUptoCard

/-- THE SECOND FORM's CARD OF 'sextonlaw02.PathParts'. -/
def pathPartsUptoCard : Claim7 := { stood := { row := pathPartsUptoRow, standIns := [], harness := (true, "bc1c2c23500d136d1106924a578add6f958c00696695304cf84b8614b06065d8"), looks := true }, kinds := [], alts := [], laidByText := true, laidKinds := [.data, .pinned], laidTests := true, laidLooks := .later }
def PathPartsUptoCardSaid : Prop := Claim7.holds Tryd.pinned (.plain (OpenSpec.upto pathPartsSpec)) pathPartsUptoCard

/-- THE SECOND FORM's CARD OF 'sextonlaw02.PathNorms'. -/
def pathNormsUptoCard : Claim7 := { stood := { row := pathNormsUptoRow, standIns := [], harness := (true, "bc1c2c23500d136d1106924a578add6f958c00696695304cf84b8614b06065d8"), looks := true }, kinds := [], alts := [], laidByText := true, laidKinds := [.data, .pinned], laidTests := true, laidLooks := .later }
def PathNormsUptoCardSaid : Prop := Claim7.holds Tryd.pinned (.plain (OpenSpec.upto pathNormsSpec)) pathNormsUptoCard

/-- THE SECOND FORM's CARD OF 'sextonlaw02.PathJoins'. -/
def pathJoinsUptoCard : Claim7 := { stood := { row := pathJoinsUptoRow, standIns := [], harness := (true, "bc1c2c23500d136d1106924a578add6f958c00696695304cf84b8614b06065d8"), looks := true }, kinds := [], alts := [], laidByText := true, laidKinds := [.data, .pinned], laidTests := true, laidLooks := .later }
def PathJoinsUptoCardSaid : Prop := Claim7.holds Tryd.pinned (.plain (OpenSpec.upto pathJoinsSpec)) pathJoinsUptoCard

/-- THE SECOND FORM's CARD OF 'sextonlaw02.PathBack'. -/
def pathBackUptoCard : Claim7 := { stood := { row := pathBackUptoRow, standIns := [], harness := (true, "bc1c2c23500d136d1106924a578add6f958c00696695304cf84b8614b06065d8"), looks := true }, kinds := [], alts := [], laidByText := true, laidKinds := [.data, .pinned], laidTests := true, laidLooks := .later }
def PathBackUptoCardSaid : Prop := Claim7.holds Tryd.pinned (.plain (OpenSpec.upto pathBackSpec)) pathBackUptoCard
end Rows
end Go.Proofs.YteimhnedflbkmaaDoor
