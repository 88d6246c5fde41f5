/-
  DERIVED. GIVEN WITH THE SEED: THE CARDS: each row of YthdeopopodhimaaGreatDoorRows.lean that lists a variable, with what it lists TIED to the program's text (the seventh form; the later family's looks); each row that meets fmt, with fmt's text TOLD by the authors' own Lean function (tested against real Go, not proved from fmt's source: count such statements apart). THE CARD IS WHAT COUNTS. Prove the row's statement (the work); the ties are given (YthdeopopodhimaaGreatDoorTie.lean); close each card by the builder's one call (the guide's Derived/Test/ToyasCard.lean, 'card_holds'). Laid BY PROGRAM, IN A SANDBOX (cutbox-door.mjs). By AI agents, Wed Nov 11 2026. No macro, syntax, notation, axiom, sorry.
-/
import Derived.Test.YthdeopopodhimaaGreatDoorRows
import GoSem.ClaimSeven
namespace Go.Proofs.YthdeopopodhimaaGreatDoor
namespace Rows

/-- THE TIED CARD OF 'sextonlaw18.VacuumDoes'. -/
def vacuumDoesCard : Claim7 := { stood := { row := vacuumDoesRow, standIns := [], harness := (true, "f959d7d05a18ac446acbc125a01d43392e17ef3e75e427c7f05478a76f770b44"), looks := true }, kinds := [], alts := [], laidByText := true, laidKinds := [.data, .pinned], laidTests := true, laidLooks := .later }
def VacuumDoesCardSaid : Prop := Claim7.holds Tryz.pinned (.plain (OpenSpec.ofChange vacuumDoesSpec)) vacuumDoesCard

/-- THE TIED CARD OF 'sextonlaw18.VacuumLive'. -/
def vacuumLiveCard : Claim7 := { stood := { row := vacuumLiveRow, standIns := [], harness := (true, "f959d7d05a18ac446acbc125a01d43392e17ef3e75e427c7f05478a76f770b44"), looks := true }, kinds := [], alts := [], laidByText := true, laidKinds := [.data, .pinned], laidTests := true, laidLooks := .later }
def VacuumLiveCardSaid : Prop := Claim7.holds Tryz.pinned (.plain (OpenSpec.ofChange vacuumLiveSpec)) vacuumLiveCard

/-- THE TIED CARD OF 'sextonlaw16.DiffOf'. -/
def diffOfCard : Claim7 := { stood := { row := diffOfRow, standIns := [], harness := (true, "f959d7d05a18ac446acbc125a01d43392e17ef3e75e427c7f05478a76f770b44"), looks := true }, kinds := [], alts := [], laidByText := true, laidKinds := [.data, .pinned], laidTests := true, laidLooks := .later }
def DiffOfCardSaid : Prop := Claim7.holds Tryz.pinned (.plain (OpenSpec.ofChange diffOfSpec)) diffOfCard

/-- THE TIED CARD OF 'sextonlaw15.StoreDoes'. -/
def storeDoesCard : Claim7 := { stood := { row := storeDoesRow, standIns := [], harness := (true, "f959d7d05a18ac446acbc125a01d43392e17ef3e75e427c7f05478a76f770b44"), looks := true }, kinds := [], alts := [], laidByText := true, laidKinds := [.data, .pinned], laidTests := true, laidLooks := .later }
def StoreDoesCardSaid : Prop := Claim7.holds Tryz.pinned (.plain (OpenSpec.ofChange storeDoesSpec)) storeDoesCard

/-- THE TIED CARD OF 'sextonlaw15.StoreModel'. -/
def storeModelCard : Claim7 := { stood := { row := storeModelRow, standIns := [], harness := (true, "f959d7d05a18ac446acbc125a01d43392e17ef3e75e427c7f05478a76f770b44"), looks := true }, kinds := [], alts := [], laidByText := true, laidKinds := [.data, .pinned], laidTests := true, laidLooks := .later }
def StoreModelCardSaid : Prop := Claim7.holds Tryz.pinned (.plain (OpenSpec.ofChange storeModelSpec)) storeModelCard

/-- THE TIED CARD OF 'sextonlaw15.StoreStays'. -/
def storeStaysCard : Claim7 := { stood := { row := storeStaysRow, standIns := [], harness := (true, "f959d7d05a18ac446acbc125a01d43392e17ef3e75e427c7f05478a76f770b44"), looks := true }, kinds := [], alts := [], laidByText := true, laidKinds := [.data, .pinned], laidTests := true, laidLooks := .later }
def StoreStaysCardSaid : Prop := Claim7.holds Tryz.pinned (.plain (OpenSpec.ofChange storeStaysSpec)) storeStaysCard

/-- THE TIED CARD OF 'sextonlaw15.StoreLists'. -/
def storeListsCard : Claim7 := { stood := { row := storeListsRow, standIns := [], harness := (true, "f959d7d05a18ac446acbc125a01d43392e17ef3e75e427c7f05478a76f770b44"), looks := true }, kinds := [], alts := [], laidByText := true, laidKinds := [.data, .pinned], laidTests := true, laidLooks := .later }
def StoreListsCardSaid : Prop := Claim7.holds Tryz.pinned (.plain (OpenSpec.ofChange storeListsSpec)) storeListsCard

/-- THE TIED CARD OF 'sextonlaw15.StoreRises'. -/
def storeRisesCard : Claim7 := { stood := { row := storeRisesRow, standIns := [], harness := (true, "f959d7d05a18ac446acbc125a01d43392e17ef3e75e427c7f05478a76f770b44"), looks := true }, kinds := [], alts := [], laidByText := true, laidKinds := [.data, .pinned], laidTests := true, laidLooks := .later }
def StoreRisesCardSaid : Prop := Claim7.holds Tryz.pinned (.plain (OpenSpec.ofChange storeRisesSpec)) storeRisesCard

/-- THE TIED CARD OF 'sextonlaw18.VacuumTwice'. -/
def vacuumTwiceCard : Claim7 := { stood := { row := vacuumTwiceRow, standIns := [], harness := (true, "f959d7d05a18ac446acbc125a01d43392e17ef3e75e427c7f05478a76f770b44"), looks := true }, kinds := [], alts := [], laidByText := true, laidKinds := [.data, .pinned], laidTests := true, laidLooks := .later }
def VacuumTwiceCardSaid : Prop := Claim7.holds Tryz.pinned (.plain (OpenSpec.ofChange vacuumTwiceSpec)) vacuumTwiceCard

/-- THE SECOND FORM's CARD OF 'sextonlaw18.VacuumDoes'. -/
def vacuumDoesUptoCard : Claim7 := { stood := { row := vacuumDoesUptoRow, standIns := [], harness := (true, "f959d7d05a18ac446acbc125a01d43392e17ef3e75e427c7f05478a76f770b44"), looks := true }, kinds := [], alts := [], laidByText := true, laidKinds := [.data, .pinned], laidTests := true, laidLooks := .later }
def VacuumDoesUptoCardSaid : Prop := Claim7.holds Tryz.pinned (.plain (OpenSpec.upto vacuumDoesSpec)) vacuumDoesUptoCard

/-- THE SECOND FORM's CARD OF 'sextonlaw18.VacuumLive'. -/
def vacuumLiveUptoCard : Claim7 := { stood := { row := vacuumLiveUptoRow, standIns := [], harness := (true, "f959d7d05a18ac446acbc125a01d43392e17ef3e75e427c7f05478a76f770b44"), looks := true }, kinds := [], alts := [], laidByText := true, laidKinds := [.data, .pinned], laidTests := true, laidLooks := .later }
def VacuumLiveUptoCardSaid : Prop := Claim7.holds Tryz.pinned (.plain (OpenSpec.upto vacuumLiveSpec)) vacuumLiveUptoCard

/-- THE SECOND FORM's CARD OF 'sextonlaw16.DiffOf'. -/
def diffOfUptoCard : Claim7 := { stood := { row := diffOfUptoRow, standIns := [], harness := (true, "f959d7d05a18ac446acbc125a01d43392e17ef3e75e427c7f05478a76f770b44"), looks := true }, kinds := [], alts := [], laidByText := true, laidKinds := [.data, .pinned], laidTests := true, laidLooks := .later }
def DiffOfUptoCardSaid : Prop := Claim7.holds Tryz.pinned (.plain (OpenSpec.upto diffOfSpec)) diffOfUptoCard

/-- THE SECOND FORM's CARD OF 'sextonlaw15.StoreDoes'. -/
def storeDoesUptoCard : Claim7 := { stood := { row := storeDoesUptoRow, standIns := [], harness := (true, "f959d7d05a18ac446acbc125a01d43392e17ef3e75e427c7f05478a76f770b44"), looks := true }, kinds := [], alts := [], laidByText := true, laidKinds := [.data, .pinned], laidTests := true, laidLooks := .later }
def StoreDoesUptoCardSaid : Prop := Claim7.holds Tryz.pinned (.plain (OpenSpec.upto storeDoesSpec)) storeDoesUptoCard

/-- THE SECOND FORM's CARD OF 'sextonlaw15.StoreModel'. -/
def storeModelUptoCard : Claim7 := { stood := { row := storeModelUptoRow, standIns := [], harness := (true, "f959d7d05a18ac446acbc125a01d43392e17ef3e75e427c7f05478a76f770b44"), looks := true }, kinds := [], alts := [], laidByText := true, laidKinds := [.data, .pinned], laidTests := true, laidLooks := .later }
def StoreModelUptoCardSaid : Prop := Claim7.holds Tryz.pinned (.plain (OpenSpec.upto storeModelSpec)) storeModelUptoCard

/-- THE SECOND FORM's CARD OF 'sextonlaw15.StoreStays'. -/
def storeStaysUptoCard : Claim7 := { stood := { row := storeStaysUptoRow, standIns := [], harness := (true, "f959d7d05a18ac446acbc125a01d43392e17ef3e75e427c7f05478a76f770b44"), looks := true }, kinds := [], alts := [], laidByText := true, laidKinds := [.data, .pinned], laidTests := true, laidLooks := .later }
def StoreStaysUptoCardSaid : Prop := Claim7.holds Tryz.pinned (.plain (OpenSpec.upto storeStaysSpec)) storeStaysUptoCard

/-- THE SECOND FORM's CARD OF 'sextonlaw15.StoreLists'. -/
def storeListsUptoCard : Claim7 := { stood := { row := storeListsUptoRow, standIns := [], harness := (true, "f959d7d05a18ac446acbc125a01d43392e17ef3e75e427c7f05478a76f770b44"), looks := true }, kinds := [], alts := [], laidByText := true, laidKinds := [.data, .pinned], laidTests := true, laidLooks := .later }
def StoreListsUptoCardSaid : Prop := Claim7.holds Tryz.pinned (.plain (OpenSpec.upto storeListsSpec)) storeListsUptoCard

/-- THE SECOND FORM's CARD OF 'sextonlaw15.StoreRises'. -/
def storeRisesUptoCard : Claim7 := { stood := { row := storeRisesUptoRow, standIns := [], harness := (true, "f959d7d05a18ac446acbc125a01d43392e17ef3e75e427c7f05478a76f770b44"), looks := true }, kinds := [], alts := [], laidByText := true, laidKinds := [.data, .pinned], laidTests := true, laidLooks := .later }
def StoreRisesUptoCardSaid : Prop := Claim7.holds Tryz.pinned (.plain (OpenSpec.upto storeRisesSpec)) storeRisesUptoCard

/-- THE SECOND FORM's CARD OF 'sextonlaw18.VacuumTwice'. -/
def vacuumTwiceUptoCard : Claim7 := { stood := { row := vacuumTwiceUptoRow, standIns := [], harness := (true, "f959d7d05a18ac446acbc125a01d43392e17ef3e75e427c7f05478a76f770b44"), looks := true }, kinds := [], alts := [], laidByText := true, laidKinds := [.data, .pinned], laidTests := true, laidLooks := .later }
def VacuumTwiceUptoCardSaid : Prop := Claim7.holds Tryz.pinned (.plain (OpenSpec.upto vacuumTwiceSpec)) vacuumTwiceUptoCard
end Rows
end Go.Proofs.YthdeopopodhimaaGreatDoor
