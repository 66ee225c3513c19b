/-
  DERIVED. GIVEN WITH THE SEED: THE CARDS: each row of YtoeblkipfdnnlaaGreatDoorRows.lean that lists a variable, with what it lists TIED to the program's text (the seventh form; the later family's looks); each row that meets fmt, with fmt's text TOLD by the authors' own Lean function (tested against real Go, not proved from fmt's source: count such statements apart). THE CARD IS WHAT COUNTS. Prove the row's statement (the work); the ties are given (YtoeblkipfdnnlaaGreatDoorTie.lean); close each card by the builder's one call (the guide's Derived/Test/ToyasCard.lean, 'card_holds'). Laid BY PROGRAM, IN A SANDBOX (cutbox-door.mjs). By AI agents, Wed Nov 11 2026. No macro, syntax, notation, axiom, sorry.
-/
import Derived.Test.YtoeblkipfdnnlaaGreatDoorRows
import GoSem.ClaimSeven
namespace Go.Proofs.YtoeblkipfdnnlaaGreatDoor
namespace Rows

/-- THE TIED CARD OF 'kinfolklaw13.SibsSets'. -/
def sibsSetsCard : Claim7 := { stood := { row := sibsSetsRow, standIns := [], harness := (true, "01c693a4e4ea1a781231cb052ca836655afdd6e7e6b2857a794381d7cf16712f"), looks := true }, kinds := [], alts := [], laidByText := true, laidKinds := [.data, .data, .data, .data, .sentinel, .sentinel, .pinned], laidTests := true, laidLooks := .later }
def SibsSetsCardSaid : Prop := Claim7.holds Tryz.pinned (.plain (OpenSpec.ofChange sibsSetsSpec)) sibsSetsCard

/-- THE TIED CARD OF 'kinfolklaw13.SibsTells'. -/
def sibsTellsCard : Claim7 := { stood := { row := sibsTellsRow, standIns := [], harness := (true, "01c693a4e4ea1a781231cb052ca836655afdd6e7e6b2857a794381d7cf16712f"), looks := true }, kinds := [], alts := [], laidByText := true, laidKinds := [.data, .data, .data, .data, .sentinel, .sentinel, .pinned], laidTests := true, laidLooks := .later }
def SibsTellsCardSaid : Prop := Claim7.holds Tryz.pinned (.plain (OpenSpec.ofChange sibsTellsSpec)) sibsTellsCard

/-- THE TIED CARD OF 'kinfolklaw13.SibsAgrees'. -/
def sibsAgreesCard : Claim7 := { stood := { row := sibsAgreesRow, standIns := [], harness := (true, "01c693a4e4ea1a781231cb052ca836655afdd6e7e6b2857a794381d7cf16712f"), looks := true }, kinds := [], alts := [], laidByText := true, laidKinds := [.data, .data, .data, .data, .sentinel, .sentinel, .pinned], laidTests := true, laidLooks := .later }
def SibsAgreesCardSaid : Prop := Claim7.holds Tryz.pinned (.plain (OpenSpec.ofChange sibsAgreesSpec)) sibsAgreesCard

/-- THE TIED CARD OF 'kinfolklaw13.SibsReads'. -/
def sibsReadsCard : Claim7 := { stood := { row := sibsReadsRow, standIns := [], harness := (true, "01c693a4e4ea1a781231cb052ca836655afdd6e7e6b2857a794381d7cf16712f"), looks := true }, kinds := [], alts := [], laidByText := true, laidKinds := [.data, .data, .data, .data, .sentinel, .sentinel, .pinned], laidTests := true, laidLooks := .later }
def SibsReadsCardSaid : Prop := Claim7.holds Tryz.pinned (.plain (OpenSpec.ofChange sibsReadsSpec)) sibsReadsCard

/-- THE TIED CARD OF 'kinfolklaw13.SibsBytes'. -/
def sibsBytesCard : Claim7 := { stood := { row := sibsBytesRow, standIns := [], harness := (true, "01c693a4e4ea1a781231cb052ca836655afdd6e7e6b2857a794381d7cf16712f"), looks := true }, kinds := [], alts := [], laidByText := true, laidKinds := [.data, .data, .data, .data, .sentinel, .sentinel, .pinned], laidTests := true, laidLooks := .later }
def SibsBytesCardSaid : Prop := Claim7.holds Tryz.pinned (.plain (OpenSpec.ofChange sibsBytesSpec)) sibsBytesCard

/-- THE SECOND FORM's CARD OF 'kinfolklaw13.SibsSets'. -/
def sibsSetsUptoCard : Claim7 := { stood := { row := sibsSetsUptoRow, standIns := [], harness := (true, "01c693a4e4ea1a781231cb052ca836655afdd6e7e6b2857a794381d7cf16712f"), looks := true }, kinds := [], alts := [], laidByText := true, laidKinds := [.data, .data, .data, .data, .sentinel, .sentinel, .pinned], laidTests := true, laidLooks := .later }
def SibsSetsUptoCardSaid : Prop := Claim7.holds Tryz.pinned (.plain (OpenSpec.upto sibsSetsSpec)) sibsSetsUptoCard

/-- THE SECOND FORM's CARD OF 'kinfolklaw13.SibsTells'. -/
def sibsTellsUptoCard : Claim7 := { stood := { row := sibsTellsUptoRow, standIns := [], harness := (true, "01c693a4e4ea1a781231cb052ca836655afdd6e7e6b2857a794381d7cf16712f"), looks := true }, kinds := [], alts := [], laidByText := true, laidKinds := [.data, .data, .data, .data, .sentinel, .sentinel, .pinned], laidTests := true, laidLooks := .later }
def SibsTellsUptoCardSaid : Prop := Claim7.holds Tryz.pinned (.plain (OpenSpec.upto sibsTellsSpec)) sibsTellsUptoCard

/-- THE SECOND FORM's CARD OF 'kinfolklaw13.SibsAgrees'. -/
def sibsAgreesUptoCard : Claim7 := { stood := { row := sibsAgreesUptoRow, standIns := [], harness := (true, "01c693a4e4ea1a781231cb052ca836655afdd6e7e6b2857a794381d7cf16712f"), looks := true }, kinds := [], alts := [], laidByText := true, laidKinds := [.data, .data, .data, .data, .sentinel, .sentinel, .pinned], laidTests := true, laidLooks := .later }
def SibsAgreesUptoCardSaid : Prop := Claim7.holds Tryz.pinned (.plain (OpenSpec.upto sibsAgreesSpec)) sibsAgreesUptoCard

/-- THE SECOND FORM's CARD OF 'kinfolklaw13.SibsReads'. -/
def sibsReadsUptoCard : Claim7 := { stood := { row := sibsReadsUptoRow, standIns := [], harness := (true, "01c693a4e4ea1a781231cb052ca836655afdd6e7e6b2857a794381d7cf16712f"), looks := true }, kinds := [], alts := [], laidByText := true, laidKinds := [.data, .data, .data, .data, .sentinel, .sentinel, .pinned], laidTests := true, laidLooks := .later }
def SibsReadsUptoCardSaid : Prop := Claim7.holds Tryz.pinned (.plain (OpenSpec.upto sibsReadsSpec)) sibsReadsUptoCard

/-- THE SECOND FORM's CARD OF 'kinfolklaw13.SibsBytes'. -/
def sibsBytesUptoCard : Claim7 := { stood := { row := sibsBytesUptoRow, standIns := [], harness := (true, "01c693a4e4ea1a781231cb052ca836655afdd6e7e6b2857a794381d7cf16712f"), looks := true }, kinds := [], alts := [], laidByText := true, laidKinds := [.data, .data, .data, .data, .sentinel, .sentinel, .pinned], laidTests := true, laidLooks := .later }
def SibsBytesUptoCardSaid : Prop := Claim7.holds Tryz.pinned (.plain (OpenSpec.upto sibsBytesSpec)) sibsBytesUptoCard
end Rows
end Go.Proofs.YtoeblkipfdnnlaaGreatDoor
