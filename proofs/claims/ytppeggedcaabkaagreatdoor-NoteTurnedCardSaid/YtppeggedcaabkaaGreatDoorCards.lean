/-
  DERIVED. GIVEN WITH THE SEED: THE CARDS: each row of YtppeggedcaabkaaGreatDoorRows.lean that lists a variable, with what it lists TIED to the program's text (the seventh form; the later family's looks); each row that meets fmt, with fmt's text TOLD by the authors' own Lean function (tested against real Go, not proved from fmt's source: count such statements apart). THE CARD IS WHAT COUNTS. Prove the row's statement (the work); the ties are given (YtppeggedcaabkaaGreatDoorTie.lean); close each card by the builder's one call (the guide's Derived/Test/ToyasCard.lean, 'card_holds'). Laid BY PROGRAM, IN A SANDBOX (cutbox-door.mjs). By AI agents, Wed Nov 11 2026. No macro, syntax, notation, axiom, sorry.
-/
import Derived.Test.YtppeggedcaabkaaGreatDoorRows
import GoSem.ClaimSeven
namespace Go.Proofs.YtppeggedcaabkaaGreatDoor
namespace Rows

/-- THE TIED CARD OF 'kinfolklaw17.NoteApart'. -/
def noteApartCard : Claim7 := { stood := { row := noteApartRow, standIns := [], harness := (true, "493b232f7dea0c4be09e8bf57e5b3933ccf19aaf015b6dc5abd03cea73a395f1"), looks := false }, kinds := [], alts := [], laidByText := true, laidKinds := [.data, .pinned], laidTests := true, laidLooks := .later }
def NoteApartCardSaid : Prop := Claim7.holds Tryz.pinned (.plain (OpenSpec.ofChange noteApartSpec)) noteApartCard

/-- THE TIED CARD OF 'kinfolklaw17.NoteBytes'. -/
def noteBytesCard : Claim7 := { stood := { row := noteBytesRow, standIns := [], harness := (true, "493b232f7dea0c4be09e8bf57e5b3933ccf19aaf015b6dc5abd03cea73a395f1"), looks := false }, kinds := [], alts := [], laidByText := true, laidKinds := [.data, .pinned], laidTests := true, laidLooks := .later }
def NoteBytesCardSaid : Prop := Claim7.holds Tryz.pinned (.plain (OpenSpec.ofChange noteBytesSpec)) noteBytesCard

/-- THE TIED CARD OF 'kinfolklaw17.NoteReads'. -/
def noteReadsCard : Claim7 := { stood := { row := noteReadsRow, standIns := [], harness := (true, "493b232f7dea0c4be09e8bf57e5b3933ccf19aaf015b6dc5abd03cea73a395f1"), looks := false }, kinds := [], alts := [], laidByText := true, laidKinds := [.data, .pinned], laidTests := true, laidLooks := .later }
def NoteReadsCardSaid : Prop := Claim7.holds Tryz.pinned (.plain (OpenSpec.ofChange noteReadsSpec)) noteReadsCard

/-- THE TIED CARD OF 'kinfolklaw17.NoteTurned'. -/
def noteTurnedCard : Claim7 := { stood := { row := noteTurnedRow, standIns := [], harness := (true, "493b232f7dea0c4be09e8bf57e5b3933ccf19aaf015b6dc5abd03cea73a395f1"), looks := false }, kinds := [], alts := [], laidByText := true, laidKinds := [.data, .pinned], laidTests := true, laidLooks := .later }
def NoteTurnedCardSaid : Prop := Claim7.holds Tryz.pinned (.plain (OpenSpec.ofChange noteTurnedSpec)) noteTurnedCard

/-- THE SECOND FORM's CARD OF 'kinfolklaw17.NoteApart'. -/
def noteApartUptoCard : Claim7 := { stood := { row := noteApartUptoRow, standIns := [], harness := (true, "493b232f7dea0c4be09e8bf57e5b3933ccf19aaf015b6dc5abd03cea73a395f1"), looks := false }, kinds := [], alts := [], laidByText := true, laidKinds := [.data, .pinned], laidTests := true, laidLooks := .later }
def NoteApartUptoCardSaid : Prop := Claim7.holds Tryz.pinned (.plain (OpenSpec.upto noteApartSpec)) noteApartUptoCard

/-- THE SECOND FORM's CARD OF 'kinfolklaw17.NoteBytes'. -/
def noteBytesUptoCard : Claim7 := { stood := { row := noteBytesUptoRow, standIns := [], harness := (true, "493b232f7dea0c4be09e8bf57e5b3933ccf19aaf015b6dc5abd03cea73a395f1"), looks := false }, kinds := [], alts := [], laidByText := true, laidKinds := [.data, .pinned], laidTests := true, laidLooks := .later }
def NoteBytesUptoCardSaid : Prop := Claim7.holds Tryz.pinned (.plain (OpenSpec.upto noteBytesSpec)) noteBytesUptoCard

/-- THE SECOND FORM's CARD OF 'kinfolklaw17.NoteReads'. -/
def noteReadsUptoCard : Claim7 := { stood := { row := noteReadsUptoRow, standIns := [], harness := (true, "493b232f7dea0c4be09e8bf57e5b3933ccf19aaf015b6dc5abd03cea73a395f1"), looks := false }, kinds := [], alts := [], laidByText := true, laidKinds := [.data, .pinned], laidTests := true, laidLooks := .later }
def NoteReadsUptoCardSaid : Prop := Claim7.holds Tryz.pinned (.plain (OpenSpec.upto noteReadsSpec)) noteReadsUptoCard

/-- THE SECOND FORM's CARD OF 'kinfolklaw17.NoteTurned'. -/
def noteTurnedUptoCard : Claim7 := { stood := { row := noteTurnedUptoRow, standIns := [], harness := (true, "493b232f7dea0c4be09e8bf57e5b3933ccf19aaf015b6dc5abd03cea73a395f1"), looks := false }, kinds := [], alts := [], laidByText := true, laidKinds := [.data, .pinned], laidTests := true, laidLooks := .later }
def NoteTurnedUptoCardSaid : Prop := Claim7.holds Tryz.pinned (.plain (OpenSpec.upto noteTurnedSpec)) noteTurnedUptoCard
end Rows
end Go.Proofs.YtppeggedcaabkaaGreatDoor
