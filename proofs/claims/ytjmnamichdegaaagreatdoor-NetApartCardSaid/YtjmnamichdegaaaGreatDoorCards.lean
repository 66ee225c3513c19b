/-
  DERIVED. GIVEN WITH THE SEED: THE CARDS: each row of YtjmnamichdegaaaGreatDoorRows.lean that lists a variable, with what it lists TIED to the program's text (the seventh form; the later family's looks); each row that meets fmt, with fmt's text TOLD by the authors' own Lean function (tested against real Go, not proved from fmt's source: count such statements apart). THE CARD IS WHAT COUNTS. Prove the row's statement (the work); the ties are given (YtjmnamichdegaaaGreatDoorTie.lean); close each card by the builder's one call (the guide's Derived/Test/ToyasCard.lean, 'card_holds'). Laid BY PROGRAM, IN A SANDBOX (cutbox-door.mjs). By AI agents, Wed Nov 11 2026. No macro, syntax, notation, axiom, sorry.
-/
import Derived.Test.YtjmnamichdegaaaGreatDoorRows
import GoSem.ClaimSeven
namespace Go.Proofs.YtjmnamichdegaaaGreatDoor
namespace Rows

/-- THE TIED CARD OF 'kinfolklaw20.NetPlays'. -/
def netPlaysCard : Claim7 := { stood := { row := netPlaysRow, standIns := [], harness := (true, "a83632830fe902a3ec7155a8390243e2f5f9f604e595161b5475f1fe34c159c6"), looks := false }, kinds := [], alts := [], laidByText := true, laidKinds := [.data, .pinned], laidTests := true, laidLooks := .later }
def NetPlaysCardSaid : Prop := Claim7.holds Tryz.pinned (.plain (OpenSpec.ofChange netPlaysSpec)) netPlaysCard

/-- THE TIED CARD OF 'kinfolklaw20.NetApart'. -/
def netApartCard : Claim7 := { stood := { row := netApartRow, standIns := [], harness := (true, "a83632830fe902a3ec7155a8390243e2f5f9f604e595161b5475f1fe34c159c6"), looks := false }, kinds := [], alts := [], laidByText := true, laidKinds := [.data, .pinned], laidTests := true, laidLooks := .later }
def NetApartCardSaid : Prop := Claim7.holds Tryz.pinned (.plain (OpenSpec.ofChange netApartSpec)) netApartCard

/-- THE SECOND FORM's CARD OF 'kinfolklaw20.NetPlays'. -/
def netPlaysUptoCard : Claim7 := { stood := { row := netPlaysUptoRow, standIns := [], harness := (true, "a83632830fe902a3ec7155a8390243e2f5f9f604e595161b5475f1fe34c159c6"), looks := false }, kinds := [], alts := [], laidByText := true, laidKinds := [.data, .pinned], laidTests := true, laidLooks := .later }
def NetPlaysUptoCardSaid : Prop := Claim7.holds Tryz.pinned (.plain (OpenSpec.upto netPlaysSpec)) netPlaysUptoCard

/-- THE SECOND FORM's CARD OF 'kinfolklaw20.NetApart'. -/
def netApartUptoCard : Claim7 := { stood := { row := netApartUptoRow, standIns := [], harness := (true, "a83632830fe902a3ec7155a8390243e2f5f9f604e595161b5475f1fe34c159c6"), looks := false }, kinds := [], alts := [], laidByText := true, laidKinds := [.data, .pinned], laidTests := true, laidLooks := .later }
def NetApartUptoCardSaid : Prop := Claim7.holds Tryz.pinned (.plain (OpenSpec.upto netApartSpec)) netApartUptoCard
end Rows
end Go.Proofs.YtjmnamichdegaaaGreatDoor
