/-
  DERIVED. GIVEN WITH THE SEED: THE CARDS: each row of YtkdimbcfacoboaaGreatDoorRows.lean that lists a variable, with what it lists TIED to the program's text (the seventh form; the later family's looks); each row that meets fmt, with fmt's text TOLD by the authors' own Lean function (tested against real Go, not proved from fmt's source: count such statements apart). THE CARD IS WHAT COUNTS. Prove the row's statement (the work); the ties are given (YtkdimbcfacoboaaGreatDoorTie.lean); close each card by the builder's one call (the guide's Derived/Test/ToyasCard.lean, 'card_holds'). Laid BY PROGRAM, IN A SANDBOX (cutbox-door.mjs). By AI agents, Wed Nov 11 2026. No macro, syntax, notation, axiom, sorry.
-/
import Derived.Test.YtkdimbcfacoboaaGreatDoorRows
import GoSem.ClaimSeven
namespace Go.Proofs.YtkdimbcfacoboaaGreatDoor
namespace Rows

/-- THE TIED CARD OF 'kinfolklaw20.NetOrder'. -/
def netOrderCard : Claim7 := { stood := { row := netOrderRow, standIns := [], harness := (true, "4a8ec73a17b443b5df5bfb440cc5743a8cbcbbfe5a7363137cfdf7f072e37f12"), looks := false }, kinds := [], alts := [], laidByText := true, laidKinds := [.data, .pinned], laidTests := true, laidLooks := .later }
def NetOrderCardSaid : Prop := Claim7.holds Tryz.pinned (.plain (OpenSpec.ofChange netOrderSpec)) netOrderCard

/-- THE TIED CARD OF 'kinfolklaw20.NetTurned'. -/
def netTurnedCard : Claim7 := { stood := { row := netTurnedRow, standIns := [], harness := (true, "4a8ec73a17b443b5df5bfb440cc5743a8cbcbbfe5a7363137cfdf7f072e37f12"), looks := false }, kinds := [], alts := [], laidByText := true, laidKinds := [.data, .pinned], laidTests := true, laidLooks := .later }
def NetTurnedCardSaid : Prop := Claim7.holds Tryz.pinned (.plain (OpenSpec.ofChange netTurnedSpec)) netTurnedCard

/-- THE SECOND FORM's CARD OF 'kinfolklaw20.NetOrder'. -/
def netOrderUptoCard : Claim7 := { stood := { row := netOrderUptoRow, standIns := [], harness := (true, "4a8ec73a17b443b5df5bfb440cc5743a8cbcbbfe5a7363137cfdf7f072e37f12"), looks := false }, kinds := [], alts := [], laidByText := true, laidKinds := [.data, .pinned], laidTests := true, laidLooks := .later }
def NetOrderUptoCardSaid : Prop := Claim7.holds Tryz.pinned (.plain (OpenSpec.upto netOrderSpec)) netOrderUptoCard

/-- THE SECOND FORM's CARD OF 'kinfolklaw20.NetTurned'. -/
def netTurnedUptoCard : Claim7 := { stood := { row := netTurnedUptoRow, standIns := [], harness := (true, "4a8ec73a17b443b5df5bfb440cc5743a8cbcbbfe5a7363137cfdf7f072e37f12"), looks := false }, kinds := [], alts := [], laidByText := true, laidKinds := [.data, .pinned], laidTests := true, laidLooks := .later }
def NetTurnedUptoCardSaid : Prop := Claim7.holds Tryz.pinned (.plain (OpenSpec.upto netTurnedSpec)) netTurnedUptoCard
end Rows
end Go.Proofs.YtkdimbcfacoboaaGreatDoor
