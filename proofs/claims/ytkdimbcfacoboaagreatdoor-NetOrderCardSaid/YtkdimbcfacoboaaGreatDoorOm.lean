/- What all specifications share: the calls of this seat, and small laws of numbers. No condition. -/
import Derived.Test.YtkdimbcfacoboaaGreatDoorIr
namespace Go.Proofs.YtkdimbcfacoboaaGreatDoor
open Go Go.Sx
set_option linter.unusedSimpArgs false
set_option linter.unusedVariables false

theorem wrap_i64 (x : Int) (h1 : -(2 ^ 63) ≤ x) (h2 : x < 2 ^ 63) : IntKind.i64.wrap x = x := by
  simp only [IntKind.wrap, IntKind.signed, IntKind.bits]
  simp
  omega

theorem ltF (n k : Nat) : (n + k < n) ↔ False := ⟨fun h => absurd h (Nat.not_lt.2 (Nat.le_add_right n k)), False.elim⟩

theorem binI_add (k : IntKind) (x y : Int) : binI .add k x y = some (.int k (k.wrap (x + y))) := rfl
theorem binI_sub (k : IntKind) (x y : Int) : binI .sub k x y = some (.int k (k.wrap (x - y))) := rfl
theorem binI_mul (k : IntKind) (x y : Int) : binI .mul k x y = some (.int k (k.wrap (x * y))) := rfl
theorem binI_eql (k : IntKind) (x y : Int) : binI .eql k x y = some (.bool (x == y)) := rfl
theorem binI_neq (k : IntKind) (x y : Int) : binI .neq k x y = some (.bool (x != y)) := rfl
theorem binI_lss (k : IntKind) (x y : Int) : binI .lss k x y = some (.bool (!leI y x)) := rfl
theorem binI_leq (k : IntKind) (x y : Int) : binI .leq k x y = some (.bool (leI x y)) := rfl
theorem binI_gtr (k : IntKind) (x y : Int) : binI .gtr k x y = some (.bool (!leI x y)) := rfl
theorem binI_geq (k : IntKind) (x y : Int) : binI .geq k x y = some (.bool (leI y x)) := rfl

theorem unL_not (b : Bool) : unL .not (.p (.s (.bool b))) = some (.bool (!b)) := rfl
theorem unL_neg (k : IntKind) (n : Int) : unL .neg (.p (.s (.int k n))) = some (.int k (k.wrap (0 - n))) := rfl

noncomputable abbrev Ω : Oracle := om (findF irs) noG noX

end Go.Proofs.YtkdimbcfacoboaaGreatDoor

