/- 'NoteKinds': what the value machine answers at every kind. -/
import Derived.Test.YtnhkfjebkbkgeaaSxT
import Derived.Test.YtnhkfjebkbkgeaaIr
namespace Go.Proofs.Ytnhkfjebkbkgeaa
open Go Go.Sx

theorem kinds_0 : evalN (findF irs) noG noX 61 3 [.int .i64 0] noH 0 = some (.bool true, [], []) := by kernel_rfl
theorem kinds_1 : evalN (findF irs) noG noX 61 3 [.int .i64 1] noH 0 = some (.bool true, [], []) := by kernel_rfl
theorem kinds_2 : evalN (findF irs) noG noX 61 3 [.int .i64 2] noH 0 = some (.bool true, [], []) := by kernel_rfl
theorem kinds_3 : evalN (findF irs) noG noX 61 3 [.int .i64 3] noH 0 = some (.bool true, [], []) := by kernel_rfl
theorem kinds_4 : evalN (findF irs) noG noX 61 3 [.int .i64 4] noH 0 = some (.bool true, [], []) := by kernel_rfl
theorem kinds_5 : evalN (findF irs) noG noX 61 3 [.int .i64 5] noH 0 = some (.bool true, [], []) := by kernel_rfl
theorem kinds_6 : evalN (findF irs) noG noX 61 3 [.int .i64 6] noH 0 = some (.bool true, [], []) := by kernel_rfl
theorem kinds_7 : evalN (findF irs) noG noX 61 3 [.int .i64 7] noH 0 = some (.bool true, [], []) := by kernel_rfl
theorem kinds_8 : evalN (findF irs) noG noX 61 3 [.int .i64 8] noH 0 = some (.bool true, [], []) := by kernel_rfl
theorem kinds_neg (m : Nat) : evalN (findF irs) noG noX 61 3 [.int .i64 (Int.negSucc m)] noH 0 = some (.bool true, [], []) := by kernel_rfl
theorem kinds_big (m : Nat) : evalN (findF irs) noG noX 61 3 [.int .i64 (Int.ofNat (m + 9))] noH 0 = some (.bool true, [], []) := by kernel_rfl

theorem kinds_all (k : Int) : evalN (findF irs) noG noX 61 3 [.int .i64 k] noH 0 = some (.bool true, [], []) := by
  match k with
  | .negSucc m => exact kinds_neg m
  | .ofNat 0 => exact kinds_0
  | .ofNat 1 => exact kinds_1
  | .ofNat 2 => exact kinds_2
  | .ofNat 3 => exact kinds_3
  | .ofNat 4 => exact kinds_4
  | .ofNat 5 => exact kinds_5
  | .ofNat 6 => exact kinds_6
  | .ofNat 7 => exact kinds_7
  | .ofNat 8 => exact kinds_8
  | .ofNat (m + 9) => exact kinds_big m
end Go.Proofs.Ytnhkfjebkbkgeaa
