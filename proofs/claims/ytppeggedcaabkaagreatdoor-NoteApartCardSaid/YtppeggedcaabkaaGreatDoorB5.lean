/- What the proof of the claim leans on, part 5 of 6: the value machine, the functions as it has them, their specifications. No condition. -/
import Derived.Test.YtppeggedcaabkaaGreatDoorB4
set_option linter.all false
set_option linter.unnecessarySimpa false
set_option linter.unusedSimpArgs false
set_option linter.unusedVariables false
set_option linter.constructorNameAsVariable false
section
namespace Go.Proofs.YtppeggedcaabkaaGreatDoor
open Go Go.Sx
set_option linter.unusedSimpArgs false
set_option linter.unusedVariables false

theorem get_byt (d : List UInt8) (b : UInt8) (r : List UInt8) : (byt (d ++ b :: r))[d.length]? = some (.int .u8 b.toNat) := by
  rw [byt_app, List.getElem?_append_right (by rw [byt_len]; omega), byt_len, Nat.sub_self]
  rfl

theorem clone_sl (l : List UInt8) (fl : Bool) (h30 : l.length < 2 ^ 31) (H : Heap) (nx : Nat) : Ω 95 [.p (.sl (bytP l) l.length 1 fl)] H nx =
    some (.arr nx 0 l.length 1 l.length l.isEmpty, [], [some (.cells (byt l))]) := by
  refine om_run (ir := ir95) (by kernel_rfl) 0 ?_
  have h41 : ¬ 1099511627776 < l.length := by omega
  cases l with
  | nil => simp [ir95, ssB, List.idxOf?_cons, Go.Sx.LV.undef, Go.undef, Go.Sx.callO, Go.Sx.splice, Go.Sx.finish, Go.Sx.look, Go.Sx.push, Go.Sx.setObj, Go.Sx.setU, Go.Sx.setAll, Go.Sx.appO, Go.Sx.leI_eq, ltF, bytP, byt]
  | cons b l =>
    have e := bytP_map (b :: l)
    have h42 : ¬ 1099511627776 < l.length + 1 := by simpa using h41
    simp [ir95, ssB, List.idxOf?_cons, Go.Sx.LV.undef, Go.undef, Go.Sx.callO, Go.Sx.splice, Go.Sx.finish, Go.Sx.look, Go.Sx.push, Go.Sx.setObj, Go.Sx.setU, Go.Sx.setAll, Go.Sx.appO, Go.Sx.leI_eq, ltF, e, byt_len, bytP_len, take_byt, ids_byt, ren_byt, ids_app, ren_app, allP_byt, allP_app, h42]

theorem clone_arr (l : List UInt8) (id cp : Nat) (ex : Bool) (h0 : 0 < l.length) (h30 : l.length < 2 ^ 31) (H : Heap) (nx : Nat) (hl : H id = some (.cells (byt l))) (hid : id < nx) : Ω 95 [.arr id 0 l.length 1 cp ex] H nx =
    some (.arr nx 0 l.length 1 l.length false, [], [some (.cells (byt l))]) := by
  refine om_run (ir := ir95) (by kernel_rfl) 0 ?_
  have h41 : ¬ 1099511627776 < l.length := by omega
  have h1 : ¬ l.length = 0 := by omega
  simp [ir95, ssB, List.idxOf?_cons, Go.Sx.LV.undef, Go.undef, Go.Sx.callO, Go.Sx.splice, Go.Sx.finish, Go.Sx.look, Go.Sx.push, Go.Sx.setObj, Go.Sx.setU, Go.Sx.setAll, Go.Sx.appO, Go.Sx.leI_eq, ltF, byt_len, bytP_len, take_byt, ids_byt, ren_byt, ids_app, ren_app, allP_byt, allP_app, h41, hl, hid, h1]

theorem of_ (l : List UInt8) (fl : Bool) (h30 : l.length < 2 ^ 31) (H : Heap) (nx : Nat) : Ω 46 [.p (.sl (bytP l) l.length 1 fl)] H nx =
    some (.ref nx 0, [], [some (.cells [.arr (nx + 1) 0 l.length 1 l.length l.isEmpty, .int .i64 0]), some (.cells (byt l))]) := by
  refine om_run (ir := ir46) (by kernel_rfl) 0 ?_
  simp [ir46, ssB, List.idxOf?_cons, Go.Sx.LV.undef, Go.undef, Go.Sx.callO, Go.Sx.splice, Go.Sx.finish, Go.Sx.look, Go.Sx.push, Go.Sx.setObj, Go.Sx.setU, Go.Sx.setAll, Go.Sx.appO, Go.Sx.leI_eq, ltF, byt_len, bytP_len, take_byt, ids_byt, ren_byt, ids_app, ren_app, allP_byt, allP_app, clone_sl _ _ h30]

section in'
variable (H : Heap) (nx id qid off len cp : Nat) (ex : Bool) (hid : id < nx) (hq : qid < nx)
theorem err_ (e : Int) (x : LV) (hl : H id = some (.cells [x, .int .i64 e])) (hid : id < nx) : Ω 104 [.ref id 0] H nx = some (.int .i64 e, [], []) := by
  refine om_run (ir := ir104) (by kernel_rfl) 0 ?_
  simp [ir104, ssB, List.idxOf?_cons, Go.Sx.LV.undef, Go.undef, Go.Sx.callO, Go.Sx.splice, Go.Sx.finish, Go.Sx.look, Go.Sx.push, Go.Sx.setObj, Go.Sx.setU, Go.Sx.setAll, Go.Sx.appO, Go.Sx.leI_eq, ltF, hl, hid]
theorem left_ (e : Int) (hl : H id = some (.cells [.arr qid off len 1 cp ex, .int .i64 e])) (hid : id < nx) : Ω 103 [.ref id 0] H nx = some (.int .i64 len, [], []) := by
  refine om_run (ir := ir103) (by kernel_rfl) 0 ?_
  simp [ir103, ssB, List.idxOf?_cons, Go.Sx.LV.undef, Go.undef, Go.Sx.callO, Go.Sx.splice, Go.Sx.finish, Go.Sx.look, Go.Sx.push, Go.Sx.setObj, Go.Sx.setU, Go.Sx.setAll, Go.Sx.appO, Go.Sx.leI_eq, ltF, hl, hid]
theorem fail_0 (k : Int) (hl : H id = some (.cells [.arr qid off len 1 cp ex, .int .i64 0])) (hid : id < nx) (hq : qid < nx) : Ω 97 [.ref id 0, .int .i64 k] H nx =
    some (.tuple [], [(id, some (.cells [.arr qid off len 1 cp ex, .int .i64 k]))], []) := by
  refine om_run (ir := ir97) (by kernel_rfl) 0 ?_
  simp [ir97, ssB, List.idxOf?_cons, Go.Sx.LV.undef, Go.undef, Go.Sx.callO, Go.Sx.splice, Go.Sx.finish, Go.Sx.look, Go.Sx.push, Go.Sx.setObj, Go.Sx.setU, Go.Sx.setAll, Go.Sx.appO, Go.Sx.leI_eq, ltF, hl, hid, hq]
theorem fail_n (k e : Int) (he : e ≠ 0) (hl : H id = some (.cells [.arr qid off len 1 cp ex, .int .i64 e])) (hid : id < nx) (hq : qid < nx) : Ω 97 [.ref id 0, .int .i64 k] H nx =
    some (.tuple [], [], []) := by
  refine om_run (ir := ir97) (by kernel_rfl) 0 ?_
  simp [ir97, ssB, List.idxOf?_cons, Go.Sx.LV.undef, Go.undef, Go.Sx.callO, Go.Sx.splice, Go.Sx.finish, Go.Sx.look, Go.Sx.push, Go.Sx.setObj, Go.Sx.setU, Go.Sx.setAll, Go.Sx.appO, Go.Sx.leI_eq, ltF, hl, hid, hq, he]
theorem byte_0 (d : List UInt8) (b : UInt8) (r : List UInt8) (hl : H id = some (.cells [.arr qid d.length (r.length + 1) 1 cp ex, .int .i64 0])) (hb : H qid = some (.cells (byt (d ++ b :: r)))) (hid : id < nx) (hq : qid < nx) :
    Ω 96 [.ref id 0] H nx = some (.int .u8 b.toNat, [(id, some (.cells [.arr qid (d.length + 1) r.length 1 (cp - 1) ex, .int .i64 0]))], []) := by
  refine om_run (ir := ir96) (by kernel_rfl) 0 ?_
  have hg := get_byt d b r
  have hne : ¬ ((r.length : Int) + 1 = 0) := by omega
  have he := fun H nx => err_ H nx id 0 (.arr qid d.length (r.length + 1) 1 cp ex)
  simp [ir96, ssB, List.idxOf?_cons, Go.Sx.LV.undef, Go.undef, Go.Sx.callO, Go.Sx.splice, Go.Sx.finish, Go.Sx.look, Go.Sx.push, Go.Sx.setObj, Go.Sx.setU, Go.Sx.setAll, Go.Sx.appO, Go.Sx.leI_eq, ltF, hl, hid, hq, hb, hg, he, hne]
theorem byte_nil (hl : H id = some (.cells [.arr qid off 0 1 cp ex, .int .i64 0])) (hid : id < nx) (hq : qid < nx) :
    Ω 96 [.ref id 0] H nx = some (.int .u8 0, [(id, some (.cells [.arr qid off 0 1 cp ex, .int .i64 6]))], []) := by
  refine om_run (ir := ir96) (by kernel_rfl) 0 ?_
  have he := fun H nx => err_ H nx id 0 (.arr qid off 0 1 cp ex)
  have hf := fun H nx => fail_0 H nx id qid off 0 cp ex 6
  simp [ir96, ssB, List.idxOf?_cons, Go.Sx.LV.undef, Go.undef, Go.Sx.callO, Go.Sx.splice, Go.Sx.finish, Go.Sx.look, Go.Sx.push, Go.Sx.setObj, Go.Sx.setU, Go.Sx.setAll, Go.Sx.appO, Go.Sx.leI_eq, ltF, hl, hid, hq, he, hf]
theorem byte_err (e : Int) (h0 : e ≠ 0) (hl : H id = some (.cells [.arr qid off len 1 cp ex, .int .i64 e])) (hid : id < nx) (hq : qid < nx) :
    Ω 96 [.ref id 0] H nx = some (.int .u8 0, [], []) := by
  refine om_run (ir := ir96) (by kernel_rfl) 0 ?_
  have he := fun H nx => err_ H nx id e (.arr qid off len 1 cp ex)
  have hf := fun H nx => fail_n H nx id qid off len cp ex 6 e h0
  have h1 : (e != 0) = true := by simp [h0]
  simp [ir96, ssB, List.idxOf?_cons, Go.Sx.LV.undef, Go.undef, Go.Sx.callO, Go.Sx.splice, Go.Sx.finish, Go.Sx.look, Go.Sx.push, Go.Sx.setObj, Go.Sx.setU, Go.Sx.setAll, Go.Sx.appO, Go.Sx.leI_eq, ltF, hl, hid, hq, he, hf, h0, h1]
theorem end_0 (hl : H id = some (.cells [.arr qid off 0 1 cp ex, .int .i64 0])) (hid : id < nx) (hq : qid < nx) :
    Ω 48 [.ref id 0] H nx = some (.int .i64 0, [], []) := by
  refine om_run (ir := ir48) (by kernel_rfl) 0 ?_
  have he := fun H nx => err_ H nx id 0 (.arr qid off 0 1 cp ex)
  have hf := fun H nx => left_ H nx id qid off 0 cp ex 0
  simp [ir48, ssB, List.idxOf?_cons, Go.Sx.LV.undef, Go.undef, Go.Sx.callO, Go.Sx.splice, Go.Sx.finish, Go.Sx.look, Go.Sx.push, Go.Sx.setObj, Go.Sx.setU, Go.Sx.setAll, Go.Sx.appO, Go.Sx.leI_eq, ltF, hl, hid, hq, he, hf]
end in'

theorem not128 : ∀ x : Fin 256, (BitVec.ofInt 8 (x.val : Int) &&& ~~~ BitVec.ofInt 8 128).toNat = x.val % 128 := by decide +kernel
theorem byte_low (b : UInt8) : binI .andNot .u8 b.toNat 128 = some (.int .u8 (b.toNat % 128 : Nat)) := by
  have h1 : binI .andNot .u8 b.toNat 128 = some (.int .u8 (IntKind.u8.wrap (BitVec.ofInt 8 (b.toNat : Int) &&& ~~~ BitVec.ofInt 8 128).toNat)) := rfl
  have h3 := not128 ⟨b.toNat, b.toNat_lt⟩
  simp only at h3
  rw [h1, h3]
  simp [IntKind.wrap, IntKind.signed, IntKind.bits]
  omega
theorem wrap_u64 (n : Nat) (h : n < 2 ^ 64) : IntKind.u64.wrap (n : Int) = n := by
  simp [IntKind.wrap, IntKind.signed, IntKind.bits]
  omega
theorem shl_u64 (n k : Nat) (hk : k ≤ 64) : shI .shl .u64 n k = some (.int .u64 (n * 2 ^ k % 2 ^ 64 : Nat)) := by
  have : shI .shl .u64 (n : Int) k = some (.int .u64 (IntKind.u64.wrap ((n : Int) * (2 ^ (min k 64))))) := by
    simp only [shI]
    rw [if_neg (by omega)]
    rfl
  rw [this, Nat.min_eq_left hk]
  simp [IntKind.wrap, IntKind.signed, IntKind.bits]
theorem or_u64 (x y : Nat) (hx : x < 2 ^ 64) (hy : y < 2 ^ 64) : binI .or .u64 x y = some (.int .u64 (x ||| y : Nat)) := by
  have : binI .or .u64 (x : Int) (y : Int) = some (.int .u64 (IntKind.u64.wrap (BitVec.ofInt 64 (x : Int) ||| BitVec.ofInt 64 (y : Int)).toNat)) := rfl
  rw [this, BitVec.ofInt_natCast, BitVec.ofInt_natCast, BitVec.toNat_or, BitVec.toNat_ofNat, BitVec.toNat_ofNat, Nat.mod_eq_of_lt hx, Nat.mod_eq_of_lt hy, wrap_u64 _ (Nat.or_lt_two_pow hx hy)]

section rnum
variable {c : Ctx}
set_option maxHeartbeats 1000000 in
theorem rnum_step {N : Nat} {h : Hp} {id qid cp i n L : Nat} {ex : Bool} {d r : List UInt8} {b : UInt8} (hid : Go.Sx.look c.H c.nx h id = some (.cells [.arr qid d.length L 1 cp ex, .int .i64 0])) (hq : Go.Sx.look c.H c.nx h qid = some (.cells (byt (d ++ r)))) (hL : r.length = L) (h30 : L < 2 ^ 31)
    (hb : r[i]? = some b) (hi : i ≤ 9) (hn : n < 2 ^ 64) :
    runCS c N ir98_0 ⟨[(0, .ref id 0), (3, .int .u64 n), (12, .arr qid d.length L 1 cp ex), (13, .int .i64 L), (14, .int .i64 i)], h⟩ =
      if (i = 9 ∧ 1 < b.toNat) ∨ (b = 0 ∧ 0 < i) then some (.exit 0, ⟨[(0, .ref id 0), (3, .int .u64 n), (4, .int .i64 i), (5, .int .u8 b.toNat), (12, .arr qid d.length L 1 cp ex), (13, .int .i64 L), (14, .int .i64 i), (32, .bool true)], h⟩)
      else if b.toNat < 128 then some (.ret, ⟨[(2, .int .u64 (n ||| (b.toNat % 128 * 2 ^ (7 * i)) % 2 ^ 64 : Nat))], Go.Sx.setObj c.nx h id (some (.cells [.arr qid (d.length + (i + 1)) (L - (i + 1)) 1 (cp - (i + 1)) ex, .int .i64 0]))⟩)
      else some (.normal, ⟨[(0, .ref id 0), (3, .int .u64 (n ||| (b.toNat % 128 * 2 ^ (7 * i)) % 2 ^ 64 : Nat)), (12, .arr qid d.length L 1 cp ex), (13, .int .i64 L), (14, .int .i64 (i + 1 : Nat))], h⟩) := by
  obtain ⟨hlt, hv⟩ := List.getElem?_eq_some_iff.1 hb
  have hc : (byt (d ++ r))[d.length + i]? = some (.int .u8 b.toNat) := by
    rw [byt_app, List.getElem?_append_right (by rw [byt_len]; omega), byt_len, Nat.add_sub_cancel_left]
    simp [byt, hb]
  have hsh := shl_u64 (b.toNat % 128) (7 * i) (by omega)
  have hor := or_u64 n (b.toNat % 128 * 2 ^ (7 * i) % 2 ^ 64) hn (Nat.mod_lt _ (by decide))
  have hw1 : IntKind.i64.wrap ((i : Int) + 1) = (i : Int) + 1 := wrap_i64 _ (by omega) (by omega)
  have hw2 : IntKind.i64.wrap (7 * (i : Int)) = 7 * (i : Int) := wrap_i64 _ (by omega) (by omega)
  have hlow := byte_low b
  have hw3 : IntKind.u64.wrap ((b.toNat % 128 : Nat) : Int) = ((b.toNat % 128 : Nat) : Int) := wrap_u64 _ (by omega)
  have g1 : leI (L : Int) i = false := by rw [leI_eq]; simp; omega
  have g2 : i < L := by omega
  generalize n ||| b.toNat % 128 * 2 ^ (7 * i) % 2 ^ 64 = z at *
  generalize b.toNat % 128 * 2 ^ (7 * i) % 2 ^ 64 = y at *
  generalize b.toNat % 128 = lo at *
  rw [show ((7 * i : Nat) : Int) = 7 * (i : Int) by omega] at hsh
  have hL1 : i + 1 ≤ L := by omega
  have hge : (0 : Int) ≤ (i : Int) + 1 := by omega
  by_cases h9 : i = 9
  · have e1 : ((i : Int) == 9) = true := by simp; omega
    by_cases h1 : b.toNat ≤ 1
    · have e2 : leI (b.toNat : Int) 1 = true := by rw [leI_eq]; simp; omega
      by_cases h0 : b = 0
      · have e3 : ((b.toNat : Int) == 0) = true := by simp [h0]
        have e4 : leI (i : Int) 0 = false := by rw [leI_eq]; simp; omega
        rw [if_pos (.inr ⟨h0, by omega⟩)]
        simp [ir98_0, ssB, List.idxOf?_cons, Go.Sx.LV.undef, Go.undef, Go.Sx.callO, Go.Sx.splice, Go.Sx.finish, Go.Sx.setAll, ltF, g1, g2, hc, hq, hid, hlow, hw1, hw2, hw3, hsh, hor, hL1, hge, e1, e2, e3, e4]
      · have e3 : ((b.toNat : Int) == 0) = false := by simp; intro h; exact h0 (UInt8.toNat_inj.1 (by simpa using h))
        have e5 : leI 128 (b.toNat : Int) = false := by rw [leI_eq]; simp; omega
        rw [if_neg (by rintro (⟨_, h⟩ | ⟨h, _⟩); omega; exact h0 h), if_pos (by omega)]
        simp [ir98_0, ssB, List.idxOf?_cons, Go.Sx.LV.undef, Go.undef, Go.Sx.callO, Go.Sx.splice, Go.Sx.finish, Go.Sx.setAll, ltF, g1, g2, hc, hq, hid, hlow, hw1, hw2, hw3, hsh, hor, hL1, hge, e1, e2, e3, e5]
    · have e2 : leI (b.toNat : Int) 1 = false := by rw [leI_eq]; simp; omega
      rw [if_pos (.inl ⟨h9, by omega⟩)]
      simp [ir98_0, ssB, List.idxOf?_cons, Go.Sx.LV.undef, Go.undef, Go.Sx.callO, Go.Sx.splice, Go.Sx.finish, Go.Sx.setAll, ltF, g1, g2, hc, hq, hid, hlow, hw1, hw2, hw3, hsh, hor, hL1, hge, e1, e2]
  · have e1 : ((i : Int) == 9) = false := by simp; omega
    by_cases h0 : b = 0
    · have e3 : ((b.toNat : Int) == 0) = true := by simp [h0]
      have e5 : leI 128 (b.toNat : Int) = false := by rw [leI_eq, h0]; decide
      by_cases hi0 : i = 0
      · have e4 : leI (i : Int) 0 = true := by rw [leI_eq]; simp; omega
        rw [if_neg (by rintro (⟨h, _⟩ | ⟨_, h⟩); exact h9 h; omega), if_pos (by rw [h0]; decide)]
        simp [ir98_0, ssB, List.idxOf?_cons, Go.Sx.LV.undef, Go.undef, Go.Sx.callO, Go.Sx.splice, Go.Sx.finish, Go.Sx.setAll, ltF, g1, g2, hc, hq, hid, hlow, hw1, hw2, hw3, hsh, hor, hL1, hge, e1, e3, e4, e5]
      · have e4 : leI (i : Int) 0 = false := by rw [leI_eq]; simp; omega
        rw [if_pos (.inr ⟨h0, by omega⟩)]
        simp [ir98_0, ssB, List.idxOf?_cons, Go.Sx.LV.undef, Go.undef, Go.Sx.callO, Go.Sx.splice, Go.Sx.finish, Go.Sx.setAll, ltF, g1, g2, hc, hq, hid, hlow, hw1, hw2, hw3, hsh, hor, hL1, hge, e1, e3, e4]
    · have e3 : ((b.toNat : Int) == 0) = false := by simp; intro h; exact h0 (UInt8.toNat_inj.1 (by simpa using h))
      by_cases h128 : b.toNat < 128
      · have e5 : leI 128 (b.toNat : Int) = false := by rw [leI_eq]; simp; omega
        rw [if_neg (by rintro (⟨h, _⟩ | ⟨h, _⟩); exact h9 h; exact h0 h), if_pos h128]
        simp [ir98_0, ssB, List.idxOf?_cons, Go.Sx.LV.undef, Go.undef, Go.Sx.callO, Go.Sx.splice, Go.Sx.finish, Go.Sx.setAll, ltF, g1, g2, hc, hq, hid, hlow, hw1, hw2, hw3, hsh, hor, hL1, hge, e1, e3, e5]
      · have e5 : leI 128 (b.toNat : Int) = true := by rw [leI_eq]; simp; omega
        rw [if_neg (by rintro (⟨h, _⟩ | ⟨h, _⟩); exact h9 h; exact h0 h), if_neg h128]
        simp [ir98_0, ssB, List.idxOf?_cons, Go.Sx.LV.undef, Go.undef, Go.Sx.callO, Go.Sx.splice, Go.Sx.finish, Go.Sx.setAll, ltF, g1, g2, hc, hq, hid, hlow, hw1, hw2, hw3, hsh, hor, hL1, hge, e1, e3, e5]

theorem rnum_end {N : Nat} {h : Hp} {x y z : LV} {L : Nat} :
    runCS c N ir98_0 ⟨[(0, x), (3, y), (12, z), (13, .int .i64 L), (14, .int .i64 L)], h⟩ = some (.exit 0, ⟨[(0, x), (3, y), (12, z), (13, .int .i64 L), (14, .int .i64 L), (15, .bool false)], h⟩) := by
  simp [ir98_0, ssB, List.idxOf?_cons, Go.Sx.LV.undef, Go.undef, Go.Sx.callO, Go.Sx.splice, Go.Sx.finish, Go.Sx.setAll, Go.Sx.leI_eq, ltF]

theorem rnum_loop {N : Nat} {h : Hp} {id qid cp L : Nat} {ex : Bool} {d r : List UInt8} (hid : Go.Sx.look c.H c.nx h id = some (.cells [.arr qid d.length L 1 cp ex, .int .i64 0])) (hq : Go.Sx.look c.H c.nx h qid = some (.cells (byt (d ++ r)))) (hL : r.length = L) (h30 : L < 2 ^ 31) :
    ∀ (l : List UInt8) (i n m : Nat), r.drop i = l → l.length < m → i + l.length = L → (i ≤ 9 ∨ l = []) → n < 2 ^ 64 →
    (∀ v rest, rnum i n l = some (v, rest) → iter (runCS c N ir98_0) m ⟨[(0, .ref id 0), (3, .int .u64 n), (12, .arr qid d.length L 1 cp ex), (13, .int .i64 L), (14, .int .i64 i)], h⟩ =
      some (.ret, ⟨[(2, .int .u64 v)], Go.Sx.setObj c.nx h id (some (.cells [.arr qid (d.length + (L - rest.length)) rest.length 1 (cp - (L - rest.length)) ex, .int .i64 0]))⟩)) ∧
    (rnum i n l = none → ∃ env, get env 0 = .ref id 0 ∧ iter (runCS c N ir98_0) m ⟨[(0, .ref id 0), (3, .int .u64 n), (12, .arr qid d.length L 1 cp ex), (13, .int .i64 L), (14, .int .i64 i)], h⟩ = some (.exit 0, ⟨env, h⟩)) := by
  intro l
  induction l with
  | nil =>
    intro i n m hd hm hi _ _
    obtain ⟨m, rfl⟩ : ∃ q, m = q + 1 := ⟨m - 1, by omega⟩
    obtain rfl : i = L := by simpa using hi
    exact ⟨fun v rest h => by simp [rnum] at h, fun _ => ⟨_, rfl, iter_out rnum_end (by simp)⟩⟩
  | cons b l ih =>
    intro i n m hd hm hi h9 hn
    obtain ⟨m, rfl⟩ : ∃ q, m = q + 1 := ⟨m - 1, by omega⟩
    have h9 : i ≤ 9 := by
      rcases h9 with h | h
      · exact h
      · cases h
    rw [List.length_cons] at hi hm
    have hb : r[i]? = some b := by
      have : (r.drop i)[0]? = some b := by rw [hd]; rfl
      simpa using this
    have hs := rnum_step (N := N) hid hq hL h30 hb h9 hn
    rw [rnum]
    by_cases hc : (i = 9 ∧ 1 < b.toNat) ∨ (b = 0 ∧ 0 < i)
    · rw [if_pos hc]
      rw [if_pos hc] at hs
      exact ⟨fun v rest h => by simp at h, fun _ => ⟨_, rfl, iter_out hs (by simp)⟩⟩
    · rw [if_neg hc]
      rw [if_neg hc] at hs
      by_cases h128 : b.toNat < 128
      · rw [if_pos h128]
        rw [if_pos h128] at hs
        refine ⟨fun v rest h => ?_, fun h => by simp at h⟩
        obtain ⟨rfl, rfl⟩ := Prod.mk.inj (Option.some.inj h)
        have e1 : L - l.length = i + 1 := by omega
        have e2 : L - (i + 1) = l.length := by omega
        rw [e2] at hs
        rw [e1]
        exact iter_out hs (by simp)
      · rw [if_neg h128]
        rw [if_neg h128] at hs
        rw [iter_step hs]
        have hi9 : i ≠ 9 := fun h => hc (.inl ⟨h, by omega⟩)
        have hlt : n ||| b.toNat % 128 * 2 ^ (7 * i) % 2 ^ 64 < 2 ^ 64 := Nat.or_lt_two_pow hn (Nat.mod_lt _ (by decide))
        exact ih (i + 1) _ m (by rw [← List.drop_drop, hd]; rfl) (by omega) (by omega) (.inl (by omega)) hlt
end rnum

section getnum
variable (H : Heap) (nx id qid cp : Nat) (ex : Bool)
theorem getnum_ok (d r rest : List UInt8) (v : Nat) (hr : rnum 0 0 r = some (v, rest)) (h30 : r.length < 2 ^ 31) (hl : H id = some (.cells [.arr qid d.length r.length 1 cp ex, .int .i64 0])) (hb : H qid = some (.cells (byt (d ++ r)))) (hid : id < nx) (hq : qid < nx) :
    Ω 98 [.ref id 0] H nx = some (.int .u64 v, [(id, some (.cells [.arr qid (d.length + (r.length - rest.length)) rest.length 1 (cp - (r.length - rest.length)) ex, .int .i64 0]))], []) := by
  refine om_run (ir := ir98) (by kernel_rfl) (r.length + 1) ?_
  have he := fun H nx => err_ H nx id 0 (.arr qid d.length r.length 1 cp ex)
  have hs := (rnum_loop (c := ⟨Ω, noG, H, nx⟩) (N := r.length + 1) (h := ⟨[], []⟩) (id := id) (qid := qid) (cp := cp) (ex := ex) (d := d) (r := r) (L := r.length) (by simp [Go.Sx.look, findU, hid, hl]) (by simp [Go.Sx.look, findU, hq, hb]) rfl h30 r 0 0 (r.length + 1) rfl (by omega) (by omega) (.inl (by omega)) (by decide)).1 v rest hr
  simp only [Int.natCast_zero, Int.ofNat_zero] at hs
  simp [ir98, ssB, List.idxOf?_cons, Go.Sx.LV.undef, Go.undef, Go.Sx.callO, Go.Sx.splice, Go.Sx.finish, Go.Sx.look, Go.Sx.push, Go.Sx.setObj, Go.Sx.setU, Go.Sx.setAll, Go.Sx.appO, Go.Sx.leI_eq, ltF, hl, hid, hq, he, hs]
theorem getnum_bad (d r : List UInt8) (hr : rnum 0 0 r = none) (h30 : r.length < 2 ^ 31) (hl : H id = some (.cells [.arr qid d.length r.length 1 cp ex, .int .i64 0])) (hb : H qid = some (.cells (byt (d ++ r)))) (hid : id < nx) (hq : qid < nx) :
    Ω 98 [.ref id 0] H nx = some (.int .u64 0, [(id, some (.cells [.arr qid d.length r.length 1 cp ex, .int .i64 6]))], []) := by
  refine om_run (ir := ir98) (by kernel_rfl) (r.length + 1) ?_
  have he := fun H nx => err_ H nx id 0 (.arr qid d.length r.length 1 cp ex)
  have hf := fun H nx => fail_0 H nx id qid d.length r.length cp ex 6
  obtain ⟨env, e1, e2⟩ := (rnum_loop (c := ⟨Ω, noG, H, nx⟩) (N := r.length + 1) (h := ⟨[], []⟩) (id := id) (qid := qid) (cp := cp) (ex := ex) (d := d) (r := r) (L := r.length) (by simp [Go.Sx.look, findU, hid, hl]) (by simp [Go.Sx.look, findU, hq, hb]) rfl h30 r 0 0 (r.length + 1) rfl (by omega) (by omega) (.inl (by omega)) (by decide)).2 hr
  simp only [Int.natCast_zero, Int.ofNat_zero] at e2
  simp [ir98, ssB, List.idxOf?_cons, Go.Sx.LV.undef, Go.undef, Go.Sx.callO, Go.Sx.splice, Go.Sx.finish, Go.Sx.look, Go.Sx.push, Go.Sx.setObj, Go.Sx.setU, Go.Sx.setAll, Go.Sx.appO, Go.Sx.leI_eq, ltF, hl, hid, hq, he, e1, e2, hf]
theorem getnum_err (e : Int) (off len : Nat) (h0 : e ≠ 0) (hl : H id = some (.cells [.arr qid off len 1 cp ex, .int .i64 e])) (hid : id < nx) (hq : qid < nx) :
    Ω 98 [.ref id 0] H nx = some (.int .u64 0, [], []) := by
  refine om_run (ir := ir98) (by kernel_rfl) 0 ?_
  have he := fun H nx => err_ H nx id e (.arr qid off len 1 cp ex)
  have h1 : (e != 0) = true := by simp [h0]
  simp [ir98, ssB, List.idxOf?_cons, Go.Sx.LV.undef, Go.undef, Go.Sx.callO, Go.Sx.splice, Go.Sx.finish, Go.Sx.look, Go.Sx.push, Go.Sx.setObj, Go.Sx.setU, Go.Sx.setAll, Go.Sx.appO, Go.Sx.leI_eq, ltF, hl, hid, hq, he, h1]
end getnum
end Go.Proofs.YtppeggedcaabkaaGreatDoor
end

section
namespace Go.Proofs.YtppeggedcaabkaaGreatDoor
open Go Go.Sx
set_option linter.unusedSimpArgs false
set_option linter.unusedVariables false

section sum
variable {c : Ctx}
theorem sumSl_step {n : Nat} (hn : 9 ≤ n) {h : Hp} {l : List UInt8} (fl : Bool) (j : Nat) (b : UInt8) (hj : l[j]? = some b) (h62 : l.length < 2 ^ 62) (r : BitVec 32) :
    runCS c n ir78_1 ⟨[(3, .int .u32 (nv r)), (6, .p (.sl (bytP l) l.length 1 fl)), (7, .int .i64 l.length), (8, .int .i64 j)], h⟩ =
      some (.normal, ⟨[(3, .int .u32 (nv (crcB r b))), (6, .p (.sl (bytP l) l.length 1 fl)), (7, .int .i64 l.length), (8, .int .i64 (j + 1 : Nat))], h⟩) := by
  obtain ⟨hlt, hv⟩ := List.getElem?_eq_some_iff.1 hj
  have h8 : ¬ (l.length : Int) ≤ j := by omega
  have hw : IntKind.i64.wrap ((j : Int) + 1) = (j : Int) + 1 := wrap_i64 _ (by omega) (by omega)
  have hb : (byt l)[j]? = some (.int .u8 b.toNat) := by simp [byt, hj]
  have hs := sumIn_all c h n (.p (.sl (bytP l) l.length 1 fl)) (.int .i64 l.length) (.int .i64 j) 8 n 0 (r ^^^ wide b) rfl (by omega)
  simp only [Int.natCast_zero, Int.ofNat_zero] at hs
  simp [ir78_1, ssB, List.idxOf?_cons, Go.Sx.LV.undef, Go.undef, Go.Sx.callO, Go.Sx.splice, Go.Sx.finish, Go.Sx.push, Go.Sx.setObj, Go.Sx.setU, Go.Sx.setAll, Go.Sx.appO, Go.Sx.leI_eq, ltF, h8, hw, hlt, bytP_map, hb, wrap_byte, xor_u32, hs, crcB]
theorem sumSl_all {n : Nat} (hn : 9 ≤ n) {h : Hp} {l : List UInt8} (fl : Bool) (h62 : l.length < 2 ^ 62) : ∀ (k m j : Nat) (r : BitVec 32), j + k = l.length → k < m →
    iter (runCS c n ir78_1) m ⟨[(3, .int .u32 (nv r)), (6, .p (.sl (bytP l) l.length 1 fl)), (7, .int .i64 l.length), (8, .int .i64 j)], h⟩ =
      some (.exit 0, ⟨[(3, .int .u32 (nv (crcL r (l.drop j)))), (6, .p (.sl (bytP l) l.length 1 fl)), (7, .int .i64 l.length), (8, .int .i64 l.length), (9, .bool false)], h⟩) := by
  intro k
  induction k with
  | zero =>
    intro m j r hj hm
    obtain ⟨m, rfl⟩ : ∃ q, m = q + 1 := ⟨m - 1, by omega⟩
    obtain rfl : j = l.length := by omega
    rw [List.drop_length]
    exact iter_out (sumOut_out _ _ r) (by simp)
  | succ k ih =>
    intro m j r hj hm
    obtain ⟨m, rfl⟩ : ∃ q, m = q + 1 := ⟨m - 1, by omega⟩
    have hlt : j < l.length := by omega
    rw [iter_step (sumSl_step hn fl j l[j] (List.getElem?_eq_getElem hlt) h62 r), ih m (j + 1) _ (by omega) (by omega), List.drop_eq_getElem_cons hlt]
    rfl
end sum
theorem sum_sl (l : List UInt8) (h62 : l.length < 2 ^ 62) (fl : Bool) (H : Heap) (nx : Nat) :
    Ω 78 [.p (.sl (bytP l) l.length 1 fl)] H nx = some (.int .u32 (nv (crc l)), [], []) := by
  refine om_run (ir := ir78) (by kernel_rfl) (l.length + 9) ?_
  have hs := sumSl_all (c := ⟨Ω, noG, H, nx⟩) (n := l.length + 9) (h := ⟨[], []⟩) (by omega) fl h62 l.length (l.length + 9) 0 4294967295#32 (by omega) (by omega)
  have h1 : nv 4294967295#32 = 4294967295 := rfl
  rw [List.drop_zero, h1] at hs
  simp only [Int.natCast_zero, Int.ofNat_zero] at hs
  simp [ir78, ssB, List.idxOf?_cons, Go.Sx.LV.undef, Go.undef, Go.Sx.callO, Go.Sx.splice, Go.Sx.finish, Go.Sx.push, Go.Sx.setObj, Go.Sx.setU, Go.Sx.setAll, Go.Sx.appO, Go.Sx.leI_eq, ltF, hs, not_u32, crc]

theorem bytP_take (n : Nat) (l : List UInt8) : List.take n (bytP l) = bytP (l.take n) := by simp [bytP]
theorem clone_sl' (l : List UInt8) (n : Nat) (hn : l.length = n) (fl : Bool) (h30 : n < 2 ^ 31) (H : Heap) (nx : Nat) : Ω 95 [.p (.sl (bytP l) n 1 fl)] H nx =
    some (.arr nx 0 n 1 n l.isEmpty, [], [some (.cells (byt l))]) := by
  subst hn
  exact clone_sl l fl h30 H nx

section open'
variable (a b c d s0 s1 s2 s3 : UInt8) (q : List UInt8) (fl : Bool) (H : Heap) (nx : Nat)
/-- Bytes that begin with eight. -/
abbrev eight : List PV := .s (.int .u8 a.toNat) :: .s (.int .u8 b.toNat) :: .s (.int .u8 c.toNat) :: .s (.int .u8 d.toNat) :: .s (.int .u8 s0.toNat) :: .s (.int .u8 s1.toNat) :: .s (.int .u8 s2.toNat) :: .s (.int .u8 s3.toNat) :: bytP q

theorem open_long (h : 2 ^ 20 < (un4 a b c d).toNat) : Ω 45 [.p (.sl (eight a b c d s0 s1 s2 s3 q) (q.length + 8) 1 fl)] H nx =
    some (.tuple [.p (.s (.slice none 0 0)), .int .i64 0, .int .i64 9], [], []) := by
  refine om_run (ir := ir45) (by kernel_rfl) 0 ?_
  have h1 : ¬ nv (un4 a b c d) ≤ 1048576 := by rw [nv]; omega
  have h8 : (8 : Int) ≤ (q.length : Int) + 8 := by omega
  simp [ir45, ssB, List.idxOf?_cons, Go.Sx.LV.undef, Go.undef, Go.Sx.callO, Go.Sx.splice, Go.Sx.finish, Go.Sx.look, Go.Sx.push, Go.Sx.setObj, Go.Sx.setU, Go.Sx.setAll, Go.Sx.appO, Go.Sx.leI_eq, ltF, take_, h1, h8]

theorem open_short (h : (un4 a b c d).toNat ≤ 2 ^ 20) (hs : q.length < (un4 a b c d).toNat) : Ω 45 [.p (.sl (eight a b c d s0 s1 s2 s3 q) (q.length + 8) 1 fl)] H nx =
    some (.tuple [.p (.s (.slice none 0 0)), .int .i64 0, .int .i64 6], [], []) := by
  refine om_run (ir := ir45) (by kernel_rfl) 0 ?_
  have h1 : nv (un4 a b c d) ≤ 1048576 := by rw [nv]; omega
  have h8 : (8 : Int) ≤ (q.length : Int) + 8 := by omega
  have hw : IntKind.i64.wrap (nv (un4 a b c d)) = ((un4 a b c d).toNat : Int) := wrap_i64 _ (by rw [nv]; omega) (by rw [nv]; omega)
  have hq : IntKind.i64.wrap ((q.length : Int)) = q.length := wrap_i64 _ (by omega) (by omega)
  have h2 : ¬ (((un4 a b c d).toNat : Int) ≤ q.length) := by omega
  simp [ir45, ssB, List.idxOf?_cons, Go.Sx.LV.undef, Go.undef, Go.Sx.callO, Go.Sx.splice, Go.Sx.finish, Go.Sx.look, Go.Sx.push, Go.Sx.setObj, Go.Sx.setU, Go.Sx.setAll, Go.Sx.appO, Go.Sx.leI_eq, ltF, take_, h1, h8, hw, hq, h2]

theorem sum_4 (l : List UInt8) (n : Nat) (hn : l.length = n) (h30 : n < 2 ^ 31) (id cp : Nat) (ex : Bool) (H : Heap) (nx : Nat)
    (h1 : H id = some (.cells (.int .u8 a.toNat :: .int .u8 b.toNat :: .int .u8 c.toNat :: .int .u8 d.toNat :: byt l))) (h2 : id < nx) :
    Ω 78 [.arr id 0 (4 + n) 1 cp ex] H nx = some (.int .u32 (nv (crc (a :: b :: c :: d :: l))), [], []) := by
  have := sum_ (a :: b :: c :: d :: l) (by simp; omega) id cp ex H nx h1 h2
  have e : (a :: b :: c :: d :: l).length = 4 + n := by simp; omega
  rwa [e] at this

theorem open_ok (hq : q.length < 2 ^ 30) (h : (un4 a b c d).toNat ≤ 2 ^ 20) (hs : (un4 a b c d).toNat ≤ q.length) (hsum : un4 s0 s1 s2 s3 = crc (a :: b :: c :: d :: q.take (un4 a b c d).toNat)) :
    Ω 45 [.p (.sl (eight a b c d s0 s1 s2 s3 q) (q.length + 8) 1 fl)] H nx =
    some (.tuple [.p (.sl (bytP (q.take (un4 a b c d).toNat)) (un4 a b c d).toNat 1 (q.take (un4 a b c d).toNat).isEmpty), .int .i64 (8 + (un4 a b c d).toNat : Nat), .int .i64 0], [], []) := by
  refine om_run (ir := ir45) (by kernel_rfl) 0 ?_
  have h1 : nv (un4 a b c d) ≤ 1048576 := by rw [nv]; omega
  have h8 : (8 : Int) ≤ (q.length : Int) + 8 := by omega
  have hw : IntKind.i64.wrap (nv (un4 a b c d)) = ((un4 a b c d).toNat : Int) := wrap_i64 _ (by rw [nv]; omega) (by rw [nv]; omega)
  have hw8 : IntKind.i64.wrap (8 + ((un4 a b c d).toNat : Int)) = 8 + ((un4 a b c d).toNat : Int) := wrap_i64 _ (by omega) (by omega)
  have hwq : IntKind.i64.wrap ((q.length : Int)) = q.length := wrap_i64 _ (by omega) (by omega)
  have h2 : ((un4 a b c d).toNat : Int) ≤ q.length := by omega
  have ht := take_ a b c d
  have ht4 := take_ s0 s1 s2 s3
  have hlen : (q.take (un4 a b c d).toNat).length = (un4 a b c d).toNat := by simp; omega
  have hcl := fun fl H nx => clone_sl' (q.take (un4 a b c d).toNat) (un4 a b c d).toNat hlen fl (by omega) H nx
  have hs4 := fun id cp ex H nx => sum_4 a b c d (q.take (un4 a b c d).toNat) (un4 a b c d).toNat hlen (by omega) id cp ex H nx
  have hge : (0 : Int) ≤ 8 + ((un4 a b c d).toNat : Int) := by omega
  have ht8 : (8 + ((un4 a b c d).toNat : Int)).toNat = 8 + (un4 a b c d).toNat := by omega
  have hle : 8 + (un4 a b c d).toNat ≤ q.length + 8 := by omega
  generalize hU : un4 a b c d = U at *
  generalize hR : q.take U.toNat = R at *
  by_cases h0 : U.toNat = 0
  · have hR0 : R = [] := by cases R <;> simp_all
    have hs0 := fun fl H nx => sum_sl [a, b, c, d] (by simp) fl H nx
    simp only [bytP, List.map, List.length_cons, List.length_nil, Nat.zero_add] at hs0
    rw [hR0, h0] at hcl
    rw [hR0] at hsum hR
    rw [h0] at hR
    have hbp : bytP [] = [] := rfl
    simp only [byt_nil, hbp, List.isEmpty_nil] at hcl
    simp [ir45, ssB, List.idxOf?_cons, Go.Sx.LV.undef, Go.undef, Go.Sx.callO, Go.Sx.splice, Go.Sx.finish, Go.Sx.look, Go.Sx.push, Go.Sx.setObj, Go.Sx.setU, Go.Sx.setAll, Go.Sx.appO, Go.Sx.leI_eq, ltF, ht, ht4, h1, h8, hw, hwq, h2, hw8, hge, ht8, hle, bytP_take, hR, hcl, byt_len, bytP_len, take_byt, ids_byt, ren_byt, ids_app, ren_app, allP_byt, allP_app, h0, hsum, hs0, hR0, wrap_i64, hbp]
  · have hR0 : R.isEmpty = false := by
      cases R with
      | nil => simp at hlen; omega
      | cons x l => rfl
    have h41 : 4 + U.toNat ≤ 1099511627776 := by omega
    have htk : List.take U.toNat (byt R) = byt R := by rw [← hlen]; exact take_byt R
    simp [ir45, ssB, List.idxOf?_cons, Go.Sx.LV.undef, Go.undef, Go.Sx.callO, Go.Sx.splice, Go.Sx.finish, Go.Sx.look, Go.Sx.push, Go.Sx.setObj, Go.Sx.setU, Go.Sx.setAll, Go.Sx.appO, Go.Sx.leI_eq, ltF, ht, ht4, h1, h8, hw, hwq, h2, hw8, hge, ht8, hle, bytP_take, hR, hcl, hs4, byt_len, bytP_len, take_byt, ids_byt, ren_byt, ids_app, ren_app, allP_byt, allP_app, hlen, h0, h41, hR0, hsum, htk]
theorem open_sum (hq : q.length < 2 ^ 30) (h : (un4 a b c d).toNat ≤ 2 ^ 20) (hs : (un4 a b c d).toNat ≤ q.length) (hsum : un4 s0 s1 s2 s3 ≠ crc (a :: b :: c :: d :: q.take (un4 a b c d).toNat)) :
    Ω 45 [.p (.sl (eight a b c d s0 s1 s2 s3 q) (q.length + 8) 1 fl)] H nx =
    some (.tuple [.p (.s (.slice none 0 0)), .int .i64 0, .int .i64 13], [], []) := by
  refine om_run (ir := ir45) (by kernel_rfl) 0 ?_
  have h1 : nv (un4 a b c d) ≤ 1048576 := by rw [nv]; omega
  have h8 : (8 : Int) ≤ (q.length : Int) + 8 := by omega
  have hw : IntKind.i64.wrap (nv (un4 a b c d)) = ((un4 a b c d).toNat : Int) := wrap_i64 _ (by rw [nv]; omega) (by rw [nv]; omega)
  have hw8 : IntKind.i64.wrap (8 + ((un4 a b c d).toNat : Int)) = 8 + ((un4 a b c d).toNat : Int) := wrap_i64 _ (by omega) (by omega)
  have hwq : IntKind.i64.wrap ((q.length : Int)) = q.length := wrap_i64 _ (by omega) (by omega)
  have h2 : ((un4 a b c d).toNat : Int) ≤ q.length := by omega
  have ht := take_ a b c d
  have ht4 := take_ s0 s1 s2 s3
  have hlen : (q.take (un4 a b c d).toNat).length = (un4 a b c d).toNat := by simp; omega
  have hcl := fun fl H nx => clone_sl' (q.take (un4 a b c d).toNat) (un4 a b c d).toNat hlen fl (by omega) H nx
  have hs4 := fun id cp ex H nx => sum_4 a b c d (q.take (un4 a b c d).toNat) (un4 a b c d).toNat hlen (by omega) id cp ex H nx
  have hge : (0 : Int) ≤ 8 + ((un4 a b c d).toNat : Int) := by omega
  have ht8 : (8 + ((un4 a b c d).toNat : Int)).toNat = 8 + (un4 a b c d).toNat := by omega
  have hle : 8 + (un4 a b c d).toNat ≤ q.length + 8 := by omega
  have hne : (nv (un4 s0 s1 s2 s3) != nv (crc (a :: b :: c :: d :: q.take (un4 a b c d).toNat))) = true := by
    rw [bne_iff_ne]
    exact fun e => hsum (nv_inj.1 e)
  generalize hU : un4 a b c d = U at *
  generalize hR : q.take U.toNat = R at *
  by_cases h0 : U.toNat = 0
  · have hR0 : R = [] := by cases R <;> simp_all
    have hs0 := fun fl H nx => sum_sl [a, b, c, d] (by simp) fl H nx
    simp only [bytP, List.map, List.length_cons, List.length_nil, Nat.zero_add] at hs0
    rw [hR0, h0] at hcl
    rw [hR0] at hne hR
    rw [h0] at hR
    have hbp : bytP [] = [] := rfl
    simp only [byt_nil, hbp, List.isEmpty_nil] at hcl
    simp [ir45, ssB, List.idxOf?_cons, Go.Sx.LV.undef, Go.undef, Go.Sx.callO, Go.Sx.splice, Go.Sx.finish, Go.Sx.look, Go.Sx.push, Go.Sx.setObj, Go.Sx.setU, Go.Sx.setAll, Go.Sx.appO, Go.Sx.leI_eq, ltF, ht, ht4, h1, h8, hw, hwq, h2, hw8, hge, ht8, hle, bytP_take, hR, hcl, byt_len, bytP_len, take_byt, ids_byt, ren_byt, ids_app, ren_app, allP_byt, allP_app, h0, hne, hs0, hR0, wrap_i64, hbp]
  · have hR0 : R.isEmpty = false := by
      cases R with
      | nil => simp at hlen; omega
      | cons x l => rfl
    have h41 : 4 + U.toNat ≤ 1099511627776 := by omega
    have htk : List.take U.toNat (byt R) = byt R := by rw [← hlen]; exact take_byt R
    simp [ir45, ssB, List.idxOf?_cons, Go.Sx.LV.undef, Go.undef, Go.Sx.callO, Go.Sx.splice, Go.Sx.finish, Go.Sx.look, Go.Sx.push, Go.Sx.setObj, Go.Sx.setU, Go.Sx.setAll, Go.Sx.appO, Go.Sx.leI_eq, ltF, ht, ht4, h1, h8, hw, hwq, h2, hw8, hge, ht8, hle, bytP_take, hR, hcl, hs4, byt_len, bytP_len, take_byt, ids_byt, ren_byt, ids_app, ren_app, allP_byt, allP_app, hlen, h0, h41, hR0, hne, htk]
end open'
end Go.Proofs.YtppeggedcaabkaaGreatDoor
end

section
namespace Go.Proofs.YtppeggedcaabkaaGreatDoor
open Go Go.Sx
set_option linter.unusedSimpArgs false
set_option linter.unusedVariables false

theorem bytP_drop (n : Nat) (l : List UInt8) : List.drop n (bytP l) = bytP (l.drop n) := by simp [bytP, List.map_drop]
theorem byt_take (n : Nat) (l : List UInt8) : List.take n (byt l) = byt (l.take n) := by simp [byt, List.map_take]
theorem byt_drop (n : Nat) (l : List UInt8) : List.drop n (byt l) = byt (l.drop n) := by simp [byt, List.map_drop]
theorem byt_get {l : List UInt8} {i : Nat} {b : UInt8} (h : l[i]? = some b) : (byt l)[i]? = some (.int .u8 b.toNat) := by simp [byt, h]
theorem bytP_app (l m : List UInt8) : bytP (l ++ m) = bytP l ++ bytP m := by simp [bytP]

/-- A slice of bytes, and which they are. -/
inductive Bs (H : Heap) (nx : Nat) : LV → List UInt8 → Prop
  | nil : Bs H nx (.p (.s (.slice none 0 0))) []
  | sl (F : List UInt8) (fl : Bool) : Bs H nx (.p (.sl (bytP F) F.length 1 fl)) F
  | arr (F G : List UInt8) (id off cp : Nat) (ex : Bool) : H id = some (.cells (byt G)) → id < nx → off + F.length ≤ G.length → (G.drop off).take F.length = F → Bs H nx (.arr id off F.length 1 cp ex) F

theorem Bs.mono {H H' : Heap} {nx nx' : Nat} {x : LV} {F : List UInt8} (g : Bs H nx x F) (h : ∀ id, id < nx → H' id = H id) (hn : nx ≤ nx') : Bs H' nx' x F := by
  cases g with
  | nil => exact .nil
  | sl _ fl => exact .sl F fl
  | arr _ G id off cp ex h1 h2 h3 h4 => exact .arr F G id off cp ex (by rw [h id h2]; exact h1) (by omega) h3 h4
theorem Bs.whole {H : Heap} {nx : Nat} {id cp : Nat} {ex : Bool} {F : List UInt8} (h : H id = some (.cells (byt F))) (hid : id < nx) : Bs H nx (.arr id 0 F.length 1 cp ex) F :=
  .arr F F id 0 cp ex h hid (by omega) (by simp)
theorem Bs.whole' {H : Heap} {nx : Nat} {id cp n : Nat} {ex : Bool} {F : List UInt8} (hn : n = F.length) (h : H id = some (.cells (byt F))) (hid : id < nx) : Bs H nx (.arr id 0 n 1 cp ex) F := by
  subst hn; exact .whole h hid

theorem sub_get {F G : List UInt8} {off : Nat} (h : (G.drop off).take F.length = F) {i : Nat} {b : UInt8} (hi : F[i]? = some b) : G[off + i]? = some b := by
  have h2 := hi
  rw [← h, List.getElem?_take] at h2
  split at h2
  · rwa [List.getElem?_drop] at h2
  · cases h2

/-- What is read of it, as cells. -/
theorem Bs.cells {H : Heap} {nx : Nat} {h : Hp} {x : LV} {F : List UInt8} (g : Bs (Go.Sx.look H nx h) (nx + h.new.length) x F) : slCells H nx h x = some (byt F, F.length) := by
  cases g with
  | nil => rfl
  | sl _ fl => simp [slCells, bytP_map]
  | arr _ G id off cp ex h1 h2 h3 h4 =>
    simp [slCells, h1, byt_len, h3, byt_drop, byt_take, h4]
theorem Bs.in {H : Heap} {nx : Nat} {x : LV} {F : List UInt8} (g : Bs H nx x F) : Bs (Go.Sx.look H nx ⟨[], []⟩) nx x F :=
  g.mono (fun id hid => by simp [Go.Sx.look, findU, hid]) (Nat.le_refl _)
theorem Bs.ids {H : Heap} {nx : Nat} {x : LV} {F : List UInt8} (g : Bs H nx x F) : ∀ i ∈ Go.Sx.ids x, i < nx := by
  cases g with
  | nil => simp [Go.Sx.ids]
  | sl _ fl => simp [Go.Sx.ids]
  | arr _ G id off cp ex h1 h2 h3 h4 => simp [Go.Sx.ids, h2]

end Go.Proofs.YtppeggedcaabkaaGreatDoor
end

section
namespace Go.Proofs.YtppeggedcaabkaaGreatDoor
open Go Go.Sx
set_option linter.unusedSimpArgs false
set_option linter.unusedVariables false

/-- Bytes that are copied when something is put behind them. -/
inductive Ini (H : Heap) (nx : Nat) : LV → List UInt8 → Prop
  | nil : Ini H nx (.p (.s (.slice none 0 0))) []
  | sl (F : List UInt8) : Ini H nx (.p (.sl (bytP F) F.length 1 true)) F
  | arr (F G : List UInt8) (id off : Nat) : H id = some (.cells (byt G)) → id < nx → off + F.length ≤ G.length → (G.drop off).take F.length = F → Ini H nx (.arr id off F.length 1 F.length true) F
/-- A byte may be put behind. -/
def Rdy (c : Ctx) (x : LV) (h : Hp) (q : List UInt8) : Prop := ∀ b : UInt8, ∃ h'' t m, appO c (push h (.cells [.int .u8 b.toNat])) 1 1 x (.arr (c.nx + h.new.length) 0 1 1 1 true) = some ⟨.arr (c.nx + (h.new.length + 1)) 0 (q.length + 1) 1 (q.length + 1) false, h'', t, m⟩ ∧
  Go.Sx.look c.H c.nx h'' (c.nx + (h.new.length + 1)) = some (.cells (byt (q ++ [b]))) ∧ h''.upd = [] ∧ h''.new.length = h.new.length + 2
section num
variable {c : Ctx}
theorem Ini.rdy {x : LV} {q : List UInt8} (g : Ini c.H c.nx x q) (h30 : q.length < 2 ^ 31) : Rdy c x ⟨[], []⟩ q := by
  intro b
  have q41 : ¬ 1099511627776 < q.length + 1 := by omega
  have q41' : q.length + 1 ≤ 1099511627776 := by omega
  have z : c.nx + 0 = c.nx := rfl
  cases g with
  | nil => exact ⟨push (push ⟨[], []⟩ (.cells [.int .u8 b.toNat])) (.cells (byt ([] ++ [b]))), _, _, by simp [appO, slCells, Go.Sx.look, push, ltF, byt]; exact ⟨rfl, rfl⟩, by simp [Go.Sx.look, push, ltF], rfl, rfl⟩
  | sl => exact ⟨push (push ⟨[], []⟩ (.cells [.int .u8 b.toNat])) (.cells (byt (q ++ [b]))), _, _, by simp [appO, slCells, Go.Sx.look, push, ltF, bytP_map, bytP_len, byt_app, byt_cons, byt_nil, q41, q41']; exact ⟨rfl, rfl⟩, by simp [Go.Sx.look, push, ltF], rfl, rfl⟩
  | arr _ G id off h1 h2 h3 h4 => 
    have h3' : ¬ G.length < off + q.length := by omega
    exact ⟨push (push ⟨[], []⟩ (.cells [.int .u8 b.toNat])) (.cells (byt (q ++ [b]))), _, _, by simp [appO, slCells, Go.Sx.look, push, ltF, h2, findU, h1, byt_len, byt_drop, byt_take, h4, byt_app, byt_cons, byt_nil, q41, q41', h3', h3]; exact ⟨rfl, rfl⟩, by simp [Go.Sx.look, push, ltF], rfl, rfl⟩
theorem own_rdy {i : Nat} {h : Hp} {q : List UInt8} (hi : Go.Sx.look c.H c.nx h i = some (.cells (byt q))) (hlt : i < c.nx + h.new.length) (hge : c.nx ≤ i) (hu : h.upd = []) (h30 : q.length < 2 ^ 31) : Rdy c (.arr i 0 q.length 1 q.length false) h q := by
  intro b
  have ha := app1 (c := c) (h := push h (.cells [.int .u8 b.toNat])) (q := q) (i := i) (j := c.nx + h.new.length) (ex := false) (b := b)
    (by rw [look_before _ _ _ _ _ hlt]; exact hi) (look_last _ _ _ _) h30
  have hl : (push h (.cells [.int .u8 b.toNat])).new.length = h.new.length + 1 := by simp [push]
  rw [hl] at ha
  obtain ⟨f1, f2, f3⟩ := look_grow (c := c) (h := h) (i := i) (ex := false) (o := .cells [.int .u8 b.toNat]) (p := .cells (byt (q ++ [b]))) (.inr hge) hu
  exact ⟨_, _, _, ha, f1, f2, f3⟩
theorem num_step' {N : Nat} {h : Hp} {x : LV} {q : List UInt8} {n : Nat} (hn : 128 ≤ n) (g : Rdy c x h q) (h30 : q.length + 1 < 2 ^ 31) :
    ∃ h'', runCS c N ir26_0 ⟨[(0, x), (1, .int .u64 n)], h⟩ = some (.normal, ⟨[(0, .arr (c.nx + (h.new.length + 1)) 0 (q.length + 1) 1 (q.length + 1) false), (1, .int .u64 (n / 128 : Nat))], h''⟩) ∧
      Rdy c (.arr (c.nx + (h.new.length + 1)) 0 (q.length + 1) 1 (q.length + 1) false) h'' (q ++ [UInt8.ofNat (n % 128 + 128)]) := by
  have hn' : (128 : Int) ≤ n := by omega
  obtain ⟨h'', t, m, ha, h1, h2, h3⟩ := g (UInt8.ofNat (n % 128 + 128))
  have hb := byte_or n
  refine ⟨h'', ?_, ?_⟩
  · generalize UInt8.ofNat (n % 128 + 128) = b at *
    simp [ir26_0, ssB, List.idxOf?_cons, Go.Sx.LV.undef, Go.undef, Go.Sx.callO, Go.Sx.splice, Go.Sx.finish, Go.Sx.setAll, Go.Sx.leI_eq, ltF, hn', hb, ha, shr7]
  · have := own_rdy h1 (by rw [h3]; omega) (by omega) h2 (by simp; omega)
    simpa using this
theorem num_loop' {N : Nat} : ∀ (k n : Nat), k = (vnum n).length → ∀ (m : Nat) (h : Hp) (q : List UInt8) (x : LV), k < m → Rdy c x h q → q.length + k < 2 ^ 31 →
    ∃ (h' : Hp) (q' : List UInt8) (x' : LV) (n' : Nat), iter (runCS c N ir26_0) m ⟨[(0, x), (1, .int .u64 n)], h⟩ =
      some (.exit 0, ⟨[(0, x'), (1, .int .u64 n'), (12, .bool false)], h'⟩) ∧ q' ++ [UInt8.ofNat n'] = q ++ vnum n ∧ Rdy c x' h' q' := by
  intro k
  induction k with
  | zero => intro n hk; have := vnum_pos n; omega
  | succ k ih =>
    intro n hk m h q x hm g hq
    obtain ⟨m, rfl⟩ : ∃ r, m = r + 1 := ⟨m - 1, by omega⟩
    by_cases hn : n < 128
    · exact ⟨h, q, x, n, iter_out (num_out hn) (by simp), by rw [vnum_lt hn], g⟩
    · obtain ⟨h'', e1, g'⟩ := num_step' (N := N) (n := n) (by omega) g (by omega)
      rw [iter_step e1]
      have hv := vnum_ge hn
      rw [hv, List.length_cons] at hk
      obtain ⟨h', q', x', n', e2, e3, e4⟩ := ih (n / 128) (by omega) m _ _ _ (by omega) g' (by simp; omega)
      exact ⟨h', q', x', n', e2, by rw [e3, hv]; simp, e4⟩
end num

theorem numB_ {H : Heap} {nx : Nat} {x : LV} {q : List UInt8} (g : Bs H nx x q) (n : Nat) (h64 : n < 2 ^ 64) (hq : q.length < 2 ^ 30) :
    Ω 26 [x, .int .u64 n] H nx = some (.arr nx 0 (q ++ vnum n).length 1 (q ++ vnum n).length false, [], [some (.cells (byt (q ++ vnum n)))]) := by
  refine om_run (ir := ir26) (by kernel_rfl) 11 ?_
  have hv := vnum_len n h64
  have fin : ∀ y, Ini H nx y q → ∃ h' q' x' n', iter (runCS ⟨Ω, noG, H, nx⟩ 11 ir26_0) 11 ⟨[(0, y), (1, .int .u64 n)], ⟨[], []⟩⟩ = some (.exit 0, ⟨[(0, x'), (1, .int .u64 (n' : Nat)), (12, .bool false)], h'⟩) ∧ q' ++ [UInt8.ofNat n'] = q ++ vnum n ∧ Rdy ⟨Ω, noG, H, nx⟩ x' h' q' := by
    intro y hy
    obtain ⟨h', q', x', n', e1, e2, e3⟩ := num_loop' (c := ⟨Ω, noG, H, nx⟩) (N := 11) _ n rfl 11 ⟨[], []⟩ q y (by omega) (Ini.rdy hy (by omega)) (by omega)
    exact ⟨h', q', x', n', e1, e2, e3⟩
  have tl : ∀ y, Ini H nx y q → ∃ (h' : Hp) (x' : LV) (n' : Nat) (h'' : Hp) (t : List Nat) (m : Bool), iter (runCS ⟨Ω, noG, H, nx⟩ 11 ir26_0) 11 ⟨[(0, y), (1, .int .u64 n)], ⟨[], []⟩⟩ = some (.exit 0, ⟨[(0, x'), (1, .int .u64 (n' : Nat)), (12, .bool false)], h'⟩) ∧
      appO ⟨Ω, noG, H, nx⟩ (push h' (.cells [.int .u8 (IntKind.u8.wrap (n' : Int))])) 1 1 x' (.arr (nx + h'.new.length) 0 1 1 1 true) = some ⟨.arr (nx + (h'.new.length + 1)) 0 (q ++ vnum n).length 1 (q ++ vnum n).length false, h'', t, m⟩ ∧
      finish true H nx (.arr (nx + (h'.new.length + 1)) 0 (q ++ vnum n).length 1 (q ++ vnum n).length false) h'' = some (.arr nx 0 (q ++ vnum n).length 1 (q ++ vnum n).length false, [], [some (.cells (byt (q ++ vnum n)))]) := by
    intro y hy
    obtain ⟨h', q', x', n', e1, e2, e3⟩ := fin y hy
    obtain ⟨h'', t, m, a1, a2, a3, a4⟩ := e3 (UInt8.ofNat n')
    have hlen : q'.length + 1 = (q ++ vnum n).length := by rw [← e2]; simp
    rw [hlen, ← wrap_u8 n'] at a1
    rw [e2] at a2
    exact ⟨h', x', n', h'', t, m, e1, a1, finish_arr a3 (Nat.le_add_right _ _) a2⟩
  generalize q ++ vnum n = Q at *
  cases g with
  | nil =>
    obtain ⟨h', x', n', h'', t, m, e1, e2, e3⟩ := tl _ .nil
    simp [ir26, ssB, List.idxOf?_cons, Go.Sx.LV.undef, Go.undef, callO_A, aft_nil, setAll_nil, Go.Sx.splice, Go.Sx.leI_eq, ltF, e1, e2, e3]
  | sl _ fl =>
    obtain ⟨h', x', n', h'', t, m, e1, e2, e3⟩ := tl _ (.sl q)
    have tk : List.take q.length (bytP q) = bytP q := by rw [← bytP_len, List.take_length]
    simp [ir26, ssB, List.idxOf?_cons, Go.Sx.LV.undef, Go.undef, callO_A, aft_nil, setAll_nil, Go.Sx.splice, Go.Sx.leI_eq, ltF, bytP_len, tk, e1, e2, e3]
  | arr _ G id off cp ex h1 h2 h3 h4 =>
    obtain ⟨h', x', n', h'', t, m, e1, e2, e3⟩ := tl _ (.arr q G id off h1 h2 h3 h4)
    simp [ir26, ssB, List.idxOf?_cons, Go.Sx.LV.undef, Go.undef, callO_A, aft_nil, setAll_nil, Go.Sx.splice, Go.Sx.leI_eq, ltF, h1, h2, e1, e2, e3]
end Go.Proofs.YtppeggedcaabkaaGreatDoor
end

section
namespace Go.Proofs.YtppeggedcaabkaaGreatDoor
open Go Go.Sx
set_option linter.unusedSimpArgs false
set_option linter.unusedVariables false

theorem bytesL_byt (l : List UInt8) : bytesL (byt l) = some l := by
  induction l with
  | nil => rfl
  | cons x l ih =>
    have hx := x.toNat_lt
    rw [byt_cons, bytesL, ih]
    simp
theorem fin_p (H : Heap) (nx : Nat) (x : PV) (h : Hp) (hu : h.upd = []) : finish false H nx (.p x) h = some (.p x, [], []) := by
  simp [finish, frz, frzL, hu, updIds, reach, ren, renU, renN, Go.Sx.ids]
theorem newWriter_ (H : Heap) (nx : Nat) : Ω 73 [] H nx = some (.ref nx 0, [], [some (.cells [.p (.s (.slice none 0 0)), .int .i64 0])]) := by
  refine om_run (ir := ir73) (by kernel_rfl) 0 ?_
  simp [ir73, ssB, List.idxOf?_cons, Go.Sx.LV.undef, Go.undef, Go.Sx.callO, Go.Sx.splice, Go.Sx.finish, Go.Sx.look, Go.Sx.push, Go.Sx.setObj, Go.Sx.setU, Go.Sx.setAll, Go.Sx.appO, Go.Sx.leI_eq, ltF]
theorem wrBytes_ {H : Heap} {nx wid pid n : Nat} {p : List UInt8} (g : Wr H nx wid pid p n) (h0 : 0 < n) : Ω 75 [.ref wid 0] H nx = some (.p (.sl (bytP p) p.length 1 false), [], []) := by
  refine om_run (ir := ir75) (by kernel_rfl) 0 ?_
  obtain ⟨h1, h2, h3, h4, h5⟩ := (g.at').resolve_left (by omega)
  have hlen := g.len
  have hs := g.small
  have hlt := g.lt
  have c := fun id H nx => clone_arr p id p.length false (by omega) (by omega) H nx
  simp [ir75, ssB, List.idxOf?_cons, Go.Sx.LV.undef, Go.undef, Go.Sx.callO, Go.Sx.splice, Go.Sx.finish, Go.Sx.look, Go.Sx.push, Go.Sx.setObj, Go.Sx.setU, Go.Sx.setAll, Go.Sx.appO, Go.Sx.leI_eq, ltF, hlt, h4, h5, h2, c, byt_len, bytP_len, take_byt, ids_byt, ren_byt, ids_app, ren_app, allP_byt, allP_app]

theorem run_seq2 {c : Ctx} {n : Nat} {A B : IRC} {st st' : St} (h : runCS c n (.seq A B) st = some (.normal, st')) (K : IRC) : runCS c n (.seq A (.seq B K)) st = runCS c n K st' := by
  rw [runCS_seq] at h ⊢
  cases hA : runCS c n A st with
  | none => rw [hA] at h; cases h
  | some r =>
    obtain ⟨ex, s⟩ := r
    rw [hA] at h
    cases ex <;> simp only [] at h ⊢
    · rw [runCS_seq, h]
    all_goals simp at h

/-- Bits as whole bytes. -/
def pack (l : List Bool) : List UInt8 := addBits [] 0 l
theorem pack_wr {H : Heap} {nx wid pid n : Nat} {p : List UInt8} (g : Wr H nx wid pid p n) : p.length = (n + 7) / 8 := g.len

def cidA : IRC := seqL ir72.body
def cidB : IRC := seqL (seqR ir72.body)
def cidC : IRC := seqL (seqR (seqR ir72.body))
def cidD : IRC := seqR (seqR (seqR ir72.body))
theorem cid_parts : ir72 = ⟨[0], .seq cidA (.seq cidB (.seq cidC cidD)), [(2, none)], false⟩ := rfl
abbrev wr0 : Option Go.Sx.Obj := some (.cells [.p (.s (.slice none 0 0)), .int .i64 0])
theorem cid_b (i : Id) (H : Heap) (nx n : Nat) : runCS ⟨Ω, noG, H, nx⟩ n (.seq cidA cidB) ⟨[(0, .p i.pv)], ⟨[], []⟩⟩ = some (.normal, ⟨[(1, .ref nx 0), (3, .ref (nx + 1) 0)], ⟨[], [idC i, wr0]⟩⟩) := by
  have w := newWriter_
  simp [cidA, cidB, seqL, seqR, ir72, ssB, List.idxOf?_cons, Go.Sx.LV.undef, Go.undef, Go.Sx.callO, Go.Sx.splice, Go.Sx.finish, Go.Sx.look, Go.Sx.push, Go.Sx.setObj, Go.Sx.setU, Go.Sx.setAll, Go.Sx.appO, Go.Sx.leI_eq, ltF, w]
def cevA : IRC := seqL ir29.body
def cevB : IRC := seqL (seqR ir29.body)
def cevC : IRC := seqL (seqR (seqR ir29.body))
def cevD : IRC := seqR (seqR (seqR ir29.body))
theorem cev_parts : ir29 = ⟨[0], .seq cevA (.seq cevB (.seq cevC cevD)), [(2, none)], false⟩ := rfl
theorem cev_b (i : Ev) (H : Heap) (nx n : Nat) : runCS ⟨Ω, noG, H, nx⟩ n (.seq cevA cevB) ⟨[(0, .p i.pv)], ⟨[], []⟩⟩ = some (.normal, ⟨[(1, .ref nx 0), (3, .ref (nx + 1) 0)], ⟨[], [evC i, wr0]⟩⟩) := by
  have w := newWriter_
  simp [cevA, cevB, seqL, seqR, ir29, ssB, List.idxOf?_cons, Go.Sx.LV.undef, Go.undef, Go.Sx.callO, Go.Sx.splice, Go.Sx.finish, Go.Sx.look, Go.Sx.push, Go.Sx.setObj, Go.Sx.setU, Go.Sx.setAll, Go.Sx.appO, Go.Sx.leI_eq, ltF, w]

/-- What a new writer's call leaves. -/
theorem new_wr {H : Heap} {nx : Nat} {o : Option Go.Sx.Obj} {u : Upd} {m : List (Option Go.Sx.Obj)} {pid' n' : Nat} {p' : List UInt8} (po : Post (Go.Sx.look H nx ⟨[], [o, wr0]⟩) (nx + 2) (nx + 1) 0 0 u m pid' p' n') :
    Wr (Go.Sx.look H nx (aft nx ⟨[], [o, wr0]⟩ u m)) (nx + (aft nx ⟨[], [o, wr0]⟩ u m).new.length) (nx + 1) pid' p' n' ∧ (aft nx ⟨[], [o, wr0]⟩ u m).upd = [] := by
  have hk : ∀ id o', findU u id = some o' → id < nx + (⟨[], [o, wr0]⟩ : Hp).new.length := po.keys
  have hlook : Go.Sx.look H nx (aft nx ⟨[], [o, wr0]⟩ u m) = Go.Sx.look (Go.Sx.look H nx ⟨[], [o, wr0]⟩) (nx + 2) ⟨u, m⟩ := funext fun id => look_call hk id
  have hlen : (aft nx ⟨[], [o, wr0]⟩ u m).new.length = 2 + m.length := by simp [aft, setAll_len]
  refine ⟨?_, ?_⟩
  · rw [hlook, hlen, ← Nat.add_assoc]; exact po.wr
  · have hf := po.form
    rw [if_pos rfl] at hf
    have h1 : ¬ nx + 1 < nx := by omega
    cases hf with
    | f1 X => simp [aft, setAll, Go.Sx.setObj, h1]
    | f2 X Z h => omega
    | f3 X Z h => omega
theorem wr0_wr (H : Heap) (nx : Nat) (o : Option Go.Sx.Obj) : Wr (Go.Sx.look H nx ⟨[], [o, wr0]⟩) (nx + 2) (nx + 1) 0 [] 0 :=
  ⟨by omega, rfl, by decide, .inl ⟨rfl, by simp [Go.Sx.look, ltF]⟩⟩

theorem evBits_pos (i : Ev) : 0 < (evBits i).length := by
  cases i <;> (unfold evBits; simp [bitsOf_len]; try omega)
theorem codeID_ (i : Id) (hb : (idBits i).length < 2 ^ 29) (H : Heap) (nx : Nat) : Ω 72 [.p i.pv] H nx = some (.p (.sl (bytP (pack (idBits i))) (pack (idBits i)).length 1 false), [], []) := by
  refine om_run (ir := ir72) (by kernel_rfl) 0 ?_
  rw [cid_parts]
  obtain ⟨u, m, pid', e, po⟩ := putID_ i _ _ _ _ _ _ (wr0_wr H nx (idC i)) (by omega)
  obtain ⟨w, hu⟩ := new_wr po
  have b := wrBytes_ w (by have := idBits_pos i; omega)
  rw [← pack] at b
  have ab := cid_b i H nx 0
  have f := fin_p H nx (.sl (bytP (pack (idBits i))) (pack (idBits i)).length 1 false) _ hu
  have lk : Go.Sx.look H nx ⟨[], [idC i, wr0]⟩ nx = idC i := by simp [Go.Sx.look, ltF]
  have e' : Ω 132 [.ref (nx + 1) 0, .p i.pv] (Go.Sx.look H nx ⟨[], [idC i, wr0]⟩) (nx + (⟨[], [idC i, wr0]⟩ : Hp).new.length) = some (.tuple [], u, m) := e
  clear e po w hu hb
  generalize pack (idBits i) = B at *
  have hc : runCS ⟨Ω, noG, H, nx⟩ 0 (.seq cidC cidD) ⟨[(1, .ref nx 0), (3, .ref (nx + 1) 0)], ⟨[], [idC i, wr0]⟩⟩ = some (.ret, ⟨[(2, .p (.sl (bytP B) B.length 1 false))], aft nx ⟨[], [idC i, wr0]⟩ u m⟩) := by
    generalize (⟨[], [idC i, wr0]⟩ : Hp) = h0 at *
    simp [cidC, cidD, seqL, seqR, ir72, ssB, List.idxOf?_cons, Go.Sx.LV.undef, Go.undef, callO_A, aft_nil, setAll_nil, Go.Sx.splice, Go.Sx.appO, Go.Sx.leI_eq, ltF, lk, e', b]
  have ab' := run_seq2 ab
  generalize IRC.seq cidC cidD = K at *
  rw [← ab'] at hc
  generalize IRC.seq cidA (.seq cidB K) = K2 at *
  simp [ssB, List.idxOf?_cons, Go.Sx.LV.undef, Go.undef, callO_A, aft_nil, setAll_nil, Go.Sx.splice, Go.Sx.appO, Go.Sx.leI_eq, ltF, hc, f]
theorem codeEvent_ (i : Ev) (hm : i.max < 2 ^ 64) (hb : (evBits i).length < 2 ^ 29) (H : Heap) (nx : Nat) : Ω 29 [.p i.pv] H nx = some (.p (.sl (bytP (pack (evBits i))) (pack (evBits i)).length 1 false), [], []) := by
  refine om_run (ir := ir29) (by kernel_rfl) 0 ?_
  rw [cev_parts]
  obtain ⟨u, m, pid', e, po⟩ := putEvent_ i hm _ _ _ _ _ _ (wr0_wr H nx (evC i)) (by omega)
  obtain ⟨w, hu⟩ := new_wr po
  have b := wrBytes_ w (by have := evBits_pos i; omega)
  rw [← pack] at b
  have ab := cev_b i H nx 0
  have f := fin_p H nx (.sl (bytP (pack (evBits i))) (pack (evBits i)).length 1 false) _ hu
  have lk : Go.Sx.look H nx ⟨[], [evC i, wr0]⟩ nx = evC i := by simp [Go.Sx.look, ltF]
  have e' : Ω 74 [.ref (nx + 1) 0, .p i.pv] (Go.Sx.look H nx ⟨[], [evC i, wr0]⟩) (nx + (⟨[], [evC i, wr0]⟩ : Hp).new.length) = some (.tuple [], u, m) := e
  clear e po w hu hb
  generalize pack (evBits i) = B at *
  have hc : runCS ⟨Ω, noG, H, nx⟩ 0 (.seq cevC cevD) ⟨[(1, .ref nx 0), (3, .ref (nx + 1) 0)], ⟨[], [evC i, wr0]⟩⟩ = some (.ret, ⟨[(2, .p (.sl (bytP B) B.length 1 false))], aft nx ⟨[], [evC i, wr0]⟩ u m⟩) := by
    generalize (⟨[], [evC i, wr0]⟩ : Hp) = h0 at *
    simp [cevC, cevD, seqL, seqR, ir29, ssB, List.idxOf?_cons, Go.Sx.LV.undef, Go.undef, callO_A, aft_nil, setAll_nil, Go.Sx.splice, Go.Sx.appO, Go.Sx.leI_eq, ltF, lk, e', b]
  have ab' := run_seq2 ab
  generalize IRC.seq cevC cevD = K at *
  rw [← ab'] at hc
  generalize IRC.seq cevA (.seq cevB K) = K2 at *
  simp [ssB, List.idxOf?_cons, Go.Sx.LV.undef, Go.undef, callO_A, aft_nil, setAll_nil, Go.Sx.splice, Go.Sx.appO, Go.Sx.leI_eq, ltF, hc, f]
end Go.Proofs.YtppeggedcaabkaaGreatDoor
end

section
namespace Go.Proofs.YtppeggedcaabkaaGreatDoor
open Go Go.Sx
set_option linter.unusedSimpArgs false
set_option linter.unusedVariables false

/-- The document's step of the sum. -/
def refS (r : BitVec 32) (b : Nat) : BitVec 32 := if r.toNat % 2 = b % 2 then r >>> 1 else (r >>> 1) ^^^ 3988292384#32
def refN : Nat → BitVec 32 → Nat → BitVec 32
  | 0, r, _ => r
  | k + 1, r, b => refN k (refS r b) (b / 2)
def half : Nat → Nat → Nat
  | 0, b => b
  | k + 1, b => half k (b / 2)
theorem lsb_nat (r : BitVec 32) : r.getLsbD 0 = decide (r.toNat % 2 = 1) := by
  rw [BitVec.getLsbD, Nat.testBit_zero]
theorem refS_bit (r : BitVec 32) (b i : Nat) (hi : i < 32) : (refS r b).getLsbD i = (r.getLsbD (1 + i) ^^ ((r.getLsbD 0 ^^ decide (b % 2 = 1)) && (3988292384#32).getLsbD i)) := by
  unfold refS
  rw [lsb_nat]
  have h1 := Nat.mod_two_eq_zero_or_one r.toNat
  have h2 := Nat.mod_two_eq_zero_or_one b
  by_cases h : r.toNat % 2 = b % 2
  · rw [if_pos h, BitVec.getLsbD_ushiftRight, h]
    simp
  · rw [if_neg h, BitVec.getLsbD_xor, BitVec.getLsbD_ushiftRight]
    have : (decide (r.toNat % 2 = 1) ^^ decide (b % 2 = 1)) = true := by
      rcases h1 with h1 | h1 <;> rcases h2 with h2 | h2 <;> simp [h1, h2] <;> omega
    rw [this, Bool.true_and]
theorem stp_ref (r : BitVec 32) (b : Nat) (hb : b < 2 ^ 32) : stp (r ^^^ BitVec.ofNat 32 b) = refS r b ^^^ BitVec.ofNat 32 (b / 2) := by
  refine BitVec.eq_of_getLsbD_eq fun i hi => ?_
  rw [stp_bit _ _ hi, BitVec.getLsbD_xor, BitVec.getLsbD_xor, BitVec.getLsbD_xor, refS_bit _ _ _ hi]
  generalize (3988292384#32).getLsbD i = pl
  rw [BitVec.getLsbD_ofNat, BitVec.getLsbD_ofNat, BitVec.getLsbD_ofNat, Nat.testBit_div_two, Nat.testBit_zero, Nat.add_comm 1 i]
  have h0 : decide (0 < 32) = true := rfl
  have h1 : (decide (i + 1 < 32) && b.testBit (i + 1)) = b.testBit (i + 1) := by
    by_cases h : i + 1 < 32
    · simp [h]
    · have : b.testBit (i + 1) = false := Nat.testBit_lt_two_pow (Nat.lt_of_lt_of_le hb (Nat.pow_le_pow_right (by decide) (by omega)))
      simp [this]
  rw [h1, h0]
  simp only [hi, decide_true, Bool.true_and]
  cases r.getLsbD (i + 1) <;> cases b.testBit (i + 1) <;> cases (r.getLsbD 0 ^^ decide (b % 2 = 1)) <;> cases pl <;> rfl
theorem rep_ref : ∀ (k : Nat) (r : BitVec 32) (b : Nat), k ≤ 32 → b < 2 ^ k → Nat.repeat stp k (r ^^^ BitVec.ofNat 32 b) = refN k r b
  | 0, r, b, _, hb => by
    obtain rfl : b = 0 := by simpa using hb
    show r ^^^ 0#32 = r
    simp
  | k + 1, r, b, hk, hb => by
    rw [rep_succ, stp_ref r b (Nat.lt_of_lt_of_le hb (Nat.pow_le_pow_right (by decide) hk)), rep_ref k _ _ (by omega) (by rw [Nat.pow_succ] at hb; omega)]
    rfl
theorem crcB_ref (r : BitVec 32) (b : UInt8) : crcB r b = refN 8 r b.toNat := rep_ref 8 r b.toNat (by decide) b.toNat_lt

theorem rem2_u32 (r : BitVec 32) : binI .rem .u32 (nv r) 2 = some (.int .u32 (r.toNat % 2 : Nat)) := by
  have : binI .rem .u32 (nv r) 2 = some (.int .u32 ((r.toNat : Int).tmod 2)) := rfl
  rw [this, Int.tmod_eq_emod_of_nonneg (by omega)]
  norm_cast
theorem rem2_u8 (b : Nat) : binI .rem .u8 (b : Int) 2 = some (.int .u8 (b % 2 : Nat)) := by
  have : binI .rem .u8 (b : Int) 2 = some (.int .u8 ((b : Int).tmod 2)) := rfl
  rw [this, Int.tmod_eq_emod_of_nonneg (by omega)]
  norm_cast
theorem quo_nat (k : IntKind) (x y : Nat) (hy : 0 < y) (hk : ∀ z : Nat, z ≤ x → k.wrap (z : Int) = z) : binI .quo k (x : Int) (y : Int) = some (.int k (x / y : Nat)) := by
  have : binI .quo k (x : Int) (y : Int) = some (.int k (k.wrap ((x : Int).tdiv y))) := by simp [binI]; omega
  rw [this, Int.tdiv_eq_ediv_of_nonneg (by omega)]
  have h2 := hk (x / y) (Nat.div_le_self x y)
  rw [← h2]
  norm_cast
theorem wrap_u32n (z : Nat) (h : z < 2 ^ 32) : IntKind.u32.wrap (z : Int) = z := by
  simp [IntKind.wrap, IntKind.signed, IntKind.bits]; omega
theorem wrap_u8n (z : Nat) (h : z < 256) : IntKind.u8.wrap (z : Int) = z := by
  simp [IntKind.wrap, IntKind.signed, IntKind.bits]; omega
theorem wrap_u64n (z : Nat) (h : z < 2 ^ 64) : IntKind.u64.wrap (z : Int) = z := by
  simp [IntKind.wrap, IntKind.signed, IntKind.bits]; omega
theorem quo2_u32 (r : BitVec 32) : binI .quo .u32 (nv r) 2 = some (.int .u32 (nv (r >>> 1))) := by
  have := quo_nat .u32 r.toNat 2 (by decide) (fun z hz => wrap_u32n z (by have := r.isLt; omega))
  have e : ((2 : Nat) : Int) = 2 := rfl
  rw [e] at this
  rw [nv, this, nv, BitVec.toNat_ushiftRight, Nat.shiftRight_eq_div_pow]
theorem quo2_u8 (b : Nat) (hb : b < 256) : binI .quo .u8 (b : Int) 2 = some (.int .u8 (b / 2 : Nat)) := 
  quo_nat .u8 b 2 (by decide) (fun z hz => wrap_u8n z (by omega))

section sum
variable (c : Ctx) (h : Hp)
theorem rsumIn_step (n : Nat) (j : Nat) (hj : j < 8) (r : BitVec 32) (b : Nat) (hb : b < 256) (x8 x9 x10 : LV) :
    runCS c n ir58_0 ⟨[(3, .int .u32 (nv r)), (5, .int .u8 b), (6, .int .i64 j), (8, x8), (9, x9), (10, x10)], h⟩ =
      some (.normal, ⟨[(3, .int .u32 (nv (refS r b))), (5, .int .u8 (b / 2 : Nat)), (6, .int .i64 (j + 1 : Nat)), (8, x8), (9, x9), (10, x10)], h⟩) := by
  have h8 : ¬ (8 : Int) ≤ j := by omega
  have hw : IntKind.i64.wrap ((j : Int) + 1) = (j : Int) + 1 := wrap_i64 _ (by omega) (by omega)
  have hw2 : IntKind.u32.wrap ((b % 2 : Nat) : Int) = ((b % 2 : Nat) : Int) := wrap_u32n _ (by omega)
  have r1 := rem2_u32 r
  have r2 := rem2_u8 b
  have q1 := quo2_u32 r
  have q2 := quo2_u8 b hb
  have x1 := xor_poly (r >>> 1)
  unfold refS
  generalize hR : r.toNat % 2 = R at *
  generalize hB : b % 2 = B at *
  generalize b / 2 = b' at *
  generalize r >>> 1 = r' at *
  by_cases e : R = B
  · subst e
    simp [ir58_0, ssB, List.idxOf?_cons, Go.Sx.LV.undef, Go.undef, Go.Sx.callO, Go.Sx.splice, Go.Sx.finish, Go.Sx.look, Go.Sx.push, Go.Sx.setObj, Go.Sx.setU, Go.Sx.setAll, Go.Sx.appO, Go.Sx.leI_eq, ltF, h8, hw, r1, r2, q1, q2, x1, hw2]
  · have e' : ¬ (R : Int) = B := by omega
    simp [ir58_0, ssB, List.idxOf?_cons, Go.Sx.LV.undef, Go.undef, Go.Sx.callO, Go.Sx.splice, Go.Sx.finish, Go.Sx.look, Go.Sx.push, Go.Sx.setObj, Go.Sx.setU, Go.Sx.setAll, Go.Sx.appO, Go.Sx.leI_eq, ltF, h8, hw, r1, r2, q1, q2, x1, hw2, e, e']
theorem rsumIn_out (n : Nat) (r : BitVec 32) (x5 x8 x9 x10 : LV) :
    runCS c n ir58_0 ⟨[(3, .int .u32 (nv r)), (5, x5), (6, .int .i64 8), (8, x8), (9, x9), (10, x10)], h⟩ =
      some (.exit 2, ⟨[(3, .int .u32 (nv r)), (5, x5), (6, .int .i64 8), (8, x8), (9, x9), (10, x10), (15, .bool false)], h⟩) := by
  simp [ir58_0, ssB, List.idxOf?_cons, Go.Sx.LV.undef, Go.undef, Go.Sx.callO, Go.Sx.splice, Go.Sx.finish, Go.Sx.look, Go.Sx.push, Go.Sx.setObj, Go.Sx.setU, Go.Sx.setAll, Go.Sx.appO, Go.Sx.leI_eq, ltF]
theorem rsumIn_all (n : Nat) (x8 x9 x10 : LV) : ∀ (k m j : Nat) (r : BitVec 32) (b : Nat), b < 256 → j + k = 8 → k < m → iter (runCS c n ir58_0) m ⟨[(3, .int .u32 (nv r)), (5, .int .u8 b), (6, .int .i64 j), (8, x8), (9, x9), (10, x10)], h⟩ =
      some (.exit 2, ⟨[(3, .int .u32 (nv (refN k r b))), (5, .int .u8 (half k b : Nat)), (6, .int .i64 8), (8, x8), (9, x9), (10, x10), (15, .bool false)], h⟩) := by
  intro k
  induction k with
  | zero =>
    intro m j r b hb hj hm
    obtain ⟨m, rfl⟩ : ∃ q, m = q + 1 := ⟨m - 1, by omega⟩
    obtain rfl : j = 8 := by omega
    exact iter_out (rsumIn_out c h n r _ x8 x9 x10) (by simp)
  | succ k ih =>
    intro m j r b hb hj hm
    obtain ⟨m, rfl⟩ : ∃ q, m = q + 1 := ⟨m - 1, by omega⟩
    rw [iter_step (rsumIn_step c h n j (by omega) r b hb x8 x9 x10), ih m (j + 1) (refS r b) (b / 2) (by omega) (by omega) (by omega)]
    rfl
end sum

section sum
variable {c : Ctx}
theorem rsumOut_step {n : Nat} (hn : 9 ≤ n) {h : Hp} {F : List UInt8} {x : LV} (g : Bs (Go.Sx.look c.H c.nx h) (c.nx + h.new.length) x F) (j : Nat) (b : UInt8) (hj : F[j]? = some b) (h62 : F.length < 2 ^ 62) (r : BitVec 32) :
    runCS c n ir58_1 ⟨[(3, .int .u32 (nv r)), (8, x), (9, .int .i64 F.length), (10, .int .i64 j)], h⟩ =
      some (.normal, ⟨[(3, .int .u32 (nv (crcB r b))), (8, x), (9, .int .i64 F.length), (10, .int .i64 (j + 1 : Nat))], h⟩) := by
  obtain ⟨hlt, hv⟩ := List.getElem?_eq_some_iff.1 hj
  have h8 : ¬ (F.length : Int) ≤ j := by omega
  have hw : IntKind.i64.wrap ((j : Int) + 1) = (j : Int) + 1 := wrap_i64 _ (by omega) (by omega)
  have hs := rsumIn_all c h n x (.int .i64 F.length) (.int .i64 j) 8 n 0 r b.toNat b.toNat_lt rfl (by omega)
  simp only [Int.natCast_zero, Int.ofNat_zero] at hs
  rw [crcB_ref]
  have hb := byt_get hj
  cases g with
  | nil => simp at hj
  | sl _ fl => simp [ir58_1, ssB, List.idxOf?_cons, Go.Sx.LV.undef, Go.undef, Go.Sx.callO, Go.Sx.splice, Go.Sx.finish, Go.Sx.push, Go.Sx.setObj, Go.Sx.setU, Go.Sx.setAll, Go.Sx.appO, Go.Sx.leI_eq, ltF, h8, hw, hlt, hb, bytP_map, hs]
  | arr _ G id off cp ex h1 h2 h3 h4 =>
    have hb2 := byt_get (sub_get h4 hj)
    simp [ir58_1, ssB, List.idxOf?_cons, Go.Sx.LV.undef, Go.undef, Go.Sx.callO, Go.Sx.splice, Go.Sx.finish, Go.Sx.push, Go.Sx.setObj, Go.Sx.setU, Go.Sx.setAll, Go.Sx.appO, Go.Sx.leI_eq, ltF, h8, hw, hlt, hb2, h1, hs]
theorem rsumOut_out {n : Nat} {h : Hp} (len : Nat) (x : LV) (r : BitVec 32) :
    runCS c n ir58_1 ⟨[(3, .int .u32 (nv r)), (8, x), (9, .int .i64 len), (10, .int .i64 len)], h⟩ =
      some (.exit 0, ⟨[(3, .int .u32 (nv r)), (8, x), (9, .int .i64 len), (10, .int .i64 len), (11, .bool false)], h⟩) := by
  simp [ir58_1, ssB, List.idxOf?_cons, Go.Sx.LV.undef, Go.undef, Go.Sx.callO, Go.Sx.splice, Go.Sx.finish, Go.Sx.look, Go.Sx.push, Go.Sx.setObj, Go.Sx.setU, Go.Sx.setAll, Go.Sx.appO, Go.Sx.leI_eq, ltF]
theorem rsumOut_all {n : Nat} (hn : 9 ≤ n) {h : Hp} {F : List UInt8} {x : LV} (g : Bs (Go.Sx.look c.H c.nx h) (c.nx + h.new.length) x F) (h62 : F.length < 2 ^ 62) : ∀ (k m j : Nat) (r : BitVec 32), j + k = F.length → k < m →
    iter (runCS c n ir58_1) m ⟨[(3, .int .u32 (nv r)), (8, x), (9, .int .i64 F.length), (10, .int .i64 j)], h⟩ =
      some (.exit 0, ⟨[(3, .int .u32 (nv (crcL r (F.drop j)))), (8, x), (9, .int .i64 F.length), (10, .int .i64 F.length), (11, .bool false)], h⟩) := by
  intro k
  induction k with
  | zero =>
    intro m j r hj hm
    obtain ⟨m, rfl⟩ : ∃ q, m = q + 1 := ⟨m - 1, by omega⟩
    obtain rfl : j = F.length := by omega
    rw [List.drop_length]
    exact iter_out (rsumOut_out _ _ r) (by simp)
  | succ k ih =>
    intro m j r hj hm
    obtain ⟨m, rfl⟩ : ∃ q, m = q + 1 := ⟨m - 1, by omega⟩
    have hlt : j < F.length := by omega
    rw [iter_step (rsumOut_step hn g j F[j] (List.getElem?_eq_getElem hlt) h62 r), ih m (j + 1) _ (by omega) (by omega), List.drop_eq_getElem_cons hlt]
    rfl
end sum

theorem sub_all (x : BitVec 32) : IntKind.u32.wrap (4294967295 - nv x) = nv (~~~ x) := by
  have hx := x.isLt
  rw [nv, nv, BitVec.toNat_not]
  have e : (4294967295 : Int) - (x.toNat : Int) = ((2 ^ 32 - 1 - x.toNat : Nat) : Int) := by omega
  rw [e, wrap_u32n _ (by omega)]

theorem rsum_ {F : List UInt8} {x : LV} {H : Heap} {nx : Nat} (g : Bs H nx x F) (h62 : F.length < 2 ^ 62) : Ω 58 [x] H nx = some (.int .u32 (nv (crc F)), [], []) := by
  refine om_run (ir := ir58) (by kernel_rfl) (F.length + 9) ?_
  have hs := rsumOut_all (c := ⟨Ω, noG, H, nx⟩) (n := F.length + 9) (by omega) (h := ⟨[], []⟩) (x := x) (F := F) g.in h62 F.length (F.length + 9) 0 4294967295#32 (by omega) (by omega)
  have h1 : nv 4294967295#32 = 4294967295 := rfl
  rw [List.drop_zero, h1] at hs
  simp only [Int.natCast_zero, Int.ofNat_zero] at hs
  have e : F = [] ∨ F ≠ [] := by cases F <;> simp
  cases g with
  | nil =>
    simp only [List.length_nil, Int.natCast_zero, Int.ofNat_zero] at hs
    simp [ir58, ssB, List.idxOf?_cons, Go.Sx.LV.undef, Go.undef, Go.Sx.callO, Go.Sx.splice, Go.Sx.finish, Go.Sx.push, Go.Sx.setObj, Go.Sx.setU, Go.Sx.setAll, Go.Sx.appO, Go.Sx.leI_eq, ltF, hs, sub_all, crc]
  | sl _ fl => simp [ir58, ssB, List.idxOf?_cons, Go.Sx.LV.undef, Go.undef, Go.Sx.callO, Go.Sx.splice, Go.Sx.finish, Go.Sx.push, Go.Sx.setObj, Go.Sx.setU, Go.Sx.setAll, Go.Sx.appO, Go.Sx.leI_eq, ltF, hs, sub_all, crc]
  | arr _ G id off cp ex h1 h2 h3 h4 => simp [ir58, ssB, List.idxOf?_cons, Go.Sx.LV.undef, Go.undef, Go.Sx.callO, Go.Sx.splice, Go.Sx.finish, Go.Sx.push, Go.Sx.setObj, Go.Sx.setU, Go.Sx.setAll, Go.Sx.appO, Go.Sx.leI_eq, ltF, hs, sub_all, crc]

theorem rfour_ (x : BitVec 32) (H : Heap) (nx : Nat) : Ω 57 [.int .u32 (nv x)] H nx = some (.p (.sl (bytP (le4 x)) 4 1 true), [], []) := by
  refine om_run (ir := ir57) (by kernel_rfl) 0 ?_
  have q : ∀ (y k : Nat), y = 2 ^ k → binI .quo .u32 (nv x) (y : Int) = some (.int .u32 (nv (x >>> k))) := fun y k e => by
    rw [nv, quo_nat .u32 x.toNat y (by rw [e]; exact Nat.pow_pos (by decide)) (fun z hz => wrap_u32n z (by have := x.isLt; omega)), nv, BitVec.toNat_ushiftRight, Nat.shiftRight_eq_div_pow, e]
  have q8 := q 256 8 rfl
  have q16 := q 65536 16 rfl
  have q24 := q 16777216 24 rfl
  have e8 : ((256 : Nat) : Int) = 256 := rfl
  have e16 : ((65536 : Nat) : Int) = 65536 := rfl
  have e24 : ((16777216 : Nat) : Int) = 16777216 := rfl
  rw [e8] at q8
  rw [e16] at q16
  rw [e24] at q24
  simp [ir57, ssB, List.idxOf?_cons, Go.Sx.LV.undef, Go.undef, Go.Sx.callO, Go.Sx.splice, Go.Sx.finish, Go.Sx.look, Go.Sx.push, Go.Sx.setObj, Go.Sx.setU, Go.Sx.setAll, Go.Sx.appO, Go.Sx.leI_eq, ltF, q8, q16, q24, wrap_low, le4, bytP]

theorem wrap_byte' (b : UInt8) : IntKind.u32.wrap (b.toNat : Int) = b.toNat := wrap_u32n _ (by have := b.toNat_lt; omega)
theorem rtake_ {F : List UInt8} {x : LV} {H : Heap} {nx : Nat} (g : Bs H nx x F) (a b c d : UInt8) (ha : F[0]? = some a) (hb : F[1]? = some b) (hc : F[2]? = some c) (hd : F[3]? = some d) :
    Ω 105 [x] H nx = some (.int .u32 (nv (un4 a b c d)), [], []) := by
  refine om_run (ir := ir105) (by kernel_rfl) 0 ?_
  obtain ⟨l0, -⟩ := List.getElem?_eq_some_iff.1 ha
  obtain ⟨l1, -⟩ := List.getElem?_eq_some_iff.1 hb
  obtain ⟨l2, -⟩ := List.getElem?_eq_some_iff.1 hc
  obtain ⟨l3, -⟩ := List.getElem?_eq_some_iff.1 hd
  have w1 := a.toNat_lt
  have w2 := b.toNat_lt
  have w3 := c.toNat_lt
  have w4 := d.toNat_lt
  have m1 : IntKind.u32.wrap (256 * (b.toNat : Int)) = ((256 * b.toNat : Nat) : Int) := by
    rw [show (256 * (b.toNat : Int) : Int) = ((256 * b.toNat : Nat) : Int) by omega, wrap_u32n _ (by omega)]
  have m2 : IntKind.u32.wrap (65536 * (c.toNat : Int)) = ((65536 * c.toNat : Nat) : Int) := by
    rw [show (65536 * (c.toNat : Int) : Int) = ((65536 * c.toNat : Nat) : Int) by omega, wrap_u32n _ (by omega)]
  have m3 : IntKind.u32.wrap (16777216 * (d.toNat : Int)) = ((16777216 * d.toNat : Nat) : Int) := by
    rw [show (16777216 * (d.toNat : Int) : Int) = ((16777216 * d.toNat : Nat) : Int) by omega, wrap_u32n _ (by omega)]
  have s1 : IntKind.u32.wrap ((a.toNat : Int) + ((256 * b.toNat : Nat) : Int)) = ((a.toNat + 256 * b.toNat : Nat) : Int) := by
    rw [show ((a.toNat : Int) + ((256 * b.toNat : Nat) : Int) : Int) = ((a.toNat + 256 * b.toNat : Nat) : Int) by omega, wrap_u32n _ (by omega)]
  have s2 : IntKind.u32.wrap (((a.toNat + 256 * b.toNat : Nat) : Int) + ((65536 * c.toNat : Nat) : Int)) = ((a.toNat + 256 * b.toNat + 65536 * c.toNat : Nat) : Int) := by
    rw [show (((a.toNat + 256 * b.toNat : Nat) : Int) + ((65536 * c.toNat : Nat) : Int) : Int) = ((a.toNat + 256 * b.toNat + 65536 * c.toNat : Nat) : Int) by omega, wrap_u32n _ (by omega)]
  have s3 : IntKind.u32.wrap (((a.toNat + 256 * b.toNat + 65536 * c.toNat : Nat) : Int) + ((16777216 * d.toNat : Nat) : Int)) = nv (un4 a b c d) := by
    rw [nv, un4_nat, show (((a.toNat + 256 * b.toNat + 65536 * c.toNat : Nat) : Int) + ((16777216 * d.toNat : Nat) : Int)) = ((a.toNat + b.toNat * 256 + c.toNat * 65536 + d.toNat * 16777216 : Nat) : Int) by omega, wrap_u32n _ (by omega)]
  generalize 256 * b.toNat = B at *
  generalize 65536 * c.toNat = C at *
  generalize 16777216 * d.toNat = D at *
  generalize a.toNat + B + C = S2 at *
  generalize a.toNat + B = S1 at *
  generalize nv (un4 a b c d) = R at *
  have b0 := byt_get ha
  have b1 := byt_get hb
  have b2 := byt_get hc
  have b3 := byt_get hd
  cases g with
  | nil => simp at ha
  | sl _ fl => simp [ir105, ssB, List.idxOf?_cons, Go.Sx.LV.undef, Go.undef, Go.Sx.callO, Go.Sx.splice, Go.Sx.finish, Go.Sx.look, Go.Sx.push, Go.Sx.setObj, Go.Sx.setU, Go.Sx.setAll, Go.Sx.appO, Go.Sx.leI_eq, ltF, l0, l1, l2, l3, bytP_map, b0, b1, b2, b3, wrap_byte', m1, m2, m3, s1, s2, s3]
  | arr _ G id off cp ex h1 h2 h3 h4 =>
    have b0 := byt_get (sub_get h4 ha)
    have b1 := byt_get (sub_get h4 hb)
    have b2 := byt_get (sub_get h4 hc)
    have b3 := byt_get (sub_get h4 hd)
    rw [Nat.add_zero] at b0
    simp [ir105, ssB, List.idxOf?_cons, Go.Sx.LV.undef, Go.undef, Go.Sx.callO, Go.Sx.splice, Go.Sx.finish, Go.Sx.look, Go.Sx.push, Go.Sx.setObj, Go.Sx.setU, Go.Sx.setAll, Go.Sx.appO, Go.Sx.leI_eq, ltF, l0, l1, l2, l3, h1, h2, b0, b1, b2, b3, wrap_byte', m1, m2, m3, s1, s2, s3]

/- Bytes behind bytes. -/
/-- What a sum of slices is, as it grows: nothing yet, or the last of the arrays that were made. -/
inductive Grow (nx : Nat) : LV → Hp → List UInt8 → Prop
  | nil : Grow nx (.p (.s (.slice none 0 0))) ⟨[], []⟩ []
  | arr (k : Nat) (F : List UInt8) : F ≠ [] → Grow nx (.arr (nx + k) 0 F.length 1 F.length false) ⟨[], List.replicate k none ++ [some (.cells (byt F))]⟩ F
theorem Grow.look {H : Heap} {nx : Nat} {x : LV} {h : Hp} {F : List UInt8} (g : Grow nx x h F) (id : Nat) (hid : id < nx) : Go.Sx.look H nx h id = H id := by
  cases g <;> simp [Go.Sx.look, findU, hid]
theorem Grow.Bs {H : Heap} {nx : Nat} {x y : LV} {h : Hp} {F G : List UInt8} (g : Grow nx x h F) (b : Bs H nx y G) : Bs (Go.Sx.look H nx h) (nx + h.new.length) y G :=
  b.mono (fun id hid => g.look id hid) (by omega)
theorem rep_set (k : Nat) (a b : Option Go.Sx.Obj) : (List.replicate k none ++ [a]).set k b = List.replicate k none ++ [b] := by
  rw [List.set_append_right _ _ (by simp)]
  simp
theorem Grow.app {c : Ctx} {x y : LV} {h : Hp} {F G : List UInt8} (g : Grow c.nx x h F) (b : YtppeggedcaabkaaGreatDoor.Bs c.H c.nx y G) (h30 : F.length + G.length < 2 ^ 31) :
    ∃ x' h' t m, appO c h 1 1 x y = some ⟨x', h', t, m⟩ ∧ Grow c.nx x' h' (F ++ G) := by
  have hy := (g.Bs b).cells
  cases G with
  | nil =>
    rw [List.append_nil]
    cases g with
    | nil => exact ⟨_, _, Go.Sx.ids y, false, by simp [appO, hy, byt_nil], .nil⟩
    | arr k F hF => exact ⟨_, _, Go.Sx.ids y, false, by simp [appO, hy, byt_nil], .arr k F hF⟩
  | cons u G =>
    have hne : ¬ (u :: G).length = 0 := by simp
    generalize hE : u :: G = E at *
    have hE0 : E ≠ [] := by rw [← hE]; simp
    have h41 : ¬ 2 ^ 40 < E.length * 1 := by omega
    have h41' : E.length * 1 ≤ 2 ^ 40 := by omega
    cases g with
    | nil =>
      refine ⟨_, _, Go.Sx.ids y, false, ?_, .arr 0 E hE0⟩
      simp [appO, hy, byt_len, hne, push]
      omega
    | arr k F hF =>
      have hl : Go.Sx.look c.H c.nx ⟨[], List.replicate k none ++ [some (.cells (byt F))]⟩ (c.nx + k) = some (.cells (byt F)) := by
        simp [Go.Sx.look, ltF]
      have hF' : F ++ E ≠ [] := by simp [hF]
      refine ⟨_, _, (c.nx + k) :: Go.Sx.ids y, true, ?_, .arr (k + 1) (F ++ E) hF'⟩
      have q : ¬ 2 ^ 40 < (F.length + E.length) * 1 := by omega
      have hln : (List.replicate k (none : Option Go.Sx.Obj) ++ [some (Go.Sx.Obj.cells (byt F))]).length = k + 1 := by simp
      have hset := rep_set k (some (Go.Sx.Obj.cells (byt F))) none
      simp [appO, hy, byt_len, hne, hl, push, Go.Sx.setObj, ltF, byt_app, List.replicate_succ', hset]
      omega

/-- Slices of bytes, one behind the other. -/
inductive Bss (H : Heap) (nx : Nat) : List LV → List (List UInt8) → Prop
  | nil : Bss H nx [] []
  | cons {x : LV} {F : List UInt8} {xs : List LV} {Fs : List (List UInt8)} : Bs H nx x F → Bss H nx xs Fs → Bss H nx (x :: xs) (F :: Fs)
theorem Bss.length_eq {H : Heap} {nx : Nat} {xs : List LV} {Fs : List (List UInt8)} (g : Bss H nx xs Fs) : xs.length = Fs.length := by
  induction g with
  | nil => rfl
  | cons _ _ ih => simp [ih]
theorem Bss.get {H : Heap} {nx : Nat} {xs : List LV} {Fs : List (List UInt8)} (g : Bss H nx xs Fs) : ∀ (j : Nat) (h1 : j < xs.length) (h2 : j < Fs.length), Bs H nx xs[j] Fs[j] := by
  induction g with
  | nil => intro j h1; simp at h1
  | cons b _ ih =>
    intro j h1 h2
    cases j with
    | zero => exact b
    | succ j => exact ih j (by simpa using h1) (by simpa using h2)

section join
variable {c : Ctx}
theorem join_step {n : Nat} {h : Hp} {x y : LV} {xs : List LV} {F G : List UInt8} (g : Grow c.nx x h F) (b : Bs c.H c.nx y G) (h30 : F.length + G.length < 2 ^ 31) (aid cp : Nat) (ex : Bool) (ha : c.H aid = some (.cells xs)) (haid : aid < c.nx) (j : Nat) (hj : xs[j]? = some y) (hx : xs.length < 2 ^ 31) :
    ∃ x' h', runCS c n ir36_0 ⟨[(3, x), (6, .arr aid 0 xs.length 1 cp ex), (7, .int .i64 xs.length), (8, .int .i64 j)], h⟩ =
      some (.normal, ⟨[(3, x'), (6, .arr aid 0 xs.length 1 cp ex), (7, .int .i64 xs.length), (8, .int .i64 (j + 1 : Nat))], h'⟩) ∧ Grow c.nx x' h' (F ++ G) := by
  obtain ⟨x', h', t, m, e, g'⟩ := g.app b h30
  refine ⟨x', h', ?_, g'⟩
  obtain ⟨hlt, hv⟩ := List.getElem?_eq_some_iff.1 hj
  have h8 : ¬ (xs.length : Int) ≤ j := by omega
  have hw : IntKind.i64.wrap ((j : Int) + 1) = (j : Int) + 1 := wrap_i64 _ (by omega) (by omega)
  have hl : Go.Sx.look c.H c.nx h aid = some (.cells xs) := by rw [g.look aid haid]; exact ha
  simp [ir36_0, ssB, List.idxOf?_cons, Go.Sx.LV.undef, Go.undef, Go.Sx.callO, Go.Sx.splice, Go.Sx.finish, Go.Sx.setAll, Go.Sx.leI_eq, ltF, h8, hw, hlt, hl, hj, hv, e]
theorem join_out {n : Nat} {h : Hp} (len : Nat) (x y : LV) :
    runCS c n ir36_0 ⟨[(3, x), (6, y), (7, .int .i64 len), (8, .int .i64 len)], h⟩ =
      some (.exit 0, ⟨[(3, x), (6, y), (7, .int .i64 len), (8, .int .i64 len), (9, .bool false)], h⟩) := by
  simp [ir36_0, ssB, List.idxOf?_cons, Go.Sx.LV.undef, Go.undef, Go.Sx.callO, Go.Sx.splice, Go.Sx.finish, Go.Sx.look, Go.Sx.push, Go.Sx.setObj, Go.Sx.setU, Go.Sx.setAll, Go.Sx.appO, Go.Sx.leI_eq, ltF]
theorem join_all {n : Nat} {xs : List LV} {Fs : List (List UInt8)} (hb : Bss c.H c.nx xs Fs) (aid cp : Nat) (ex : Bool) (ha : c.H aid = some (.cells xs)) (haid : aid < c.nx) (hx : xs.length < 2 ^ 31) (h30 : Fs.flatten.length < 2 ^ 31) :
    ∀ (k m j : Nat) (x : LV) (h : Hp), Grow c.nx x h (Fs.take j).flatten → j + k = xs.length → k < m →
    ∃ x' h', iter (runCS c n ir36_0) m ⟨[(3, x), (6, .arr aid 0 xs.length 1 cp ex), (7, .int .i64 xs.length), (8, .int .i64 j)], h⟩ =
      some (.exit 0, ⟨[(3, x'), (6, .arr aid 0 xs.length 1 cp ex), (7, .int .i64 xs.length), (8, .int .i64 xs.length), (9, .bool false)], h'⟩) ∧ Grow c.nx x' h' Fs.flatten := by
  have hlen := hb.length_eq
  intro k
  induction k with
  | zero =>
    intro m j x h g hj hm
    obtain ⟨m, rfl⟩ : ∃ q, m = q + 1 := ⟨m - 1, by omega⟩
    obtain rfl : j = xs.length := by omega
    rw [hlen, List.take_length] at g
    exact ⟨x, h, iter_out (join_out _ _ _) (by simp), g⟩
  | succ k ih =>
    intro m j x h g hj hm
    obtain ⟨m, rfl⟩ : ∃ q, m = q + 1 := ⟨m - 1, by omega⟩
    have hlt : j < xs.length := by omega
    have hlt2 : j < Fs.length := by omega
    have hbj : Bs c.H c.nx xs[j] Fs[j] := hb.get j hlt hlt2
    have hsplit : Fs.flatten = ((Fs.take j).flatten ++ Fs[j]) ++ (Fs.drop (j + 1)).flatten := by
      conv => lhs; rw [← List.take_append_drop j Fs, List.drop_eq_getElem_cons hlt2]
      rw [List.flatten_append, List.flatten_cons, List.append_assoc]
    have hl2 := congrArg List.length hsplit
    rw [List.length_append, List.length_append] at hl2
    obtain ⟨x', h', e, g'⟩ := join_step (n := n) g hbj (by omega) aid cp ex ha haid j (List.getElem?_eq_getElem hlt) hx
    rw [iter_step e]
    refine ih m (j + 1) x' h' ?_ (by omega) (by omega)
    rw [List.take_succ_eq_append_getElem hlt2, List.flatten_append]
    simpa using g'
end join

/-- What a sum of slices is at last. -/
def sum' (F : List UInt8) : LV := if F = [] then .p (.s (.slice none 0 0)) else .p (.sl (bytP F) F.length 1 false)
theorem Grow.done {H : Heap} {nx : Nat} {x : LV} {h : Hp} {F : List UInt8} (g : Grow nx x h F) : finish false H nx x h = some (sum' F, [], []) := by
  cases g with
  | nil => rfl
  | arr k F hF =>
    have hl : (List.replicate k (none : Option Go.Sx.Obj) ++ [some (.cells (byt F))])[k]? = some (some (.cells (byt F))) := by simp
    simp [finish, frz, frzL, ltF, hl, byt_len, take_byt, allP_byt, Go.Sx.ids, updIds, reach, ren, renU, renN, sum', hF]
theorem rjoin_ (xs : List LV) (Fs : List (List UInt8)) (H : Heap) (nx aid cp : Nat) (ex : Bool) (ha : H aid = some (.cells xs)) (haid : aid < nx) (hb : Bss H nx xs Fs) (hx : xs.length < 2 ^ 31) (h30 : Fs.flatten.length < 2 ^ 31) :
    Ω 36 [.arr aid 0 xs.length 1 cp ex] H nx = some (sum' Fs.flatten, [], []) := by
  refine om_run (ir := ir36) (by kernel_rfl) (xs.length + 1) ?_
  obtain ⟨x', h', e, g⟩ := join_all (c := ⟨Ω, noG, H, nx⟩) (n := xs.length + 1) hb aid cp ex ha haid hx h30 xs.length (xs.length + 1) 0 _ _ .nil (by omega) (by omega)
  have d := g.done (H := H)
  simp only [Int.natCast_zero, Int.ofNat_zero] at e
  simp [ir36, ssB, List.idxOf?_cons, Go.Sx.LV.undef, Go.undef, callO_A, aft_nil, setAll_nil, Go.Sx.splice, Go.Sx.appO, Go.Sx.leI_eq, ltF, e, d]
end Go.Proofs.YtppeggedcaabkaaGreatDoor
end

section
namespace Go.Proofs.YtppeggedcaabkaaGreatDoor
open Go Go.Sx
set_option linter.unusedSimpArgs false
set_option linter.unusedVariables false

/- Plain cells. -/
def pc (l : List PV) : List LV := l.map LV.p
theorem pc_nil : pc [] = [] := rfl
theorem pc_cons (x : PV) (l : List PV) : pc (x :: l) = .p x :: pc l := rfl
theorem pc_app (l m : List PV) : pc (l ++ m) = pc l ++ pc m := by simp [pc]
theorem pc_len (l : List PV) : (pc l).length = l.length := by simp [pc]
theorem ids_pc (l : List PV) : ids.idsL (pc l) = [] := by
  induction l with
  | nil => rfl
  | cons x l ih => rw [pc_cons, ids.idsL, ih]; rfl
theorem ren_pc (nx : Nat) (s : List Nat) (l : List PV) : ren.go nx s (pc l) = some (pc l) := by
  induction l with
  | nil => rfl
  | cons x l ih => rw [pc_cons, ren.go, ih]; rfl
theorem allP_pc (l : List PV) : allP (pc l) = some l := by
  induction l with
  | nil => rfl
  | cons x l ih => rw [pc_cons, allP, ih]
theorem take_pc (l : List PV) : List.take l.length (pc l) = pc l := by rw [← pc_len, List.take_length]
theorem map_pc (l : List PV) : List.map LV.p l = pc l := rfl

/-- Bits. -/
def bolP (l : List Bool) : List PV := l.map fun b => .s (.bool b)
theorem bolP_nil : bolP [] = [] := rfl
theorem bolP_cons (b : Bool) (l : List Bool) : bolP (b :: l) = .s (.bool b) :: bolP l := rfl
theorem bolP_app (l m : List Bool) : bolP (l ++ m) = bolP l ++ bolP m := by simp [bolP]
theorem bolP_len (l : List Bool) : (bolP l).length = l.length := by simp [bolP]
/-- A list of bits. -/
inductive Bl : LV → List Bool → Prop
  | nil : Bl (.p (.s (.slice none 0 0))) []
  | sl (l : List Bool) (fl : Bool) : Bl (.p (.sl (bolP l) l.length 1 fl)) l
abbrev blV (l : List Bool) : LV := .p (.sl (bolP l) l.length 1 false)

theorem rwithin_ (k : Nat) (hk : k ≤ 64) (H : Heap) (nx : Nat) : Ω 142 [.int .i64 k] H nx = some (.int .i64 k, [], []) := by
  refine om_run (ir := ir142) (by kernel_rfl) 0 ?_
  have h1 : (0 : Int) ≤ k := by omega
  have h2 : (k : Int) ≤ 64 := by omega
  simp [ir142, ssB, List.idxOf?_cons, Go.Sx.LV.undef, Go.undef, Go.Sx.callO, Go.Sx.splice, Go.Sx.finish, Go.Sx.look, Go.Sx.push, Go.Sx.setObj, Go.Sx.setU, Go.Sx.setAll, Go.Sx.appO, Go.Sx.leI_eq, ltF, h1, h2]
theorem quo2_u64 (n : Nat) (h : n < 2 ^ 64) : binI .quo .u64 (n : Int) 2 = some (.int .u64 (n / 2 : Nat)) := quo_nat .u64 n 2 (by decide) (fun z hz => wrap_u64n z (by omega))
theorem rem2_u64 (n : Nat) : binI .rem .u64 (n : Int) 2 = some (.int .u64 (n % 2 : Nat)) := by
  have : binI .rem .u64 (n : Int) 2 = some (.int .u64 ((n : Int).tmod 2)) := by simp [binI]
  rw [this, Int.tmod_eq_emod_of_nonneg (by omega)]
  norm_cast

/-- The bits that have been made so far. -/
def Own (c : Ctx) (y : LV) (h : Hp) (l : List Bool) : Prop := h.upd = [] ∧ ((y = .p (.s (.slice none 0 0)) ∧ l = []) ∨ ∃ i ex, l ≠ [] ∧ y = .arr i 0 l.length 1 l.length ex ∧ Go.Sx.look c.H c.nx h i = some (.cells (pc (bolP l))) ∧ i < c.nx + h.new.length)
theorem rput_step {c : Ctx} (hO : c.O = Ω) {N : Nat} {h : Hp} {y X : LV} {l : List Bool} (g : Own c y h l) (n k j : Nat) (hn : n < 2 ^ 64) (hk : k ≤ 64) (hj : j < k) (hl : l.length ≤ 64) :
    ∃ y' h', runCS c N ir80_0 ⟨[(0, X), (1, .int .u64 n), (2, .int .i64 k), (7, y), (8, .int .i64 j)], h⟩ = some (.normal, ⟨[(0, X), (1, .int .u64 (n / 2 : Nat)), (2, .int .i64 k), (7, y'), (8, .int .i64 (j + 1 : Nat))], h'⟩) ∧ Own c y' h' (decide (n % 2 = 1) :: l) := by
  have w := rwithin_ k hk
  rw [← hO] at w
  have q := quo2_u64 n hn
  have r := rem2_u64 n
  have hjk : ¬ (k : Int) ≤ j := by omega
  have hw : IntKind.i64.wrap ((j : Int) + 1) = (j : Int) + 1 := wrap_i64 _ (by omega) (by omega)
  have he : (((n % 2 : Nat) : Int) == 1) = decide (n % 2 = 1) := by
    rcases Nat.mod_two_eq_zero_or_one n with h | h <;> simp [h]
  generalize n / 2 = n2 at *
  generalize n % 2 = t at *
  obtain ⟨hu, ⟨rfl, rfl⟩ | ⟨i, ex, hne, rfl, hlk, hi⟩⟩ := g
  · refine ⟨.arr (c.nx + h.new.length) 0 1 1 1 true, push h (.cells (pc (bolP [decide (t = 1)]))), ?_, hu, .inr ⟨_, true, by simp, rfl, by rw [look_push, if_pos rfl], by rw [push_len]; omega⟩⟩
    simp [ir80_0, ssB, List.idxOf?_cons, Go.Sx.LV.undef, Go.undef, callO_A, aft_nil, setAll_nil, Go.Sx.splice, Go.Sx.leI_eq, ltF, w, q, r, hjk, hw, he, appO, slCells, bolP, pc, hO]
  · have hi' : ¬ i = c.nx + h.new.length := by omega
    refine ⟨.arr (c.nx + (h.new.length + 1)) 0 (l.length + 1) 1 (l.length + 1) false, push (push h (.cells (pc (bolP [decide (t = 1)])))) (.cells (pc (bolP (decide (t = 1) :: l)))), ?_, hu, .inr ⟨_, false, by simp, rfl, by rw [look_push, if_pos (by rw [push_len])], by rw [push_len, push_len]; omega⟩⟩
    have hlk' : ∀ o, Go.Sx.look c.H c.nx (push h o) i = some (.cells (pc (bolP l))) := fun o => by rw [look_push, if_neg hi']; exact hlk
    have hlk2 : ∀ o, Go.Sx.look c.H c.nx (push h o) (c.nx + h.new.length) = some o := fun o => by rw [look_push, if_pos rfl]
    have hl0 : ¬ l.length = 0 := by simpa using hne
    have h41 : ¬ 1099511627776 < l.length + 1 := by omega
    have tk : List.take l.length (pc (bolP l)) = pc (bolP l) := by rw [← bolP_len, take_pc]
    generalize decide (t = 1) = b at *
    simp [ir80_0, ssB, List.idxOf?_cons, Go.Sx.LV.undef, Go.undef, callO_A, aft_nil, setAll_nil, Go.Sx.splice, Go.Sx.leI_eq, ltF, w, q, r, hjk, hw, he, appO, slCells, hlk', hlk2, hl0, h41, pc_len, bolP_len, pc_cons, bolP_cons, bolP_nil, pc_nil, tk, push_len, hO, Nat.add_comm 1]
theorem rput_out {c : Ctx} (hO : c.O = Ω) {N : Nat} {h : Hp} {y X n : LV} (k : Nat) (hk : k ≤ 64) :
    runCS c N ir80_0 ⟨[(0, X), (1, n), (2, .int .i64 k), (7, y), (8, .int .i64 k)], h⟩ = some (.exit 0, ⟨[(0, X), (1, n), (2, .int .i64 k), (7, y), (8, .int .i64 k), (12, .bool false)], h⟩) := by
  have w := rwithin_ k hk
  rw [← hO] at w
  simp [ir80_0, ssB, List.idxOf?_cons, Go.Sx.LV.undef, Go.undef, callO_A, aft_nil, setAll_nil, Go.Sx.splice, Go.Sx.leI_eq, ltF, w, hO]
theorem testBit_div (n j : Nat) : n.testBit j = decide (n / 2 ^ j % 2 = 1) := by
  rw [Nat.testBit_eq_decide_div_mod_eq]
theorem rput_loop {c : Ctx} (hO : c.O = Ω) {N : Nat} {X : LV} (n k : Nat) (hn : n < 2 ^ 64) (hk : k ≤ 64) : ∀ (d j m : Nat) (y : LV) (h : Hp), j + d = k → d < m → Own c y h (bitsOf n j) →
    ∃ y' h' n', iter (runCS c N ir80_0) m ⟨[(0, X), (1, .int .u64 (n / 2 ^ j : Nat)), (2, .int .i64 k), (7, y), (8, .int .i64 j)], h⟩ = some (.exit 0, ⟨[(0, X), (1, n'), (2, .int .i64 k), (7, y'), (8, .int .i64 k), (12, .bool false)], h'⟩) ∧ Own c y' h' (bitsOf n k) := by
  intro d
  induction d with
  | zero =>
    intro j m y h hj hm g
    obtain ⟨m, rfl⟩ : ∃ r, m = r + 1 := ⟨m - 1, by omega⟩
    obtain rfl : j = k := by omega
    exact ⟨y, h, _, iter_out (rput_out hO j hk) (by simp), g⟩
  | succ d ih =>
    intro j m y h hj hm g
    obtain ⟨m, rfl⟩ : ∃ r, m = r + 1 := ⟨m - 1, by omega⟩
    obtain ⟨y1, h1, e1, g1⟩ := rput_step hO (N := N) (X := X) g (n / 2 ^ j) k j (Nat.lt_of_le_of_lt (Nat.div_le_self _ _) hn) hk (by omega) (by rw [bitsOf_len]; omega)
    rw [iter_step e1]
    have hd : n / 2 ^ j / 2 = n / 2 ^ (j + 1) := by rw [Nat.div_div_eq_div_mul, Nat.pow_succ]
    rw [hd]
    refine ih (j + 1) m y1 h1 (by omega) (by omega) ?_
    rw [← testBit_div] at g1
    exact g1

theorem rPut_ {x : LV} {l : List Bool} (g : Bl x l) (n k : Nat) (hn : n < 2 ^ 64) (hk0 : 0 < k) (hk : k ≤ 64) (h30 : l.length < 2 ^ 31) (H : Heap) (nx : Nat) :
    Ω 80 [x, .int .u64 n, .int .i64 k] H nx = some (blV (l ++ bitsOf n k), [], []) := by
  refine om_run (ir := ir80) (by kernel_rfl) 65 ?_
  obtain ⟨y, h, n', e1, hu, hor⟩ := rput_loop (c := ⟨Ω, noG, H, nx⟩) rfl (N := 65) (X := x) n k hn hk k 0 65 (.p (.s (.slice none 0 0))) ⟨[], []⟩ (by omega) (by omega) ⟨rfl, .inl ⟨rfl, rfl⟩⟩
  obtain ⟨i, ex, hne, rfl, hlk, hi⟩ := hor.resolve_left (by rintro ⟨_, h⟩; have := bitsOf_len n k; rw [h] at this; simp at this; omega)
  simp only [Nat.pow_zero, Nat.div_one] at e1
  have hB := bitsOf_len n k
  have c0 : ((0 : Nat) : Int) = 0 := rfl
  rw [c0] at e1
  dsimp only at hlk hi
  generalize bitsOf n k = B at *
  have hi' : ¬ i = nx + h.new.length := by omega
  have hB0 : ¬ k = 0 := by omega
  have hBl : B.length = k := hB
  have q41 : ¬ 1099511627776 < k := by omega
  have q42 : ¬ 1099511627776 < l.length + k := by omega
  have q43 : ¬ 1099511627776 < l.length := by omega
  have tk : List.take k (pc (bolP B)) = pc (bolP B) := by rw [← hBl, ← bolP_len, take_pc]
  have tl : List.take l.length (pc (bolP l)) = pc (bolP l) := by rw [← bolP_len, take_pc]
  have e2 := e1
  rw [hBl] at e2
  have key : ∀ (h0 : Hp) (j : Nat), h0.upd = [] → nx ≤ j → Go.Sx.look H nx h0 j = some (.cells (pc (bolP (l ++ B)))) → finish false H nx (.arr j 0 (l.length + k) 1 (l.length + k) false) h0 = some (blV (l ++ B), [], []) := by
    intro h0 j hu0 hj hlk0
    have hjn : ¬ j < nx := by omega
    have hnew : h0.new[j - nx]? = some (some (.cells (pc (bolP (l ++ B))))) := by
      rw [Go.Sx.look, if_neg hjn] at hlk0
      cases hq : h0.new[j - nx]? with
      | none => rw [hq] at hlk0; cases hlk0
      | some o => rw [hq] at hlk0; exact congrArg some hlk0
    have tkk : List.take (l.length + k) (pc (bolP (l ++ B))) = pc (bolP (l ++ B)) := by
      have := take_pc (bolP (l ++ B))
      rwa [bolP_len, List.length_append, hBl] at this
    simp [finish, frz, frzL, hjn, hnew, pc_len, tkk, allP_pc, hu0, updIds, reach, ren, renU, renN, Go.Sx.ids, bolP_len, hBl]
  cases g with
  | nil =>
    obtain ⟨h2, t, m, a1, a2, a3, a4⟩ : ∃ h2 t m, appO ⟨Ω, noG, H, nx⟩ (push h (.cells [])) 1 1 (.arr (nx + h.new.length) 0 0 1 0 true) (.arr i 0 k 1 k ex) = some ⟨.arr (nx + (h.new.length + 1)) 0 k 1 k false, h2, t, m⟩ ∧ h2.upd = [] ∧ Go.Sx.look H nx h2 (nx + (h.new.length + 1)) = some (.cells (pc (bolP B))) ∧ True := by
      have lk0 : ∀ o, Go.Sx.look H nx (push h o) (nx + h.new.length) = some o := fun o => by rw [look_push, if_pos rfl]
      have lk1 : ∀ o, Go.Sx.look H nx (push h o) i = some (.cells (pc (bolP B))) := fun o => by rw [look_push, if_neg hi']; exact hlk
      refine ⟨push (push h (.cells [])) (.cells (pc (bolP B))), [nx + h.new.length, i], false, ?_, hu, by rw [look_push, if_pos (by rw [push_len])], trivial⟩
      simp [appO, slCells, lk0, lk1, pc_len, bolP_len, hBl, tk, hB0, q41, push_len, Go.Sx.ids]
    have b1 : appO ⟨Ω, noG, H, nx⟩ (push h (.cells [])) 1 1 (.arr (nx + h.new.length) 0 0 1 0 true) (.p (.s (.slice none 0 0))) = some ⟨.arr (nx + h.new.length) 0 0 1 0 true, push h (.cells []), [], false⟩ := by simp [appO, slCells, Go.Sx.ids]
    have f := key h2 _ a2 (by omega) a3
    simp only [List.length_nil, Nat.zero_add] at f
    simp [ir80, ssB, List.idxOf?_cons, Go.Sx.LV.undef, Go.undef, callO_A, aft_nil, setAll_nil, Go.Sx.splice, Go.Sx.leI_eq, ltF, e2, a1, b1, f]
  | sl _ fl =>
    by_cases hl0 : l.length = 0
    · obtain rfl : l = [] := List.eq_nil_of_length_eq_zero hl0
      obtain ⟨h2, t, m, a1, a2, a3, a4⟩ : ∃ h2 t m, appO ⟨Ω, noG, H, nx⟩ (push h (.cells [])) 1 1 (.arr (nx + h.new.length) 0 0 1 0 true) (.arr i 0 k 1 k ex) = some ⟨.arr (nx + (h.new.length + 1)) 0 k 1 k false, h2, t, m⟩ ∧ h2.upd = [] ∧ Go.Sx.look H nx h2 (nx + (h.new.length + 1)) = some (.cells (pc (bolP B))) ∧ True := by
        have lk0 : ∀ o, Go.Sx.look H nx (push h o) (nx + h.new.length) = some o := fun o => by rw [look_push, if_pos rfl]
        have lk1 : ∀ o, Go.Sx.look H nx (push h o) i = some (.cells (pc (bolP B))) := fun o => by rw [look_push, if_neg hi']; exact hlk
        refine ⟨push (push h (.cells [])) (.cells (pc (bolP B))), [nx + h.new.length, i], false, ?_, hu, by rw [look_push, if_pos (by rw [push_len])], trivial⟩
        simp [appO, slCells, lk0, lk1, pc_len, bolP_len, hBl, tk, hB0, q41, push_len, Go.Sx.ids]
      have b1 : appO ⟨Ω, noG, H, nx⟩ (push h (.cells [])) 1 1 (.arr (nx + h.new.length) 0 0 1 0 true) (.p (.sl [] 0 1 fl)) = some ⟨.arr (nx + h.new.length) 0 0 1 0 true, push h (.cells []), [], false⟩ := by simp [appO, slCells, Go.Sx.ids]
      have f := key h2 _ a2 (by omega) a3
      simp only [List.length_nil, Nat.zero_add] at f
      simp only [bolP_nil, List.length_nil] at e2
      simp [ir80, ssB, List.idxOf?_cons, Go.Sx.LV.undef, Go.undef, callO_A, aft_nil, setAll_nil, Go.Sx.splice, Go.Sx.leI_eq, ltF, e2, a1, b1, f, bolP_nil]
    · have lk0 : ∀ o, Go.Sx.look H nx (push h o) (nx + h.new.length) = some o := fun o => by rw [look_push, if_pos rfl]
      have lk1 : ∀ o, Go.Sx.look H nx (push h o) i = some (.cells (pc (bolP B))) := fun o => by rw [look_push, if_neg hi']; exact hlk
      have b1 : appO ⟨Ω, noG, H, nx⟩ (push h (.cells [])) 1 1 (.arr (nx + h.new.length) 0 0 1 0 true) (.p (.sl (bolP l) l.length 1 fl)) = some ⟨.arr (nx + (h.new.length + 1)) 0 l.length 1 l.length false, push (push h (.cells [])) (.cells (pc (bolP l))), [nx + h.new.length], false⟩ := by
        simp [appO, slCells, lk0, pc_len, bolP_len, hl0, q43, push_len, Go.Sx.ids, map_pc]
      have hi3 : ¬ i = nx + (push h (.cells [])).new.length := by rw [push_len]; omega
      have lk2 : ∀ o o', Go.Sx.look H nx (push (push h o) o') i = some (.cells (pc (bolP B))) := fun o o' => by rw [look_push, if_neg (by rw [push_len]; omega)]; exact lk1 o
      have lk3 : ∀ o o', Go.Sx.look H nx (push (push h o) o') (nx + (h.new.length + 1)) = some o' := fun o o' => by rw [look_push, if_pos (by rw [push_len])]
      obtain ⟨h2, t, m, a1, a2, a3, a4⟩ : ∃ h2 t m, appO ⟨Ω, noG, H, nx⟩ (push (push h (.cells [])) (.cells (pc (bolP l)))) 1 1 (.arr (nx + (h.new.length + 1)) 0 l.length 1 l.length false) (.arr i 0 k 1 k ex) = some ⟨.arr (nx + (h.new.length + 2)) 0 (l.length + k) 1 (l.length + k) false, h2, t, m⟩ ∧ h2.upd = [] ∧ Go.Sx.look H nx h2 (nx + (h.new.length + 2)) = some (.cells (pc (bolP (l ++ B)))) ∧ True := by
        refine ⟨push (Go.Sx.setObj nx (push (push h (.cells [])) (.cells (pc (bolP l)))) (nx + (h.new.length + 1)) none) (.cells (pc (bolP (l ++ B)))), [nx + (h.new.length + 1), i], true, ?_, by rw [push_upd, setObj_upd _ _ _ _ (by omega)]; exact hu, by rw [look_push, if_pos (by rw [setObj_len, push_len, push_len])], trivial⟩
        simp [appO, slCells, lk2, lk3, pc_len, bolP_len, hBl, tk, hB0, q42, push_len, Go.Sx.ids, bolP_app, pc_app]
      have f := key h2 _ a2 (by omega) a3
      simp [ir80, ssB, List.idxOf?_cons, Go.Sx.LV.undef, Go.undef, callO_A, aft_nil, setAll_nil, Go.Sx.splice, Go.Sx.leI_eq, ltF, e2, a1, b1, f]
end Go.Proofs.YtppeggedcaabkaaGreatDoor
end

section
namespace Go.Proofs.YtppeggedcaabkaaGreatDoor
open Go Go.Sx
set_option linter.unusedSimpArgs false
set_option linter.unusedVariables false

theorem rem_nat (k : IntKind) (x y : Nat) (hy : 0 < y) : binI .rem k (x : Int) (y : Int) = some (.int k (x % y : Nat)) := by
  have : binI .rem k (x : Int) (y : Int) = some (.int k ((x : Int).tmod y)) := by simp [binI]; omega
  rw [this, Int.tmod_eq_emod_of_nonneg (by omega)]
  norm_cast
theorem rem128_u64 (n : Nat) : binI .rem .u64 (n : Int) 128 = some (.int .u64 (n % 128 : Nat)) := rem_nat .u64 n 128 (by decide)
theorem rem128_u8 (n : Nat) : binI .rem .u8 (n : Int) 128 = some (.int .u8 (n % 128 : Nat)) := rem_nat .u8 n 128 (by decide)
theorem quo128_u64 (n : Nat) (h : n < 2 ^ 64) : binI .quo .u64 (n : Int) 128 = some (.int .u64 (n / 128 : Nat)) := quo_nat .u64 n 128 (by decide) (fun z hz => wrap_u64n z (by omega))

theorem rNum_ : ∀ (n : Nat), n < 2 ^ 64 → ∀ (H : Heap) (nx : Nat), Ω 32 [.int .u64 n] H nx = some (.arr nx 0 (vnum n).length 1 (vnum n).length (decide (n < 128)), [], [some (.cells (byt (vnum n)))]) := by
  intro n
  induction n using Nat.strongRecOn with
  | ind n ih =>
    intro h64 H nx
    refine om_run (ir := ir32) (by kernel_rfl) 0 ?_
    have w := wrap_u8 n
    by_cases hn : n < 128
    · have h1 : ¬ (128 : Int) ≤ n := by omega
      rw [vnum_lt hn]
      generalize UInt8.ofNat n = b at *
      simp [ir32, ssB, List.idxOf?_cons, Go.Sx.LV.undef, Go.undef, Go.Sx.callO, Go.Sx.splice, Go.Sx.finish, Go.Sx.look, Go.Sx.push, Go.Sx.setObj, Go.Sx.setU, Go.Sx.setAll, Go.Sx.appO, Go.Sx.leI_eq, ltF, h1, hn, w, byt]
    · have h1 : (128 : Int) ≤ n := by omega
      have i := ih (n / 128) (by omega) (by omega)
      have r := rem128_u64 n
      have q := quo128_u64 n h64
      have a : IntKind.u64.wrap (((n % 128 : Nat) : Int) + 128) = ((n % 128 + 128 : Nat) : Int) := by
        rw [show (((n % 128 : Nat) : Int) + 128) = ((n % 128 + 128 : Nat) : Int) by omega, wrap_u64n _ (by omega)]
      have w := wrap_u8 (n % 128 + 128)
      have hv := vnum_pos (n / 128)
      have hv0 : ¬ (vnum (n / 128)).length = 0 := by omega
      have hvl := vnum_len n h64
      rw [vnum_ge hn, List.length_cons] at hvl ⊢
      have h41 : ¬ 1099511627776 < 1 + (vnum (n / 128)).length := by omega
      have h42 : ¬ 1099511627776 < (vnum (n / 128)).length + 1 := by omega
      generalize UInt8.ofNat (n % 128 + 128) = b at *
      generalize n / 128 = m at *
      generalize n % 128 + 128 = s at *
      generalize n % 128 = t at *
      generalize decide (m < 128) = ex at *
      rw [byt_cons]
      generalize vnum m = V at *
      simp [ir32, ssB, List.idxOf?_cons, Go.Sx.LV.undef, Go.undef, Go.Sx.callO, Go.Sx.splice, Go.Sx.finish, Go.Sx.look, Go.Sx.push, Go.Sx.setObj, Go.Sx.setU, Go.Sx.setAll, Go.Sx.appO, Go.Sx.leI_eq, ltF, h1, hn, i, r, q, a, w, byt_len, bytP_len, take_byt, ids_byt, ren_byt, ids_app, ren_app, allP_byt, allP_app, hv0, h41, h42, Nat.add_comm 1]

section frame
theorem join2 {H : Heap} {nx : Nat} {x y : LV} {F G : List UInt8} (f : Bs H nx x F) (g : Bs H nx y G) (h30 : F.length + G.length < 2 ^ 31) (aid : Nat) (ha : H aid = some (.cells [x, y])) (haid : aid < nx) :
    Ω 36 [.arr aid 0 2 1 2 true] H nx = some (sum' (F ++ G), [], []) := by
  have := rjoin_ [x, y] [F, G] H nx aid 2 true ha haid (.cons f (.cons g .nil)) (by simp) (by simpa using h30)
  simpa using this
theorem join1 {H : Heap} {nx : Nat} {x : LV} {F : List UInt8} (f : Bs H nx x F) (h30 : F.length < 2 ^ 31) (aid : Nat) (ha : H aid = some (.cells [x])) (haid : aid < nx) :
    Ω 36 [.arr aid 0 1 1 1 true] H nx = some (sum' F, [], []) := by
  have := rjoin_ [x] [F] H nx aid 1 true ha haid (.cons f .nil) (by simp) (by simpa using h30)
  simpa using this
theorem join3 {H : Heap} {nx : Nat} {x y z : LV} {F G K : List UInt8} (f : Bs H nx x F) (g : Bs H nx y G) (k : Bs H nx z K) (h30 : F.length + G.length + K.length < 2 ^ 31) (aid : Nat) (ha : H aid = some (.cells [x, y, z])) (haid : aid < nx) :
    Ω 36 [.arr aid 0 3 1 3 true] H nx = some (sum' (F ++ G ++ K), [], []) := by
  have := rjoin_ [x, y, z] [F, G, K] H nx aid 3 true ha haid (.cons f (.cons g (.cons k .nil))) (by simp) (by simp; omega)
  simpa using this
theorem sum'_ne {F : List UInt8} (h : F ≠ []) : sum' F = .p (.sl (bytP F) F.length 1 false) := by simp [sum', h]
theorem le4_len (x : BitVec 32) : (le4 x).length = 4 := rfl
theorem bs_four (x : BitVec 32) (fl : Bool) (H : Heap) (nx : Nat) : Bs H nx (.p (.sl (bytP (le4 x)) 4 1 fl)) (le4 x) := .sl (le4 x) fl

theorem rframe_ {H : Heap} {nx : Nat} {x : LV} {P : List UInt8} (g : Bs H nx x P) (h30 : P.length < 2 ^ 30) :
    Ω 17 [x] H nx = some (.p (.sl (bytP (frame P)) (frame P).length 1 false), [], []) := by
  refine om_run (ir := ir17) (by kernel_rfl) 0 ?_
  have hw := wrap_len P.length
  unfold frame
  generalize BitVec.ofNat 32 P.length = N at *
  have hs1 : sum' (le4 N ++ P) = .p (.sl (bytP (le4 N ++ P)) (le4 N ++ P).length 1 false) := sum'_ne (by simp [le4])
  have hs2 : ∀ S, sum' (le4 N ++ le4 S ++ P) = .p (.sl (bytP (le4 N ++ le4 S ++ P)) (le4 N ++ le4 S ++ P).length 1 false) := fun S => sum'_ne (by simp [le4])
  have hl1 : (le4 N ++ P).length < 2 ^ 62 := by simp [le4]; omega
  have hsum := fun fl H nx => rsum_ (.sl (le4 N ++ P) fl : Bs H nx _ _) hl1
  generalize hF1 : le4 N ++ P = F1 at *
  have f1 := rfour_ N
  have f2 := rfour_ (crc F1)
  have b1 := bs_four N true
  have b2 := bs_four (crc F1) true
  have j2 : ∀ (H : Heap) (nx aid : Nat), H aid = some (.cells [.p (.sl (bytP (le4 N)) 4 1 true), x]) → aid < nx → Bs H nx x P → Ω 36 [.arr aid 0 2 1 2 true] H nx = some (sum' F1, [], []) := fun H nx aid h1 h2 h3 => by
    rw [← hF1]
    exact join2 (b1 H nx) h3 (by rw [le4_len]; omega) aid h1 h2
  have j3 : ∀ (H : Heap) (nx aid : Nat), H aid = some (.cells [.p (.sl (bytP (le4 N)) 4 1 true), .p (.sl (bytP (le4 (crc F1))) 4 1 true), x]) → aid < nx → Bs H nx x P → Ω 36 [.arr aid 0 3 1 3 true] H nx = some (sum' (le4 N ++ le4 (crc F1) ++ P), [], []) := fun H nx aid h1 h2 h3 =>
    join3 (b1 H nx) (b2 H nx) h3 (by rw [le4_len, le4_len]; omega) aid h1 h2
  have hs3 := hs2 (crc F1)
  generalize le4 N ++ le4 (crc F1) ++ P = F2 at *
  generalize bytP (le4 N) = p1 at *
  generalize bytP (le4 (crc F1)) = p2 at *
  cases g with
  | nil =>
    have hb : ∀ (H : Heap) (nx : Nat), Bs H nx (.p (.s (.slice none 0 0))) [] := fun H nx => .nil
    simp only [List.length_nil, Int.natCast_zero, Int.ofNat_zero] at hw
    simp [ir17, ssB, List.idxOf?_cons, Go.Sx.LV.undef, Go.undef, Go.Sx.callO, Go.Sx.splice, Go.Sx.finish, Go.Sx.look, Go.Sx.push, Go.Sx.setObj, Go.Sx.setU, Go.Sx.setAll, Go.Sx.appO, Go.Sx.leI_eq, ltF, hw, f1, f2, j2, j3, hb, hs1, hs3, hsum]
  | sl _ fl =>
    have hb : ∀ (H : Heap) (nx : Nat), Bs H nx (.p (.sl (bytP P) P.length 1 fl)) P := fun H nx => .sl P fl
    simp [ir17, ssB, List.idxOf?_cons, Go.Sx.LV.undef, Go.undef, Go.Sx.callO, Go.Sx.splice, Go.Sx.finish, Go.Sx.look, Go.Sx.push, Go.Sx.setObj, Go.Sx.setU, Go.Sx.setAll, Go.Sx.appO, Go.Sx.leI_eq, ltF, hw, f1, f2, j2, j3, hb, hs1, hs3, hsum]
  | arr _ G id off cp ex h1 h2 h3 h4 =>
    have hb : ∀ (H : Heap) (nx : Nat), H id = some (.cells (byt G)) → id < nx → Bs H nx (.arr id off P.length 1 cp ex) P := fun H nx e1 e2 => .arr P G id off cp ex e1 e2 h3 h4
    have hk : ∀ k, id < nx + k := fun k => by omega
    simp [ir17, ssB, List.idxOf?_cons, Go.Sx.LV.undef, Go.undef, Go.Sx.callO, Go.Sx.splice, Go.Sx.finish, Go.Sx.look, Go.Sx.push, Go.Sx.setObj, Go.Sx.setU, Go.Sx.setAll, Go.Sx.appO, Go.Sx.leI_eq, ltF, hw, f1, f2, j2, j3, hb, hs1, hs3, hsum, h1, h2, hk]
end frame

section open'
variable {H : Heap} {nx : Nat} {x : LV} {F : List UInt8} {a b c d : UInt8}
variable (g : (∃ fl, x = .p (.sl (bytP F) F.length 1 fl)) ∨ ∃ id cp ex, x = .arr id 0 F.length 1 cp ex ∧ H id = some (.cells (byt F)) ∧ id < nx)
include g
theorem ropen_long (h8 : 8 ≤ F.length) (ha : F[0]? = some a) (hb : F[1]? = some b) (hc : F[2]? = some c) (hd : F[3]? = some d) (h : 2 ^ 20 < (un4 a b c d).toNat) :
    Ω 49 [x] H nx = some (.tuple [.p (.s (.slice none 0 0)), .int .i64 0, .int .i64 9], [], []) := by
  refine om_run (ir := ir49) (by kernel_rfl) 0 ?_
  have q1 : (8 : Int) ≤ F.length := by omega
  have q2 : (1048576 : Int) < nv (un4 a b c d) := by unfold nv; omega
  rcases g with ⟨fl, rfl⟩ | ⟨id, cp, ex, rfl, h1, h2⟩
  · have t := fun H nx => rtake_ (.sl F fl : Bs H nx _ F) a b c d ha hb hc hd
    simp [ir49, ssB, List.idxOf?_cons, Go.Sx.LV.undef, Go.undef, Go.Sx.callO, Go.Sx.splice, Go.Sx.finish, Go.Sx.look, Go.Sx.push, Go.Sx.setObj, Go.Sx.setU, Go.Sx.setAll, Go.Sx.appO, Go.Sx.leI_eq, ltF, q1, q2, t]
  · have t := fun H nx e1 e2 => rtake_ (.whole e1 e2 : Bs H nx (.arr id 0 F.length 1 cp ex) F) a b c d ha hb hc hd
    simp [ir49, ssB, List.idxOf?_cons, Go.Sx.LV.undef, Go.undef, Go.Sx.callO, Go.Sx.splice, Go.Sx.finish, Go.Sx.look, Go.Sx.push, Go.Sx.setObj, Go.Sx.setU, Go.Sx.setAll, Go.Sx.appO, Go.Sx.leI_eq, ltF, q1, q2, t, h1, h2]
theorem ropen_short (h8 : 8 ≤ F.length) (ha : F[0]? = some a) (hb : F[1]? = some b) (hc : F[2]? = some c) (hd : F[3]? = some d) (h : (un4 a b c d).toNat ≤ 2 ^ 20) (hs : F.length < 8 + (un4 a b c d).toNat) :
    Ω 49 [x] H nx = some (.tuple [.p (.s (.slice none 0 0)), .int .i64 0, .int .i64 6], [], []) := by
  refine om_run (ir := ir49) (by kernel_rfl) 0 ?_
  have q1 : (8 : Int) ≤ F.length := by omega
  have q2 : ¬ (1048576 : Int) < nv (un4 a b c d) := by unfold nv; omega
  have q3 : IntKind.i64.wrap (nv (un4 a b c d)) = nv (un4 a b c d) := wrap_i64 _ (by unfold nv; omega) (by unfold nv; omega)
  have q4 : IntKind.i64.wrap (8 + nv (un4 a b c d)) = 8 + nv (un4 a b c d) := wrap_i64 _ (by unfold nv; omega) (by unfold nv; omega)
  have q5 : (F.length : Int) < 8 + nv (un4 a b c d) := by unfold nv; omega
  rcases g with ⟨fl, rfl⟩ | ⟨id, cp, ex, rfl, h1, h2⟩
  · have t := fun H nx => rtake_ (.sl F fl : Bs H nx _ F) a b c d ha hb hc hd
    simp [ir49, ssB, List.idxOf?_cons, Go.Sx.LV.undef, Go.undef, Go.Sx.callO, Go.Sx.splice, Go.Sx.finish, Go.Sx.look, Go.Sx.push, Go.Sx.setObj, Go.Sx.setU, Go.Sx.setAll, Go.Sx.appO, Go.Sx.leI_eq, ltF, q1, q2, q3, q4, q5, t]
  · have t := fun H nx e1 e2 => rtake_ (.whole e1 e2 : Bs H nx (.arr id 0 F.length 1 cp ex) F) a b c d ha hb hc hd
    simp [ir49, ssB, List.idxOf?_cons, Go.Sx.LV.undef, Go.undef, Go.Sx.callO, Go.Sx.splice, Go.Sx.finish, Go.Sx.look, Go.Sx.push, Go.Sx.setObj, Go.Sx.setU, Go.Sx.setAll, Go.Sx.appO, Go.Sx.leI_eq, ltF, q1, q2, q3, q4, q5, t, h1, h2]
end open'

end Go.Proofs.YtppeggedcaabkaaGreatDoor
end

section
namespace Go.Proofs.YtppeggedcaabkaaGreatDoor
open Go Go.Sx
set_option linter.unusedSimpArgs false
set_option linter.unusedVariables false

theorem pow_step {c : Ctx} {N : Nat} {h : Hp} (b j : Nat) (hj : j < b) (hb : b ≤ 63) : runCS c N ir141_0 ⟨[(0, .int .i64 b), (3, .int .u64 (2 ^ j : Nat)), (4, .int .i64 j)], h⟩ = some (.normal, ⟨[(0, .int .i64 b), (3, .int .u64 (2 ^ (j + 1) : Nat)), (4, .int .i64 (j + 1 : Nat))], h⟩) := by
  have h1 : ¬ (b : Int) ≤ j := by omega
  have hw : IntKind.i64.wrap ((j : Int) + 1) = (j : Int) + 1 := wrap_i64 _ (by omega) (by omega)
  have hp : 2 ^ (j + 1) ≤ 2 ^ 63 := Nat.pow_le_pow_right (by decide) (by omega)
  have he : 2 ^ (j + 1) = 2 ^ j * 2 := Nat.pow_succ _ _
  have hm : IntKind.u64.wrap (((2 ^ j : Nat) : Int) * 2) = ((2 ^ (j + 1) : Nat) : Int) := by
    rw [wrap_u64' _ (by omega) (by omega), he]
    omega
  generalize (2 ^ (j + 1) : Nat) = y at *
  generalize (2 ^ j : Nat) = x at *
  simp [ir141_0, ssB, List.idxOf?_cons, Go.Sx.LV.undef, Go.undef, Go.Sx.callO, Go.Sx.splice, Go.Sx.finish, Go.Sx.look, Go.Sx.push, Go.Sx.setObj, Go.Sx.setU, Go.Sx.setAll, Go.Sx.appO, Go.Sx.leI_eq, ltF, h1, hw, hm]
theorem pow_out {c : Ctx} {N : Nat} {h : Hp} (b : Nat) (x : LV) : runCS c N ir141_0 ⟨[(0, .int .i64 b), (3, x), (4, .int .i64 b)], h⟩ = some (.exit 0, ⟨[(0, .int .i64 b), (3, x), (4, .int .i64 b), (7, .bool false)], h⟩) := by
  simp [ir141_0, ssB, List.idxOf?_cons, Go.Sx.LV.undef, Go.undef, Go.Sx.callO, Go.Sx.splice, Go.Sx.finish, Go.Sx.look, Go.Sx.push, Go.Sx.setObj, Go.Sx.setU, Go.Sx.setAll, Go.Sx.appO, Go.Sx.leI_eq, ltF]
theorem pow_loop {c : Ctx} {N : Nat} {h : Hp} (b : Nat) (hb : b ≤ 63) : ∀ (d j m : Nat), j + d = b → d < m → iter (runCS c N ir141_0) m ⟨[(0, .int .i64 b), (3, .int .u64 (2 ^ j : Nat)), (4, .int .i64 j)], h⟩ = some (.exit 0, ⟨[(0, .int .i64 b), (3, .int .u64 (2 ^ b : Nat)), (4, .int .i64 b), (7, .bool false)], h⟩) := by
  intro d
  induction d with
  | zero =>
    intro j m hj hm
    obtain ⟨m, rfl⟩ : ∃ r, m = r + 1 := ⟨m - 1, by omega⟩
    obtain rfl : j = b := by omega
    exact iter_out (pow_out j _) (by simp)
  | succ d ih =>
    intro j m hj hm
    obtain ⟨m, rfl⟩ : ∃ r, m = r + 1 := ⟨m - 1, by omega⟩
    rw [iter_step (pow_step b j (by omega) hb)]
    exact ih (j + 1) m (by omega) (by omega)
theorem rpower_ (b : Nat) (hb : b ≤ 63) (H : Heap) (nx : Nat) : Ω 141 [.int .i64 b] H nx = some (.int .u64 (2 ^ b : Nat), [], []) := by
  refine om_run (ir := ir141) (by kernel_rfl) 64 ?_
  have e := pow_loop (c := ⟨Ω, noG, H, nx⟩) (N := 64) (h := ⟨[], []⟩) b hb b 0 64 (by omega) (by omega)
  have e' : iter (runCS ⟨Ω, noG, H, nx⟩ 64 ir141_0) 64 ⟨[(0, .int .i64 b), (3, .int .u64 1), (4, .int .i64 0)], ⟨[], []⟩⟩ = some (.exit 0, ⟨[(0, .int .i64 b), (3, .int .u64 (2 ^ b : Nat)), (4, .int .i64 b), (7, .bool false)], ⟨[], []⟩⟩) := e
  generalize (2 ^ b : Nat) = y at *
  simp [ir141, ssB, List.idxOf?_cons, Go.Sx.LV.undef, Go.undef, Go.Sx.callO, Go.Sx.splice, Go.Sx.finish, Go.Sx.look, Go.Sx.push, Go.Sx.setObj, Go.Sx.setU, Go.Sx.setAll, Go.Sx.appO, Go.Sx.leI_eq, ltF, e']

section num
variable {c : Ctx} (hO : c.O = Ω)
include hO
theorem rnumw_step {N : Nat} {h : Hp} {x : LV} {l : List Bool} (g : Bl x l) (h30 : l.length < 2 ^ 31) (v b : Nat) (hv : v < 2 ^ 64) (hb : b < 64) (hvb : 2 ^ b ≤ v) :
    runCS c N ir79_0 ⟨[(0, x), (1, .int .u64 v), (5, .int .i64 b)], h⟩ = some (.normal, ⟨[(0, blV (l ++ [true])), (1, .int .u64 (v - 2 ^ b : Nat)), (5, .int .i64 (b + 1 : Nat))], h⟩) := by
  have p := rpower_ b (by omega)
  have q := rPut_ g 1 1 (by decide) (by decide) (by decide) h30
  have hB : bitsOf 1 1 = [true] := by decide
  rw [hB] at q
  have c1 : ((1 : Nat) : Int) = 1 := rfl
  rw [c1] at q
  rw [← hO] at p q
  have h1 : ¬ (64 : Int) ≤ b := by omega
  have hw : IntKind.i64.wrap ((b : Int) + 1) = (b : Int) + 1 := wrap_i64 _ (by omega) (by omega)
  generalize (2 ^ b : Nat) = y at *
  have h2 : (y : Int) ≤ v := by omega
  have hs : IntKind.u64.wrap ((v : Int) - y) = ((v - y : Nat) : Int) := by rw [wrap_u64' _ (by omega) (by omega)]; omega
  have h3 : y ≤ v := hvb
  generalize (v - y : Nat) = z at *
  simp [ir79_0, ssB, List.idxOf?_cons, Go.Sx.LV.undef, Go.undef, callO_A, aft_nil, setAll_nil, Go.Sx.splice, Go.Sx.leI_eq, ltF, p, q, h1, h2, h3, hw, hs, hO]
theorem rnumw_out {N : Nat} {h : Hp} {x : LV} (v b : Nat) (hb : b ≤ 64) (hvb : b = 64 ∨ v < 2 ^ b) :
    runCS c N ir79_0 ⟨[(0, x), (1, .int .u64 v), (5, .int .i64 b)], h⟩ = some (.exit 0, ⟨[(0, x), (1, .int .u64 v), (5, .int .i64 b), (13, .bool false)], h⟩) := by
  by_cases h64 : b = 64
  · subst h64
    simp [ir79_0, ssB, List.idxOf?_cons, Go.Sx.LV.undef, Go.undef, callO_A, aft_nil, setAll_nil, Go.Sx.splice, Go.Sx.leI_eq, ltF, hO]
  · have p := rpower_ b (by omega)
    rw [← hO] at p
    have h1 : ¬ (64 : Int) ≤ b := by omega
    have h2 := hvb.resolve_left h64
    generalize (2 ^ b : Nat) = y at *
    have h3 : ¬ (y : Int) ≤ v := by omega
    have h4 : ¬ y ≤ v := by omega
    simp [ir79_0, ssB, List.idxOf?_cons, Go.Sx.LV.undef, Go.undef, callO_A, aft_nil, setAll_nil, Go.Sx.splice, Go.Sx.leI_eq, ltF, p, h1, h3, h4, hO]
theorem rnumw_loop {N : Nat} {h : Hp} : ∀ (f q v b : Nat) (x : LV) (l : List Bool), b + f = 64 → f < q → v < 2 ^ 64 → 0 < b → Bl x l → l.length + f < 2 ^ 31 →
    ∃ x' v' b' k, iter (runCS c N ir79_0) q ⟨[(0, x), (1, .int .u64 v), (5, .int .i64 b)], h⟩ = some (.exit 0, ⟨[(0, x'), (1, .int .u64 (v' : Nat)), (5, .int .i64 (b' : Nat)), (13, .bool false)], h⟩) ∧
      Bl x' (l ++ List.replicate k true) ∧ numBits v b f = List.replicate k true ++ false :: bitsOf v' b' ∧ b' ≤ 64 ∧ 0 < b' ∧ v' < 2 ^ 64 ∧ k ≤ f := by
  intro f
  induction f with
  | zero =>
    intro q v b x l hb hq hv hb0 g hl
    obtain ⟨q, rfl⟩ : ∃ r, q = r + 1 := ⟨q - 1, by omega⟩
    exact ⟨x, v, b, 0, iter_out (rnumw_out hO v b (by omega) (.inl (by omega))) (by simp), by simpa using g, rfl, by omega, hb0, hv, Nat.le_refl _⟩
  | succ f ih =>
    intro q v b x l hb hq hv hb0 g hl
    obtain ⟨q, rfl⟩ : ∃ r, q = r + 1 := ⟨q - 1, by omega⟩
    have hpos : 0 < 2 ^ b := Nat.two_pow_pos b
    have hsh : 0 < v >>> b ↔ 2 ^ b ≤ v := by rw [Nat.shiftRight_eq_div_pow]; exact Nat.div_pos_iff.trans ⟨fun h => h.2, fun h => ⟨hpos, h⟩⟩
    by_cases hs : 2 ^ b ≤ v
    · rw [iter_step (rnumw_step hO g (by omega) v b hv (by omega) hs)]
      obtain ⟨x', v', b', k, e1, e2, e3, e4, e5, e6, e7⟩ := ih q (v - 2 ^ b) (b + 1) (blV (l ++ [true])) (l ++ [true]) (by omega) (by omega) (Nat.lt_of_le_of_lt (Nat.sub_le _ _) hv) (by omega) (.sl _ false) (by simp; omega)
      refine ⟨x', v', b', k + 1, e1, ?_, ?_, e4, e5, e6, by omega⟩
      · simpa [List.replicate_succ, List.append_assoc] using e2
      · rw [numBits, if_pos (hsh.2 hs), e3]; rfl
    · exact ⟨x, v, b, 0, iter_out (rnumw_out hO v b (by omega) (.inr (by omega))) (by simp), by simpa using g, by rw [numBits, if_neg (fun h => hs (hsh.1 h))]; rfl, by omega, hb0, hv, Nat.zero_le _⟩
end num
theorem rNumw_ {x : LV} {l : List Bool} (g : Bl x l) (v : Nat) (hv : v < 2 ^ 64) (h30 : l.length + 200 < 2 ^ 31) (H : Heap) (nx : Nat) :
    Ω 79 [x, .int .u64 v] H nx = some (blV (l ++ numBits v 2 62), [], []) := by
  refine om_run (ir := ir79) (by kernel_rfl) 63 ?_
  obtain ⟨x', v', b', k, e1, e2, e3, e4, e5, e6, e7⟩ := rnumw_loop (c := ⟨Ω, noG, H, nx⟩) rfl (N := 63) (h := ⟨[], []⟩) 62 63 v 2 x l rfl (by decide) hv (by decide) g (by omega)
  have q1 := rPut_ e2 0 1 (by decide) (by decide) (by decide) (by simp; omega)
  have hB : bitsOf 0 1 = [false] := by decide
  rw [hB] at q1
  have q2 := rPut_ (.sl (l ++ List.replicate k true ++ [false]) false) v' b' e6 e5 e4 (by simp; omega)
  have hl : l ++ List.replicate k true ++ [false] ++ bitsOf v' b' = l ++ numBits v 2 62 := by rw [e3]; simp
  rw [hl] at q2
  have c0 : ((0 : Nat) : Int) = 0 := rfl
  have c1 : ((1 : Nat) : Int) = 1 := rfl
  have c2 : ((2 : Nat) : Int) = 2 := rfl
  rw [c0, c1] at q1
  rw [c2] at e1
  generalize l ++ List.replicate k true ++ [false] = L1 at *
  generalize l ++ numBits v 2 62 = L2 at *
  have f := fun h hu => fin_p H nx (.sl (bolP L2) L2.length 1 false) h hu
  simp [ir79, ssB, List.idxOf?_cons, Go.Sx.LV.undef, Go.undef, callO_A, aft_nil, setAll_nil, Go.Sx.splice, Go.Sx.leI_eq, ltF, e1, q1, q2, f]
end Go.Proofs.YtppeggedcaabkaaGreatDoor
end

section
namespace Go.Proofs.YtppeggedcaabkaaGreatDoor
open Go Go.Sx
set_option linter.unusedSimpArgs false
set_option linter.unusedVariables false

/-- Some bits' number, from a place on. -/
def valB (l : List Bool) (i : Nat) : Nat → Nat
  | 0 => 0
  | k + 1 => 2 * valB l i k + (if l.getD (i + k) false then 1 else 0)
theorem valB_lt (l : List Bool) (i : Nat) : ∀ k, valB l i k < 2 ^ k
  | 0 => by simp [valB]
  | k + 1 => by
    have := valB_lt l i k
    rw [valB, Nat.pow_succ]
    split <;> omega
theorem bol_get {l : List Bool} {j : Nat} (h : j < l.length) : (bolP l)[j]? = some (.s (.bool (l.getD j false))) := by
  simp [bolP, h, List.getD]
section
variable {c : Ctx} {N : Nat} {h : Hp}
theorem rbin_step {x : LV} {l : List Bool} (g : Bl x l) (h30 : l.length < 2 ^ 31) (out : LV) (i k b : Nat) (hi : i < 2 ^ 31) (hk : k < 8) (hb : b < 128) :
    runCS c N ir34_0 ⟨[(0, x), (3, out), (4, .int .i64 i), (5, .int .u8 b), (6, .int .i64 k)], h⟩ =
      some (.normal, ⟨[(0, x), (3, out), (4, .int .i64 i), (5, .int .u8 (2 * b + (if l.getD (i + k) false then 1 else 0) : Nat)), (6, .int .i64 (k + 1 : Nat))], h⟩) := by
  have h1 : ¬ (8 : Int) ≤ k := by omega
  have w1 : IntKind.i64.wrap ((i : Int) + k) = ((i + k : Nat) : Int) := by rw [wrap_i64 _ (by omega) (by omega)]; omega
  have w2 : IntKind.i64.wrap ((k : Int) + 1) = (k : Int) + 1 := wrap_i64 _ (by omega) (by omega)
  have w3 : IntKind.u8.wrap ((b : Int) * 2) = ((2 * b : Nat) : Int) := by
    simp [IntKind.wrap, IntKind.signed, IntKind.bits]; omega
  have w4 : IntKind.u8.wrap (((2 * b : Nat) : Int) + 1) = ((2 * b + 1 : Nat) : Int) := by
    simp [IntKind.wrap, IntKind.signed, IntKind.bits]; omega
  generalize hj : i + k = j at *
  by_cases hlt : j < l.length
  · have gt : ¬ (l.length : Int) ≤ j := by omega
    have gt' : ¬ l.length ≤ j := by omega
    have hg : ∀ hh : j < (bolP l).length, (bolP l)[j] = .s (.bool (l.getD j false)) := fun hh => by
      have := bol_get hlt
      rw [List.getElem?_eq_getElem hh] at this
      exact Option.some.inj this
    cases g with
    | nil => simp at hlt
    | sl _ fl =>
      generalize l.getD j false = y at *
      generalize hb1 : 2 * b + 1 = b1 at *
      cases y
      · rw [if_neg (by simp), Nat.add_zero]
        generalize 2 * b = b2 at *
        simp [ir34_0, ssB, List.idxOf?_cons, Go.Sx.LV.undef, Go.undef, Go.Sx.callO, Go.Sx.splice, Go.Sx.finish, Go.Sx.look, Go.Sx.push, Go.Sx.setObj, Go.Sx.setU, Go.Sx.setAll, Go.Sx.appO, Go.Sx.leI_eq, ltF, h1, w1, w2, w3, w4, gt, gt', hg, hlt, bolP_len]
      · rw [if_pos rfl]
        generalize hb2 : 2 * b = b2 at *
        simp [ir34_0, ssB, List.idxOf?_cons, Go.Sx.LV.undef, Go.undef, Go.Sx.callO, Go.Sx.splice, Go.Sx.finish, Go.Sx.look, Go.Sx.push, Go.Sx.setObj, Go.Sx.setU, Go.Sx.setAll, Go.Sx.appO, Go.Sx.leI_eq, ltF, h1, w1, w2, w3, w4, gt, gt', hg, hlt, bolP_len]
        omega
  · have gt : (l.length : Int) ≤ j := by omega
    have gt' : l.length ≤ j := by omega
    have hd : l.getD j false = false := by simp [List.getD, List.getElem?_eq_none gt']
    rw [hd, if_neg (by simp), Nat.add_zero]
    generalize 2 * b = b2 at *
    cases g with
    | nil =>
      have gt2 : (0 : Int) ≤ j := by omega
      simp [ir34_0, ssB, List.idxOf?_cons, Go.Sx.LV.undef, Go.undef, Go.Sx.callO, Go.Sx.splice, Go.Sx.finish, Go.Sx.look, Go.Sx.push, Go.Sx.setObj, Go.Sx.setU, Go.Sx.setAll, Go.Sx.appO, Go.Sx.leI_eq, ltF, h1, w1, w2, w3, gt2]
    | sl _ fl => simp [ir34_0, ssB, List.idxOf?_cons, Go.Sx.LV.undef, Go.undef, Go.Sx.callO, Go.Sx.splice, Go.Sx.finish, Go.Sx.look, Go.Sx.push, Go.Sx.setObj, Go.Sx.setU, Go.Sx.setAll, Go.Sx.appO, Go.Sx.leI_eq, ltF, h1, w1, w2, w3, gt, gt']
theorem rbin_out (x out i b : LV) : runCS c N ir34_0 ⟨[(0, x), (3, out), (4, i), (5, b), (6, .int .i64 8)], h⟩ = some (.exit 2, ⟨[(0, x), (3, out), (4, i), (5, b), (6, .int .i64 8), (14, .bool false)], h⟩) := by
  simp [ir34_0, ssB, List.idxOf?_cons, Go.Sx.LV.undef, Go.undef, Go.Sx.callO, Go.Sx.splice, Go.Sx.finish, Go.Sx.look, Go.Sx.push, Go.Sx.setObj, Go.Sx.setU, Go.Sx.setAll, Go.Sx.appO, Go.Sx.leI_eq, ltF]
theorem rbin_loop {x : LV} {l : List Bool} (g : Bl x l) (h30 : l.length < 2 ^ 31) (out : LV) (i : Nat) (hi : i < 2 ^ 31) : ∀ (d k m : Nat), k + d = 8 → d < m →
    iter (runCS c N ir34_0) m ⟨[(0, x), (3, out), (4, .int .i64 i), (5, .int .u8 (valB l i k)), (6, .int .i64 k)], h⟩ =
      some (.exit 2, ⟨[(0, x), (3, out), (4, .int .i64 i), (5, .int .u8 (valB l i 8)), (6, .int .i64 8), (14, .bool false)], h⟩) := by
  intro d
  induction d with
  | zero =>
    intro k m hk hm
    obtain ⟨m, rfl⟩ : ∃ r, m = r + 1 := ⟨m - 1, by omega⟩
    obtain rfl : k = 8 := by omega
    exact iter_out (rbin_out _ _ _ _) (by simp)
  | succ d ih =>
    intro k m hk hm
    obtain ⟨m, rfl⟩ : ∃ r, m = r + 1 := ⟨m - 1, by omega⟩
    have hv := valB_lt l i k
    have hp : 2 ^ k ≤ 2 ^ 7 := Nat.pow_le_pow_right (by decide) (by omega)
    rw [iter_step (rbin_step g h30 out i k (valB l i k) hi (by omega) (by omega))]
    exact ih (k + 1) m (by omega) (by omega)

/-- Bytes that have been put together so far. -/
def Acc (c : Ctx) (x : LV) (h : Hp) (q : List UInt8) : Prop := h.upd = [] ∧ Rdy c x h q ∧ ((q = [] ∧ x = .p (.s (.slice none 0 0))) ∨ ∃ i, q ≠ [] ∧ c.nx ≤ i ∧ x = .arr i 0 q.length 1 q.length false ∧ Go.Sx.look c.H c.nx h i = some (.cells (byt q)))
theorem rbo_step {x out : LV} {l : List Bool} {q : List UInt8} (g : Bl x l) (h30 : l.length < 2 ^ 30) (hN : 9 ≤ N) (a : Acc c out h q) (hq : q.length + 1 < 2 ^ 31) (i : Nat) (hi : i < l.length) :
    ∃ out' h', runCS c N ir34_1 ⟨[(0, x), (3, out), (4, .int .i64 i)], h⟩ = some (.normal, ⟨[(0, x), (3, out'), (4, .int .i64 (i + 8 : Nat))], h'⟩) ∧ Acc c out' h' (q ++ [UInt8.ofNat (valB l i 8)]) := by
  obtain ⟨hu, hr, _⟩ := a
  obtain ⟨h'', t, m, e1, e2, e3, e4⟩ := hr (UInt8.ofNat (valB l i 8))
  have hv := valB_lt l i 8
  have ht : ((UInt8.ofNat (valB l i 8)).toNat : Int) = (valB l i 8 : Nat) := by simp; omega
  have lp := rbin_loop (c := c) (N := N) (h := h) g (by omega) out i (by omega) 8 0 N (by omega) (by omega)
  have hw : IntKind.i64.wrap ((i : Int) + 8) = (i : Int) + 8 := wrap_i64 _ (by omega) (by omega)
  have gt : ¬ (l.length : Int) ≤ i := by omega
  have gt' : ¬ l.length ≤ i := by omega
  have lp' : iter (runCS c N ir34_0) N ⟨[(0, x), (3, out), (4, .int .i64 i), (5, .int .u8 0), (6, .int .i64 0)], h⟩ =
      some (.exit 2, ⟨[(0, x), (3, out), (4, .int .i64 i), (5, .int .u8 (valB l i 8)), (6, .int .i64 8), (14, .bool false)], h⟩) := lp
  rw [ht] at e1
  have own : Rdy c (.arr (c.nx + (h.new.length + 1)) 0 (q.length + 1) 1 (q.length + 1) false) h'' (q ++ [UInt8.ofNat (valB l i 8)]) := by
    have := own_rdy e2 (by rw [e4]; omega) (by omega) e3 (by simp; omega)
    simpa using this
  refine ⟨.arr (c.nx + (h.new.length + 1)) 0 (q.length + 1) 1 (q.length + 1) false, h'', ?_, e3, own, .inr ⟨c.nx + (h.new.length + 1), by simp, Nat.le_add_right _ _, by simp, e2⟩⟩
  clear own
  generalize valB l i 8 = v at *
  cases g with
  | nil => simp at hi
  | sl _ fl => simp [ir34_1, ssB, List.idxOf?_cons, Go.Sx.LV.undef, Go.undef, callO_A, aft_nil, setAll_nil, Go.Sx.splice, Go.Sx.leI_eq, ltF, gt, gt', hi, lp', e1, hw]
theorem rbo_out {x out : LV} {l : List Bool} (g : Bl x l) (i : Nat) (hi : l.length ≤ i) : runCS c N ir34_1 ⟨[(0, x), (3, out), (4, .int .i64 i)], h⟩ = some (.exit 0, ⟨[(0, x), (3, out), (4, .int .i64 i), (10, .bool false)], h⟩) := by
  have gt : (l.length : Int) ≤ i := by omega
  cases g with
  | nil =>
    have gt2 : (0 : Int) ≤ i := by omega
    simp [ir34_1, ssB, List.idxOf?_cons, Go.Sx.LV.undef, Go.undef, callO_A, aft_nil, setAll_nil, Go.Sx.splice, Go.Sx.leI_eq, ltF, gt2]
  | sl _ fl => simp [ir34_1, ssB, List.idxOf?_cons, Go.Sx.LV.undef, Go.undef, callO_A, aft_nil, setAll_nil, Go.Sx.splice, Go.Sx.leI_eq, ltF, gt, hi]
/-- Bits as bytes, eight by eight. -/
def packR (l : List Bool) : Nat → Nat → List UInt8
  | 0, _ => []
  | f + 1, i => if i < l.length then UInt8.ofNat (valB l i 8) :: packR l f (i + 8) else []
theorem rbo_loop {x : LV} {l : List Bool} (g : Bl x l) (h30 : l.length < 2 ^ 30) (hN : 9 ≤ N) : ∀ (f m i : Nat) (out : LV) (h : Hp) (q : List UInt8), l.length < i + 8 * f → f < m → q.length ≤ i → Acc c out h q →
    ∃ out' h' i', iter (runCS c N ir34_1) m ⟨[(0, x), (3, out), (4, .int .i64 i)], h⟩ = some (.exit 0, ⟨[(0, x), (3, out'), (4, i'), (10, .bool false)], h'⟩) ∧ Acc c out' h' (q ++ packR l f i) := by
  intro f
  induction f with
  | zero =>
    intro m i out h q hl hm hq a
    obtain ⟨m, rfl⟩ : ∃ r, m = r + 1 := ⟨m - 1, by omega⟩
    exact ⟨out, h, _, iter_out (rbo_out g i (by omega)) (by simp), by simpa [packR] using a⟩
  | succ f ih =>
    intro m i out h q hl hm hq a
    obtain ⟨m, rfl⟩ : ∃ r, m = r + 1 := ⟨m - 1, by omega⟩
    by_cases hi : i < l.length
    · obtain ⟨out', h', e1, a'⟩ := rbo_step (N := N) g h30 hN a (by omega) i hi
      rw [iter_step e1]
      obtain ⟨out2, h2, i2, e2, a2⟩ := ih m (i + 8) out' h' _ (by omega) (by omega) (by simp; omega) a'
      exact ⟨out2, h2, i2, e2, by rw [packR, if_pos hi]; simpa using a2⟩
    · exact ⟨out, h, _, iter_out (rbo_out g i (by omega)) (by simp), by rw [packR, if_neg hi]; simpa using a⟩
end
theorem rBytes_ {x : LV} {l : List Bool} (g : Bl x l) (h30 : l.length < 2 ^ 30) (H : Heap) (nx : Nat) : Ω 34 [x] H nx = some (sum' (packR l (l.length + 1) 0), [], []) := by
  refine om_run (ir := ir34) (by kernel_rfl) (l.length + 10) ?_
  obtain ⟨out, h, i', e1, hu, hr, hor⟩ := rbo_loop (c := ⟨Ω, noG, H, nx⟩) (N := l.length + 10) g h30 (by omega) (l.length + 1) (l.length + 10) 0 (.p (.s (.slice none 0 0))) ⟨[], []⟩ [] (by omega) (by omega) (by simp)
    ⟨rfl, Ini.rdy .nil (by simp), .inl ⟨rfl, rfl⟩⟩
  have f : finish false H nx out h = some (sum' ([] ++ packR l (l.length + 1) 0), [], []) := by
    generalize [] ++ packR l (l.length + 1) 0 = q at *
    rcases hor with ⟨rfl, rfl⟩ | ⟨i, hne, hi, rfl, hlk⟩
    · exact fin_p _ _ _ _ hu
    · have hjn : ¬ i < nx := by simp only [] at hi; omega
      have hnew : h.new[i - nx]? = some (some (.cells (byt q))) := by
        simp only [] at hlk
        rw [Go.Sx.look, if_neg hjn] at hlk
        cases hq : h.new[i - nx]? with
        | none => rw [hq] at hlk; cases hlk
        | some o => rw [hq] at hlk; exact congrArg some hlk
      rw [sum'_ne hne]
      simp [finish, frz, frzL, hjn, hnew, byt_len, take_byt, allP_byt, hu, updIds, reach, ren, renU, renN, Go.Sx.ids]
  have c0 : ((0 : Nat) : Int) = 0 := rfl
  rw [c0] at e1
  rw [List.nil_append] at f
  generalize packR l (l.length + 1) 0 = q at *
  simp [ir34, ssB, List.idxOf?_cons, Go.Sx.LV.undef, Go.undef, callO_A, aft_nil, setAll_nil, Go.Sx.splice, Go.Sx.leI_eq, ltF, e1, f]
end Go.Proofs.YtppeggedcaabkaaGreatDoor
end

section
namespace Go.Proofs.YtppeggedcaabkaaGreatDoor
open Go Go.Sx
set_option linter.unusedSimpArgs false
set_option linter.unusedVariables false

/-- Some bits' number, behind others. -/
def valL : Nat → List Bool → Nat
  | v, [] => v
  | v, b :: r => valL (2 * v + (if b then 1 else 0)) r
theorem valL_app (v : Nat) (l m : List Bool) : valL v (l ++ m) = valL (valL v l) m := by
  induction l generalizing v with
  | nil => rfl
  | cons b l ih => rw [List.cons_append, valL, valL, ih]
theorem valL_lt : ∀ (l : List Bool) (v k : Nat), v < 2 ^ k → valL v l < 2 ^ (k + l.length)
  | [], v, k, h => h
  | b :: r, v, k, h => by
    rw [valL, List.length_cons, show k + (r.length + 1) = (k + 1) + r.length by omega]
    refine valL_lt r _ (k + 1) ?_
    rw [Nat.pow_succ]
    split <;> omega
def sb (x : UInt8) (k : Nat) (b : Bool) : UInt8 := if b then x ||| UInt8.ofNat (128 >>> k) else x
theorem sb_fin : ∀ k : Fin 8, ∀ v : Fin 256, v.val < 2 ^ k.val → UInt8.ofNat (v.val * 2 ^ (8 - k.val)) ||| UInt8.ofNat (128 >>> k.val) = UInt8.ofNat ((2 * v.val + 1) * 2 ^ (7 - k.val)) := by decide +kernel
theorem sb_val (v k : Nat) (b : Bool) (hk : k < 8) (hv : v < 2 ^ k) : sb (UInt8.ofNat (v * 2 ^ (8 - k))) k b = UInt8.ofNat ((2 * v + (if b then 1 else 0)) * 2 ^ (7 - k)) := by
  have hp : 2 ^ k ≤ 2 ^ 7 := Nat.pow_le_pow_right (by decide) (by omega)
  cases b
  · have : 8 - k = (7 - k) + 1 := by omega
    rw [this, Nat.pow_succ]
    simp only [sb, Bool.false_eq_true, if_false, Nat.add_zero]
    congr 1
    rw [Nat.mul_comm 2 v, Nat.mul_assoc, Nat.mul_comm 2]
  · exact sb_fin ⟨k, hk⟩ ⟨v, by omega⟩ hv
theorem addBit_in (p : List UInt8) (x : UInt8) (k : Nat) (b : Bool) (h0 : 0 < k) (hk : k < 8) : addBit (p ++ [x]) (8 * p.length + k) b = p ++ [sb x k b] := by
  have h1 : ¬ (8 * p.length + k) % 8 = 0 := by omega
  have h2 : (8 * p.length + k) / 8 = p.length := by omega
  have h3 : (8 * p.length + k) % 8 = k := by omega
  have hk0 : ¬ k = 0 := by omega
  unfold addBit sb
  simp only [h2, h3, hk0, if_false]
  cases b <;> simp
theorem addBit_new (p : List UInt8) (b : Bool) : addBit p (8 * p.length) b = p ++ [sb 0 0 b] := by
  have h1 : (8 * p.length) % 8 = 0 := by omega
  have h2 : (8 * p.length) / 8 = p.length := by omega
  unfold addBit sb
  simp only [h1, if_pos, h2]
  cases b <;> simp
theorem addBits_in (p : List UInt8) : ∀ (l : List Bool) (v k : Nat), 0 < k → k + l.length ≤ 8 → v < 2 ^ k → addBits (p ++ [UInt8.ofNat (v * 2 ^ (8 - k))]) (8 * p.length + k) l = p ++ [UInt8.ofNat (valL v l * 2 ^ (8 - (k + l.length)))]
  | [], v, k, h0, hk, hv => rfl
  | b :: r, v, k, h0, hk, hv => by
    rw [List.length_cons] at hk
    rw [addBits, addBit_in p _ k b h0 (by omega), sb_val v k b (by omega) hv, List.length_cons, valL, show k + (r.length + 1) = (k + 1) + r.length by omega, show 8 * p.length + k + 1 = 8 * p.length + (k + 1) by omega]
    have : 7 - k = 8 - (k + 1) := by omega
    rw [this]
    refine addBits_in p r _ (k + 1) (by omega) (by omega) ?_
    rw [Nat.pow_succ]
    split <;> omega
theorem addBits_byte (p : List UInt8) (l : List Bool) (h0 : l ≠ []) (h8 : l.length ≤ 8) : addBits p (8 * p.length) l = p ++ [UInt8.ofNat (valL 0 l * 2 ^ (8 - l.length))] := by
  cases l with
  | nil => exact absurd rfl h0
  | cons b r =>
    rw [List.length_cons] at h8
    have e := sb_val 0 0 b (by decide) (by decide)
    have e0 : UInt8.ofNat (0 * 2 ^ (8 - 0)) = 0 := by decide
    rw [e0] at e
    rw [addBits, addBit_new, e, valL, List.length_cons, show r.length + 1 = 1 + r.length by omega]
    exact addBits_in p r _ 1 (by decide) (by omega) (by split <;> decide)
/-- Eight by eight. -/
def packL : Nat → List Bool → List UInt8
  | 0, _ => []
  | f + 1, l => if l = [] then [] else UInt8.ofNat (valL 0 (l.take 8) * 2 ^ (8 - (l.take 8).length)) :: packL f (l.drop 8)
theorem addBits_pack : ∀ (f : Nat) (p : List UInt8) (l : List Bool), l.length < 8 * f → addBits p (8 * p.length) l = p ++ packL f l
  | 0, p, l, h => by omega
  | f + 1, p, l, h => by
    by_cases h0 : l = []
    · subst h0; simp [packL, addBits]
    · rw [packL, if_neg h0]
      have hl : 0 < l.length := List.length_pos_iff.2 h0
      conv => lhs; rw [← List.take_append_drop 8 l, addBits_app]
      have ht : (l.take 8) ≠ [] := by
        intro he
        have := congrArg List.length he
        rw [List.length_take, List.length_nil] at this
        omega
      rw [addBits_byte p _ ht (by simp; omega)]
      by_cases hd : l.drop 8 = []
      · rw [hd]
        cases f <;> simp [addBits, packL]
      · have h8 : 8 < l.length := by
          have := List.length_pos_iff.2 hd
          simp at this
          omega
        have hlen : (l.take 8).length = 8 := by simp; omega
        have e : 8 * p.length + (l.take 8).length = 8 * (p ++ [UInt8.ofNat (valL 0 (l.take 8) * 2 ^ (8 - (l.take 8).length))]).length := by rw [hlen]; simp; omega
        rw [e, addBits_pack f _ _ (by simp; omega)]
        simp
theorem valB_val (l : List Bool) (i : Nat) : ∀ k, valB l i k = valL 0 ((l.drop i).take k) * 2 ^ (k - ((l.drop i).take k).length)
  | 0 => by simp [valB, valL]
  | k + 1 => by
    rw [valB, valB_val l i k]
    by_cases hlt : i + k < l.length
    · have h1 : ((l.drop i).take k).length = k := by simp; omega
      have h2 : (l.drop i).take (k + 1) = (l.drop i).take k ++ [l.getD (i + k) false] := by
        rw [List.take_succ_eq_append_getElem (by simp; omega)]
        simp [List.getD, hlt]
      have h3 : ((l.drop i).take (k + 1)).length = k + 1 := by simp; omega
      rw [h3, h1, h2, valL_app]
      simp [valL, Nat.mul_comm]
    · have h1 : (l.drop i).take (k + 1) = l.drop i := List.take_of_length_le (by simp; omega)
      have h2 : (l.drop i).take k = l.drop i := List.take_of_length_le (by simp; omega)
      have h3 : l.getD (i + k) false = false := by simp [List.getD, List.getElem?_eq_none (by omega : l.length ≤ i + k)]
      rw [h1, h2, h3]
      have h4 : (l.drop i).length ≤ k := by simp; omega
      rw [show k + 1 - (l.drop i).length = (k - (l.drop i).length) + 1 by omega, Nat.pow_succ]
      simp only [Bool.false_eq_true, if_false, Nat.add_zero]
      rw [Nat.mul_comm 2, Nat.mul_assoc]
theorem packR_L (l : List Bool) : ∀ (f i : Nat), packR l f i = packL f (l.drop i)
  | 0, i => rfl
  | f + 1, i => by
    rw [packR, packL, packR_L l f (i + 8), valB_val, List.drop_drop]
    by_cases h : i < l.length
    · rw [if_pos h, if_neg (by intro he; have := congrArg List.length he; simp at this; omega)]
    · rw [if_neg h, if_pos (List.drop_eq_nil_of_le (by omega))]
/-- The document's bytes are the program's. -/
theorem packR_pack (l : List Bool) : packR l (l.length + 1) 0 = pack l := by
  have h := addBits_pack (l.length + 1) [] l (by omega)
  rw [packR_L, List.drop_zero, pack]
  simpa using h.symm
end Go.Proofs.YtppeggedcaabkaaGreatDoor
end

section
namespace Go.Proofs.YtppeggedcaabkaaGreatDoor
open Go Go.Sx
set_option linter.unusedSimpArgs false
set_option linter.unusedVariables false

/-- The document's share. -/
def Id.rv : Id → PV
  | .zero => .imm [.s (.int .i64 0), .s (.pointer none), .s (.pointer none)] 0
  | .one => .imm [.s (.int .i64 1), .s (.pointer none), .s (.pointer none)] 0
  | .node l r => .imm [.s (.int .i64 2), l.rv, r.rv] 0
theorem Id.rv_z : Id.zero.rv = .imm [.s (.int .i64 0), .s (.pointer none), .s (.pointer none)] 0 := rfl
theorem Id.rv_o : Id.one.rv = .imm [.s (.int .i64 1), .s (.pointer none), .s (.pointer none)] 0 := rfl
theorem Id.rv_n (l r : Id) : (Id.node l r).rv = .imm [.s (.int .i64 2), l.rv, r.rv] 0 := rfl

theorem rZero_ (H : Heap) (nx : Nat) : Ω 60 [] H nx = some (.p Id.zero.rv, [], []) := by
  refine om_run (ir := ir60) (by kernel_rfl) 0 ?_
  simp [ir60, Id.rv_z, ssB, List.idxOf?_cons, Go.Sx.LV.undef, Go.undef, Go.Sx.callO, Go.Sx.splice, Go.Sx.finish, Go.Sx.look, Go.Sx.push, Go.Sx.setObj, Go.Sx.setU, Go.Sx.setAll, Go.Sx.appO, Go.Sx.leI_eq, ltF]
theorem rPair_ (l r : Id) (H : Heap) (nx : Nat) : Ω 64 [.p l.rv, .p r.rv] H nx = some (.p (Id.pair l r).rv, [], []) := by
  refine om_run (ir := ir64) (by kernel_rfl) 0 ?_
  unfold Id.pair
  cases l <;> cases r
  all_goals simp [ir64, Id.rv_z, Id.rv_o, Id.rv_n, ssB, List.idxOf?_cons, Go.Sx.LV.undef, Go.undef, Go.Sx.callO, Go.Sx.splice, Go.Sx.finish, Go.Sx.look, Go.Sx.push, Go.Sx.setObj, Go.Sx.setU, Go.Sx.setAll, Go.Sx.appO, Go.Sx.leI_eq, ltF]

/-- Bytes, or none at all. -/
def obP (fl : Bool) : Option (List UInt8) → PV
  | none => .s (.slice none 0 0)
  | some l => .sl (bytP l) l.length 1 fl
theorem bytP_cons' (b : UInt8) (l : List UInt8) : bytP (b :: l) = .s (.int .u8 b.toNat) :: bytP l := rfl
theorem take_bytP (l : List UInt8) : List.take l.length (bytP l) = bytP l := by rw [← bytP_len, List.take_length]
theorem obP_n (fl : Bool) : obP fl none = .s (.slice none 0 0) := rfl
theorem obP_s (fl : Bool) (l : List UInt8) : obP fl (some l) = .sl (bytP l) l.length 1 fl := rfl

/-- Of bytes a share; what is left. -/
def mkId : Nat → Option (List UInt8) → Id × Option (List UInt8)
  | _, none => (.zero, none)
  | _, some [] => (.zero, none)
  | 0, some (b :: p) => (if b.toNat % 2 = 0 then .zero else .one, some p)
  | m + 1, some (b :: p) =>
    if b.toNat % 4 < 2 then (if b.toNat % 2 = 0 then .zero else .one, some p)
    else (Id.pair (mkId m (some p)).1 (mkId m (mkId m (some p)).2).1, (mkId m (mkId m (some p)).2).2)

theorem rem_u8 (b : UInt8) (k : Nat) (hk : 0 < k) : binI .rem .u8 b.toNat (k : Int) = some (.int .u8 (b.toNat % k : Nat)) := by
  have : binI .rem .u8 (b.toNat : Int) (k : Int) = some (.int .u8 ((b.toNat : Int).tmod k)) := by simp [binI]; omega
  rw [this, Int.tmod_eq_emod_of_nonneg (by omega)]
  norm_cast
theorem rem4_u8 (b : UInt8) : binI .rem .u8 b.toNat 4 = some (.int .u8 (b.toNat % 4 : Nat)) := rem_u8 b 4 (by decide)
theorem remTwo_u8 (b : UInt8) : binI .rem .u8 b.toNat 2 = some (.int .u8 (b.toNat % 2 : Nat)) := rem_u8 b 2 (by decide)

theorem rMake_none (m : Nat) (H : Heap) (nx : Nat) : Ω 21 [.p (.s (.slice none 0 0)), .int .i64 m] H nx = some (.tuple [.p Id.zero.rv, .p (.s (.slice none 0 0))], [], []) := by
  refine om_run (ir := ir21) (by kernel_rfl) 0 ?_
  simp [ir21, ssB, List.idxOf?_cons, Go.Sx.LV.undef, Go.undef, Go.Sx.callO, Go.Sx.splice, Go.Sx.finish, Go.Sx.look, Go.Sx.push, Go.Sx.setObj, Go.Sx.setU, Go.Sx.setAll, Go.Sx.appO, Go.Sx.leI_eq, ltF, rZero_, Id.rv_z]
theorem rMake_nil (m : Nat) (fl : Bool) (H : Heap) (nx : Nat) : Ω 21 [.p (.sl [] 0 1 fl), .int .i64 m] H nx = some (.tuple [.p Id.zero.rv, .p (.s (.slice none 0 0))], [], []) := by
  refine om_run (ir := ir21) (by kernel_rfl) 0 ?_
  simp [ir21, ssB, List.idxOf?_cons, Go.Sx.LV.undef, Go.undef, Go.Sx.callO, Go.Sx.splice, Go.Sx.finish, Go.Sx.look, Go.Sx.push, Go.Sx.setObj, Go.Sx.setU, Go.Sx.setAll, Go.Sx.appO, Go.Sx.leI_eq, ltF, rZero_, Id.rv_z]
theorem rMake_leaf (m : Nat) (b : UInt8) (p : List UInt8) (fl : Bool) (h30 : p.length < 2 ^ 31) (hm : m = 0 ∨ b.toNat % 4 < 2) (H : Heap) (nx : Nat) :
    Ω 21 [.p (obP fl (some (b :: p))), .int .i64 m] H nx = some (.tuple [.p (if b.toNat % 2 = 0 then Id.zero else Id.one).rv, .p (obP fl (some p))], [], []) := by
  refine om_run (ir := ir21) (by kernel_rfl) 0 ?_
  have r4 := rem4_u8 b
  have hp1 : ¬ ((p.length : Int) + 1 = 0) := by omega
  have hp2 : bytP [] = [] := rfl
  have r2 := remTwo_u8 b
  have hw : IntKind.i64.wrap ((b.toNat % 2 : Nat) : Int) = ((b.toNat % 2 : Nat) : Int) := wrap_i64 _ (by omega) (by omega)
  have hc : (if b.toNat % 2 = 0 then Id.zero else Id.one).rv = .imm [.s (.int .i64 (b.toNat % 2 : Nat)), .s (.pointer none), .s (.pointer none)] 0 := by
    rcases Nat.mod_two_eq_zero_or_one b.toNat with h | h <;> simp [h, Id.rv_z, Id.rv_o]
  rw [hc]
  generalize b.toNat % 2 = x at *
  by_cases h0 : m = 0
  · subst h0
    simp [ir21, ssB, List.idxOf?_cons, Go.Sx.LV.undef, Go.undef, Go.Sx.callO, Go.Sx.splice, Go.Sx.finish, Go.Sx.look, Go.Sx.push, Go.Sx.setObj, Go.Sx.setU, Go.Sx.setAll, Go.Sx.appO, Go.Sx.leI_eq, ltF, obP_s, bytP_cons', bytP_len, take_bytP, hp1, hp2, r4, r2, hw]
  · have h4 := hm.resolve_left h0
    have h4' : ((b.toNat % 4 : Nat) : Int) < 2 := by omega
    have h0' : ((m : Int) == 0) = false := by simp; omega
    have h5 : ¬ (2 : Int) ≤ ((b.toNat % 4 : Nat) : Int) := by omega
    generalize b.toNat % 4 = y at *
    simp [ir21, ssB, List.idxOf?_cons, Go.Sx.LV.undef, Go.undef, Go.Sx.callO, Go.Sx.splice, Go.Sx.finish, Go.Sx.look, Go.Sx.push, Go.Sx.setObj, Go.Sx.setU, Go.Sx.setAll, Go.Sx.appO, Go.Sx.leI_eq, ltF, obP_s, bytP_cons', bytP_len, take_bytP, hp1, hp2, r4, r2, hw, h5, h0']

def short (x : Option (List UInt8)) : Prop := ∀ l, x = some l → l.length < 2 ^ 31
theorem mkId_short : ∀ (m : Nat) (x : Option (List UInt8)), short x → short (mkId m x).2
  | _, none, h => by unfold mkId; exact h
  | _, some [], h => by unfold mkId; intro l hl; cases hl
  | 0, some (b :: p), h => by
    unfold mkId
    intro l hl
    obtain rfl := Option.some.inj hl
    have := h _ rfl
    simp at this; omega
  | m + 1, some (b :: p), h => by
    have hp : short (some p) := fun l hl => by
      obtain rfl := Option.some.inj hl
      have := h _ rfl
      simp at this; omega
    unfold mkId
    split
    · exact hp
    · exact mkId_short m _ (mkId_short m _ hp)
theorem rMake_ : ∀ (m : Nat) (x : Option (List UInt8)) (fl : Bool), m < 100 → short x → ∀ (H : Heap) (nx : Nat),
    Ω 21 [.p (obP fl x), .int .i64 m] H nx = some (.tuple [.p (mkId m x).1.rv, .p (obP fl (mkId m x).2)], [], [])
  | m, none, fl, hm, hx, H, nx => by
    unfold mkId; exact rMake_none m H nx
  | m, some [], fl, hm, hx, H, nx => by
    unfold mkId; exact rMake_nil m fl H nx
  | 0, some (b :: p), fl, hm, hx, H, nx => by
    have := hx _ rfl
    unfold mkId; exact rMake_leaf 0 b p fl (by simp at this; omega) (.inl rfl) H nx
  | m + 1, some (b :: p), fl, hm, hx, H, nx => by
    have hl := hx _ rfl
    have hp : short (some p) := fun l hl' => by
      obtain rfl := Option.some.inj hl'
      simp at hl; omega
    unfold mkId
    split
    · rename_i h4
      exact rMake_leaf (m + 1) b p fl (by simp at hl; omega) (.inr h4) H nx
    · rename_i h4
      refine om_run (ir := ir21) (by kernel_rfl) 0 ?_
      have r4 := rem4_u8 b
      have hp1 : ¬ ((p.length : Int) + 1 = 0) := by omega
      have hp2 : bytP [] = [] := rfl
      have h4' : ¬ ((b.toNat % 4 : Nat) : Int) < 2 := by omega
      have h0' : (((m + 1 : Nat) : Int) == 0) = false := by simp; omega
      have h5 : (2 : Int) ≤ ((b.toNat % 4 : Nat) : Int) := by omega
      have hw : IntKind.i64.wrap (((m + 1 : Nat) : Int) - 1) = (m : Int) := by rw [wrap_i64 _ (by omega) (by omega)]; omega
      have e1 := rMake_ m (some p) fl (by omega) hp
      have e2 := rMake_ m (mkId m (some p)).2 fl (by omega) (mkId_short _ _ hp)
      have e3 := rPair_ (mkId m (some p)).1 (mkId m (mkId m (some p)).2).1
      generalize mkId m (some p) = y at *
      generalize mkId m y.2 = z at *
      generalize (m + 1 : Nat) = M at *
      generalize b.toNat % 4 = t at *
      rw [obP_s] at e1
      simp [ir21, ssB, List.idxOf?_cons, Go.Sx.LV.undef, Go.undef, Go.Sx.callO, Go.Sx.splice, Go.Sx.finish, Go.Sx.look, Go.Sx.push, Go.Sx.setObj, Go.Sx.setU, Go.Sx.setAll, Go.Sx.appO, Go.Sx.leI_eq, ltF, obP_s, bytP_cons', bytP_len, take_bytP, hp1, hp2, r4, hw, h5, h0', e1, e2, e3]
end Go.Proofs.YtppeggedcaabkaaGreatDoor
end

section
namespace Go.Proofs.YtppeggedcaabkaaGreatDoor
open Go Go.Sx
set_option linter.unusedSimpArgs false
set_option linter.unusedVariables false

mutual
/-- The document's tree: its halves. -/
def Ev.kl : Ev → PV
  | .leaf _ => .s (.pointer none)
  | .node _ l _ => l.rv
def Ev.kr : Ev → PV
  | .leaf _ => .s (.pointer none)
  | .node _ _ r => r.rv
def Ev.rv : Ev → PV
  | .leaf n => .imm [.s (.int .u64 n), .s (.pointer none), .s (.pointer none)] 0
  | .node n l r => .imm [.s (.int .u64 n), l.rv, r.rv] 0
end
theorem Ev.rv_l (n : Nat) : (Ev.leaf n).rv = .imm [.s (.int .u64 n), .s (.pointer none), .s (.pointer none)] 0 := by rw [Ev.rv]
theorem Ev.rv_n (n : Nat) (l r : Ev) : (Ev.node n l r).rv = .imm [.s (.int .u64 n), l.rv, r.rv] 0 := by rw [Ev.rv]
theorem Ev.rv_imm (e : Ev) : ∃ cs, e.rv = .imm cs 0 := by
  cases e
  · exact ⟨_, Ev.rv_l _⟩
  · exact ⟨_, Ev.rv_n _ _ _⟩
theorem rLeaf_ (n : Nat) (H : Heap) (nx : Nat) : Ω 59 [.int .u64 n] H nx = some (.p (Ev.leaf n).rv, [], []) := by
  refine om_run (ir := ir59) (by kernel_rfl) 0 ?_
  simp [ir59, Ev.rv_l, ssB, List.idxOf?_cons, Go.Sx.LV.undef, Go.undef, Go.Sx.callO, Go.Sx.splice, Go.Sx.finish, Go.Sx.look, Go.Sx.push, Go.Sx.setObj, Go.Sx.setU, Go.Sx.setAll, Go.Sx.appO, Go.Sx.leI_eq, ltF]

/-- Is it in its form? -/
def Ev.norm : Ev → Prop
  | .leaf _ => True
  | .node _ l r => l.norm ∧ r.norm ∧ (l.n = 0 ∨ r.n = 0) ∧ ¬ (l.isLeaf = true ∧ r.isLeaf = true ∧ l.n = r.n)
theorem Ev.norm_up (e : Ev) (k : Nat) : (e.up k).norm ↔ e.norm := by cases e <;> exact Iff.rfl
theorem Ev.norm_down (e : Ev) (k : Nat) : (e.down k).norm ↔ e.norm := by cases e <;> exact Iff.rfl
theorem Ev.leaf_down (e : Ev) (k : Nat) : (e.down k).isLeaf = e.isLeaf := by cases e <;> rfl
theorem Ev.down_0 (e : Ev) : e.down 0 = e := by cases e <;> rfl
theorem Ev.down_depth (e : Ev) (k : Nat) : (e.down k).depth = e.depth := by cases e <;> rfl
theorem Ev.down_max (e : Ev) (k : Nat) (h : k ≤ e.n) : (e.down k).max + k = e.max := by
  cases e <;> simp [Ev.down, Ev.max, Ev.n] at h ⊢ <;> omega
theorem Ev.mk_norm {n : Nat} {l r : Ev} (hl : l.norm) (hr : r.norm) : (Ev.mk n l r).norm := by
  unfold Ev.mk
  split
  · trivial
  · rename_i hc
    refine ⟨(Ev.norm_down _ _).2 hl, (Ev.norm_down _ _).2 hr, ?_, ?_⟩
    · rw [Ev.down_n, Ev.down_n]
      rcases Nat.le_total l.n r.n with h | h
      · left; rw [Nat.min_eq_left h]; omega
      · right; rw [Nat.min_eq_right h]; omega
    · rw [Ev.leaf_down, Ev.leaf_down, Ev.down_n, Ev.down_n]
      rintro ⟨h1, h2, h3⟩
      exact hc ⟨h1, h2, by omega⟩
theorem Ev.mk_id {n : Nat} {l r : Ev} (h : (Ev.node n l r).norm) : Ev.mk n l r = .node n l r := by
  obtain ⟨_, _, h1, h2⟩ := h
  unfold Ev.mk
  rw [if_neg h2, show Min.min l.n r.n = 0 by omega, Ev.down_0, Ev.down_0, Nat.add_zero]
theorem Ev.mk_depth (n : Nat) (l r : Ev) : (Ev.mk n l r).depth ≤ 1 + Max.max l.depth r.depth := by
  unfold Ev.mk
  split
  · simp [Ev.depth]
  · simp [Ev.depth, Ev.down_depth]
theorem Ev.mk_max (n : Nat) (l r : Ev) : (Ev.mk n l r).max = n + Max.max l.max r.max := by
  unfold Ev.mk
  split
  · rename_i h
    obtain ⟨h1, h2, h3⟩ := h
    cases l with
    | node => cases h1
    | leaf a =>
      cases r with
      | node => cases h2
      | leaf b =>
        simp only [Ev.n] at h3
        subst h3
        simp [Ev.max, Ev.n]
  · have h1 := Ev.down_max l (Min.min l.n r.n) (Nat.min_le_left _ _)
    have h2 := Ev.down_max r (Min.min l.n r.n) (Nat.min_le_right _ _)
    simp only [Ev.max]
    omega

theorem wz : IntKind.u64.wrap 0 = 0 := by decide
theorem rMin_ : ∀ (e : Ev), e.norm → e.max < 2 ^ 63 → ∀ (H : Heap) (nx : Nat), Ω 114 [.p e.rv] H nx = some (.int .u64 e.n, [], [])
  | .leaf n, _, _, H, nx => by
    refine om_run (ir := ir114) (by kernel_rfl) 0 ?_
    simp [ir114, Ev.rv_l, Ev.n_l, ssB, List.idxOf?_cons, Go.Sx.LV.undef, Go.undef, Go.Sx.callO, Go.Sx.splice, Go.Sx.finish, Go.Sx.look, Go.Sx.push, Go.Sx.setObj, Go.Sx.setU, Go.Sx.setAll, Go.Sx.appO, Go.Sx.leI_eq, ltF]
  | .node n l r, hn, hm, H, nx => by
    refine om_run (ir := ir114) (by kernel_rfl) 0 ?_
    have d1 := Ev.max_l n l r
    have d2 := Ev.max_r n l r
    have m1 := Ev.n_max l
    have m2 := Ev.n_max r
    have e1 := rMin_ l hn.1 (by omega)
    have e2 := rMin_ r hn.2.1 (by omega)
    obtain ⟨cl, hcl⟩ := Ev.rv_imm l
    have w1 : IntKind.u64.wrap ((n : Int) + l.n) = (n : Int) + l.n := wrap_u64' _ (by omega) (by omega)
    have w2 : IntKind.u64.wrap ((n : Int) + r.n) = (n : Int) + r.n := wrap_u64' _ (by omega) (by omega)
    have w0 : IntKind.u64.wrap (n : Int) = n := wrap_u64' _ (by omega) (by omega)
    have h0 := hn.2.2.1
    rw [hcl] at e1
    generalize l.n = a at *
    generalize r.n = b at *
    rcases h0 with rfl | rfl
    · by_cases hb : b = 0
      · subst hb
        simp [ir114, Ev.rv_n, Ev.n_n, hcl, e1, e2, w0, w1, w2, ssB, List.idxOf?_cons, Go.Sx.LV.undef, Go.undef, Go.Sx.callO, Go.Sx.splice, Go.Sx.finish, Go.Sx.look, Go.Sx.push, Go.Sx.setObj, Go.Sx.setU, Go.Sx.setAll, Go.Sx.appO, Go.Sx.leI_eq, ltF]
      · have hb' : (0 : Int) < b := by omega
        have hb2 : 0 < b := by omega
        simp [ir114, Ev.rv_n, Ev.n_n, hcl, e1, e2, w0, w1, w2, hb', hb2, hb, ssB, List.idxOf?_cons, Go.Sx.LV.undef, Go.undef, Go.Sx.callO, Go.Sx.splice, Go.Sx.finish, Go.Sx.look, Go.Sx.push, Go.Sx.setObj, Go.Sx.setU, Go.Sx.setAll, Go.Sx.appO, Go.Sx.leI_eq, ltF]
    · have hb' : ¬ (a : Int) < 0 := by omega
      simp [ir114, Ev.rv_n, Ev.n_n, hcl, e1, e2, w0, w1, w2, hb', ssB, List.idxOf?_cons, Go.Sx.LV.undef, Go.undef, Go.Sx.callO, Go.Sx.splice, Go.Sx.finish, Go.Sx.look, Go.Sx.push, Go.Sx.setObj, Go.Sx.setU, Go.Sx.setAll, Go.Sx.appO, Go.Sx.leI_eq, ltF]

theorem rNode_eq (n a b : Nat) (l r : Ev) (hl : l = .leaf a) (hr : r = .leaf a) (h1 : n + a < 2 ^ 64) (H : Heap) (nx : Nat) : Ω 61 [.int .u64 n, .p l.rv, .p r.rv] H nx = some (.p (Ev.leaf (n + a)).rv, [], []) := by
  refine om_run (ir := ir61) (by kernel_rfl) 0 ?_
  have hw : IntKind.u64.wrap ((n : Int) + a) = ((n + a : Nat) : Int) := by rw [wrap_u64' _ (by omega) (by omega)]; omega
  have e := rLeaf_ (n + a)
  subst hl hr
  generalize n + a = m at *
  simp [ir61, Ev.rv_l, ssB, List.idxOf?_cons, Go.Sx.LV.undef, Go.undef, Go.Sx.callO, Go.Sx.splice, Go.Sx.finish, Go.Sx.look, Go.Sx.push, Go.Sx.setObj, Go.Sx.setU, Go.Sx.setAll, Go.Sx.appO, Go.Sx.leI_eq, ltF, hw, e]
theorem rNode_ne (n : Nat) (l r : Ev) (hl : l.norm) (hr : r.norm) (hc : ¬ (l.isLeaf = true ∧ r.isLeaf = true ∧ l.n = r.n)) (h1 : n + l.max < 2 ^ 63) (h2 : r.max < 2 ^ 63) (H : Heap) (nx : Nat) :
    Ω 61 [.int .u64 n, .p l.rv, .p r.rv] H nx = some (.p (Ev.node (n + Min.min l.n r.n) (l.down (Min.min l.n r.n)) (r.down (Min.min l.n r.n))).rv, [], []) := by
  refine om_run (ir := ir61) (by kernel_rfl) 0 ?_
  have m1 := Ev.n_max l
  have m2 := Ev.n_max r
  have e1 := rMin_ l hl (by omega)
  have e2 := rMin_ r hr h2
  have hw1 : ∀ m : Nat, m ≤ l.n → IntKind.u64.wrap ((n : Int) + m) = ((n + m : Nat) : Int) := fun m hm => by rw [wrap_u64' _ (by omega) (by omega)]; omega
  have hw2 : ∀ m : Nat, m ≤ l.n → IntKind.u64.wrap ((l.n : Int) - m) = ((l.n - m : Nat) : Int) := fun m hm => by rw [wrap_u64' _ (by omega) (by omega)]; omega
  have hw3 : ∀ m : Nat, m ≤ r.n → IntKind.u64.wrap ((r.n : Int) - m) = ((r.n - m : Nat) : Int) := fun m hm => by rw [wrap_u64' _ (by omega) (by omega)]; omega
  by_cases hlt : r.n < l.n
  · rw [show Min.min l.n r.n = r.n by omega]
    have a1 := hw1 r.n (by omega)
    have a2 := hw2 r.n (by omega)
    have a3 := hw3 r.n (by omega)
    have hlt' : (r.n : Int) < l.n := by omega
    generalize n + r.n = t at *
    cases l with
    | leaf a =>
      cases r with
      | leaf b =>
        simp only [Ev.n_l] at *
        have hne : ((a : Int) == b) = false := by simp; omega
        have hne' : ¬ a = b := by omega
        rw [Ev.rv_l] at e1 e2
        simp [ir61, Ev.rv_l, Ev.rv_n, Ev.down, ssB, List.idxOf?_cons, Go.Sx.LV.undef, Go.undef, Go.Sx.callO, Go.Sx.splice, Go.Sx.finish, Go.Sx.look, Go.Sx.push, Go.Sx.setObj, Go.Sx.setU, Go.Sx.setAll, Go.Sx.appO, Go.Sx.leI_eq, ltF, e1, e2, wz, a1, a2, a3, hlt, hlt', hne, hne']
      | node b b1 b2 =>
        simp only [Ev.n_l, Ev.n_n] at *
        obtain ⟨cb, hcb⟩ := Ev.rv_imm b1
        obtain ⟨cb2, hcb2⟩ := Ev.rv_imm b2
        rw [Ev.rv_l] at e1
        rw [Ev.rv_n, hcb, hcb2] at e2
        simp [ir61, Ev.rv_l, Ev.rv_n, Ev.down, ssB, List.idxOf?_cons, Go.Sx.LV.undef, Go.undef, Go.Sx.callO, Go.Sx.splice, Go.Sx.finish, Go.Sx.look, Go.Sx.push, Go.Sx.setObj, Go.Sx.setU, Go.Sx.setAll, Go.Sx.appO, Go.Sx.leI_eq, ltF, e1, e2, wz, a1, a2, a3, hlt, hlt', hcb, hcb2]
    | node a x y =>
      obtain ⟨ca, hca⟩ := Ev.rv_imm x
      obtain ⟨ca2, hca2⟩ := Ev.rv_imm y
      cases r with
      | leaf b =>
        simp only [Ev.n_l, Ev.n_n] at *
        rw [Ev.rv_l] at e2
        rw [Ev.rv_n, hca, hca2] at e1
        simp [ir61, Ev.rv_l, Ev.rv_n, Ev.down, ssB, List.idxOf?_cons, Go.Sx.LV.undef, Go.undef, Go.Sx.callO, Go.Sx.splice, Go.Sx.finish, Go.Sx.look, Go.Sx.push, Go.Sx.setObj, Go.Sx.setU, Go.Sx.setAll, Go.Sx.appO, Go.Sx.leI_eq, ltF, e1, e2, wz, a1, a2, a3, hlt, hlt', hca, hca2]
      | node b b1 b2 =>
        obtain ⟨cb, hcb⟩ := Ev.rv_imm b1
        obtain ⟨cb2, hcb2⟩ := Ev.rv_imm b2
        simp only [Ev.n_n] at *
        rw [Ev.rv_n, hcb, hcb2] at e2
        rw [Ev.rv_n, hca, hca2] at e1
        simp [ir61, Ev.rv_l, Ev.rv_n, Ev.down, ssB, List.idxOf?_cons, Go.Sx.LV.undef, Go.undef, Go.Sx.callO, Go.Sx.splice, Go.Sx.finish, Go.Sx.look, Go.Sx.push, Go.Sx.setObj, Go.Sx.setU, Go.Sx.setAll, Go.Sx.appO, Go.Sx.leI_eq, ltF, e1, e2, wz, a1, a2, a3, hlt, hlt', hca, hca2, hcb, hcb2]
  · rw [show Min.min l.n r.n = l.n by omega]
    have a1 := hw1 l.n (by omega)
    have a2 := hw2 l.n (by omega)
    have a3 := hw3 l.n (by omega)
    have hlt' : ¬ (r.n : Int) < l.n := by omega
    generalize n + l.n = t at *
    cases l with
    | leaf a =>
      cases r with
      | leaf b =>
        simp only [Ev.n_l] at *
        have hne' : ¬ a = b := fun h => hc ⟨rfl, rfl, h⟩
        have hne : ((a : Int) == b) = false := by simp; omega
        rw [Ev.rv_l] at e1 e2
        simp [ir61, Ev.rv_l, Ev.rv_n, Ev.down, ssB, List.idxOf?_cons, Go.Sx.LV.undef, Go.undef, Go.Sx.callO, Go.Sx.splice, Go.Sx.finish, Go.Sx.look, Go.Sx.push, Go.Sx.setObj, Go.Sx.setU, Go.Sx.setAll, Go.Sx.appO, Go.Sx.leI_eq, ltF, e1, e2, wz, a1, a2, a3, hlt, hlt', hne, hne']
      | node b b1 b2 =>
        simp only [Ev.n_l, Ev.n_n] at *
        obtain ⟨cb, hcb⟩ := Ev.rv_imm b1
        obtain ⟨cb2, hcb2⟩ := Ev.rv_imm b2
        rw [Ev.rv_l] at e1
        rw [Ev.rv_n, hcb, hcb2] at e2
        simp [ir61, Ev.rv_l, Ev.rv_n, Ev.down, ssB, List.idxOf?_cons, Go.Sx.LV.undef, Go.undef, Go.Sx.callO, Go.Sx.splice, Go.Sx.finish, Go.Sx.look, Go.Sx.push, Go.Sx.setObj, Go.Sx.setU, Go.Sx.setAll, Go.Sx.appO, Go.Sx.leI_eq, ltF, e1, e2, wz, a1, a2, a3, hlt, hlt', hcb, hcb2]
    | node a x y =>
      obtain ⟨ca, hca⟩ := Ev.rv_imm x
      obtain ⟨ca2, hca2⟩ := Ev.rv_imm y
      cases r with
      | leaf b =>
        simp only [Ev.n_l, Ev.n_n] at *
        rw [Ev.rv_l] at e2
        rw [Ev.rv_n, hca, hca2] at e1
        simp [ir61, Ev.rv_l, Ev.rv_n, Ev.down, ssB, List.idxOf?_cons, Go.Sx.LV.undef, Go.undef, Go.Sx.callO, Go.Sx.splice, Go.Sx.finish, Go.Sx.look, Go.Sx.push, Go.Sx.setObj, Go.Sx.setU, Go.Sx.setAll, Go.Sx.appO, Go.Sx.leI_eq, ltF, e1, e2, wz, a1, a2, a3, hlt, hlt', hca, hca2]
      | node b b1 b2 =>
        obtain ⟨cb, hcb⟩ := Ev.rv_imm b1
        obtain ⟨cb2, hcb2⟩ := Ev.rv_imm b2
        simp only [Ev.n_n] at *
        rw [Ev.rv_n, hcb, hcb2] at e2
        rw [Ev.rv_n, hca, hca2] at e1
        simp [ir61, Ev.rv_l, Ev.rv_n, Ev.down, ssB, List.idxOf?_cons, Go.Sx.LV.undef, Go.undef, Go.Sx.callO, Go.Sx.splice, Go.Sx.finish, Go.Sx.look, Go.Sx.push, Go.Sx.setObj, Go.Sx.setU, Go.Sx.setAll, Go.Sx.appO, Go.Sx.leI_eq, ltF, e1, e2, wz, a1, a2, a3, hlt, hlt', hca, hca2, hcb, hcb2]
theorem rNode_ (n : Nat) (l r : Ev) (hl : l.norm) (hr : r.norm) (h1 : n + l.max < 2 ^ 63) (h2 : r.max < 2 ^ 63) (H : Heap) (nx : Nat) :
    Ω 61 [.int .u64 n, .p l.rv, .p r.rv] H nx = some (.p (Ev.mk n l r).rv, [], []) := by
  unfold Ev.mk
  by_cases hc : l.isLeaf = true ∧ r.isLeaf = true ∧ l.n = r.n
  · rw [if_pos hc]
    cases l with
    | leaf a =>
      cases r with
      | leaf b =>
        obtain rfl : a = b := hc.2.2
        exact rNode_eq n a a _ _ rfl rfl (by simp [Ev.max] at h1; omega) H nx
      | node b b1 b2 => cases hc.2.1
    | node a a1 a2 => cases hc.1
  · rw [if_neg hc]
    exact rNode_ne n l r hl hr hc h1 h2 H nx
end Go.Proofs.YtppeggedcaabkaaGreatDoor
end

section
namespace Go.Proofs.YtppeggedcaabkaaGreatDoor
open Go Go.Sx
set_option linter.unusedSimpArgs false
set_option linter.unusedVariables false

theorem rAdd_ (e : Ev) (n : Nat) (h : e.n + n < 2 ^ 64) (H : Heap) (nx : Nat) : Ω 146 [.p e.rv, .int .u64 n] H nx = some (.p (e.up n).rv, [], []) := by
  refine om_run (ir := ir146) (by kernel_rfl) 0 ?_
  have hw : IntKind.u64.wrap ((e.n : Int) + n) = ((e.n + n : Nat) : Int) := by rw [wrap_u64' _ (by omega) (by omega)]; omega
  cases e with
  | leaf a =>
    simp only [Ev.n_l] at hw
    simp [ir146, Ev.rv_l, Ev.up, hw, ssB, List.idxOf?_cons, Go.Sx.LV.undef, Go.undef, Go.Sx.callO, Go.Sx.splice, Go.Sx.finish, Go.Sx.look, Go.Sx.push, Go.Sx.setObj, Go.Sx.setU, Go.Sx.setAll, Go.Sx.appO, Go.Sx.leI_eq, ltF]
  | node a l r =>
    simp only [Ev.n_n] at hw
    obtain ⟨cl, hcl⟩ := Ev.rv_imm l
    obtain ⟨cr, hcr⟩ := Ev.rv_imm r
    simp [ir146, Ev.rv_n, Ev.up, hw, hcl, hcr, ssB, List.idxOf?_cons, Go.Sx.LV.undef, Go.undef, Go.Sx.callO, Go.Sx.splice, Go.Sx.finish, Go.Sx.look, Go.Sx.push, Go.Sx.setObj, Go.Sx.setU, Go.Sx.setAll, Go.Sx.appO, Go.Sx.leI_eq, ltF]
/-- The halves, as high as they are. -/
def Ev.lf : Ev → Ev
  | .leaf n => .leaf n
  | .node n l _ => l.up n
def Ev.rt : Ev → Ev
  | .leaf n => .leaf n
  | .node n _ r => r.up n
theorem Ev.lf_max (e : Ev) : e.lf.max ≤ e.max := by
  cases e with
  | leaf => exact Nat.le_refl _
  | node n l r => have := Ev.max_l n l r; simp only [Ev.lf, Ev.up_max]; omega
theorem Ev.rt_max (e : Ev) : e.rt.max ≤ e.max := by
  cases e with
  | leaf => exact Nat.le_refl _
  | node n l r => have := Ev.max_r n l r; simp only [Ev.rt, Ev.up_max]; omega
theorem Ev.lf_norm {e : Ev} (h : e.norm) : e.lf.norm := by
  cases e with
  | leaf => trivial
  | node n l r => exact (Ev.norm_up _ _).2 h.1
theorem Ev.rt_norm {e : Ev} (h : e.norm) : e.rt.norm := by
  cases e with
  | leaf => trivial
  | node n l r => exact (Ev.norm_up _ _).2 h.2.1
theorem Ev.lf_depth (e : Ev) (d : Nat) (h : e.depth ≤ d + 1) : e.lf.depth ≤ d := by
  cases e with
  | leaf => exact Nat.zero_le _
  | node n l r => simp only [Ev.lf, Ev.up_depth]; simp only [Ev.depth] at h; omega
theorem Ev.rt_depth (e : Ev) (d : Nat) (h : e.depth ≤ d + 1) : e.rt.depth ≤ d := by
  cases e with
  | leaf => exact Nat.zero_le _
  | node n l r => simp only [Ev.rt, Ev.up_depth]; simp only [Ev.depth] at h; omega
theorem rLeft_ (e : Ev) (h : e.max < 2 ^ 64) (H : Heap) (nx : Nat) : Ω 92 [.p e.rv] H nx = some (.p e.lf.rv, [], []) := by
  refine om_run (ir := ir92) (by kernel_rfl) 0 ?_
  cases e with
  | leaf a => simp [ir92, Ev.rv_l, Ev.lf, ssB, List.idxOf?_cons, Go.Sx.LV.undef, Go.undef, Go.Sx.callO, Go.Sx.splice, Go.Sx.finish, Go.Sx.look, Go.Sx.push, Go.Sx.setObj, Go.Sx.setU, Go.Sx.setAll, Go.Sx.appO, Go.Sx.leI_eq, ltF]
  | node a l r =>
    have m1 := Ev.max_l a l r
    have m2 := l.n_max
    have e1 := rAdd_ l a (by omega)
    obtain ⟨cl, hcl⟩ := Ev.rv_imm l
    rw [hcl] at e1
    simp [ir92, Ev.rv_n, Ev.lf, ssB, List.idxOf?_cons, Go.Sx.LV.undef, Go.undef, Go.Sx.callO, Go.Sx.splice, Go.Sx.finish, Go.Sx.look, Go.Sx.push, Go.Sx.setObj, Go.Sx.setU, Go.Sx.setAll, Go.Sx.appO, Go.Sx.leI_eq, ltF, hcl, e1]
theorem rRight_ (e : Ev) (h : e.max < 2 ^ 64) (H : Heap) (nx : Nat) : Ω 93 [.p e.rv] H nx = some (.p e.rt.rv, [], []) := by
  refine om_run (ir := ir93) (by kernel_rfl) 0 ?_
  cases e with
  | leaf a => simp [ir93, Ev.rv_l, Ev.rt, ssB, List.idxOf?_cons, Go.Sx.LV.undef, Go.undef, Go.Sx.callO, Go.Sx.splice, Go.Sx.finish, Go.Sx.look, Go.Sx.push, Go.Sx.setObj, Go.Sx.setU, Go.Sx.setAll, Go.Sx.appO, Go.Sx.leI_eq, ltF]
  | node a l r =>
    have m1 := Ev.max_r a l r
    have m2 := r.n_max
    have e1 := rAdd_ r a (by omega)
    obtain ⟨cl, hcl⟩ := Ev.rv_imm l
    obtain ⟨cr, hcr⟩ := Ev.rv_imm r
    rw [hcr] at e1
    simp [ir93, Ev.rv_n, Ev.rt, ssB, List.idxOf?_cons, Go.Sx.LV.undef, Go.undef, Go.Sx.callO, Go.Sx.splice, Go.Sx.finish, Go.Sx.look, Go.Sx.push, Go.Sx.setObj, Go.Sx.setU, Go.Sx.setAll, Go.Sx.appO, Go.Sx.leI_eq, ltF, hcl, hcr, e1]

/-- The document's comparison. -/
def Ev.rleq : Nat → Ev → Ev → Bool
  | 0, a, b => decide (a.n ≤ b.n)
  | d + 1, a, b => if a.isLeaf && b.isLeaf then decide (a.n ≤ b.n) else Ev.rleq d a.lf b.lf && Ev.rleq d a.rt b.rt
theorem rLeq_leaf (n m : Nat) (H : Heap) (nx : Nat) : Ω 44 [.p (Ev.leaf n).rv, .p (Ev.leaf m).rv] H nx = some (.bool (decide (n ≤ m)), [], []) := by
  refine om_run (ir := ir44) (by kernel_rfl) 0 ?_
  simp [ir44, Ev.rv_l, ssB, List.idxOf?_cons, Go.Sx.LV.undef, Go.undef, Go.Sx.callO, Go.Sx.splice, Go.Sx.finish, Go.Sx.look, Go.Sx.push, Go.Sx.setObj, Go.Sx.setU, Go.Sx.setAll, Go.Sx.appO, Go.Sx.leI_eq, ltF]
  try exact decide_eq_decide.2 Iff.rfl
theorem rLeq_ : ∀ (d : Nat) (a b : Ev), a.depth ≤ d → b.depth ≤ d → a.max < 2 ^ 63 → b.max < 2 ^ 63 → ∀ (H : Heap) (nx : Nat), Ω 44 [.p a.rv, .p b.rv] H nx = some (.bool (Ev.rleq d a b), [], []) := by
  intro d
  induction d with
  | zero =>
    intro a b ha hb _ _ H nx
    cases a with
    | node n l r => simp [Ev.depth] at ha
    | leaf n =>
      cases b with
      | node n l r => simp [Ev.depth] at hb
      | leaf m => exact rLeq_leaf n m H nx
  | succ d ih =>
    intro a b ha hb hma hmb H nx
    have e1 := ih a.lf b.lf (a.lf_depth d ha) (b.lf_depth d hb) (Nat.lt_of_le_of_lt a.lf_max hma) (Nat.lt_of_le_of_lt b.lf_max hmb)
    have e2 := ih a.rt b.rt (a.rt_depth d ha) (b.rt_depth d hb) (Nat.lt_of_le_of_lt a.rt_max hma) (Nat.lt_of_le_of_lt b.rt_max hmb)
    have l1 := rLeft_ a (by omega)
    have l2 := rLeft_ b (by omega)
    have r1 := rRight_ a (by omega)
    have r2 := rRight_ b (by omega)
    have hu : Ev.rleq (d + 1) a b = if a.isLeaf && b.isLeaf then decide (a.n ≤ b.n) else Ev.rleq d a.lf b.lf && Ev.rleq d a.rt b.rt := rfl
    generalize Ev.rleq d a.lf b.lf = x at *
    generalize Ev.rleq d a.rt b.rt = y at *
    generalize a.lf = al at *
    generalize a.rt = ar at *
    generalize b.lf = bl at *
    generalize b.rt = br at *
    cases a with
    | leaf n =>
      cases b with
      | leaf m => rw [hu]; exact rLeq_leaf n m H nx
      | node m u v =>
        rw [hu]
        refine om_run (ir := ir44) (by kernel_rfl) 0 ?_
        obtain ⟨cu, hcu⟩ := Ev.rv_imm u
        rw [Ev.rv_l] at l1 r1
        rw [Ev.rv_n, hcu] at l2 r2
        cases x <;> simp [ir44, Ev.rv_l, Ev.rv_n, hcu, Ev.isLeaf, ssB, List.idxOf?_cons, Go.Sx.LV.undef, Go.undef, Go.Sx.callO, Go.Sx.splice, Go.Sx.finish, Go.Sx.look, Go.Sx.push, Go.Sx.setObj, Go.Sx.setU, Go.Sx.setAll, Go.Sx.appO, Go.Sx.leI_eq, ltF, e1, e2, l1, l2, r1, r2]
    | node n s t =>
      rw [hu]
      refine om_run (ir := ir44) (by kernel_rfl) 0 ?_
      obtain ⟨cs, hcs⟩ := Ev.rv_imm s
      rw [Ev.rv_n, hcs] at l1 r1
      obtain ⟨cb, hcb⟩ := Ev.rv_imm b
      rw [hcb] at l2 r2
      cases x <;> simp [ir44, Ev.rv_n, hcs, hcb, Ev.isLeaf, ssB, List.idxOf?_cons, Go.Sx.LV.undef, Go.undef, Go.Sx.callO, Go.Sx.splice, Go.Sx.finish, Go.Sx.look, Go.Sx.push, Go.Sx.setObj, Go.Sx.setU, Go.Sx.setAll, Go.Sx.appO, Go.Sx.leI_eq, ltF, e1, e2, l1, l2, r1, r2]

theorem rleq_low : ∀ (d : Nat) (a : Ev) (m : Nat), Ev.rleq d a (.leaf m) = true → a.n ≤ m
  | 0, a, m, h => of_decide_eq_true h
  | d + 1, a, m, h => by
    cases a with
    | leaf n => exact of_decide_eq_true h
    | node n l r =>
      simp only [Ev.rleq, Ev.isLeaf, Bool.false_and, Bool.false_eq_true, if_false, Bool.and_eq_true] at h
      have := rleq_low d _ m h.1
      simp only [Ev.lf, Ev.up_n] at this
      simp only [Ev.n]
      omega
theorem rleq_leaf : ∀ (d n : Nat) (b : Ev), b.norm → b.depth ≤ d → Ev.rleq d (.leaf n) b = decide (n ≤ b.n)
  | 0, n, b, _, _ => rfl
  | d + 1, n, b, hb, hd => by
    cases b with
    | leaf m => rfl
    | node m l r =>
      have e1 := rleq_leaf d n _ (Ev.lf_norm hb) (Ev.lf_depth _ d hd)
      have e2 := rleq_leaf d n _ (Ev.rt_norm hb) (Ev.rt_depth _ d hd)
      have h0 := hb.2.2.1
      have hu : Ev.rleq (d + 1) (.leaf n) (.node m l r) = (Ev.rleq d (.leaf n) (Ev.node m l r).lf && Ev.rleq d (.leaf n) (Ev.node m l r).rt) := rfl
      rw [hu, e1, e2]
      have q1 : (Ev.node m l r).lf.n = l.n + m := Ev.up_n _ _
      have q2 : (Ev.node m l r).rt.n = r.n + m := Ev.up_n _ _
      have q3 : (Ev.node m l r).n = m := rfl
      generalize (Ev.node m l r).lf.n = x at *
      generalize (Ev.node m l r).rt.n = y at *
      generalize (Ev.node m l r).n = z at *
      rw [← Bool.decide_and]
      exact decide_eq_decide.2 (by omega)
theorem rleq_leq : ∀ (d : Nat) (a b : Ev), a.depth ≤ d → b.depth ≤ d → b.norm → Ev.rleq d a b = Ev.leq d a b
  | 0, a, b, _, _, _ => rfl
  | d + 1, a, b, ha, hb, hn => by
    cases a with
    | leaf n => rw [rleq_leaf _ _ _ hn hb]; rfl
    | node n l r =>
      have e1 := rleq_leq d _ _ (Ev.lf_depth _ d ha) (Ev.lf_depth _ d hb) (Ev.lf_norm hn)
      have e2 := rleq_leq d _ _ (Ev.rt_depth _ d ha) (Ev.rt_depth _ d hb) (Ev.rt_norm hn)
      have hl : b.left.up b.n = b.lf := by cases b <;> simp [Ev.left, Ev.up, Ev.lf, Ev.n]
      have hr : b.right.up b.n = b.rt := by cases b <;> simp [Ev.right, Ev.up, Ev.rt, Ev.n]
      have hlq : Ev.leq (d + 1) (.node n l r) b = if b.n < n ∧ b.isLeaf then false else Ev.leq d (l.up n) (b.left.up b.n) && Ev.leq d (r.up n) (b.right.up b.n) := rfl
      have hrq : Ev.rleq (d + 1) (.node n l r) b = (Ev.rleq d (Ev.node n l r).lf b.lf && Ev.rleq d (Ev.node n l r).rt b.rt) := by simp [Ev.rleq, Ev.isLeaf]
      rw [hlq, hrq, hl, hr, ← show Ev.lf (.node n l r) = l.up n from rfl, ← show Ev.rt (.node n l r) = r.up n from rfl, ← e1, ← e2]
      split
      · rename_i hc
        obtain ⟨h1, h2⟩ := hc
        cases b with
        | node => cases h2
        | leaf m =>
          cases hq : Ev.rleq d (Ev.node n l r).lf (Ev.leaf m).lf with
          | false => rfl
          | true =>
            have := rleq_low d _ m hq
            simp only [Ev.lf, Ev.up_n] at this
            simp only [Ev.n] at h1
            omega
      · rfl
theorem leq_fuel : ∀ (d d' : Nat) (a b : Ev), a.depth ≤ d → a.depth ≤ d' → Ev.leq d a b = Ev.leq d' a b
  | d, d', .leaf n, b, _, _ => by cases d <;> cases d' <;> rfl
  | 0, _, .node n l r, b, h, _ => by simp [Ev.depth] at h
  | _, 0, .node n l r, b, _, h => by simp [Ev.depth] at h
  | d + 1, d' + 1, .node n l r, b, h, h' => by
    have q := Nat.le_max_left l.depth r.depth
    have q' := Nat.le_max_right l.depth r.depth
    simp only [Ev.depth] at h h'
    simp only [Ev.leq]
    rw [leq_fuel d d' (l.up n) _ (by rw [Ev.up_depth]; omega) (by rw [Ev.up_depth]; omega), leq_fuel d d' (r.up n) _ (by rw [Ev.up_depth]; omega) (by rw [Ev.up_depth]; omega)]
/-- The document's comparison is the program's. -/
theorem rLeq' (a b : Ev) (hb : b.norm) (ha' : a.max < 2 ^ 63) (hb' : b.max < 2 ^ 63) (H : Heap) (nx : Nat) : Ω 44 [.p a.rv, .p b.rv] H nx = some (.bool (Ev.leqb a b), [], []) := by
  rw [rLeq_ (Max.max a.depth b.depth) a b (Nat.le_max_left _ _) (Nat.le_max_right _ _) ha' hb' H nx, rleq_leq _ a b (Nat.le_max_left _ _) (Nat.le_max_right _ _) hb, leq_fuel _ a.depth a b (Nat.le_max_left _ _) (Nat.le_refl _)]
  rfl

/-- Of bytes a tree; what is left. -/
def mkEv : Nat → Option (List UInt8) → Ev × Option (List UInt8)
  | _, none => (.leaf 0, none)
  | _, some [] => (.leaf 0, none)
  | 0, some (b :: p) => (.leaf (b.toNat / 4 % 8), some p)
  | m + 1, some (b :: p) =>
    if b.toNat % 4 < 2 then (.leaf (b.toNat / 4 % 8), some p)
    else (Ev.mk (b.toNat / 4 % 4) (mkEv m (some p)).1 (mkEv m (mkEv m (some p)).2).1, (mkEv m (mkEv m (some p)).2).2)
theorem mkEv_short : ∀ (m : Nat) (x : Option (List UInt8)), short x → short (mkEv m x).2
  | _, none, h => by unfold mkEv; exact h
  | _, some [], h => by unfold mkEv; intro l hl; cases hl
  | 0, some (b :: p), h => by
    unfold mkEv
    intro l hl
    obtain rfl := Option.some.inj hl
    have := h _ rfl
    simp at this; omega
  | m + 1, some (b :: p), h => by
    have hp : short (some p) := fun l hl => by
      obtain rfl := Option.some.inj hl
      have := h _ rfl
      simp at this; omega
    unfold mkEv
    split
    · exact hp
    · exact mkEv_short m _ (mkEv_short m _ hp)
theorem mkEv_ok : ∀ (m : Nat) (x : Option (List UInt8)), (mkEv m x).1.norm ∧ (mkEv m x).1.depth ≤ m ∧ (mkEv m x).1.max ≤ 7 + 3 * m
  | _, none => by unfold mkEv; exact ⟨trivial, Nat.zero_le _, Nat.zero_le _⟩
  | _, some [] => by unfold mkEv; exact ⟨trivial, Nat.zero_le _, Nat.zero_le _⟩
  | 0, some (b :: p) => by unfold mkEv; exact ⟨trivial, Nat.zero_le _, by simp only [Ev.max]; omega⟩
  | m + 1, some (b :: p) => by
    unfold mkEv
    split
    · exact ⟨trivial, Nat.zero_le _, by simp only [Ev.max]; omega⟩
    · obtain ⟨a1, a2, a3⟩ := mkEv_ok m (some p)
      obtain ⟨b1, b2, b3⟩ := mkEv_ok m (mkEv m (some p)).2
      refine ⟨Ev.mk_norm a1 b1, Nat.le_trans (Ev.mk_depth _ _ _) (by omega), ?_⟩
      rw [Ev.mk_max]
      omega

theorem quo4_u8 (b : UInt8) : binI .quo .u8 b.toNat 4 = some (.int .u8 (b.toNat / 4 : Nat)) := by
  have hb := b.toNat_lt
  have : binI .quo .u8 (b.toNat : Int) 4 = some (.int .u8 (IntKind.u8.wrap ((b.toNat : Int).tdiv 4))) := by simp [binI]
  rw [this, Int.tdiv_eq_ediv_of_nonneg (by omega)]
  have : IntKind.u8.wrap ((b.toNat : Int) / 4) = ((b.toNat / 4 : Nat) : Int) := by
    simp [IntKind.wrap, IntKind.signed, IntKind.bits]
    omega
  rw [this]
theorem rem8_u8 (n : Nat) : binI .rem .u8 (n : Int) 8 = some (.int .u8 (n % 8 : Nat)) := by
  have : binI .rem .u8 (n : Int) 8 = some (.int .u8 ((n : Int).tmod 8)) := by simp [binI]
  rw [this, Int.tmod_eq_emod_of_nonneg (by omega)]
  norm_cast
theorem rem4n_u8 (n : Nat) : binI .rem .u8 (n : Int) 4 = some (.int .u8 (n % 4 : Nat)) := by
  have : binI .rem .u8 (n : Int) 4 = some (.int .u8 ((n : Int).tmod 4)) := by simp [binI]
  rw [this, Int.tmod_eq_emod_of_nonneg (by omega)]
  norm_cast
theorem reMake_none (m : Nat) (H : Heap) (nx : Nat) : Ω 19 [.p (.s (.slice none 0 0)), .int .i64 m] H nx = some (.tuple [.p (Ev.leaf 0).rv, .p (.s (.slice none 0 0))], [], []) := by
  refine om_run (ir := ir19) (by kernel_rfl) 0 ?_
  have e := rLeaf_ 0
  simp only [Int.natCast_zero, Int.ofNat_zero] at e
  simp [ir19, ssB, List.idxOf?_cons, Go.Sx.LV.undef, Go.undef, Go.Sx.callO, Go.Sx.splice, Go.Sx.finish, Go.Sx.look, Go.Sx.push, Go.Sx.setObj, Go.Sx.setU, Go.Sx.setAll, Go.Sx.appO, Go.Sx.leI_eq, ltF, e, Ev.rv_l]
theorem reMake_nil (m : Nat) (fl : Bool) (H : Heap) (nx : Nat) : Ω 19 [.p (.sl [] 0 1 fl), .int .i64 m] H nx = some (.tuple [.p (Ev.leaf 0).rv, .p (.s (.slice none 0 0))], [], []) := by
  refine om_run (ir := ir19) (by kernel_rfl) 0 ?_
  have e := rLeaf_ 0
  simp only [Int.natCast_zero, Int.ofNat_zero] at e
  simp [ir19, ssB, List.idxOf?_cons, Go.Sx.LV.undef, Go.undef, Go.Sx.callO, Go.Sx.splice, Go.Sx.finish, Go.Sx.look, Go.Sx.push, Go.Sx.setObj, Go.Sx.setU, Go.Sx.setAll, Go.Sx.appO, Go.Sx.leI_eq, ltF, e, Ev.rv_l]
theorem reMake_leaf (m : Nat) (b : UInt8) (p : List UInt8) (fl : Bool) (h30 : p.length < 2 ^ 31) (hm : m = 0 ∨ b.toNat % 4 < 2) (H : Heap) (nx : Nat) :
    Ω 19 [.p (obP fl (some (b :: p))), .int .i64 m] H nx = some (.tuple [.p (Ev.leaf (b.toNat / 4 % 8)).rv, .p (obP fl (some p))], [], []) := by
  refine om_run (ir := ir19) (by kernel_rfl) 0 ?_
  have r4 := rem4_u8 b
  have hp1 : ¬ ((p.length : Int) + 1 = 0) := by omega
  have hp2 : bytP [] = [] := rfl
  have q4 := quo4_u8 b
  have r8 := rem8_u8 (b.toNat / 4)
  have hw : IntKind.u64.wrap ((b.toNat / 4 % 8 : Nat) : Int) = ((b.toNat / 4 % 8 : Nat) : Int) := wrap_u64' _ (by omega) (by omega)
  have e := rLeaf_ (b.toNat / 4 % 8)
  generalize b.toNat / 4 % 8 = x at *
  generalize b.toNat / 4 = x4 at *
  by_cases h0 : m = 0
  · subst h0
    simp [ir19, ssB, List.idxOf?_cons, Go.Sx.LV.undef, Go.undef, Go.Sx.callO, Go.Sx.splice, Go.Sx.finish, Go.Sx.look, Go.Sx.push, Go.Sx.setObj, Go.Sx.setU, Go.Sx.setAll, Go.Sx.appO, Go.Sx.leI_eq, ltF, obP_s, bytP_cons', bytP_len, take_bytP, hp1, hp2, r4, q4, r8, hw, e]
  · have h4 := hm.resolve_left h0
    have h4' : ((b.toNat % 4 : Nat) : Int) < 2 := by omega
    have h0' : ((m : Int) == 0) = false := by simp; omega
    have h5 : ¬ (2 : Int) ≤ ((b.toNat % 4 : Nat) : Int) := by omega
    generalize b.toNat % 4 = y at *
    simp [ir19, ssB, List.idxOf?_cons, Go.Sx.LV.undef, Go.undef, Go.Sx.callO, Go.Sx.splice, Go.Sx.finish, Go.Sx.look, Go.Sx.push, Go.Sx.setObj, Go.Sx.setU, Go.Sx.setAll, Go.Sx.appO, Go.Sx.leI_eq, ltF, obP_s, bytP_cons', bytP_len, take_bytP, hp1, hp2, r4, q4, r8, hw, h5, h0', e]
theorem reMake_ : ∀ (m : Nat) (x : Option (List UInt8)) (fl : Bool), m < 100 → short x → ∀ (H : Heap) (nx : Nat),
    Ω 19 [.p (obP fl x), .int .i64 m] H nx = some (.tuple [.p (mkEv m x).1.rv, .p (obP fl (mkEv m x).2)], [], [])
  | m, none, fl, hm, hx, H, nx => by
    unfold mkEv; exact reMake_none m H nx
  | m, some [], fl, hm, hx, H, nx => by
    unfold mkEv; exact reMake_nil m fl H nx
  | 0, some (b :: p), fl, hm, hx, H, nx => by
    have := hx _ rfl
    unfold mkEv; exact reMake_leaf 0 b p fl (by simp at this; omega) (.inl rfl) H nx
  | m + 1, some (b :: p), fl, hm, hx, H, nx => by
    have hl := hx _ rfl
    have hp : short (some p) := fun l hl' => by
      obtain rfl := Option.some.inj hl'
      simp at hl; omega
    unfold mkEv
    split
    · rename_i h4
      exact reMake_leaf (m + 1) b p fl (by simp at hl; omega) (.inr h4) H nx
    · rename_i h4
      refine om_run (ir := ir19) (by kernel_rfl) 0 ?_
      have r4 := rem4_u8 b
      have hp1 : ¬ ((p.length : Int) + 1 = 0) := by omega
      have hp2 : bytP [] = [] := rfl
      have q4 := quo4_u8 b
      have r4' := rem4n_u8 (b.toNat / 4)
      have h4' : ¬ ((b.toNat % 4 : Nat) : Int) < 2 := by omega
      have h0' : (((m + 1 : Nat) : Int) == 0) = false := by simp; omega
      have h5 : (2 : Int) ≤ ((b.toNat % 4 : Nat) : Int) := by omega
      have hw : IntKind.i64.wrap (((m + 1 : Nat) : Int) - 1) = (m : Int) := by rw [wrap_i64 _ (by omega) (by omega)]; omega
      have hw2 : IntKind.u64.wrap ((b.toNat / 4 % 4 : Nat) : Int) = ((b.toNat / 4 % 4 : Nat) : Int) := wrap_u64' _ (by omega) (by omega)
      obtain ⟨a1, a2, a3⟩ := mkEv_ok m (some p)
      obtain ⟨b1, b2, b3⟩ := mkEv_ok m (mkEv m (some p)).2
      have e1 := reMake_ m (some p) fl (by omega) hp
      have e2 := reMake_ m (mkEv m (some p)).2 fl (by omega) (mkEv_short _ _ hp)
      have e3 := rNode_ (b.toNat / 4 % 4) (mkEv m (some p)).1 (mkEv m (mkEv m (some p)).2).1 a1 b1 (by omega) (by omega)
      generalize mkEv m (some p) = y at *
      generalize mkEv m y.2 = z at *
      generalize (m + 1 : Nat) = M at *
      generalize b.toNat % 4 = t at *
      generalize b.toNat / 4 % 4 = u at *
      generalize b.toNat / 4 = u4 at *
      rw [obP_s] at e1
      simp [ir19, ssB, List.idxOf?_cons, Go.Sx.LV.undef, Go.undef, Go.Sx.callO, Go.Sx.splice, Go.Sx.finish, Go.Sx.look, Go.Sx.push, Go.Sx.setObj, Go.Sx.setU, Go.Sx.setAll, Go.Sx.appO, Go.Sx.leI_eq, ltF, obP_s, bytP_cons', bytP_len, take_bytP, hp1, hp2, r4, q4, r4', hw, hw2, h5, h0', e1, e2, e3]
end Go.Proofs.YtppeggedcaabkaaGreatDoor
end

section
namespace Go.Proofs.YtppeggedcaabkaaGreatDoor
open Go Go.Sx
set_option linter.unusedSimpArgs false
set_option linter.unusedVariables false

def Id.kind : Id → Nat
  | .zero => 0
  | .one => 1
  | .node _ _ => 2
theorem Id.rv_imm (i : Id) : ∃ a b, i.rv = .imm [.s (.int .i64 i.kind), a, b] 0 := by
  cases i
  · exact ⟨_, _, Id.rv_z⟩
  · exact ⟨_, _, Id.rv_o⟩
  · exact ⟨_, _, Id.rv_n _ _⟩
theorem Id.kind_z (i : Id) : ((i.kind : Int) == 0) = decide (i = .zero) := by cases i <;> simp [Id.kind]

theorem Bl.ids {x : LV} {l : List Bool} (g : Bl x l) : Go.Sx.ids x = [] := by cases g <;> rfl
theorem rID_ : ∀ (i : Id) (x : LV) (l : List Bool), Bl x l → l.length + (idBits i).length < 2 ^ 31 → ∀ (H : Heap) (nx : Nat), Ω 83 [x, .p i.rv] H nx = some (blV (l ++ idBits i), [], [])
  | .zero, x, l, g, hl, H, nx => by
    have hB : idBits .zero = bitsOf 0 2 ++ bitsOf 0 1 := rfl
    rw [hB] at hl ⊢
    rw [List.length_append, bitsOf_len, bitsOf_len] at hl
    have q1 := rPut_ g 0 2 (by decide) (by decide) (by decide) (by omega)
    have q2 := rPut_ (.sl (l ++ bitsOf 0 2) false) 0 1 (by decide) (by decide) (by decide) (by rw [List.length_append, bitsOf_len]; omega)
    have c0 : ((0 : Nat) : Int) = 0 := rfl
    have c1 : ((1 : Nat) : Int) = 1 := rfl
    have c2 : ((2 : Nat) : Int) = 2 := rfl
    rw [c0, c2] at q1
    rw [c0, c1, List.append_assoc] at q2
    have gi := g.ids
    refine om_run (ir := ir83) (by kernel_rfl) 0 ?_
    have w0 : IntKind.u64.wrap 0 = 0 := by decide
    generalize l ++ bitsOf 0 2 = L1 at *
    generalize l ++ (bitsOf 0 2 ++ bitsOf 0 1) = L2 at *
    have f := fun h hu => fin_p H nx (.sl (bolP L2) L2.length 1 false) h hu
    simp [ir83, ssB, List.idxOf?_cons, Go.Sx.LV.undef, Go.undef, callO_A, aft_nil, setAll_nil, Go.Sx.splice, Go.Sx.leI_eq, ltF, Id.rv_z, q1, q2, w0, gi, f]
  | .one, x, l, g, hl, H, nx => by
    have hB : idBits .one = bitsOf 0 2 ++ bitsOf 1 1 := rfl
    rw [hB] at hl ⊢
    rw [List.length_append, bitsOf_len, bitsOf_len] at hl
    have q1 := rPut_ g 0 2 (by decide) (by decide) (by decide) (by omega)
    have q2 := rPut_ (.sl (l ++ bitsOf 0 2) false) 1 1 (by decide) (by decide) (by decide) (by rw [List.length_append, bitsOf_len]; omega)
    have c0 : ((0 : Nat) : Int) = 0 := rfl
    have c1 : ((1 : Nat) : Int) = 1 := rfl
    have c2 : ((2 : Nat) : Int) = 2 := rfl
    rw [c0, c2] at q1
    rw [c1, List.append_assoc] at q2
    have gi := g.ids
    refine om_run (ir := ir83) (by kernel_rfl) 0 ?_
    have w0 : IntKind.u64.wrap 1 = 1 := by decide
    generalize l ++ bitsOf 0 2 = L1 at *
    generalize l ++ (bitsOf 0 2 ++ bitsOf 1 1) = L2 at *
    have f := fun h hu => fin_p H nx (.sl (bolP L2) L2.length 1 false) h hu
    simp [ir83, ssB, List.idxOf?_cons, Go.Sx.LV.undef, Go.undef, callO_A, aft_nil, setAll_nil, Go.Sx.splice, Go.Sx.leI_eq, ltF, Id.rv_o, q1, q2, w0, gi, f]
  | .node s t, x, l, g, hl, H, nx => by
    obtain ⟨a1, b1, hs⟩ := Id.rv_imm s
    obtain ⟨a2, b2, ht⟩ := Id.rv_imm t
    have ks := Id.kind_z s
    have kt := Id.kind_z t
    have c1 : ((1 : Nat) : Int) = 1 := rfl
    have c2 : ((2 : Nat) : Int) = 2 := rfl
    have c3 : ((3 : Nat) : Int) = 3 := rfl
    have gi := g.ids
    refine om_run (ir := ir83) (by kernel_rfl) 0 ?_
    by_cases h1 : s = .zero
    · have hB : idBits (.node s t) = bitsOf 1 2 ++ idBits t := by simp [idBits, h1]
      rw [hB] at hl ⊢
      rw [List.length_append, bitsOf_len] at hl
      have q1 := rPut_ g 1 2 (by decide) (by decide) (by decide) (by omega)
      have q2 := rID_ t _ _ (.sl (l ++ bitsOf 1 2) false) (by rw [List.length_append, bitsOf_len]; omega)
      rw [c1, c2] at q1
      rw [List.append_assoc, ht] at q2
      generalize l ++ bitsOf 1 2 = L1 at *
      generalize l ++ (bitsOf 1 2 ++ idBits t) = L2 at *
      have f := fun h hu => fin_p H nx (.sl (bolP L2) L2.length 1 false) h hu
      have ks' : ((s.kind : Int) == 0) = true := by rw [ks]; simp [h1]
      generalize (s.kind : Int) = k1 at *
      generalize (t.kind : Int) = k2 at *
      simp [ir83, ssB, List.idxOf?_cons, Go.Sx.LV.undef, Go.undef, callO_A, aft_nil, setAll_nil, Go.Sx.splice, Go.Sx.leI_eq, ltF, Id.rv_n, hs, ht, ks', q1, q2, gi, f]
    · have ks' : ((s.kind : Int) == 0) = false := by rw [ks]; simp [h1]
      by_cases h2 : t = .zero
      · have hB : idBits (.node s t) = bitsOf 2 2 ++ idBits s := by simp [idBits, h1, h2]
        rw [hB] at hl ⊢
        rw [List.length_append, bitsOf_len] at hl
        have q1 := rPut_ g 2 2 (by decide) (by decide) (by decide) (by omega)
        have q2 := rID_ s _ _ (.sl (l ++ bitsOf 2 2) false) (by rw [List.length_append, bitsOf_len]; omega)
        rw [c2] at q1
        rw [List.append_assoc, hs] at q2
        generalize l ++ bitsOf 2 2 = L1 at *
        generalize l ++ (bitsOf 2 2 ++ idBits s) = L2 at *
        have f := fun h hu => fin_p H nx (.sl (bolP L2) L2.length 1 false) h hu
        have kt' : ((t.kind : Int) == 0) = true := by rw [kt]; simp [h2]
        generalize (s.kind : Int) = k1 at *
        generalize (t.kind : Int) = k2 at *
        simp [ir83, ssB, List.idxOf?_cons, Go.Sx.LV.undef, Go.undef, callO_A, aft_nil, setAll_nil, Go.Sx.splice, Go.Sx.leI_eq, ltF, Id.rv_n, hs, ht, ks', kt', q1, q2, gi, f]
      · have kt' : ((t.kind : Int) == 0) = false := by rw [kt]; simp [h2]
        have hB : idBits (.node s t) = bitsOf 3 2 ++ idBits s ++ idBits t := by simp [idBits, h1, h2]
        rw [hB] at hl ⊢
        rw [List.length_append, List.length_append, bitsOf_len] at hl
        have q1 := rPut_ g 3 2 (by decide) (by decide) (by decide) (by omega)
        have q2 := rID_ s _ _ (.sl (l ++ bitsOf 3 2) false) (by rw [List.length_append, bitsOf_len]; omega)
        have q3 := rID_ t _ _ (.sl (l ++ bitsOf 3 2 ++ idBits s) false) (by rw [List.length_append, List.length_append, bitsOf_len]; omega)
        rw [c3, c2] at q1
        rw [hs] at q2
        rw [ht] at q3
        rw [← List.append_assoc, ← List.append_assoc]
        generalize l ++ bitsOf 3 2 = L1 at *
        generalize L1 ++ idBits s = L2 at *
        generalize L2 ++ idBits t = L3 at *
        have f := fun h hu => fin_p H nx (.sl (bolP L3) L3.length 1 false) h hu
        generalize (s.kind : Int) = k1 at *
        generalize (t.kind : Int) = k2 at *
        simp [ir83, ssB, List.idxOf?_cons, Go.Sx.LV.undef, Go.undef, callO_A, aft_nil, setAll_nil, Go.Sx.splice, Go.Sx.leI_eq, ltF, Id.rv_n, hs, ht, ks', kt', q1, q2, q3, gi, f]
end Go.Proofs.YtppeggedcaabkaaGreatDoor
end

section
namespace Go.Proofs.YtppeggedcaabkaaGreatDoor
open Go Go.Sx
set_option linter.unusedSimpArgs false
set_option linter.unusedVariables false

theorem rzero_ (e : Ev) (H : Heap) (nx : Nat) : Ω 81 [.p e.rv] H nx = some (.bool (decide (e = .leaf 0)), [], []) := by
  refine om_run (ir := ir81) (by kernel_rfl) 0 ?_
  cases e with
  | leaf n =>
    by_cases h0 : n = 0
    · subst h0
      simp [ir81, Ev.rv_l, ssB, List.idxOf?_cons, Go.Sx.LV.undef, Go.undef, Go.Sx.callO, Go.Sx.splice, Go.Sx.finish, Go.Sx.look, Go.Sx.push, Go.Sx.setObj, Go.Sx.setU, Go.Sx.setAll, Go.Sx.appO, Go.Sx.leI_eq, ltF]
    · have : ((n : Int) == 0) = false := by simp; omega
      simp [ir81, Ev.rv_l, this, h0, ssB, List.idxOf?_cons, Go.Sx.LV.undef, Go.undef, Go.Sx.callO, Go.Sx.splice, Go.Sx.finish, Go.Sx.look, Go.Sx.push, Go.Sx.setObj, Go.Sx.setU, Go.Sx.setAll, Go.Sx.appO, Go.Sx.leI_eq, ltF]
  | node n l r =>
    obtain ⟨cl, hcl⟩ := Ev.rv_imm l
    simp [ir81, Ev.rv_n, hcl, ssB, List.idxOf?_cons, Go.Sx.LV.undef, Go.undef, Go.Sx.callO, Go.Sx.splice, Go.Sx.finish, Go.Sx.look, Go.Sx.push, Go.Sx.setObj, Go.Sx.setU, Go.Sx.setAll, Go.Sx.appO, Go.Sx.leI_eq, ltF]

theorem rEvent_leaf (v : Nat) (hv : v < 2 ^ 64) {x : LV} {l : List Bool} (g : Bl x l) (hl : l.length + 201 < 2 ^ 31) (H : Heap) (nx : Nat) : Ω 35 [x, .p (Ev.leaf v).rv] H nx = some (blV (l ++ evBits (.leaf v)), [], []) := by
  have hB : evBits (.leaf v) = bitsOf 1 1 ++ numBits v 2 62 := rfl
  rw [hB]
  have q1 := rPut_ g 1 1 (by decide) (by decide) (by decide) (by omega)
  have q2 := rNumw_ (.sl (l ++ bitsOf 1 1) false) v hv (by rw [List.length_append, bitsOf_len]; omega)
  have c1 : ((1 : Nat) : Int) = 1 := rfl
  rw [c1] at q1
  rw [List.append_assoc] at q2
  have gi := g.ids
  refine om_run (ir := ir35) (by kernel_rfl) 0 ?_
  generalize l ++ bitsOf 1 1 = L1 at *
  generalize l ++ (bitsOf 1 1 ++ numBits v 2 62) = L2 at *
  have f := fun h hu => fin_p H nx (.sl (bolP L2) L2.length 1 false) h hu
  simp [ir35, ssB, List.idxOf?_cons, Go.Sx.LV.undef, Go.undef, callO_A, aft_nil, setAll_nil, Go.Sx.splice, Go.Sx.leI_eq, ltF, Ev.rv_l, q1, q2, gi, f]
theorem rEvent_ : ∀ (e : Ev), e.norm → e.max < 2 ^ 64 → ∀ (x : LV) (l : List Bool), Bl x l → l.length + (evBits e).length + 201 < 2 ^ 31 → ∀ (H : Heap) (nx : Nat), Ω 35 [x, .p e.rv] H nx = some (blV (l ++ evBits e), [], [])
  | .leaf v, _, hm, x, l, g, hl, H, nx => rEvent_leaf v hm g (by omega) H nx
  | .node v s t, hn, hm, x, l, g, hl, H, nx => by
    have d1 := Ev.max_l v s t
    have d2 := Ev.max_r v s t
    obtain ⟨a1, hs⟩ := Ev.rv_imm s
    obtain ⟨a2, ht⟩ := Ev.rv_imm t
    have ks := rzero_ s
    have kt := rzero_ t
    have hnz : ¬ (s = .leaf 0 ∧ t = .leaf 0) := by
      rintro ⟨rfl, rfl⟩
      exact hn.2.2.2 ⟨rfl, rfl, rfl⟩
    have c0 : ((0 : Nat) : Int) = 0 := rfl
    have c1 : ((1 : Nat) : Int) = 1 := rfl
    have c2 : ((2 : Nat) : Int) = 2 := rfl
    have c3 : ((3 : Nat) : Int) = 3 := rfl
    have gi := g.ids
    have hB : evBits (.node v s t) = bitsOf 0 1 ++ evKind v (decide (s = .leaf 0)) (decide (t = .leaf 0)) ++ (if v = 0 then [] else numBits v 2 62) ++ (if s = .leaf 0 then [] else evBits s) ++ (if t = .leaf 0 then [] else evBits t) := by rw [evBits]
    rw [hB] at hl ⊢
    have q0 := rPut_ g 0 1 (by decide) (by decide) (by decide) (by omega)
    rw [c0, c1] at q0
    have L0 : (l ++ bitsOf 0 1).length = l.length + 1 := by rw [List.length_append, bitsOf_len]
    refine om_run (ir := ir35) (by kernel_rfl) 0 ?_
    simp only [List.length_append, bitsOf_len] at hl
    have g0 : Bl (blV (l ++ bitsOf 0 1)) (l ++ bitsOf 0 1) := .sl _ false
    simp only [← List.append_assoc]
    generalize l ++ bitsOf 0 1 = M at *
    by_cases hv0 : v = 0
    · have hb : ((v : Int) == 0) = true := by simp [hv0]
      have hvT : (v = 0) = True := by simp [hv0]
      by_cases hs0 : s = .leaf 0
      · have ht0 : ¬ t = .leaf 0 := fun h => hnz ⟨hs0, h⟩
        have hsT : (s = .leaf 0) = True := by simp [hs0]
        have hk : evKind v true false = bitsOf 0 2 := by simp [evKind, hv0]
        simp only [hsT, ht0, decide_true, decide_false, hk, if_true, if_false, hvT] at hl ks kt ⊢
        simp only [List.length_append, List.length_nil, bitsOf_len] at hl
        simp only [← List.append_assoc, List.append_nil]
        have q1 := rPut_ (.sl M false) 0 2 (by decide) (by decide) (by decide) (by omega)
        rw [c0, c2] at q1
        have L1 : (M ++ bitsOf 0 2).length = M.length + 2 := by rw [List.length_append, bitsOf_len]
        generalize M ++ bitsOf 0 2 = M1 at *
        have q2 := rEvent_ t hn.2.1 (by omega) _ _ (.sl M1 false) (by omega)
        rw [ht] at q2
        have L2 : (M1 ++ evBits t).length = M1.length + (evBits t).length := List.length_append
        generalize M1 ++ evBits t = M2 at *
        have f := fun h hu => fin_p H nx (.sl (bolP M2) M2.length 1 false) h hu
        rw [hs] at ks
        rw [ht] at kt
        simp [ir35, ssB, List.idxOf?_cons, Go.Sx.LV.undef, Go.undef, callO_A, aft_nil, setAll_nil, Go.Sx.splice, Go.Sx.leI_eq, ltF, Ev.rv_n, hs, ht, ks, kt, hb, q0, q1, q2, gi, f]
      · by_cases ht0 : t = .leaf 0
        · have htT : (t = .leaf 0) = True := by simp [ht0]
          have hk : evKind v false true = bitsOf 1 2 := by simp [evKind, hv0]
          simp only [hs0, htT, decide_true, decide_false, hk, if_true, if_false, hvT] at hl ks kt ⊢
          simp only [List.length_append, List.length_nil, bitsOf_len] at hl
          simp only [← List.append_assoc, List.append_nil]
          have q1 := rPut_ (.sl M false) 1 2 (by decide) (by decide) (by decide) (by omega)
          rw [c1, c2] at q1
          have L1 : (M ++ bitsOf 1 2).length = M.length + 2 := by rw [List.length_append, bitsOf_len]
          generalize M ++ bitsOf 1 2 = M1 at *
          have q2 := rEvent_ s hn.1 (by omega) _ _ (.sl M1 false) (by omega)
          rw [hs] at q2
          have L2 : (M1 ++ evBits s).length = M1.length + (evBits s).length := List.length_append
          generalize M1 ++ evBits s = M2 at *
          have f := fun h hu => fin_p H nx (.sl (bolP M2) M2.length 1 false) h hu
          rw [hs] at ks
          rw [ht] at kt
          simp [ir35, ssB, List.idxOf?_cons, Go.Sx.LV.undef, Go.undef, callO_A, aft_nil, setAll_nil, Go.Sx.splice, Go.Sx.leI_eq, ltF, Ev.rv_n, hs, ht, ks, kt, hb, q0, q1, q2, gi, f]
        · skip
          have hk : evKind v false false = bitsOf 2 2 := by simp [evKind, hv0]
          simp only [hs0, ht0, decide_true, decide_false, hk, if_true, if_false, hvT] at hl ks kt ⊢
          simp only [List.length_append, List.length_nil, bitsOf_len] at hl
          simp only [← List.append_assoc, List.append_nil]
          have q1 := rPut_ (.sl M false) 2 2 (by decide) (by decide) (by decide) (by omega)
          rw [c2] at q1
          have L1 : (M ++ bitsOf 2 2).length = M.length + 2 := by rw [List.length_append, bitsOf_len]
          generalize M ++ bitsOf 2 2 = M1 at *
          have q2 := rEvent_ s hn.1 (by omega) _ _ (.sl M1 false) (by omega)
          rw [hs] at q2
          have L2 : (M1 ++ evBits s).length = M1.length + (evBits s).length := List.length_append
          generalize M1 ++ evBits s = M2 at *
          have q3 := rEvent_ t hn.2.1 (by omega) _ _ (.sl M2 false) (by omega)
          rw [ht] at q3
          have L3 : (M2 ++ evBits t).length = M2.length + (evBits t).length := List.length_append
          generalize M2 ++ evBits t = M3 at *
          have f := fun h hu => fin_p H nx (.sl (bolP M3) M3.length 1 false) h hu
          rw [hs] at ks
          rw [ht] at kt
          simp [ir35, ssB, List.idxOf?_cons, Go.Sx.LV.undef, Go.undef, callO_A, aft_nil, setAll_nil, Go.Sx.splice, Go.Sx.leI_eq, ltF, Ev.rv_n, hs, ht, ks, kt, hb, q0, q1, q2, q3, gi, f]
    · have hb : ((v : Int) == 0) = false := by simp; omega
      by_cases hs0 : s = .leaf 0
      · have ht0 : ¬ t = .leaf 0 := fun h => hnz ⟨hs0, h⟩
        have hsT : (s = .leaf 0) = True := by simp [hs0]
        have hk : evKind v true false = bitsOf 3 2 ++ bitsOf 0 2 := by simp [evKind, hv0]
        simp only [hsT, ht0, decide_true, decide_false, hk, if_true, if_false, hv0] at hl ks kt ⊢
        simp only [List.length_append, List.length_nil, bitsOf_len] at hl
        simp only [← List.append_assoc, List.append_nil]
        have q1 := rPut_ (.sl M false) 3 2 (by decide) (by decide) (by decide) (by omega)
        rw [c3, c2] at q1
        have L1 : (M ++ bitsOf 3 2).length = M.length + 2 := by rw [List.length_append, bitsOf_len]
        generalize M ++ bitsOf 3 2 = M1 at *
        have q2 := rPut_ (.sl M1 false) 0 2 (by decide) (by decide) (by decide) (by omega)
        rw [c0, c2] at q2
        have L2 : (M1 ++ bitsOf 0 2).length = M1.length + 2 := by rw [List.length_append, bitsOf_len]
        generalize M1 ++ bitsOf 0 2 = M2 at *
        have q3 := rNumw_ (.sl M2 false) v (by omega) (by omega)
        have L3 : (M2 ++ numBits v 2 62).length = M2.length + (numBits v 2 62).length := List.length_append
        generalize M2 ++ numBits v 2 62 = M3 at *
        have q4 := rEvent_ t hn.2.1 (by omega) _ _ (.sl M3 false) (by omega)
        rw [ht] at q4
        have L4 : (M3 ++ evBits t).length = M3.length + (evBits t).length := List.length_append
        generalize M3 ++ evBits t = M4 at *
        have f := fun h hu => fin_p H nx (.sl (bolP M4) M4.length 1 false) h hu
        rw [hs] at ks
        rw [ht] at kt
        simp [ir35, ssB, List.idxOf?_cons, Go.Sx.LV.undef, Go.undef, callO_A, aft_nil, setAll_nil, Go.Sx.splice, Go.Sx.leI_eq, ltF, Ev.rv_n, hs, ht, ks, kt, hb, q0, q1, q2, q3, q4, gi, f]
      · by_cases ht0 : t = .leaf 0
        · have htT : (t = .leaf 0) = True := by simp [ht0]
          have hk : evKind v false true = bitsOf 3 2 ++ bitsOf 1 2 := by simp [evKind, hv0]
          simp only [hs0, htT, decide_true, decide_false, hk, if_true, if_false, hv0] at hl ks kt ⊢
          simp only [List.length_append, List.length_nil, bitsOf_len] at hl
          simp only [← List.append_assoc, List.append_nil]
          have q1 := rPut_ (.sl M false) 3 2 (by decide) (by decide) (by decide) (by omega)
          rw [c3, c2] at q1
          have L1 : (M ++ bitsOf 3 2).length = M.length + 2 := by rw [List.length_append, bitsOf_len]
          generalize M ++ bitsOf 3 2 = M1 at *
          have q2 := rPut_ (.sl M1 false) 1 2 (by decide) (by decide) (by decide) (by omega)
          rw [c1, c2] at q2
          have L2 : (M1 ++ bitsOf 1 2).length = M1.length + 2 := by rw [List.length_append, bitsOf_len]
          generalize M1 ++ bitsOf 1 2 = M2 at *
          have q3 := rNumw_ (.sl M2 false) v (by omega) (by omega)
          have L3 : (M2 ++ numBits v 2 62).length = M2.length + (numBits v 2 62).length := List.length_append
          generalize M2 ++ numBits v 2 62 = M3 at *
          have q4 := rEvent_ s hn.1 (by omega) _ _ (.sl M3 false) (by omega)
          rw [hs] at q4
          have L4 : (M3 ++ evBits s).length = M3.length + (evBits s).length := List.length_append
          generalize M3 ++ evBits s = M4 at *
          have f := fun h hu => fin_p H nx (.sl (bolP M4) M4.length 1 false) h hu
          rw [hs] at ks
          rw [ht] at kt
          simp [ir35, ssB, List.idxOf?_cons, Go.Sx.LV.undef, Go.undef, callO_A, aft_nil, setAll_nil, Go.Sx.splice, Go.Sx.leI_eq, ltF, Ev.rv_n, hs, ht, ks, kt, hb, q0, q1, q2, q3, q4, gi, f]
        · skip
          have hk : evKind v false false = bitsOf 3 2 ++ bitsOf 1 1 := by simp [evKind, hv0]
          simp only [hs0, ht0, decide_true, decide_false, hk, if_true, if_false, hv0] at hl ks kt ⊢
          simp only [List.length_append, List.length_nil, bitsOf_len] at hl
          simp only [← List.append_assoc, List.append_nil]
          have q1 := rPut_ (.sl M false) 3 2 (by decide) (by decide) (by decide) (by omega)
          rw [c3, c2] at q1
          have L1 : (M ++ bitsOf 3 2).length = M.length + 2 := by rw [List.length_append, bitsOf_len]
          generalize M ++ bitsOf 3 2 = M1 at *
          have q2 := rPut_ (.sl M1 false) 1 1 (by decide) (by decide) (by decide) (by omega)
          rw [c1] at q2
          have L2 : (M1 ++ bitsOf 1 1).length = M1.length + 1 := by rw [List.length_append, bitsOf_len]
          generalize M1 ++ bitsOf 1 1 = M2 at *
          have q3 := rNumw_ (.sl M2 false) v (by omega) (by omega)
          have L3 : (M2 ++ numBits v 2 62).length = M2.length + (numBits v 2 62).length := List.length_append
          generalize M2 ++ numBits v 2 62 = M3 at *
          have q4 := rEvent_ s hn.1 (by omega) _ _ (.sl M3 false) (by omega)
          rw [hs] at q4
          have L4 : (M3 ++ evBits s).length = M3.length + (evBits s).length := List.length_append
          generalize M3 ++ evBits s = M4 at *
          have q5 := rEvent_ t hn.2.1 (by omega) _ _ (.sl M4 false) (by omega)
          rw [ht] at q5
          have L5 : (M4 ++ evBits t).length = M4.length + (evBits t).length := List.length_append
          generalize M4 ++ evBits t = M5 at *
          have f := fun h hu => fin_p H nx (.sl (bolP M5) M5.length 1 false) h hu
          rw [hs] at ks
          rw [ht] at kt
          simp [ir35, ssB, List.idxOf?_cons, Go.Sx.LV.undef, Go.undef, callO_A, aft_nil, setAll_nil, Go.Sx.splice, Go.Sx.leI_eq, ltF, Ev.rv_n, hs, ht, ks, kt, hb, q0, q1, q2, q3, q4, q5, gi, f]
end Go.Proofs.YtppeggedcaabkaaGreatDoor
end

section
namespace Go.Proofs.YtppeggedcaabkaaGreatDoor
open Go Go.Sx
set_option linter.unusedSimpArgs false
set_option linter.unusedVariables false

/-- A text of bytes. -/
abbrev bstr (s : List UInt8) : LV := .str ⟨s.toArray⟩
/-- How many, and they. -/
def txt (s : List UInt8) : List UInt8 := vnum s.length ++ s
theorem str_cells (s : List UInt8) : (List.map (fun (x : UInt8) => LV.int .u8 x.toNat) s) = byt s := rfl
theorem str_size (s : List UInt8) : (⟨s.toArray⟩ : ByteArray).size = s.length := by simp [ByteArray.size]

theorem textB_ {H : Heap} {nx : Nat} {x : LV} {q : List UInt8} (g : Bs H nx x q) (s : List UInt8) (hq : q.length < 2 ^ 30) (hs : s.length < 2 ^ 30) :
    Ω 28 [x, bstr s] H nx = some (.arr nx 0 (q ++ txt s).length 1 (q ++ txt s).length false, [], [some (.cells (byt (q ++ txt s)))]) := by
  refine om_run (ir := ir28) (by kernel_rfl) 0 ?_
  have hw : IntKind.u64.wrap (s.length : Int) = s.length := wrap_u64' _ (by omega) (by omega)
  have hv := vnum_len s.length (by omega)
  have hv0 := vnum_pos s.length
  have hQ : q ++ txt s = (q ++ vnum s.length) ++ s := by rw [txt, List.append_assoc]
  have hQl : (q ++ vnum s.length).length < 2 ^ 31 := by simp; omega
  have n := fun H nx (g' : Bs H nx x q) => numB_ g' s.length (by omega) hq
  rw [hQ]
  generalize q ++ vnum s.length = Q at *
  have q1 : ¬ 1099511627776 < Q.length + s.length := by omega
  have fin : (∀ h : Hp, (∀ id, id < nx → Go.Sx.look H nx h id = H id) → Ω 26 [x, .int .u64 s.length] (Go.Sx.look H nx h) nx = some (.arr nx 0 Q.length 1 Q.length false, [], [some (.cells (byt Q))])) := fun h hh => n _ _ (g.mono hh (Nat.le_refl _))
  have f0 := fin ⟨[], []⟩ (fun id hi => by simp [Go.Sx.look, findU, hi])
  have sz := str_size s
  have lk : Go.Sx.look H nx (push ⟨[], []⟩ (.cells (byt Q))) nx = some (.cells (byt Q)) := by simp [Go.Sx.look, push, ltF]
  have z : ∀ y : Nat, y + ([] : List (Option Go.Sx.Obj)).length = y := fun y => rfl
  cases hs0 : s with
  | nil =>
    subst hs0
    have a := finish_arr (H := H) (nx := nx) (i := nx) (L := Q.length) (h := push ⟨[], []⟩ (.cells (byt Q))) (q := Q) (ex := false) rfl (Nat.le_refl _) lk
    have ap : appO ⟨Ω, noG, H, nx⟩ (push ⟨[], []⟩ (.cells (byt Q))) 1 1 (.arr nx 0 Q.length 1 Q.length false) (bstr []) = some ⟨.arr nx 0 Q.length 1 Q.length false, push ⟨[], []⟩ (.cells (byt Q)), [], false⟩ := by simp [appO, slCells, Go.Sx.ids, ByteArray.size]
    rw [List.append_nil]
    simp only [List.length_nil, Int.natCast_zero, Int.ofNat_zero] at f0 hw sz
    simp [ir28, ssB, List.idxOf?_cons, Go.Sx.LV.undef, Go.undef, callO_A, aft_nil, setAll_nil, Go.Sx.splice, Go.Sx.leI_eq, ltF, f0, hw, sz, a, ap, aft_one]
  | cons b r =>
    rw [← hs0]
    have hs1 : ¬ s.length = 0 := by rw [hs0]; simp
    have ap : appO ⟨Ω, noG, H, nx⟩ (push ⟨[], []⟩ (.cells (byt Q))) 1 1 (.arr nx 0 Q.length 1 Q.length false) (bstr s) = some ⟨.arr (nx + 1) 0 (Q.length + s.length) 1 (Q.length + s.length) false, push (Go.Sx.setObj nx (push ⟨[], []⟩ (.cells (byt Q))) nx none) (.cells (byt (Q ++ s))), [nx], true⟩ := by
      simp [appO, slCells, Go.Sx.ids, sz, byt_len, hs1, lk, q1, push_len, str_cells, byt_app]
    have lk2 : Go.Sx.look H nx (push (Go.Sx.setObj nx (push ⟨[], []⟩ (.cells (byt Q))) nx none) (.cells (byt (Q ++ s)))) (nx + 1) = some (.cells (byt (Q ++ s))) := by
      rw [look_push, if_pos (by rw [setObj_len, push_len]; rfl)]
    have a := finish_arr (H := H) (nx := nx) (i := nx + 1) (L := Q.length + s.length) (h := push (Go.Sx.setObj nx (push ⟨[], []⟩ (.cells (byt Q))) nx none) (.cells (byt (Q ++ s)))) (q := Q ++ s) (ex := false) (by rw [push_upd, setObj_upd _ _ _ _ (by omega)]; rfl) (by omega) lk2
    simp [ir28, ssB, List.idxOf?_cons, Go.Sx.LV.undef, Go.undef, callO_A, aft_nil, setAll_nil, Go.Sx.splice, Go.Sx.leI_eq, ltF, f0, hw, sz, a, ap, aft_one]
theorem rTextB_ (s : List UInt8) (hs : s.length < 2 ^ 30) (H : Heap) (nx : Nat) :
    Ω 33 [bstr s] H nx = some (.arr nx 0 (txt s).length 1 (txt s).length s.isEmpty, [], [some (.cells (byt (txt s)))]) := by
  refine om_run (ir := ir33) (by kernel_rfl) 0 ?_
  have hw : IntKind.u64.wrap (s.length : Int) = s.length := wrap_u64' _ (by omega) (by omega)
  have hv := vnum_len s.length (by omega)
  have hQl : (vnum s.length).length < 2 ^ 31 := by omega
  have n := rNum_ s.length (by omega)
  have hd : s.isEmpty = true → decide (s.length < 128) = true := by cases s <;> simp
  rw [txt]
  have hex := hd
  generalize decide (s.length < 128) = ex at *
  generalize vnum s.length = Q at *
  have q1 : ¬ 1099511627776 < Q.length + s.length := by omega
  have sz := str_size s
  have lk : ∀ o, Go.Sx.look H nx (push (push ⟨[], []⟩ (.cells (byt Q))) o) nx = some (.cells (byt Q)) := fun o => by rw [look_push, if_neg (by rw [push_len]; simp)]; simp [Go.Sx.look, push, ltF]
  have lk1 : Go.Sx.look H nx (push (push ⟨[], []⟩ (.cells (byt Q))) (.cells (byt s))) (nx + 1) = some (.cells (byt s)) := by rw [look_push, if_pos (by rw [push_len]; rfl)]
  cases hs0 : s with
  | nil =>
    have he : ex = true := hd (by rw [hs0]; rfl)
    subst hs0 he
    have a := finish_arr (H := H) (nx := nx) (i := nx) (L := Q.length) (h := push (push ⟨[], []⟩ (.cells (byt Q))) (.cells (byt []))) (q := Q) (ex := true) rfl (Nat.le_refl _) (lk _)
    have ap : appO ⟨Ω, noG, H, nx⟩ (push (push ⟨[], []⟩ (.cells (byt Q))) (.cells (byt []))) 1 1 (.arr nx 0 Q.length 1 Q.length true) (.arr (nx + 1) 0 0 1 0 false) = some ⟨.arr nx 0 Q.length 1 Q.length true, push (push ⟨[], []⟩ (.cells (byt Q))) (.cells (byt [])), [nx + 1], false⟩ := by
      have lk1' : Go.Sx.look H nx (push (push ⟨[], []⟩ (.cells (byt Q))) (.cells [])) (nx + 1) = some (.cells []) := lk1
      simp [appO, slCells, Go.Sx.ids, lk1', byt_nil]
    rw [List.append_nil]
    simp only [List.length_nil, Int.natCast_zero, Int.ofNat_zero] at n hw sz
    simp only [byt_nil] at a ap
    simp [ir33, ssB, List.idxOf?_cons, Go.Sx.LV.undef, Go.undef, callO_A, aft_nil, setAll_nil, Go.Sx.splice, Go.Sx.leI_eq, ltF, n, hw, sz, a, ap, aft_one, push_len, ByteArray.size]
  | cons b r =>
    rw [← hs0]
    have hs1 : ¬ s.length = 0 := by rw [hs0]; simp
    have hse : s.isEmpty = false := by rw [hs0]; rfl
    rw [hse]
    have tk : List.take s.length (byt s) = byt s := take_byt s
    cases ex with
    | true =>
      have ap : appO ⟨Ω, noG, H, nx⟩ (push (push ⟨[], []⟩ (.cells (byt Q))) (.cells (byt s))) 1 1 (.arr nx 0 Q.length 1 Q.length true) (.arr (nx + 1) 0 s.length 1 s.length false) = some ⟨.arr (nx + 2) 0 (Q.length + s.length) 1 (Q.length + s.length) false, push (push (push ⟨[], []⟩ (.cells (byt Q))) (.cells (byt s))) (.cells (byt (Q ++ s))), [nx, nx + 1], false⟩ := by
        simp [appO, slCells, Go.Sx.ids, byt_len, hs1, lk, lk1, q1, push_len, byt_app, tk, take_byt]
      have lk2 : Go.Sx.look H nx (push (push (push ⟨[], []⟩ (.cells (byt Q))) (.cells (byt s))) (.cells (byt (Q ++ s)))) (nx + 2) = some (.cells (byt (Q ++ s))) := by
        rw [look_push, if_pos (by rw [push_len, push_len]; rfl)]
      have a := finish_arr (H := H) (nx := nx) (i := nx + 2) (L := Q.length + s.length) (h := push (push (push ⟨[], []⟩ (.cells (byt Q))) (.cells (byt s))) (.cells (byt (Q ++ s)))) (q := Q ++ s) (ex := false) rfl (by omega) lk2
      simp [ir33, ssB, List.idxOf?_cons, Go.Sx.LV.undef, Go.undef, callO_A, aft_nil, setAll_nil, Go.Sx.splice, Go.Sx.leI_eq, ltF, n, hw, sz, a, ap, aft_one, push_len, str_cells]
    | false =>
      have ap : appO ⟨Ω, noG, H, nx⟩ (push (push ⟨[], []⟩ (.cells (byt Q))) (.cells (byt s))) 1 1 (.arr nx 0 Q.length 1 Q.length false) (.arr (nx + 1) 0 s.length 1 s.length false) = some ⟨.arr (nx + 2) 0 (Q.length + s.length) 1 (Q.length + s.length) false, push (Go.Sx.setObj nx (push (push ⟨[], []⟩ (.cells (byt Q))) (.cells (byt s))) nx none) (.cells (byt (Q ++ s))), [nx, nx + 1], true⟩ := by
        simp [appO, slCells, Go.Sx.ids, byt_len, hs1, lk, lk1, q1, push_len, byt_app, tk, take_byt]
      have lk2 : Go.Sx.look H nx (push (Go.Sx.setObj nx (push (push ⟨[], []⟩ (.cells (byt Q))) (.cells (byt s))) nx none) (.cells (byt (Q ++ s)))) (nx + 2) = some (.cells (byt (Q ++ s))) := by
        rw [look_push, if_pos (by rw [setObj_len, push_len, push_len]; rfl)]
      have a := finish_arr (H := H) (nx := nx) (i := nx + 2) (L := Q.length + s.length) (h := push (Go.Sx.setObj nx (push (push ⟨[], []⟩ (.cells (byt Q))) (.cells (byt s))) nx none) (.cells (byt (Q ++ s)))) (q := Q ++ s) (ex := false) (by rw [push_upd, setObj_upd _ _ _ _ (by omega)]; rfl) (by omega) lk2
      simp [ir33, ssB, List.idxOf?_cons, Go.Sx.LV.undef, Go.undef, callO_A, aft_nil, setAll_nil, Go.Sx.splice, Go.Sx.leI_eq, ltF, n, hw, sz, a, ap, aft_one, push_len, str_cells]
end Go.Proofs.YtppeggedcaabkaaGreatDoor
end

section
namespace Go.Proofs.YtppeggedcaabkaaGreatDoor
open Go Go.Sx
set_option linter.unusedSimpArgs false
set_option linter.unusedVariables false

/-- Is there such a node? -/
def nodeB (n : Int) : Bool := decide (0 ≤ n) && decide (n < 12)
theorem deedNode_ (n : Int) (H : Heap) (nx : Nat) : Ω 91 [.int .i64 n] H nx = some (.bool (nodeB n), [], []) := by
  refine om_run (ir := ir91) (by kernel_rfl) 0 ?_
  unfold nodeB
  by_cases h1 : 0 ≤ n
  · by_cases h2 : n < 12
    · have h3 : ¬ (12 : Int) ≤ n := by omega
      simp [ir91, ssB, List.idxOf?_cons, Go.Sx.LV.undef, Go.undef, Go.Sx.callO, Go.Sx.splice, Go.Sx.finish, Go.Sx.look, Go.Sx.push, Go.Sx.setObj, Go.Sx.setU, Go.Sx.setAll, Go.Sx.appO, Go.Sx.leI_eq, ltF, h1, h2, h3]
    · have h3 : (12 : Int) ≤ n := by omega
      simp [ir91, ssB, List.idxOf?_cons, Go.Sx.LV.undef, Go.undef, Go.Sx.callO, Go.Sx.splice, Go.Sx.finish, Go.Sx.look, Go.Sx.push, Go.Sx.setObj, Go.Sx.setU, Go.Sx.setAll, Go.Sx.appO, Go.Sx.leI_eq, ltF, h1, h2, h3]
  · simp [ir91, ssB, List.idxOf?_cons, Go.Sx.LV.undef, Go.undef, Go.Sx.callO, Go.Sx.splice, Go.Sx.finish, Go.Sx.look, Go.Sx.push, Go.Sx.setObj, Go.Sx.setU, Go.Sx.setAll, Go.Sx.appO, Go.Sx.leI_eq, ltF, h1]
/-- A gift. -/
structure Gft where
  no : Nat
  fr : Int
  to : Int
  sh : Id
abbrev Gft.pv (g : Gft) : PV := .agg [.s (.int .u64 g.no), .s (.int .i64 g.fr), .s (.int .i64 g.to), .s (.bool g.sh.all), g.sh.ptr]
abbrev Gft.rv (g : Gft) : PV := .agg [.s (.int .u64 g.no), .s (.int .i64 g.fr), .s (.int .i64 g.to), g.sh.rv]
def Gft.right (g : Gft) : Bool := decide (1 ≤ g.no) && (decide (g.no < 2 ^ 62) && (nodeB g.fr && (nodeB g.to && (decide (g.fr ≠ g.to) && decide (g.sh ≠ .zero)))))

theorem giftRight_ (g : Gft) (H : Heap) (nx : Nat) : Ω 42 [.p g.pv] H nx = some (.bool g.right, [], []) := by
  refine om_run (ir := ir42) (by kernel_rfl) 0 ?_
  obtain ⟨no, fr, to, sh⟩ := g
  have n1 := deedNode_ fr
  have n2 := deedNode_ to
  have z := idIsZero_ sh
  unfold Gft.right
  simp only
  rw [show decide (sh ≠ .zero) = !(decide (sh = .zero)) by simp]
  generalize decide (sh = .zero) = zz at *
  by_cases h1 : 1 ≤ no
  · have h1' : (1 : Int) ≤ no := by omega
    by_cases h2 : no < 2 ^ 62
    · have h2' : ¬ (4611686018427387904 : Int) ≤ no := by omega
      have h2'' : ¬ 4611686018427387904 ≤ no := by omega
      cases hf : nodeB fr <;> rw [hf] at n1
      · simp [ir42, ssB, List.idxOf?_cons, Go.Sx.LV.undef, Go.undef, Go.Sx.callO, Go.Sx.splice, Go.Sx.finish, Go.Sx.look, Go.Sx.push, Go.Sx.setObj, Go.Sx.setU, Go.Sx.setAll, Go.Sx.appO, Go.Sx.leI_eq, ltF, h1, h1', h2', h2'', n1]
      · cases ht : nodeB to <;> rw [ht] at n2
        · simp [ir42, ssB, List.idxOf?_cons, Go.Sx.LV.undef, Go.undef, Go.Sx.callO, Go.Sx.splice, Go.Sx.finish, Go.Sx.look, Go.Sx.push, Go.Sx.setObj, Go.Sx.setU, Go.Sx.setAll, Go.Sx.appO, Go.Sx.leI_eq, ltF, h1, h1', h2', h2'', n1, n2]
        · by_cases h3 : fr = to
          · have h3' : (fr != to) = false := by simp [h3]
            rw [h3] at n1 h3' ⊢
            simp [ir42, ssB, List.idxOf?_cons, Go.Sx.LV.undef, Go.undef, Go.Sx.callO, Go.Sx.splice, Go.Sx.finish, Go.Sx.look, Go.Sx.push, Go.Sx.setObj, Go.Sx.setU, Go.Sx.setAll, Go.Sx.appO, Go.Sx.leI_eq, ltF, h1, h1', h2', h2'', n1]
          · have h3'' : (fr != to) = true := by simp [h3]
            have h0 : no < 4611686018427387904 := h2
            cases zz <;> simp [ir42, ssB, List.idxOf?_cons, Go.Sx.LV.undef, Go.undef, Go.Sx.callO, Go.Sx.splice, Go.Sx.finish, Go.Sx.look, Go.Sx.push, Go.Sx.setObj, Go.Sx.setU, Go.Sx.setAll, Go.Sx.appO, Go.Sx.leI_eq, ltF, h1, h1', h2', h2'', n1, n2, h3, h3'', z, h0]
    · have h2' : (4611686018427387904 : Int) ≤ no := by omega
      have h2'' : 4611686018427387904 ≤ no := by omega
      have h0 : ¬ no < 4611686018427387904 := by omega
      simp [ir42, ssB, List.idxOf?_cons, Go.Sx.LV.undef, Go.undef, Go.Sx.callO, Go.Sx.splice, Go.Sx.finish, Go.Sx.look, Go.Sx.push, Go.Sx.setObj, Go.Sx.setU, Go.Sx.setAll, Go.Sx.appO, Go.Sx.leI_eq, ltF, h1, h1', h2', h2'', h0]
  · have h1' : ¬ (1 : Int) ≤ no := by omega
    have h1'' : no = 0 := by omega
    subst h1''
    simp [ir42, ssB, List.idxOf?_cons, Go.Sx.LV.undef, Go.undef, Go.Sx.callO, Go.Sx.splice, Go.Sx.finish, Go.Sx.look, Go.Sx.push, Go.Sx.setObj, Go.Sx.setU, Go.Sx.setAll, Go.Sx.appO, Go.Sx.leI_eq, ltF]
theorem rgiftRight_ (g : Gft) (H : Heap) (nx : Nat) : Ω 43 [.p g.rv] H nx = some (.bool g.right, [], []) := by
  refine om_run (ir := ir43) (by kernel_rfl) 0 ?_
  obtain ⟨no, fr, to, sh⟩ := g
  have z := Id.kind_z sh
  obtain ⟨sa, sb, hs⟩ := Id.rv_imm sh
  unfold Gft.right nodeB
  simp only [Gft.rv, hs]
  rw [show decide (sh ≠ .zero) = !(decide (sh = .zero)) by simp]
  generalize decide (sh = .zero) = zz at *
  generalize (sh.kind : Int) = kd at *
  by_cases h1 : 1 ≤ no
  · have h1' : ¬ (no : Int) ≤ 0 := by omega
    have h1'' : ¬ no = 0 := by omega
    by_cases h2 : no < 2 ^ 62
    · have h2' : ¬ (4611686018427387904 : Int) ≤ no := by omega
      have h2'' : ¬ 4611686018427387904 ≤ no := by omega
      by_cases f1 : 0 ≤ fr
      · by_cases f2 : fr < 12
        · have f3 : ¬ (12 : Int) ≤ fr := by omega
          by_cases t1 : 0 ≤ to
          · by_cases t2 : to < 12
            · have t3 : ¬ (12 : Int) ≤ to := by omega
              by_cases h3 : fr = to
              · rw [h3]
                rw [h3] at f1 f2 f3
                simp [ir43, ssB, List.idxOf?_cons, Go.Sx.LV.undef, Go.undef, Go.Sx.callO, Go.Sx.splice, Go.Sx.finish, Go.Sx.look, Go.Sx.push, Go.Sx.setObj, Go.Sx.setU, Go.Sx.setAll, Go.Sx.appO, Go.Sx.leI_eq, ltF, h1, h1', h1'', h2', h2'', f1, f2, f3]
              · have h3'' : (fr != to) = true := by simp [h3]
                have h0 : no < 4611686018427387904 := h2
                cases zz <;> (simp [ir43, ssB, List.idxOf?_cons, Go.Sx.LV.undef, Go.undef, Go.Sx.callO, Go.Sx.splice, Go.Sx.finish, Go.Sx.look, Go.Sx.push, Go.Sx.setObj, Go.Sx.setU, Go.Sx.setAll, Go.Sx.appO, Go.Sx.leI_eq, ltF, h1, h1', h1'', h2', h2'', f1, f2, f3, t1, t2, t3, h3, h3'', z, h0]; simpa using z)
            · have t3 : (12 : Int) ≤ to := by omega
              simp [ir43, ssB, List.idxOf?_cons, Go.Sx.LV.undef, Go.undef, Go.Sx.callO, Go.Sx.splice, Go.Sx.finish, Go.Sx.look, Go.Sx.push, Go.Sx.setObj, Go.Sx.setU, Go.Sx.setAll, Go.Sx.appO, Go.Sx.leI_eq, ltF, h1, h1', h1'', h2', h2'', f1, f2, f3, t1, t2, t3]
          · simp [ir43, ssB, List.idxOf?_cons, Go.Sx.LV.undef, Go.undef, Go.Sx.callO, Go.Sx.splice, Go.Sx.finish, Go.Sx.look, Go.Sx.push, Go.Sx.setObj, Go.Sx.setU, Go.Sx.setAll, Go.Sx.appO, Go.Sx.leI_eq, ltF, h1, h1', h1'', h2', h2'', f1, f2, f3, t1]
        · have f3 : (12 : Int) ≤ fr := by omega
          simp [ir43, ssB, List.idxOf?_cons, Go.Sx.LV.undef, Go.undef, Go.Sx.callO, Go.Sx.splice, Go.Sx.finish, Go.Sx.look, Go.Sx.push, Go.Sx.setObj, Go.Sx.setU, Go.Sx.setAll, Go.Sx.appO, Go.Sx.leI_eq, ltF, h1, h1', h1'', h2', h2'', f1, f2, f3]
      · simp [ir43, ssB, List.idxOf?_cons, Go.Sx.LV.undef, Go.undef, Go.Sx.callO, Go.Sx.splice, Go.Sx.finish, Go.Sx.look, Go.Sx.push, Go.Sx.setObj, Go.Sx.setU, Go.Sx.setAll, Go.Sx.appO, Go.Sx.leI_eq, ltF, h1, h1', h1'', h2', h2'', f1]
    · have h2' : (4611686018427387904 : Int) ≤ no := by omega
      have h2'' : 4611686018427387904 ≤ no := by omega
      have h0 : ¬ no < 4611686018427387904 := by omega
      simp [ir43, ssB, List.idxOf?_cons, Go.Sx.LV.undef, Go.undef, Go.Sx.callO, Go.Sx.splice, Go.Sx.finish, Go.Sx.look, Go.Sx.push, Go.Sx.setObj, Go.Sx.setU, Go.Sx.setAll, Go.Sx.appO, Go.Sx.leI_eq, ltF, h1, h1', h1'', h2', h2'', h0]
  · have h1'' : no = 0 := by omega
    subst h1''
    simp [ir43, ssB, List.idxOf?_cons, Go.Sx.LV.undef, Go.undef, Go.Sx.callO, Go.Sx.splice, Go.Sx.finish, Go.Sx.look, Go.Sx.push, Go.Sx.setObj, Go.Sx.setU, Go.Sx.setAll, Go.Sx.appO, Go.Sx.leI_eq, ltF]

/-- A gift's bytes. -/
def Gft.bytes (g : Gft) : List UInt8 := vnum g.no ++ vnum g.fr.toNat ++ vnum g.to.toNat ++ txt (pack (idBits g.sh))
theorem pack_len (l : List Bool) : (pack l).length ≤ l.length := by
  have : ∀ (l : List Bool) (p : List UInt8) (n : Nat), p.length = (n + 7) / 8 → (addBits p n l).length = (n + l.length + 7) / 8 := by
    intro l
    induction l with
    | nil => intro p n h; simpa [addBits] using h
    | cons b l ih =>
      intro p n h
      rw [addBits, ih _ (n + 1) (addBit_len p n b h), List.length_cons]
      congr 1
      omega
  have h := this l [] 0 rfl
  rw [pack, h]
  omega
theorem Gft.right_lt {g : Gft} (h : g.right = true) : g.no < 2 ^ 62 ∧ (∃ f t : Nat, g.fr = f ∧ g.to = t ∧ f < 12 ∧ t < 12) := by
  simp only [Gft.right, nodeB, Bool.and_eq_true, decide_eq_true_eq] at h
  obtain ⟨_, h2, ⟨h3, h4⟩, ⟨h5, h6⟩, _⟩ := h
  exact ⟨h2, g.fr.toNat, g.to.toNat, by omega, by omega, by omega, by omega⟩
theorem putGift_ {H : Heap} {nx : Nat} {x : LV} {q : List UInt8} (b : Bs H nx x q) (no f t : Nat) (sh : Id) (hno : no < 2 ^ 64) (hf : f < 12) (ht : t < 12) (hq : q.length < 2 ^ 20) (hs : (idBits sh).length < 2 ^ 20) :
    Ω 27 [x, .p (Gft.pv ⟨no, f, t, sh⟩)] H nx = some (.p (.sl (bytP (q ++ Gft.bytes ⟨no, f, t, sh⟩)) (q ++ Gft.bytes ⟨no, f, t, sh⟩).length 1 false), [], []) := by
  have v1 := vnum_len no hno
  have v2 := vnum_len f (by omega)
  have v3 := vnum_len t (by omega)
  have hp := pack_len (idBits sh)
  have w1 : IntKind.u64.wrap (f : Int) = f := wrap_u64' _ (by omega) (by omega)
  have w2 : IntKind.u64.wrap (t : Int) = t := wrap_u64' _ (by omega) (by omega)
  have c := codeID_ sh (by omega)
  have n1 := fun H nx (g' : Bs H nx x q) => numB_ g' no hno (by omega)
  have hE : q ++ Gft.bytes ⟨no, f, t, sh⟩ = (((q ++ vnum no) ++ vnum f) ++ vnum t) ++ txt (pack (idBits sh)) := by simp [Gft.bytes]
  rw [hE]
  have l1 : (q ++ vnum no).length < 2 ^ 21 := by simp; omega
  generalize q ++ vnum no = Q1 at *
  have n2 := fun H nx y (g' : Bs H nx y Q1) => numB_ g' f (by omega) (by omega)
  have l2 : (Q1 ++ vnum f).length < 2 ^ 22 := by simp; omega
  generalize Q1 ++ vnum f = Q2 at *
  have n3 := fun H nx y (g' : Bs H nx y Q2) => numB_ g' t (by omega) (by omega)
  have l3 : (Q2 ++ vnum t).length < 2 ^ 23 := by simp; omega
  generalize Q2 ++ vnum t = Q3 at *
  have tx := fun H nx y (g' : Bs H nx y Q3) => textB_ g' (pack (idBits sh)) (by omega) (by omega)
  generalize pack (idBits sh) = B at *
  generalize Q3 ++ txt B = Q4 at *
  have m2 : ∀ (H : Heap) (nx id : Nat), H id = some (.cells (byt Q1)) → id < nx → Ω 26 [.arr id 0 Q1.length 1 Q1.length false, .int .u64 f] H nx = _ := fun H nx id h1 h2 => n2 H nx _ (.whole h1 h2)
  have m3 : ∀ (H : Heap) (nx id : Nat), H id = some (.cells (byt Q2)) → id < nx → Ω 26 [.arr id 0 Q2.length 1 Q2.length false, .int .u64 t] H nx = _ := fun H nx id h1 h2 => n3 H nx _ (.whole h1 h2)
  have mt : ∀ (H : Heap) (nx id : Nat), H id = some (.cells (byt Q3)) → id < nx → Ω 28 [.arr id 0 Q3.length 1 Q3.length false, bstr B] H nx = _ := fun H nx id h1 h2 => tx H nx _ (.whole h1 h2)
  have bb : bytesL (byt B) = some B := bytesL_byt B
  refine om_run (ir := ir27) (by kernel_rfl) 0 ?_
  cases b with
  | nil =>
    have m1 : ∀ (H : Heap) (nx : Nat), Ω 26 [.p (.s (.slice none 0 0)), .int .u64 no] H nx = _ := fun H nx => n1 H nx .nil
    simp [ir27, ssB, List.idxOf?_cons, Go.Sx.LV.undef, Go.undef, Go.Sx.callO, Go.Sx.splice, Go.Sx.finish, Go.Sx.look, Go.Sx.push, Go.Sx.setObj, Go.Sx.setU, Go.Sx.setAll, Go.Sx.appO, Go.Sx.leI_eq, ltF, m1, m2, m3, mt, w1, w2, c, bb, bytP_map, bytP_len, byt_len, bytP_len, take_byt, ids_byt, ren_byt, ids_app, ren_app, allP_byt, allP_app]
  | sl _ fl =>
    have m1 : ∀ (H : Heap) (nx : Nat), Ω 26 [.p (.sl (bytP q) q.length 1 fl), .int .u64 no] H nx = _ := fun H nx => n1 H nx (.sl q fl)
    simp [ir27, ssB, List.idxOf?_cons, Go.Sx.LV.undef, Go.undef, Go.Sx.callO, Go.Sx.splice, Go.Sx.finish, Go.Sx.look, Go.Sx.push, Go.Sx.setObj, Go.Sx.setU, Go.Sx.setAll, Go.Sx.appO, Go.Sx.leI_eq, ltF, m1, m2, m3, mt, w1, w2, c, bb, bytP_map, bytP_len, byt_len, bytP_len, take_byt, ids_byt, ren_byt, ids_app, ren_app, allP_byt, allP_app]
  | arr _ G id off cp ex h1 h2 h3 h4 =>
    have m1 : ∀ (H : Heap) (nx : Nat), H id = some (.cells (byt G)) → id < nx → Ω 26 [.arr id off q.length 1 cp ex, .int .u64 no] H nx = _ := fun H nx e1 e2 => n1 H nx (.arr q G id off cp ex e1 e2 h3 h4)
    have hk : ∀ k, id < nx + k := fun k => by omega
    have hne : ¬ id = nx := by omega
    have hne2 : ∀ k, ¬ id = nx + k := fun k => by omega
    simp [ir27, ssB, List.idxOf?_cons, Go.Sx.LV.undef, Go.undef, Go.Sx.callO, Go.Sx.splice, Go.Sx.finish, Go.Sx.look, Go.Sx.push, Go.Sx.setObj, Go.Sx.setU, Go.Sx.setAll, Go.Sx.appO, Go.Sx.leI_eq, ltF, m1, m2, m3, mt, w1, w2, c, bb, bytP_map, bytP_len, byt_len, bytP_len, take_byt, ids_byt, ren_byt, ids_app, ren_app, allP_byt, allP_app, h1, h2, hk, hne, hne2]
theorem pack_ne {l : List Bool} (h : 0 < l.length) : pack l ≠ [] := by
  rw [← packR_pack, packR, if_pos h]
  simp
theorem rbits_ (l : List Bool) (h0 : 0 < l.length) (h30 : l.length < 2 ^ 30) (H : Heap) (nx : Nat) : Ω 34 [blV l] H nx = some (.p (.sl (bytP (pack l)) (pack l).length 1 false), [], []) := by
  rw [rBytes_ (.sl l false) h30, packR_pack, sum'_ne (pack_ne h0)]
theorem join4 {H : Heap} {nx : Nat} {x y z w : LV} {F G K M : List UInt8} (f : Bs H nx x F) (g : Bs H nx y G) (k : Bs H nx z K) (m : Bs H nx w M) (h30 : F.length + G.length + K.length + M.length < 2 ^ 31) (aid : Nat) (ha : H aid = some (.cells [x, y, z, w])) (haid : aid < nx) :
    Ω 36 [.arr aid 0 4 1 4 true] H nx = some (sum' (F ++ G ++ K ++ M), [], []) := by
  have := rjoin_ [x, y, z, w] [F, G, K, M] H nx aid 4 true ha haid (.cons f (.cons g (.cons k (.cons m .nil)))) (by simp) (by simp; omega)
  simpa using this
theorem rputGift_ (no f t : Nat) (sh : Id) (hno : no < 2 ^ 64) (hf : f < 12) (ht : t < 12) (hs : (idBits sh).length < 2 ^ 20) (H : Heap) (nx : Nat) :
    Ω 38 [.p (Gft.rv ⟨no, f, t, sh⟩)] H nx = some (.p (.sl (bytP (Gft.bytes ⟨no, f, t, sh⟩)) (Gft.bytes ⟨no, f, t, sh⟩).length 1 false), [], []) := by
  have v1 := vnum_len no hno
  have v2 := vnum_len f (by omega)
  have v3 := vnum_len t (by omega)
  have v4 := vnum_pos no
  have hp := pack_len (idBits sh)
  have w1 : IntKind.u64.wrap (f : Int) = f := wrap_u64' _ (by omega) (by omega)
  have w2 : IntKind.u64.wrap (t : Int) = t := wrap_u64' _ (by omega) (by omega)
  have ci := rID_ sh _ _ .nil (by simp; omega)
  rw [List.nil_append] at ci
  have cb := rbits_ (idBits sh) (idBits_pos sh) (by omega)
  have ct := rTextB_ (pack (idBits sh)) (by omega)
  have n1 := rNum_ no hno
  have n2 := rNum_ f (by omega)
  have n3 := rNum_ t (by omega)
  have tl : (txt (pack (idBits sh))).length < 2 ^ 22 := by
    have := vnum_len (pack (idBits sh)).length (by omega)
    rw [txt, List.length_append]; omega
  have hE : Gft.bytes ⟨no, f, t, sh⟩ = vnum no ++ vnum f ++ vnum t ++ txt (pack (idBits sh)) := by simp [Gft.bytes]
  rw [hE]
  have hne : vnum no ++ vnum f ++ vnum t ++ txt (pack (idBits sh)) ≠ [] := by
    intro h
    have := congrArg List.length h
    simp only [List.length_append, List.length_nil] at this
    omega
  obtain ⟨ka, kb, hsh⟩ := Id.rv_imm sh
  rw [hsh] at ci
  simp only [Gft.rv, hsh]
  generalize (sh.kind : Int) = kd at *
  generalize (pack (idBits sh)).isEmpty = e4 at *
  generalize decide (no < 128) = e1 at *
  generalize decide (f < 128) = e2 at *
  generalize decide (t < 128) = e3 at *
  generalize idBits sh = I at *
  generalize txt (pack I) = T at *
  generalize pack I = B at *
  generalize vnum no = V1 at *
  generalize vnum f = V2 at *
  generalize vnum t = V3 at *
  have j4 : ∀ (H : Heap) (nx aid i1 i2 i3 i4 : Nat), H aid = some (.cells [.arr i1 0 V1.length 1 V1.length e1, .arr i2 0 V2.length 1 V2.length e2, .arr i3 0 V3.length 1 V3.length e3, .arr i4 0 T.length 1 T.length e4]) → aid < nx →
      H i1 = some (.cells (byt V1)) → i1 < nx → H i2 = some (.cells (byt V2)) → i2 < nx → H i3 = some (.cells (byt V3)) → i3 < nx → H i4 = some (.cells (byt T)) → i4 < nx →
      Ω 36 [.arr aid 0 4 1 4 true] H nx = some (sum' (V1 ++ V2 ++ V3 ++ T), [], []) :=
    fun H nx aid i1 i2 i3 i4 h0 h0' a1 b1 a2 b2 a3 b3 a4 b4 => join4 (.whole a1 b1) (.whole a2 b2) (.whole a3 b3) (.whole a4 b4) (by omega) aid h0 h0'
  rw [sum'_ne hne] at j4
  generalize V1 ++ V2 ++ V3 ++ T = Q at *
  have bb : bytesL (byt B) = some B := bytesL_byt B
  refine om_run (ir := ir38) (by kernel_rfl) 0 ?_
  have jj := fun (H : Heap) (nx : Nat) => j4 H (nx + 6) (nx + 5) (nx + 1) (nx + 2) (nx + 3) (nx + 4)
  simp [ir38, ssB, List.idxOf?_cons, Go.Sx.LV.undef, Go.undef, Go.Sx.callO, Go.Sx.splice, Go.Sx.finish, Go.Sx.look, Go.Sx.push, Go.Sx.setObj, Go.Sx.setU, Go.Sx.setAll, Go.Sx.appO, Go.Sx.leI_eq, ltF, n1, n2, n3, w1, w2, ci, cb, ct, bb, bytP_map, bytP_len, byt_len, bytP_len, take_byt, ids_byt, ren_byt, ids_app, ren_app, allP_byt, allP_app, jj]
end Go.Proofs.YtppeggedcaabkaaGreatDoor
end

section
namespace Go.Proofs.YtppeggedcaabkaaGreatDoor
open Go Go.Sx
set_option linter.unusedSimpArgs false
set_option linter.unusedVariables false

abbrev ann : List PV := [.s (.int .i64 1), .s (.string ⟨#[]⟩), .s (.string ⟨#[65, 110, 110]⟩)]
theorem clone_ann (fl : Bool) (H : Heap) (nx : Nat) : Ω 128 [.p (.sl ann 1 3 fl)] H nx = some (.p (.sl ann 1 3 false), [], []) := by
  refine om_run (ir := ir128) (by kernel_rfl) 0 ?_
  simp [ir128, ssB, List.idxOf?_cons, Go.Sx.LV.undef, Go.undef, Go.Sx.callO, Go.Sx.splice, Go.Sx.finish, Go.Sx.look, Go.Sx.push, Go.Sx.setObj, Go.Sx.setU, Go.Sx.setAll, Go.Sx.appO, Go.Sx.leI_eq, ltF]
theorem clone_none (H : Heap) (nx : Nat) : Ω 128 [.p (.s (.slice none 0 0))] H nx = some (.p (.s (.slice none 0 0)), [], []) := by
  refine om_run (ir := ir128) (by kernel_rfl) 0 ?_
  simp [ir128, ssB, List.idxOf?_cons, Go.Sx.LV.undef, Go.undef, Go.Sx.callO, Go.Sx.splice, Go.Sx.finish, Go.Sx.look, Go.Sx.push, Go.Sx.setObj, Go.Sx.setU, Go.Sx.setAll, Go.Sx.appO, Go.Sx.leI_eq, ltF]
/-- A card: none, or Ann's. -/
def crd (a : Bool) (fl : Bool) : PV := if a then .sl ann 1 3 fl else .s (.slice none 0 0)
theorem crd_t (fl : Bool) : crd true fl = .sl ann 1 3 fl := rfl
theorem crd_f (fl : Bool) : crd false fl = .s (.slice none 0 0) := rfl
theorem cardFields_ (a fl : Bool) (H : Heap) (nx : Nat) : Ω 179 [.p (.agg [crd a fl])] H nx = some (.p (crd a false), [], []) := by
  refine om_run (ir := ir179) (by kernel_rfl) 0 ?_
  have c1 := fun fl => clone_ann fl
  have c2 := clone_none
  cases a
  · rw [crd_f, crd_f]; simp [ir179, ssB, List.idxOf?_cons, Go.Sx.LV.undef, Go.undef, Go.Sx.callO, Go.Sx.splice, Go.Sx.finish, Go.Sx.look, Go.Sx.push, Go.Sx.setObj, Go.Sx.setU, Go.Sx.setAll, Go.Sx.appO, Go.Sx.leI_eq, ltF, c2]
  · rw [crd_t, crd_t]; simp [ir179, ssB, List.idxOf?_cons, Go.Sx.LV.undef, Go.undef, Go.Sx.callO, Go.Sx.splice, Go.Sx.finish, Go.Sx.look, Go.Sx.push, Go.Sx.setObj, Go.Sx.setU, Go.Sx.setAll, Go.Sx.appO, Go.Sx.leI_eq, ltF, c1]
theorem cardLen_ (a fl : Bool) (H : Heap) (nx : Nat) : Ω 71 [.p (.agg [crd a fl])] H nx = some (.int .i64 (if a then 1 else 0), [], []) := by
  refine om_run (ir := ir71) (by kernel_rfl) 0 ?_
  cases a
  · rw [crd_f]; simp [ir71, ssB, List.idxOf?_cons, Go.Sx.LV.undef, Go.undef, Go.Sx.callO, Go.Sx.splice, Go.Sx.finish, Go.Sx.look, Go.Sx.push, Go.Sx.setObj, Go.Sx.setU, Go.Sx.setAll, Go.Sx.appO, Go.Sx.leI_eq, ltF]
  · rw [crd_t]; simp [ir71, ssB, List.idxOf?_cons, Go.Sx.LV.undef, Go.undef, Go.Sx.callO, Go.Sx.splice, Go.Sx.finish, Go.Sx.look, Go.Sx.push, Go.Sx.setObj, Go.Sx.setU, Go.Sx.setAll, Go.Sx.appO, Go.Sx.leI_eq, ltF]

/-- A version: what it has seen, its card, whether it is gone. -/
structure Vsn where
  ev : Ev
  nm : Bool
  gone : Bool
abbrev Vsn.pv (v : Vsn) (fl : Bool) : PV := .agg [.s (.int .u64 v.ev.n), v.ev.ptr, crd v.nm fl, .s (.bool v.gone)]
abbrev Vsn.rv (v : Vsn) (fl : Bool) : PV := .agg [v.ev.rv, crd v.nm fl, .s (.bool v.gone)]
theorem vsnRight_ (v : Vsn) (fl : Bool) (H : Heap) (nx : Nat) : Ω 89 [.p (v.pv fl)] H nx = some (.bool (!v.gone || !v.nm), [], []) := by
  refine om_run (ir := ir89) (by kernel_rfl) 0 ?_
  obtain ⟨ev, nm, gone⟩ := v
  have l := fun nm fl => cardLen_ nm fl
  cases gone
  · simp [ir89, ssB, List.idxOf?_cons, Go.Sx.LV.undef, Go.undef, Go.Sx.callO, Go.Sx.splice, Go.Sx.finish, Go.Sx.look, Go.Sx.push, Go.Sx.setObj, Go.Sx.setU, Go.Sx.setAll, Go.Sx.appO, Go.Sx.leI_eq, ltF]
  · cases nm
    · simp [ir89, ssB, List.idxOf?_cons, Go.Sx.LV.undef, Go.undef, Go.Sx.callO, Go.Sx.splice, Go.Sx.finish, Go.Sx.look, Go.Sx.push, Go.Sx.setObj, Go.Sx.setU, Go.Sx.setAll, Go.Sx.appO, Go.Sx.leI_eq, ltF, l]
    · simp [ir89, ssB, List.idxOf?_cons, Go.Sx.LV.undef, Go.undef, Go.Sx.callO, Go.Sx.splice, Go.Sx.finish, Go.Sx.look, Go.Sx.push, Go.Sx.setObj, Go.Sx.setU, Go.Sx.setAll, Go.Sx.appO, Go.Sx.leI_eq, ltF, l]
end Go.Proofs.YtppeggedcaabkaaGreatDoor
end

section
namespace Go.Proofs.YtppeggedcaabkaaGreatDoor
open Go Go.Sx
set_option linter.unusedSimpArgs false
set_option linter.unusedVariables false

def crdB (a : Bool) : List UInt8 := if a then [1, 1, 0, 3, 65, 110, 110] else [0]
theorem crdB_t : crdB true = vnum 1 ++ [1] ++ txt [] ++ txt [65, 110, 110] := by
  have h0 := vnum_lt (show 0 < 128 by decide)
  have h1 := vnum_lt (show 1 < 128 by decide)
  have h3 := vnum_lt (show 3 < 128 by decide)
  simp [crdB, txt, h0, h1, h3]
theorem crdB_f : crdB false = vnum 0 := by
  have h0 := vnum_lt (show 0 < 128 by decide)
  simp [crdB, h0]
theorem fields_f {H : Heap} {nx : Nat} {x : LV} {q : List UInt8} (b : Bs H nx x q) (hq : q.length < 2 ^ 20) :
    Ω 178 [x, .p (.s (.slice none 0 0))] H nx = some (.p (.sl (bytP (q ++ vnum 0)) (q ++ vnum 0).length 1 false), [], []) := by
  refine om_run (ir := ir178) (by kernel_rfl) 2 ?_
  have n := fun H nx (g' : Bs H nx x q) => numB_ g' 0 (by decide) (by omega)
  generalize q ++ vnum 0 = Q at *
  have lo : ∀ (h : Hp) (y : LV), runCS ⟨Ω, noG, H, nx⟩ 2 ir178_0 ⟨[(0, y), (12, .p (.s (.slice none 0 0))), (13, .int .i64 0), (14, .int .i64 0)], h⟩ = some (.exit 0, ⟨[(0, y), (12, .p (.s (.slice none 0 0))), (13, .int .i64 0), (14, .int .i64 0), (15, .bool false)], h⟩) := fun h y => by
    simp [ir178_0, ssB, List.idxOf?_cons, Go.Sx.LV.undef, Go.undef, Go.Sx.callO, Go.Sx.splice, Go.Sx.finish, Go.Sx.look, Go.Sx.push, Go.Sx.setObj, Go.Sx.setU, Go.Sx.setAll, Go.Sx.appO, Go.Sx.leI_eq, ltF]
  have lp : ∀ (h : Hp) (y : LV), iter (runCS ⟨Ω, noG, H, nx⟩ 2 ir178_0) 2 ⟨[(0, y), (12, .p (.s (.slice none 0 0))), (13, .int .i64 0), (14, .int .i64 0)], h⟩ = some (.exit 0, ⟨[(0, y), (12, .p (.s (.slice none 0 0))), (13, .int .i64 0), (14, .int .i64 0), (15, .bool false)], h⟩) := fun h y => iter_out (lo h y) (by simp)
  have w0 : IntKind.u64.wrap 0 = 0 := by decide
  simp only [Int.natCast_zero, Int.ofNat_zero] at n
  cases b with
  | nil =>
    have m1 : ∀ (H : Heap) (nx : Nat), Ω 26 [.p (.s (.slice none 0 0)), .int .u64 0] H nx = _ := fun H nx => n H nx .nil
    simp [ir178, ssB, List.idxOf?_cons, Go.Sx.LV.undef, Go.undef, Go.Sx.callO, Go.Sx.splice, Go.Sx.finish, Go.Sx.look, Go.Sx.push, Go.Sx.setObj, Go.Sx.setU, Go.Sx.setAll, Go.Sx.appO, Go.Sx.leI_eq, ltF, m1, w0, lp, byt_len, bytP_len, take_byt, ids_byt, ren_byt, ids_app, ren_app, allP_byt, allP_app]
  | sl _ fl =>
    have m1 : ∀ (H : Heap) (nx : Nat), Ω 26 [.p (.sl (bytP q) q.length 1 fl), .int .u64 0] H nx = _ := fun H nx => n H nx (.sl q fl)
    simp [ir178, ssB, List.idxOf?_cons, Go.Sx.LV.undef, Go.undef, Go.Sx.callO, Go.Sx.splice, Go.Sx.finish, Go.Sx.look, Go.Sx.push, Go.Sx.setObj, Go.Sx.setU, Go.Sx.setAll, Go.Sx.appO, Go.Sx.leI_eq, ltF, m1, w0, lp, byt_len, bytP_len, take_byt, ids_byt, ren_byt, ids_app, ren_app, allP_byt, allP_app]
  | arr _ G id off cp ex h1 h2 h3 h4 =>
    have m1 : ∀ (H : Heap) (nx : Nat), H id = some (.cells (byt G)) → id < nx → Ω 26 [.arr id off q.length 1 cp ex, .int .u64 0] H nx = _ := fun H nx e1 e2 => n H nx (.arr q G id off cp ex e1 e2 h3 h4)
    have hk : ∀ k, id < nx + k := fun k => by omega
    have hne : ¬ id = nx := by omega
    have hne2 : ∀ k, ¬ id = nx + k := fun k => by omega
    simp [ir178, ssB, List.idxOf?_cons, Go.Sx.LV.undef, Go.undef, Go.Sx.callO, Go.Sx.splice, Go.Sx.finish, Go.Sx.look, Go.Sx.push, Go.Sx.setObj, Go.Sx.setU, Go.Sx.setAll, Go.Sx.appO, Go.Sx.leI_eq, ltF, m1, w0, lp, byt_len, bytP_len, take_byt, ids_byt, ren_byt, ids_app, ren_app, allP_byt, allP_app, h1, h2, hk, hne, hne2]
theorem fields_t {H : Heap} {nx : Nat} {x : LV} {q : List UInt8} (b : Bs H nx x q) (hq : q.length < 2 ^ 20) :
    Ω 178 [x, .p (.sl ann 1 3 false)] H nx = some (.p (.sl (bytP (q ++ vnum 1 ++ [1] ++ txt [] ++ txt [65, 110, 110])) (q ++ vnum 1 ++ [1] ++ txt [] ++ txt [65, 110, 110]).length 1 false), [], []) := by
  refine om_run (ir := ir178) (by kernel_rfl) 3 ?_
  have n := fun H nx (g' : Bs H nx x q) => numB_ g' 1 (by decide) (by omega)
  have v1 := vnum_len 1 (by decide)
  have v0 := vnum_pos 1
  have l1 : (q ++ vnum 1).length < 2 ^ 21 := by simp; omega
  generalize q ++ vnum 1 = Q at *
  have l2 : (Q ++ [1]).length < 2 ^ 22 := by simp; omega
  have l2' : (Q ++ [1]).length = Q.length + 1 := by simp
  have t1 := fun H nx y (g' : Bs H nx y (Q ++ [1])) => textB_ g' [] (by omega) (by decide)
  have b2 : byt (Q ++ [1]) = byt Q ++ [.int .u8 1] := by rw [byt_app]; rfl
  have ht0 : (txt []).length < 20 := by have := vnum_len 0 (by decide); simpa [txt] using (by omega : (vnum 0).length < 20)
  have l3 : (Q ++ [1] ++ txt []).length < 2 ^ 23 := by rw [List.length_append]; omega
  have t1' : ∀ (H : Heap) (nx id : Nat), H id = some (.cells (byt Q ++ [.int .u8 1])) → id < nx → Ω 28 [.arr id 0 (Q.length + 1) 1 (Q.length + 1) false, .str ⟨#[]⟩] H nx = _ := fun H nx id h1 h2 => t1 H nx _ (.whole' (l2'.symm) (by rw [b2]; exact h1) h2)
  generalize Q ++ [1] ++ txt [] = Q2 at *
  have t2 := fun H nx y (g' : Bs H nx y Q2) => textB_ g' [65, 110, 110] (by omega) (by decide)
  have t2' : ∀ (H : Heap) (nx id : Nat), H id = some (.cells (byt Q2)) → id < nx → Ω 28 [.arr id 0 Q2.length 1 Q2.length false, .str ⟨#[65, 110, 110]⟩] H nx = _ := fun H nx id h1 h2 => t2 H nx _ (.whole h1 h2)
  generalize Q2 ++ txt [65, 110, 110] = Q3 at *
  have q41 : ¬ 1099511627776 < Q.length + 1 := by omega
  have w1 : IntKind.u64.wrap 1 = 1 := by decide
  have w2 : IntKind.i64.wrap 1 = 1 := by decide
  have w3 : IntKind.u8.wrap 1 = 1 := by decide
  have e := Eq.refl (runCS ⟨Ω, noG, H, nx⟩ 3 ir178_0 ⟨[(0, .arr nx 0 Q.length 1 Q.length false), (12, .p (.sl ann 1 3 false)), (13, .int .i64 1), (14, .int .i64 0)], ⟨[], [some (.cells (byt Q))]⟩⟩)
  conv at e => rhs; simp [ir178_0, ssB, List.idxOf?_cons, Go.Sx.LV.undef, Go.undef, Go.Sx.callO, Go.Sx.splice, Go.Sx.finish, Go.Sx.look, Go.Sx.push, Go.Sx.setObj, Go.Sx.setU, Go.Sx.setAll, Go.Sx.appO, Go.Sx.leI_eq, ltF, t1', t2', w2, w3, q41, byt_len, bytP_len, take_byt, ids_byt, ren_byt, ids_app, ren_app, allP_byt, allP_app]
  have lo : ∀ (h : Hp) (y : LV), runCS ⟨Ω, noG, H, nx⟩ 3 ir178_0 ⟨[(0, y), (12, .p (.sl ann 1 3 false)), (13, .int .i64 1), (14, .int .i64 1)], h⟩ = some (.exit 0, ⟨[(0, y), (12, .p (.sl ann 1 3 false)), (13, .int .i64 1), (14, .int .i64 1), (15, .bool false)], h⟩) := fun h y => by
    simp [ir178_0, ssB, List.idxOf?_cons, Go.Sx.LV.undef, Go.undef, Go.Sx.callO, Go.Sx.splice, Go.Sx.finish, Go.Sx.look, Go.Sx.push, Go.Sx.setObj, Go.Sx.setU, Go.Sx.setAll, Go.Sx.appO, Go.Sx.leI_eq, ltF]
  have lp := (iter_step (n := 2) e).trans (iter_out (n := 1) (lo _ _) (by simp))
  cases b with
  | nil =>
    have m1 : ∀ (H : Heap) (nx : Nat), Ω 26 [.p (.s (.slice none 0 0)), .int .u64 1] H nx = _ := fun H nx => n H nx .nil
    simp [ir178, ssB, List.idxOf?_cons, Go.Sx.LV.undef, Go.undef, Go.Sx.callO, Go.Sx.splice, Go.Sx.finish, Go.Sx.look, Go.Sx.push, Go.Sx.setObj, Go.Sx.setU, Go.Sx.setAll, Go.Sx.appO, Go.Sx.leI_eq, ltF, m1, w1, lp, byt_len, bytP_len, take_byt, ids_byt, ren_byt, ids_app, ren_app, allP_byt, allP_app]
  | sl _ fl =>
    have m1 : ∀ (H : Heap) (nx : Nat), Ω 26 [.p (.sl (bytP q) q.length 1 fl), .int .u64 1] H nx = _ := fun H nx => n H nx (.sl q fl)
    simp [ir178, ssB, List.idxOf?_cons, Go.Sx.LV.undef, Go.undef, Go.Sx.callO, Go.Sx.splice, Go.Sx.finish, Go.Sx.look, Go.Sx.push, Go.Sx.setObj, Go.Sx.setU, Go.Sx.setAll, Go.Sx.appO, Go.Sx.leI_eq, ltF, m1, w1, lp, byt_len, bytP_len, take_byt, ids_byt, ren_byt, ids_app, ren_app, allP_byt, allP_app]
  | arr _ G id off cp ex h1 h2 h3 h4 =>
    have m1 : ∀ (H : Heap) (nx : Nat), H id = some (.cells (byt G)) → id < nx → Ω 26 [.arr id off q.length 1 cp ex, .int .u64 1] H nx = _ := fun H nx e1 e2 => n H nx (.arr q G id off cp ex e1 e2 h3 h4)
    have hk : ∀ k, id < nx + k := fun k => by omega
    have hne : ¬ id = nx := by omega
    have hne2 : ∀ k, ¬ id = nx + k := fun k => by omega
    simp [ir178, ssB, List.idxOf?_cons, Go.Sx.LV.undef, Go.undef, Go.Sx.callO, Go.Sx.splice, Go.Sx.finish, Go.Sx.look, Go.Sx.push, Go.Sx.setObj, Go.Sx.setU, Go.Sx.setAll, Go.Sx.appO, Go.Sx.leI_eq, ltF, m1, w1, lp, byt_len, bytP_len, take_byt, ids_byt, ren_byt, ids_app, ren_app, allP_byt, allP_app, h1, h2, hk, hne, hne2]
theorem putCard_ {H : Heap} {nx : Nat} {x : LV} {q : List UInt8} (b : Bs H nx x q) (a fl : Bool) (hq : q.length < 2 ^ 20) :
    Ω 140 [x, .p (.agg [crd a fl])] H nx = some (.p (.sl (bytP (q ++ crdB a)) (q ++ crdB a).length 1 false), [], []) := by
  refine om_run (ir := ir140) (by kernel_rfl) 1 ?_
  have c := cardFields_ a fl
  have f : ∀ H nx x, Bs H nx x q → Ω 178 [x, .p (crd a false)] H nx = some (.p (.sl (bytP (q ++ crdB a)) (q ++ crdB a).length 1 false), [], []) := by
    intro H nx x b
    cases a
    · rw [crdB_f]; exact fields_f b hq
    · rw [crdB_t]
      have := fields_t b hq
      rw [crd_t]
      simpa only [List.append_assoc] using this
  generalize q ++ crdB a = Q at *
  cases a <;> simp only [crd_t, crd_f] at c f ⊢
  all_goals
    cases b with
    | nil =>
      have m1 := fun H nx => f H nx _ .nil
      simp [ir140, ssB, List.idxOf?_cons, Go.Sx.LV.undef, Go.undef, Go.Sx.callO, Go.Sx.splice, Go.Sx.finish, Go.Sx.look, Go.Sx.push, Go.Sx.setObj, Go.Sx.setU, Go.Sx.setAll, Go.Sx.appO, Go.Sx.leI_eq, ltF, m1, c, byt_len, bytP_len, take_byt, ids_byt, ren_byt, ids_app, ren_app, allP_byt, allP_app]
    | sl _ fl' =>
      have m1 := fun H nx => f H nx _ (.sl q fl')
      simp [ir140, ssB, List.idxOf?_cons, Go.Sx.LV.undef, Go.undef, Go.Sx.callO, Go.Sx.splice, Go.Sx.finish, Go.Sx.look, Go.Sx.push, Go.Sx.setObj, Go.Sx.setU, Go.Sx.setAll, Go.Sx.appO, Go.Sx.leI_eq, ltF, m1, c, byt_len, bytP_len, take_byt, ids_byt, ren_byt, ids_app, ren_app, allP_byt, allP_app]
    | arr _ G id off cp ex h1 h2 h3 h4 =>
      have m1 := fun H nx e1 e2 => f H nx _ (.arr q G id off cp ex e1 e2 h3 h4)
      have hk : ∀ k, id < nx + k := fun k => by omega
      have hne : ¬ id = nx := by omega
      have hne2 : ∀ k, ¬ id = nx + k := fun k => by omega
      simp [ir140, ssB, List.idxOf?_cons, Go.Sx.LV.undef, Go.undef, Go.Sx.callO, Go.Sx.splice, Go.Sx.finish, Go.Sx.look, Go.Sx.push, Go.Sx.setObj, Go.Sx.setU, Go.Sx.setAll, Go.Sx.appO, Go.Sx.leI_eq, ltF, m1, c, byt_len, bytP_len, take_byt, ids_byt, ren_byt, ids_app, ren_app, allP_byt, allP_app, h1, h2, hk, hne, hne2]
end Go.Proofs.YtppeggedcaabkaaGreatDoor
end

section
namespace Go.Proofs.YtppeggedcaabkaaGreatDoor
open Go Go.Sx
set_option linter.unusedSimpArgs false
set_option linter.unusedVariables false

/-- A version's bytes. -/
def Vsn.bytes (v : Vsn) : List UInt8 := txt (pack (evBits v.ev)) ++ (if v.gone then [1] else 0 :: crdB v.nm)
theorem txt_len (s : List UInt8) (h : s.length < 2 ^ 19) : (txt s).length < 2 ^ 19 + 20 := by
  have := vnum_len s.length (by omega)
  rw [txt, List.length_append]; omega
theorem vsnBytes_ (v : Vsn) (fl : Bool) (hm : v.ev.max < 2 ^ 64) (hb : (evBits v.ev).length < 2 ^ 18) (H : Heap) (nx : Nat) :
    Ω 76 [.p (v.pv fl)] H nx = some (.p (.sl (bytP v.bytes) v.bytes.length 1 false), [], []) := by
  refine om_run (ir := ir76) (by kernel_rfl) 0 ?_
  obtain ⟨ev, nm, gone⟩ := v
  unfold Vsn.bytes
  simp only at hm hb ⊢
  have hp := pack_len (evBits ev)
  have c := codeEvent_ ev hm (by omega)
  have bb := bytesL_byt (pack (evBits ev))
  have t1 := fun H nx => textB_ (.nil : Bs H nx (.p (.s (.slice none 0 0))) []) (pack (evBits ev)) (by decide) (by omega)
  have tl := txt_len (pack (evBits ev)) (by omega)
  simp only [List.nil_append] at t1
  generalize txt (pack (evBits ev)) = T at *
  generalize pack (evBits ev) = B at *
  have q41 : ¬ 1099511627776 < T.length + 1 := by omega
  have b1 : byt (T ++ [1]) = byt T ++ [.int .u8 1] := by rw [byt_app]; rfl
  cases gone with
  | true =>
    have tk1 : List.take (T.length + 1) (byt T ++ [.int .u8 1]) = byt T ++ [.int .u8 1] := List.take_of_length_le (by simp [byt_len])
    have ap1 : allP (byt T ++ [.int .u8 1]) = some (bytP (T ++ [1])) := by rw [← b1, allP_byt]
    simp [ir76, ssB, List.idxOf?_cons, Go.Sx.LV.undef, Go.undef, Go.Sx.callO, Go.Sx.splice, Go.Sx.finish, Go.Sx.look, Go.Sx.push, Go.Sx.setObj, Go.Sx.setU, Go.Sx.setAll, Go.Sx.appO, Go.Sx.leI_eq, ltF, c, bb, t1, bytP_map, bytP_len, byt_len, ids_byt, ren_byt, take_byt, allP_byt, q41, tk1, ap1]
  | false =>
    have b0 : byt (T ++ [0]) = byt T ++ [.int .u8 0] := by rw [byt_app]; rfl
    have l0 : T.length + 1 = (T ++ [(0 : UInt8)]).length := by simp
    have pc := fun H nx y (g : Bs H nx y (T ++ [0])) => putCard_ g nm fl (by simp; omega)
    have hE : T ++ 0 :: crdB nm = T ++ [0] ++ crdB nm := by simp
    simp only [Bool.false_eq_true, if_false]
    rw [hE]
    generalize T ++ [0] ++ crdB nm = Q at *
    have pc' : ∀ (H : Heap) (nx id : Nat), H id = some (.cells (byt T ++ [.int .u8 0])) → id < nx → Ω 140 [.arr id 0 (T.length + 1) 1 (T.length + 1) false, .p (.agg [crd nm fl])] H nx = _ := fun H nx id h1 h2 => pc H nx _ (.whole' l0 (by rw [b0]; exact h1) h2)
    simp [ir76, ssB, List.idxOf?_cons, Go.Sx.LV.undef, Go.undef, Go.Sx.callO, Go.Sx.splice, Go.Sx.finish, Go.Sx.look, Go.Sx.push, Go.Sx.setObj, Go.Sx.setU, Go.Sx.setAll, Go.Sx.appO, Go.Sx.leI_eq, ltF, c, bb, t1, bytP_map, bytP_len, byt_len, bytP_len, take_byt, ids_byt, ren_byt, ids_app, ren_app, allP_byt, allP_app, q41, pc']
end Go.Proofs.YtppeggedcaabkaaGreatDoor
end

section
namespace Go.Proofs.YtppeggedcaabkaaGreatDoor
open Go Go.Sx
set_option linter.unusedSimpArgs false
set_option linter.unusedVariables false

theorem rnum_c (k : Nat) (hk : k < 128) (H : Heap) (nx : Nat) : Ω 32 [.int .u64 k] H nx = some (.arr nx 0 1 1 1 true, [], [some (.cells (byt [UInt8.ofNat k]))]) := by
  have n := rNum_ k (by omega) H nx
  rw [vnum_lt hk] at n
  simpa [hk] using n
theorem rcard_f (H : Heap) (nx : Nat) : Ω 143 [.p (.s (.slice none 0 0))] H nx = some (.p (.sl (bytP [0]) 1 1 true), [], []) := by
  refine om_run (ir := ir143) (by kernel_rfl) 2 ?_
  have n : ∀ (H : Heap) (nx : Nat), Ω 32 [.int .u64 0] H nx = some (.arr nx 0 1 1 1 true, [], [some (.cells [.int .u8 0])]) := fun H nx => rnum_c 0 (by decide) H nx
  have w0 : IntKind.u64.wrap 0 = 0 := by decide
  have lo : ∀ (h : Hp) (y : LV), runCS ⟨Ω, noG, H, nx⟩ 2 ir143_0 ⟨[(3, y), (10, .p (.s (.slice none 0 0))), (11, .int .i64 0), (12, .int .i64 0)], h⟩ = some (.exit 0, ⟨[(3, y), (10, .p (.s (.slice none 0 0))), (11, .int .i64 0), (12, .int .i64 0), (13, .bool false)], h⟩) := fun h y => by
    simp [ir143_0, ssB, List.idxOf?_cons, Go.Sx.LV.undef, Go.undef, Go.Sx.callO, Go.Sx.splice, Go.Sx.finish, Go.Sx.look, Go.Sx.push, Go.Sx.setObj, Go.Sx.setU, Go.Sx.setAll, Go.Sx.appO, Go.Sx.leI_eq, ltF]
  have lp := fun h y => iter_out (n := 1) (lo h y) (by simp)
  simp [ir143, ssB, List.idxOf?_cons, Go.Sx.LV.undef, Go.undef, Go.Sx.callO, Go.Sx.splice, Go.Sx.finish, Go.Sx.look, Go.Sx.push, Go.Sx.setObj, Go.Sx.setU, Go.Sx.setAll, Go.Sx.appO, Go.Sx.leI_eq, ltF, n, w0, lp, bytP]
theorem rcard_t (fl : Bool) (H : Heap) (nx : Nat) : Ω 143 [.p (.sl ann 1 3 fl)] H nx = some (.p (.sl (bytP (crdB true)) 7 1 false), [], []) := by
  refine om_run (ir := ir143) (by kernel_rfl) 3 ?_
  have n : ∀ (H : Heap) (nx : Nat), Ω 32 [.int .u64 1] H nx = some (.arr nx 0 1 1 1 true, [], [some (.cells (byt [1]))]) := fun H nx => rnum_c 1 (by decide) H nx
  have h0 := vnum_lt (show 0 < 128 by decide)
  have h3 := vnum_lt (show 3 < 128 by decide)
  have t0 : ∀ (H : Heap) (nx : Nat), Ω 33 [.str ⟨#[]⟩] H nx = some (.arr nx 0 1 1 1 true, [], [some (.cells (byt [0]))]) := fun H nx => by
    have := rTextB_ [] (by decide) H nx
    rw [show txt [] = [0] by simp [txt, h0]] at this
    exact this
  have t1 : ∀ (H : Heap) (nx : Nat), Ω 33 [.str ⟨#[65, 110, 110]⟩] H nx = some (.arr nx 0 4 1 4 false, [], [some (.cells (byt [3, 65, 110, 110]))]) := fun H nx => by
    have := rTextB_ [65, 110, 110] (by decide) H nx
    rw [show txt [65, 110, 110] = [3, 65, 110, 110] by simp [txt, h3]] at this
    exact this
  have w1 : IntKind.u64.wrap 1 = 1 := by decide
  have w2 : IntKind.i64.wrap 1 = 1 := by decide
  have w3 : IntKind.u8.wrap 1 = 1 := by decide
  have j : ∀ (H : Heap) (nx aid i1 i2 i3 i4 : Nat), H aid = some (.cells [.arr i1 0 1 1 1 true, .arr i2 0 1 1 1 true, .arr i3 0 1 1 1 true, .arr i4 0 4 1 4 false]) → aid < nx →
      H i1 = some (.cells (byt [1])) → i1 < nx → H i2 = some (.cells [.int .u8 1]) → i2 < nx → H i3 = some (.cells (byt [0])) → i3 < nx → H i4 = some (.cells (byt [3, 65, 110, 110])) → i4 < nx →
      Ω 36 [.arr aid 0 4 1 4 true] H nx = some (.p (.sl (bytP (crdB true)) 7 1 false), [], []) :=
    fun H nx aid i1 i2 i3 i4 h0 h0' a1 b1 a2 b2 a3 b3 a4 b4 => by
      have q1 : Bs H nx (.arr i1 0 1 1 1 true) [1] := .whole' (by rfl) a1 b1
      have q2 : Bs H nx (.arr i2 0 1 1 1 true) [1] := .whole' (by rfl) a2 b2
      have q3 : Bs H nx (.arr i3 0 1 1 1 true) [0] := .whole' (by rfl) a3 b3
      have q4 : Bs H nx (.arr i4 0 4 1 4 false) [3, 65, 110, 110] := .whole' (by rfl) a4 b4
      rw [join4 q1 q2 q3 q4 (by decide) aid h0 h0']
      rfl
  have jj := fun (H : Heap) (nx : Nat) => j H (nx + 6) (nx + 5) nx (nx + 2) (nx + 3) (nx + 4)
  generalize hA : byt [3, 65, 110, 110] = A at *
  generalize hB : byt [0] = B at *
  generalize hC : byt [1] = C at *
  have iA : ids.idsL A = [] := by rw [← hA]; exact ids_byt _
  have iB : ids.idsL B = [] := by rw [← hB]; exact ids_byt _
  have iC : ids.idsL C = [] := by rw [← hC]; exact ids_byt _
  have e := Eq.refl (runCS ⟨Ω, noG, H, nx⟩ 3 ir143_0 ⟨[(3, .arr nx 0 1 1 1 true), (10, .p (.sl ann 1 3 fl)), (11, .int .i64 1), (12, .int .i64 0)], ⟨[], [some (.cells C)]⟩⟩)
  conv at e => rhs; simp [ir143_0, ssB, List.idxOf?_cons, Go.Sx.LV.undef, Go.undef, Go.Sx.callO, Go.Sx.splice, Go.Sx.finish, Go.Sx.look, Go.Sx.push, Go.Sx.setObj, Go.Sx.setU, Go.Sx.setAll, Go.Sx.appO, Go.Sx.leI_eq, ltF, t0, t1, w2, w3, jj, iA, iB, iC]
  have lo : ∀ (h : Hp) (y : LV), runCS ⟨Ω, noG, H, nx⟩ 3 ir143_0 ⟨[(3, y), (10, .p (.sl ann 1 3 fl)), (11, .int .i64 1), (12, .int .i64 1)], h⟩ = some (.exit 0, ⟨[(3, y), (10, .p (.sl ann 1 3 fl)), (11, .int .i64 1), (12, .int .i64 1), (13, .bool false)], h⟩) := fun h y => by
    simp [ir143_0, ssB, List.idxOf?_cons, Go.Sx.LV.undef, Go.undef, Go.Sx.callO, Go.Sx.splice, Go.Sx.finish, Go.Sx.look, Go.Sx.push, Go.Sx.setObj, Go.Sx.setU, Go.Sx.setAll, Go.Sx.appO, Go.Sx.leI_eq, ltF]
  have lp := (iter_step (n := 2) e).trans (iter_out (n := 1) (lo _ _) (by simp))
  simp [ir143, ssB, List.idxOf?_cons, Go.Sx.LV.undef, Go.undef, Go.Sx.callO, Go.Sx.splice, Go.Sx.finish, Go.Sx.look, Go.Sx.push, Go.Sx.setObj, Go.Sx.setU, Go.Sx.setAll, Go.Sx.appO, Go.Sx.leI_eq, ltF, n, w1, lp]
theorem crdB_len (a : Bool) : (crdB a).length ≤ 7 := by cases a <;> decide
theorem rvsnBytes_ (v : Vsn) (fl : Bool) (hn : v.ev.norm) (hm : v.ev.max < 2 ^ 64) (hb : (evBits v.ev).length < 2 ^ 18) (H : Heap) (nx : Nat) :
    Ω 82 [.p (v.rv fl)] H nx = some (.p (.sl (bytP v.bytes) v.bytes.length 1 false), [], []) := by
  refine om_run (ir := ir82) (by kernel_rfl) 0 ?_
  obtain ⟨ev, nm, gone⟩ := v
  unfold Vsn.bytes
  simp only at hm hb hn ⊢
  have hp := pack_len (evBits ev)
  have c := rEvent_ ev hn hm _ _ .nil (by simp; omega)
  rw [List.nil_append] at c
  have r := rbits_ (evBits ev) (evBits_pos ev) (by omega)
  have bb := bytesL_byt (pack (evBits ev))
  have t1 := rTextB_ (pack (evBits ev)) (by omega)
  have he : (pack (evBits ev)).isEmpty = false := by
    have := pack_ne (evBits_pos ev)
    cases h : pack (evBits ev) with
    | nil => exact absurd h this
    | cons => rfl
  rw [he] at t1
  have tl := txt_len (pack (evBits ev)) (by omega)
  obtain ⟨cs, hcs⟩ := Ev.rv_imm ev
  simp only [Vsn.rv, hcs]
  rw [hcs] at c
  generalize evBits ev = I at *
  generalize txt (pack I) = T at *
  generalize pack I = B at *
  have q41 : ¬ 1099511627776 < T.length + 1 := by omega
  have b1 : byt (T ++ [1]) = byt T ++ [.int .u8 1] := by rw [byt_app]; rfl
  cases gone with
  | true =>
    have tk1 : List.take (T.length + 1) (byt T ++ [.int .u8 1]) = byt T ++ [.int .u8 1] := List.take_of_length_le (by simp [byt_len])
    have ap1 : allP (byt T ++ [.int .u8 1]) = some (bytP (T ++ [1])) := by rw [← b1, allP_byt]
    simp [ir82, ssB, List.idxOf?_cons, Go.Sx.LV.undef, Go.undef, Go.Sx.callO, Go.Sx.splice, Go.Sx.finish, Go.Sx.look, Go.Sx.push, Go.Sx.setObj, Go.Sx.setU, Go.Sx.setAll, Go.Sx.appO, Go.Sx.leI_eq, ltF, c, r, bb, t1, bytP_map, bytP_len, byt_len, ids_byt, ren_byt, take_byt, allP_byt, q41, tk1, ap1]
  | false =>
    have cl := crdB_len nm
    have hE : T ++ 0 :: crdB nm = T ++ [0] ++ crdB nm := by simp
    simp only [Bool.false_eq_true, if_false]
    have hne : T ++ [0] ++ crdB nm ≠ [] := by simp
    rw [hE]
    have j : ∀ (H : Heap) (nx aid i1 i2 : Nat) (y : LV), Bs H nx y (crdB nm) → H aid = some (.cells [.arr i1 0 T.length 1 T.length false, .arr i2 0 1 1 1 true, y]) → aid < nx → H i1 = some (.cells (byt T)) → i1 < nx → H i2 = some (.cells [.int .u8 0]) → i2 < nx →
        Ω 36 [.arr aid 0 3 1 3 true] H nx = some (sum' (T ++ [0] ++ crdB nm), [], []) := fun H nx aid i1 i2 y g h0 h0' a1 b1 a2 b2 =>
      join3 (.whole a1 b1) (.whole' (F := [0]) (by rfl) a2 b2 : Bs H nx (.arr i2 0 1 1 1 true) [0]) g (by simp; omega) aid h0 h0'
    rw [sum'_ne hne] at j
    cases nm with
    | false =>
      have cc := rcard_f
      have j' := fun (H : Heap) (nx : Nat) => j H (nx + 4) (nx + 3) (nx + 1) (nx + 2) (.p (.sl (bytP [0]) 1 1 true)) (.sl [0] true)
      generalize T ++ [0] ++ crdB false = Q at *
      generalize bytP [0] = Z at *
      simp [ir82, ssB, List.idxOf?_cons, Go.Sx.LV.undef, Go.undef, Go.Sx.callO, Go.Sx.splice, Go.Sx.finish, Go.Sx.look, Go.Sx.push, Go.Sx.setObj, Go.Sx.setU, Go.Sx.setAll, Go.Sx.appO, Go.Sx.leI_eq, ltF, crd_f, c, r, bb, t1, cc, bytP_map, bytP_len, byt_len, bytP_len, take_byt, ids_byt, ren_byt, ids_app, ren_app, allP_byt, allP_app, j']
    | true =>
      have cc := rcard_t
      have j' := fun (H : Heap) (nx : Nat) => j H (nx + 4) (nx + 3) (nx + 1) (nx + 2) (.p (.sl (bytP (crdB true)) 7 1 false)) (.sl (crdB true) false)
      generalize T ++ [0] ++ crdB true = Q at *
      generalize bytP (crdB true) = Z at *
      simp [ir82, ssB, List.idxOf?_cons, Go.Sx.LV.undef, Go.undef, Go.Sx.callO, Go.Sx.splice, Go.Sx.finish, Go.Sx.look, Go.Sx.push, Go.Sx.setObj, Go.Sx.setU, Go.Sx.setAll, Go.Sx.appO, Go.Sx.leI_eq, ltF, crd_t, c, r, bb, t1, cc, bytP_map, bytP_len, byt_len, bytP_len, take_byt, ids_byt, ren_byt, ids_app, ren_app, allP_byt, allP_app, j']
end Go.Proofs.YtppeggedcaabkaaGreatDoor
end

section
namespace Go.Proofs.YtppeggedcaabkaaGreatDoor
open Go Go.Sx
set_option linter.unusedSimpArgs false
set_option linter.unusedVariables false

/-- What a kind has. -/
def hasK (k : Int) : Int := if k = 1 ∨ k = 2 then 9 else if k = 3 then 31 else if k = 4 then 3 else if k = 5 then 0 else if k = 6 then 44 else if k = 7 then 64 else -1
theorem has_ (k : Int) (H : Heap) (nx : Nat) : Ω 25 [.int .i64 k] H nx = some (.int .i64 (hasK k), [], []) := by
  refine om_run (ir := ir25) (by kernel_rfl) 0 ?_
  unfold hasK
  by_cases h1 : k = 1
  · subst h1; simp [ir25, ssB, List.idxOf?_cons, Go.Sx.LV.undef, Go.undef, Go.Sx.callO, Go.Sx.splice, Go.Sx.finish, Go.Sx.look, Go.Sx.push, Go.Sx.setObj, Go.Sx.setU, Go.Sx.setAll, Go.Sx.appO, Go.Sx.leI_eq, ltF]
  by_cases h2 : k = 2
  · subst h2; simp [ir25, ssB, List.idxOf?_cons, Go.Sx.LV.undef, Go.undef, Go.Sx.callO, Go.Sx.splice, Go.Sx.finish, Go.Sx.look, Go.Sx.push, Go.Sx.setObj, Go.Sx.setU, Go.Sx.setAll, Go.Sx.appO, Go.Sx.leI_eq, ltF]
  by_cases h3 : k = 3
  · subst h3; simp [ir25, ssB, List.idxOf?_cons, Go.Sx.LV.undef, Go.undef, Go.Sx.callO, Go.Sx.splice, Go.Sx.finish, Go.Sx.look, Go.Sx.push, Go.Sx.setObj, Go.Sx.setU, Go.Sx.setAll, Go.Sx.appO, Go.Sx.leI_eq, ltF]
  by_cases h4 : k = 4
  · subst h4; simp [ir25, ssB, List.idxOf?_cons, Go.Sx.LV.undef, Go.undef, Go.Sx.callO, Go.Sx.splice, Go.Sx.finish, Go.Sx.look, Go.Sx.push, Go.Sx.setObj, Go.Sx.setU, Go.Sx.setAll, Go.Sx.appO, Go.Sx.leI_eq, ltF]
  by_cases h5 : k = 5
  · subst h5; simp [ir25, ssB, List.idxOf?_cons, Go.Sx.LV.undef, Go.undef, Go.Sx.callO, Go.Sx.splice, Go.Sx.finish, Go.Sx.look, Go.Sx.push, Go.Sx.setObj, Go.Sx.setU, Go.Sx.setAll, Go.Sx.appO, Go.Sx.leI_eq, ltF]
  by_cases h6 : k = 6
  · subst h6; simp [ir25, ssB, List.idxOf?_cons, Go.Sx.LV.undef, Go.undef, Go.Sx.callO, Go.Sx.splice, Go.Sx.finish, Go.Sx.look, Go.Sx.push, Go.Sx.setObj, Go.Sx.setU, Go.Sx.setAll, Go.Sx.appO, Go.Sx.leI_eq, ltF]
  by_cases h7 : k = 7
  · subst h7; simp [ir25, ssB, List.idxOf?_cons, Go.Sx.LV.undef, Go.undef, Go.Sx.callO, Go.Sx.splice, Go.Sx.finish, Go.Sx.look, Go.Sx.push, Go.Sx.setObj, Go.Sx.setU, Go.Sx.setAll, Go.Sx.appO, Go.Sx.leI_eq, ltF]
  simp [ir25, ssB, List.idxOf?_cons, Go.Sx.LV.undef, Go.undef, Go.Sx.callO, Go.Sx.splice, Go.Sx.finish, Go.Sx.look, Go.Sx.push, Go.Sx.setObj, Go.Sx.setU, Go.Sx.setAll, Go.Sx.appO, Go.Sx.leI_eq, ltF, h1, h2, h3, h4, h5, h6, h7]
theorem noteNode_ (n : Int) (H : Heap) (nx : Nat) : Ω 39 [.int .i64 n] H nx = some (.bool (nodeB n), [], []) := by
  refine om_run (ir := ir39) (by kernel_rfl) 0 ?_
  unfold nodeB
  by_cases h1 : 0 ≤ n
  · by_cases h2 : n < 12
    · have h3 : ¬ (12 : Int) ≤ n := by omega
      simp [ir39, ssB, List.idxOf?_cons, Go.Sx.LV.undef, Go.undef, Go.Sx.callO, Go.Sx.splice, Go.Sx.finish, Go.Sx.look, Go.Sx.push, Go.Sx.setObj, Go.Sx.setU, Go.Sx.setAll, Go.Sx.appO, Go.Sx.leI_eq, ltF, h1, h2, h3]
    · have h3 : (12 : Int) ≤ n := by omega
      simp [ir39, ssB, List.idxOf?_cons, Go.Sx.LV.undef, Go.undef, Go.Sx.callO, Go.Sx.splice, Go.Sx.finish, Go.Sx.look, Go.Sx.push, Go.Sx.setObj, Go.Sx.setU, Go.Sx.setAll, Go.Sx.appO, Go.Sx.leI_eq, ltF, h1, h2, h3]
  · simp [ir39, ssB, List.idxOf?_cons, Go.Sx.LV.undef, Go.undef, Go.Sx.callO, Go.Sx.splice, Go.Sx.finish, Go.Sx.look, Go.Sx.push, Go.Sx.setObj, Go.Sx.setU, Go.Sx.setAll, Go.Sx.appO, Go.Sx.leI_eq, ltF, h1]
end Go.Proofs.YtppeggedcaabkaaGreatDoor
end

section
namespace Go.Proofs.YtppeggedcaabkaaGreatDoor
open Go Go.Sx
set_option linter.unusedSimpArgs false
set_option linter.unusedVariables false

/-- Is it in its form? -/
def Id.norm : Id → Prop
  | .node l r => l.norm ∧ r.norm ∧ ¬ (l = .zero ∧ r = .zero) ∧ ¬ (l = .one ∧ r = .one)
  | _ => True
theorem Id.pair_norm {l r : Id} (hl : l.norm) (hr : r.norm) : (Id.pair l r).norm := by
  unfold Id.pair
  split
  · trivial
  · split
    · trivial
    · rename_i h1 h2
      exact ⟨hl, hr, h1, h2⟩
theorem Id.pair_id {l r : Id} (h : (Id.node l r).norm) : Id.pair l r = .node l r := by
  obtain ⟨_, _, h1, h2⟩ := h
  unfold Id.pair
  rw [if_neg h1, if_neg h2]
theorem Id.pair_depth (l r : Id) : (Id.pair l r).depth ≤ 1 + Max.max l.depth r.depth := by
  unfold Id.pair
  split
  · exact Nat.zero_le _
  · split
    · exact Nat.zero_le _
    · exact Nat.le_refl _
theorem mkId_ok : ∀ (m : Nat) (x : Option (List UInt8)), (mkId m x).1.norm ∧ (mkId m x).1.depth ≤ m
  | _, none => by unfold mkId; exact ⟨trivial, Nat.zero_le _⟩
  | _, some [] => by unfold mkId; exact ⟨trivial, Nat.zero_le _⟩
  | 0, some (b :: p) => by
    unfold mkId
    split <;> exact ⟨trivial, Nat.zero_le _⟩
  | m + 1, some (b :: p) => by
    unfold mkId
    split
    · split <;> exact ⟨trivial, Nat.zero_le _⟩
    · obtain ⟨a1, a2⟩ := mkId_ok m (some p)
      obtain ⟨b1, b2⟩ := mkId_ok m (mkId m (some p)).2
      exact ⟨Id.pair_norm a1 b1, Nat.le_trans (Id.pair_depth _ _) (by omega)⟩
theorem share_ : ∀ (i : Id), i.norm → i.depth ≤ 16 → ∀ (H : Heap) (nx : Nat), Ω 22 [.p i.rv] H nx = some (.p i.pv, [], [])
  | .zero, _, _, H, nx => by
    refine om_run (ir := ir22) (by kernel_rfl) 0 ?_
    have z := idZero_
    simp [ir22, Id.rv_z, ssB, List.idxOf?_cons, Go.Sx.LV.undef, Go.undef, Go.Sx.callO, Go.Sx.splice, Go.Sx.finish, Go.Sx.look, Go.Sx.push, Go.Sx.setObj, Go.Sx.setU, Go.Sx.setAll, Go.Sx.appO, Go.Sx.leI_eq, ltF, z, Id.all_z, Id.ptr_z]
  | .one, _, _, H, nx => by
    refine om_run (ir := ir22) (by kernel_rfl) 0 ?_
    have z := idOne_
    simp [ir22, Id.rv_o, ssB, List.idxOf?_cons, Go.Sx.LV.undef, Go.undef, Go.Sx.callO, Go.Sx.splice, Go.Sx.finish, Go.Sx.look, Go.Sx.push, Go.Sx.setObj, Go.Sx.setU, Go.Sx.setAll, Go.Sx.appO, Go.Sx.leI_eq, ltF, z, Id.all_o, Id.ptr_o]
  | .node l r, hn, hd, H, nx => by
    refine om_run (ir := ir22) (by kernel_rfl) 0 ?_
    have hd' : (Id.node l r).depth = 1 + Max.max l.depth r.depth := rfl
    have e1 := share_ l hn.1 (by omega)
    have e2 := share_ r hn.2.1 (by omega)
    have e3 := Pair_ l r (by rw [Id.pair_id hn]; omega)
    rw [Id.pair_id hn, if_pos hd] at e3
    obtain ⟨a1, b1, h1⟩ := Id.rv_imm l
    obtain ⟨a2, b2, h2⟩ := Id.rv_imm r
    rw [h1] at e1
    rw [h2] at e2
    rw [Id.rv_n]
    generalize Id.node l r = i at *
    generalize (l.kind : Int) = k1 at *
    generalize (r.kind : Int) = k2 at *
    simp [ir22, ssB, List.idxOf?_cons, Go.Sx.LV.undef, Go.undef, Go.Sx.callO, Go.Sx.splice, Go.Sx.finish, Go.Sx.look, Go.Sx.push, Go.Sx.setObj, Go.Sx.setU, Go.Sx.setAll, Go.Sx.appO, Go.Sx.leI_eq, ltF, h1, h2, e1, e2, e3]
theorem tree_ : ∀ (e : Ev), e.norm → e.depth ≤ 16 → e.max ≤ 2 ^ 20 → ∀ (H : Heap) (nx : Nat), Ω 20 [.p e.rv] H nx = some (.p e.pv, [], [])
  | .leaf n, _, _, hm, H, nx => by
    refine om_run (ir := ir20) (by kernel_rfl) 0 ?_
    have z := evLeaf_ n hm
    rw [Ev.rv_l]
    generalize Ev.leaf n = e at *
    simp [ir20, ssB, List.idxOf?_cons, Go.Sx.LV.undef, Go.undef, Go.Sx.callO, Go.Sx.splice, Go.Sx.finish, Go.Sx.look, Go.Sx.push, Go.Sx.setObj, Go.Sx.setU, Go.Sx.setAll, Go.Sx.appO, Go.Sx.leI_eq, ltF, z]
  | .node n l r, hn, hd, hm, H, nx => by
    refine om_run (ir := ir20) (by kernel_rfl) 0 ?_
    have hd' : (Ev.node n l r).depth = 1 + Max.max l.depth r.depth := rfl
    have d1 := Ev.max_l n l r
    have d2 := Ev.max_r n l r
    have m1 := Ev.n_max l
    have m2 := Ev.n_max r
    have e1 := tree_ l hn.1 (by omega) (by omega)
    have e2 := tree_ r hn.2.1 (by omega) (by omega)
    have hid := Ev.mk_id hn
    have her : (Ev.node n l r).err = 0 := by
      unfold Ev.err
      rw [if_neg (by omega), if_neg (by omega)]
    have e3 := evNode_ n l r (by have := Ev.n_max (.node n l r); simp only [Ev.n] at this; omega) (by rw [hid]; exact her) (by omega) (by omega) (by rw [hid]; omega) (by rw [hid]; omega)
    rw [hid] at e3
    obtain ⟨c1, h1⟩ := Ev.rv_imm l
    obtain ⟨c2, h2⟩ := Ev.rv_imm r
    rw [h1] at e1
    rw [h2] at e2
    rw [Ev.rv_n]
    generalize Ev.node n l r = e at *
    simp [ir20, ssB, List.idxOf?_cons, Go.Sx.LV.undef, Go.undef, Go.Sx.callO, Go.Sx.splice, Go.Sx.finish, Go.Sx.look, Go.Sx.push, Go.Sx.setObj, Go.Sx.setU, Go.Sx.setAll, Go.Sx.appO, Go.Sx.leI_eq, ltF, h1, h2, e1, e2, e3]
end Go.Proofs.YtppeggedcaabkaaGreatDoor
end

section
namespace Go.Proofs.YtppeggedcaabkaaGreatDoor
open Go Go.Sx
set_option linter.unusedSimpArgs false
set_option linter.unusedVariables false

/-- A contact's version. -/
structure Ent where
  id : Nat
  v : Vsn
abbrev Ent.row (fl : Bool) (x : Ent) : List PV := [.s (.int .u32 x.id), .s (.int .u64 x.v.ev.n), x.v.ev.ptr, crd x.v.nm fl, .s (.bool x.v.gone)]
abbrev Ent.rrow (fl : Bool) (x : Ent) : List PV := [.s (.int .u32 x.id), x.v.ev.rv, crd x.v.nm fl, .s (.bool x.v.gone)]
def rows (f : Ent → List PV) : List Ent → List PV
  | [] => []
  | x :: l => f x ++ rows f l
theorem rows_len (f : Ent → List PV) (k : Nat) (hf : ∀ x, (f x).length = k) : ∀ l, (rows f l).length = l.length * k
  | [] => by simp [rows]
  | x :: l => by rw [rows, List.length_append, hf, rows_len f k hf l, List.length_cons, Nat.succ_mul, Nat.add_comm]
theorem rows_at (f : Ent → List PV) (k : Nat) (hf : ∀ x, (f x).length = k) : ∀ (l : List Ent) (j : Nat) (x : Ent), l[j]? = some x → List.take k (List.drop (j * k) (rows f l)) = f x
  | [], j, x, h => by simp at h
  | y :: l, 0, x, h => by
    simp only [List.getElem?_cons_zero, Option.some.injEq] at h
    subst h
    rw [Nat.zero_mul, List.drop_zero, rows, ← hf y, List.take_left']
    rfl
  | y :: l, j + 1, x, h => by
    rw [List.getElem?_cons_succ] at h
    rw [rows, show (j + 1) * k = (f y).length + j * k by rw [hf, Nat.succ_mul, Nat.add_comm], ← List.drop_drop, List.drop_left']
    · exact rows_at f k hf l j x h
    · rfl
/-- An entry's bytes. -/
def Ent.bytes (x : Ent) : List UInt8 := vnum x.id ++ txt x.v.bytes
def entB : List Ent → List UInt8
  | [] => []
  | x :: l => x.bytes ++ entB l
theorem entB_app (l m : List Ent) : entB (l ++ m) = entB l ++ entB m := by
  induction l with
  | nil => rfl
  | cons x l ih => rw [List.cons_append, entB, entB, ih, List.append_assoc]
theorem pe_step {H : Heap} {nx : Nat} {h : Hp} (N : Nat) (L : List Ent) (fl ff : Bool) (j : Nat) (x : Ent) (hj : L[j]? = some x) (Q : List UInt8) (i : Nat) (hi : Go.Sx.look H nx h i = some (.cells (byt Q))) (hlt : i < nx + h.new.length) (hL : L.length < 2 ^ 31)
    (hid : x.id < 2 ^ 32) (hm : x.v.ev.max < 2 ^ 64) (hb : (evBits x.v.ev).length < 2 ^ 18) (hq : Q.length < 2 ^ 28) :
    ∃ o1 o2, runCS ⟨Ω, noG, H, nx⟩ N ir30_0 ⟨[(0, .arr i 0 Q.length 1 Q.length false), (12, .p (.sl (rows (Ent.row fl) L) L.length 5 ff)), (13, .int .i64 L.length), (14, .int .i64 j)], h⟩ =
      some (.normal, ⟨[(0, .arr (nx + (h.new.length + 2)) 0 (Q ++ x.bytes).length 1 (Q ++ x.bytes).length false), (12, .p (.sl (rows (Ent.row fl) L) L.length 5 ff)), (13, .int .i64 L.length), (14, .int .i64 (j + 1 : Nat))], push (push (push h o1) o2) (.cells (byt (Q ++ x.bytes)))⟩) := by
  obtain ⟨hjl, _⟩ := List.getElem?_eq_some_iff.1 hj
  have hr := rows_at (Ent.row fl) 5 (fun _ => rfl) L j x hj
  have hrl := rows_len (Ent.row fl) 5 (fun _ => rfl) L
  have g1 : ¬ (L.length : Int) ≤ j := by omega
  have w1 : IntKind.i64.wrap ((j : Int) + 1) = (j : Int) + 1 := wrap_i64 _ (by omega) (by omega)
  have w2 : IntKind.u64.wrap (x.id : Int) = x.id := wrap_u64' _ (by omega) (by omega)
  have v1 := vnum_len x.id (by omega)
  have hle : j * 5 + 5 ≤ (rows (Ent.row fl) L).length := by rw [hrl]; omega
  have n1 : ∀ (H : Heap) (nx : Nat), H i = some (.cells (byt Q)) → i < nx → Ω 26 [.arr i 0 Q.length 1 Q.length false, .int .u64 x.id] H nx = _ := fun H nx e1 e2 => numB_ (.whole e1 e2) x.id (by omega) (by omega)
  have vb := vsnBytes_ x.v fl hm hb
  have hp := pack_len (evBits x.v.ev)
  have tl := txt_len (pack (evBits x.v.ev)) (by omega)
  have hvl : x.v.bytes.length < 2 ^ 19 + 40 := by
    unfold Vsn.bytes
    rw [List.length_append]
    have := crdB_len x.v.nm
    split <;> simp <;> omega
  have t1 : ∀ (H : Heap) (nx id : Nat), H id = some (.cells (byt (Q ++ vnum x.id))) → id < nx → Ω 28 [.arr id 0 (Q ++ vnum x.id).length 1 (Q ++ vnum x.id).length false, bstr x.v.bytes] H nx = _ := fun H nx id e1 e2 => textB_ (.whole e1 e2) x.v.bytes (by simp; omega) (by omega)
  have hE : Q ++ x.bytes = Q ++ vnum x.id ++ txt x.v.bytes := by simp [Ent.bytes]
  have bb := bytesL_byt x.v.bytes
  rw [hE]
  generalize Q ++ vnum x.id ++ txt x.v.bytes = Q2 at *
  generalize Q ++ vnum x.id = Q1 at *
  generalize x.v.bytes = B at *
  generalize rows (Ent.row fl) L = R at *
  have tk : List.take 5 (List.drop (j * 5) (List.map LV.p R)) = pc (Ent.row fl x) := by rw [← List.map_drop, ← List.map_take, hr]; rfl
  have ne0 : ¬ i = nx + h.new.length := by omega
  have ne1 : ∀ k, ¬ i = nx + (h.new.length + k) := fun k => by omega
  have lt1 : ∀ k, i < nx + (h.new.length + k) := fun k => by omega
  have so := fun o o' => setObj_push nx h o o'
  have hq' : ∀ o : Go.Sx.Obj, (⟨h.upd, h.new ++ [some o]⟩ : Hp) = push h o := fun o => rfl
  have e := Eq.refl (runCS ⟨Ω, noG, H, nx⟩ N ir30_0 ⟨[(0, .arr i 0 Q.length 1 Q.length false), (12, .p (.sl R L.length 5 ff)), (13, .int .i64 L.length), (14, .int .i64 j)], h⟩)
  conv at e => rhs; simp [ir30_0, ssB, List.idxOf?_cons, Go.Sx.LV.undef, Go.undef, callO_A, aft_nil, setAll_nil, Go.Sx.splice, Go.Sx.leI_eq, ltF, g1, w1, w2, hjl, tk, pc_cons, pc_nil, hle, so, hq', look_push, push_len, ne0, ne1, lt1, hi, ids_byt, n1, vb, t1, bb, bytP_map, bytP_len, byt_len, aft_one]
  refine ⟨.cells (pc (Ent.row fl x)), .cells (byt Q1), e.trans ?_⟩
  rfl
theorem pe_out {H : Heap} {nx : Nat} {h : Hp} (N n : Nat) (y X : LV) : runCS ⟨Ω, noG, H, nx⟩ N ir30_0 ⟨[(0, y), (12, X), (13, .int .i64 n), (14, .int .i64 n)], h⟩ = some (.exit 0, ⟨[(0, y), (12, X), (13, .int .i64 n), (14, .int .i64 n), (15, .bool false)], h⟩) := by
  simp [ir30_0, ssB, List.idxOf?_cons, Go.Sx.LV.undef, Go.undef, Go.Sx.callO, Go.Sx.splice, Go.Sx.finish, Go.Sx.look, Go.Sx.push, Go.Sx.setObj, Go.Sx.setU, Go.Sx.setAll, Go.Sx.appO, Go.Sx.leI_eq, ltF]
/-- May it be put? -/
def Ent.fit (x : Ent) : Prop := x.id < 2 ^ 32 ∧ x.v.ev.max < 2 ^ 64 ∧ (evBits x.v.ev).length < 2 ^ 18
theorem entB_mem {L : List Ent} {x : Ent} (h : x ∈ L) : x.bytes.length ≤ (entB L).length := by
  induction L with
  | nil => cases h
  | cons y L ih =>
    rw [entB, List.length_append]
    rcases List.mem_cons.1 h with rfl | h
    · omega
    · have := ih h; omega
theorem pe_loop {H : Heap} {nx : Nat} (N : Nat) (L : List Ent) (fl ff : Bool) (hL : L.length < 2 ^ 31) (hf : ∀ x ∈ L, x.fit) : ∀ (d j m : Nat) (Q : List UInt8) (i : Nat) (h : Hp), j + d = L.length → d < m → Go.Sx.look H nx h i = some (.cells (byt Q)) → i < nx + h.new.length → nx ≤ i → h.upd = [] → Q.length + (entB (L.drop j)).length < 2 ^ 28 →
    ∃ h' i', iter (runCS ⟨Ω, noG, H, nx⟩ N ir30_0) m ⟨[(0, .arr i 0 Q.length 1 Q.length false), (12, .p (.sl (rows (Ent.row fl) L) L.length 5 ff)), (13, .int .i64 L.length), (14, .int .i64 j)], h⟩ =
      some (.exit 0, ⟨[(0, .arr i' 0 (Q ++ entB (L.drop j)).length 1 (Q ++ entB (L.drop j)).length false), (12, .p (.sl (rows (Ent.row fl) L) L.length 5 ff)), (13, .int .i64 L.length), (14, .int .i64 L.length), (15, .bool false)], h'⟩) ∧
      Go.Sx.look H nx h' i' = some (.cells (byt (Q ++ entB (L.drop j)))) ∧ nx ≤ i' ∧ h'.upd = [] := by
  intro d
  induction d with
  | zero =>
    intro j m Q i h hj hm hi hlt hge hu hq
    obtain ⟨m, rfl⟩ : ∃ r, m = r + 1 := ⟨m - 1, by omega⟩
    obtain rfl : j = L.length := by omega
    rw [List.drop_length, entB, List.append_nil]
    exact ⟨h, i, iter_out (pe_out N _ _ _) (by simp), hi, hge, hu⟩
  | succ d ih =>
    intro j m Q i h hj hm hi hlt hge hu hq
    obtain ⟨m, rfl⟩ : ∃ r, m = r + 1 := ⟨m - 1, by omega⟩
    have hjl : j < L.length := by omega
    have hd : L.drop j = L[j] :: L.drop (j + 1) := List.drop_eq_getElem_cons hjl
    obtain ⟨f1, f2, f3⟩ := hf L[j] (List.getElem_mem hjl)
    have hE : Q ++ entB (L.drop j) = (Q ++ L[j].bytes) ++ entB (L.drop (j + 1)) := by rw [hd, entB, List.append_assoc]
    have hEl := congrArg List.length hE
    rw [List.length_append, List.length_append] at hEl
    obtain ⟨o1, o2, e1⟩ := pe_step N L fl ff j L[j] (List.getElem?_eq_getElem hjl) Q i hi hlt hL f1 f2 f3 (by omega)
    rw [iter_step e1, hE]
    refine ih (j + 1) m (Q ++ L[j].bytes) (nx + (h.new.length + 2)) _ (by omega) (by omega) ?_ ?_ (by omega) hu (by omega)
    · rw [look_push, if_pos (by rw [push_len, push_len])]
    · rw [push_len, push_len, push_len]; omega
/-- A list of entries: none at all, or a slice of rows. -/
def entP (f : Ent → List PV) (k : Nat) (L : List Ent) : PV := if L = [] then .s (.slice none 0 0) else .sl (rows f L) L.length k false
theorem fin_arr {H : Heap} {nx i : Nat} {h : Hp} {q : List UInt8} (hu : h.upd = []) (hi : nx ≤ i) (hl : Go.Sx.look H nx h i = some (.cells (byt q))) :
    finish false H nx (.arr i 0 q.length 1 q.length false) h = some (.p (.sl (bytP q) q.length 1 false), [], []) := by
  have hjn : ¬ i < nx := by omega
  have hnew : h.new[i - nx]? = some (some (.cells (byt q))) := by
    rw [Go.Sx.look, if_neg hjn] at hl
    cases hq : h.new[i - nx]? with
    | none => rw [hq] at hl; cases hl
    | some o => rw [hq] at hl; exact congrArg some hl
  simp [finish, frz, frzL, hjn, hnew, byt_len, take_byt, allP_byt, hu, updIds, reach, ren, renU, renN, Go.Sx.ids]
theorem putEntries_ {H : Heap} {nx : Nat} {x : LV} {q : List UInt8} (b : Bs H nx x q) (L : List Ent) (fl : Bool) (hL : L.length < 100) (hf : ∀ x ∈ L, x.fit) (hq : q.length + (entB L).length < 2 ^ 27) :
    Ω 30 [x, .p (entP (Ent.row fl) 5 L)] H nx = some (.p (.sl (bytP (q ++ vnum L.length ++ entB L)) (q ++ vnum L.length ++ entB L).length 1 false), [], []) := by
  refine om_run (ir := ir30) (by kernel_rfl) (L.length + 1) ?_
  have v1 := vnum_len L.length (by omega)
  have w1 : IntKind.u64.wrap (L.length : Int) = L.length := wrap_u64' _ (by omega) (by omega)
  have n := fun H nx (g' : Bs H nx x q) => numB_ g' L.length (by omega) (by omega)
  have l1 : (q ++ vnum L.length).length ≤ q.length + 10 := by simp; omega
  generalize q ++ vnum L.length = Q at *
  have lk : Go.Sx.look H nx ⟨[], [some (.cells (byt Q))]⟩ nx = some (.cells (byt Q)) := by simp [Go.Sx.look, ltF]
  have lp : ∃ h' i', iter (runCS ⟨Ω, noG, H, nx⟩ (L.length + 1) ir30_0) (L.length + 1) ⟨[(0, .arr nx 0 Q.length 1 Q.length false), (12, .p (entP (Ent.row fl) 5 L)), (13, .int .i64 L.length), (14, .int .i64 0)], ⟨[], [some (.cells (byt Q))]⟩⟩ =
      some (.exit 0, ⟨[(0, .arr i' 0 (Q ++ entB L).length 1 (Q ++ entB L).length false), (12, .p (entP (Ent.row fl) 5 L)), (13, .int .i64 L.length), (14, .int .i64 L.length), (15, .bool false)], h'⟩) ∧
      Go.Sx.look H nx h' i' = some (.cells (byt (Q ++ entB L))) ∧ nx ≤ i' ∧ h'.upd = [] := by
    by_cases h0 : L = []
    · subst h0
      have hE : Q ++ entB [] = Q := by simp [entB]
      rw [hE]
      exact ⟨_, nx, iter_out (n := 0) (pe_out 1 0 _ _) (by simp), lk, Nat.le_refl _, rfl⟩
    · rw [entP, if_neg h0]
      exact pe_loop (L.length + 1) L fl false (by omega) hf L.length 0 (L.length + 1) Q nx _ (by omega) (by omega) lk (by simp) (Nat.le_refl _) rfl (by rw [List.drop_zero]; omega)
  obtain ⟨h', i', e1, e2, e3, e4⟩ := lp
  have f := fin_arr e4 e3 e2
  generalize Q ++ entB L = Q2 at *
  have len : ∀ z, entP (Ent.row fl) 5 L = z → (z = .s (.slice none 0 0) ∧ L.length = 0) ∨ ∃ R, z = .sl R L.length 5 false := by
    intro z hz
    unfold entP at hz
    split at hz
    · rename_i h; exact .inl ⟨hz.symm, by rw [h]; rfl⟩
    · exact .inr ⟨_, hz.symm⟩
  have lz := len _ rfl
  clear len
  generalize entP (Ent.row fl) 5 L = z at *
  rcases lz with ⟨rfl, h0⟩ | ⟨R, rfl⟩
  · rw [h0] at e1 n w1 ⊢
    simp only [Int.natCast_zero, Int.ofNat_zero] at e1 n w1
    cases b with
    | nil =>
      have m1 := fun H nx => n H nx .nil
      simp [ir30, ssB, List.idxOf?_cons, Go.Sx.LV.undef, Go.undef, callO_A, aft_nil, setAll_nil, Go.Sx.splice, Go.Sx.leI_eq, ltF, aft_one, m1, w1, e1, f, push]
    | sl _ fl' =>
      have m1 := fun H nx => n H nx (.sl q fl')
      simp [ir30, ssB, List.idxOf?_cons, Go.Sx.LV.undef, Go.undef, callO_A, aft_nil, setAll_nil, Go.Sx.splice, Go.Sx.leI_eq, ltF, aft_one, m1, w1, e1, f, push]
    | arr _ G id off cp ex h1 h2 h3 h4 =>
      have m1 := fun H nx e1 e2 => n H nx (.arr q G id off cp ex e1 e2 h3 h4)
      have m2 := m1 (Go.Sx.look H nx ⟨[], []⟩) nx (by simp [Go.Sx.look, findU, h2, h1]) h2
      simp [ir30, ssB, List.idxOf?_cons, Go.Sx.LV.undef, Go.undef, callO_A, aft_nil, setAll_nil, Go.Sx.splice, Go.Sx.leI_eq, ltF, aft_one, m2, w1, e1, f, push]
  · cases b with
    | nil =>
      have m1 := fun H nx => n H nx .nil
      simp [ir30, ssB, List.idxOf?_cons, Go.Sx.LV.undef, Go.undef, callO_A, aft_nil, setAll_nil, Go.Sx.splice, Go.Sx.leI_eq, ltF, aft_one, m1, w1, e1, f, push]
    | sl _ fl' =>
      have m1 := fun H nx => n H nx (.sl q fl')
      simp [ir30, ssB, List.idxOf?_cons, Go.Sx.LV.undef, Go.undef, callO_A, aft_nil, setAll_nil, Go.Sx.splice, Go.Sx.leI_eq, ltF, aft_one, m1, w1, e1, f, push]
    | arr _ G id off cp ex h1 h2 h3 h4 =>
      have m1 := fun H nx e1 e2 => n H nx (.arr q G id off cp ex e1 e2 h3 h4)
      have m2 := m1 (Go.Sx.look H nx ⟨[], []⟩) nx (by simp [Go.Sx.look, findU, h2, h1]) h2
      simp [ir30, ssB, List.idxOf?_cons, Go.Sx.LV.undef, Go.undef, callO_A, aft_nil, setAll_nil, Go.Sx.splice, Go.Sx.leI_eq, ltF, aft_one, m2, w1, e1, f, push]
end Go.Proofs.YtppeggedcaabkaaGreatDoor
end

section
namespace Go.Proofs.YtppeggedcaabkaaGreatDoor
open Go Go.Sx
set_option linter.unusedSimpArgs false
set_option linter.unusedVariables false

theorem re_step {H : Heap} {nx : Nat} {h : Hp} (N : Nat) (L : List Ent) (fl ff : Bool) (j : Nat) (x : Ent) (hj : L[j]? = some x) (Q : List UInt8) (y : LV) (hy : (∃ f2, y = .p (.sl (bytP Q) Q.length 1 f2)) ∨ ∃ i ex, y = .arr i 0 Q.length 1 Q.length ex ∧ Go.Sx.look H nx h i = some (.cells (byt Q)) ∧ i < nx + h.new.length) (hL : L.length < 2 ^ 31)
    (hid : x.id < 2 ^ 32) (hn : x.v.ev.norm) (hm : x.v.ev.max < 2 ^ 64) (hb : (evBits x.v.ev).length < 2 ^ 18) (hq : Q.length < 2 ^ 28) :
    ∃ h', runCS ⟨Ω, noG, H, nx⟩ N ir37_0 ⟨[(3, y), (10, .p (.sl (rows (Ent.rrow fl) L) L.length 4 ff)), (11, .int .i64 L.length), (12, .int .i64 j)], h⟩ =
      some (.normal, ⟨[(3, .p (.sl (bytP (Q ++ x.bytes)) (Q ++ x.bytes).length 1 false)), (10, .p (.sl (rows (Ent.rrow fl) L) L.length 4 ff)), (11, .int .i64 L.length), (12, .int .i64 (j + 1 : Nat))], h'⟩) ∧ h'.upd = h.upd := by
  obtain ⟨hjl, _⟩ := List.getElem?_eq_some_iff.1 hj
  have hr := rows_at (Ent.rrow fl) 4 (fun _ => rfl) L j x hj
  have hrl := rows_len (Ent.rrow fl) 4 (fun _ => rfl) L
  have g1 : ¬ (L.length : Int) ≤ j := by omega
  have w1 : IntKind.i64.wrap ((j : Int) + 1) = (j : Int) + 1 := wrap_i64 _ (by omega) (by omega)
  have w2 : IntKind.u64.wrap (x.id : Int) = x.id := wrap_u64' _ (by omega) (by omega)
  have v1 := vnum_len x.id (by omega)
  have v0 := vnum_pos x.id
  have hle : j * 4 + 4 ≤ (rows (Ent.rrow fl) L).length := by rw [hrl]; omega
  have n1 := rNum_ x.id (by omega)
  have vb := rvsnBytes_ x.v fl hn hm hb
  have hp := pack_len (evBits x.v.ev)
  have tl := txt_len (pack (evBits x.v.ev)) (by omega)
  have hvl : x.v.bytes.length < 2 ^ 19 + 40 := by
    unfold Vsn.bytes
    rw [List.length_append]
    have := crdB_len x.v.nm
    split <;> simp <;> omega
  have t1 := rTextB_ x.v.bytes (by omega)
  have tl2 := vnum_len x.v.bytes.length (by omega)
  have tl3 : (txt x.v.bytes).length = (vnum x.v.bytes.length).length + x.v.bytes.length := by rw [txt, List.length_append]
  have hE : Q ++ x.bytes = Q ++ vnum x.id ++ txt x.v.bytes := by simp [Ent.bytes]
  have bb := bytesL_byt x.v.bytes
  obtain ⟨cs, hcs⟩ := Ev.rv_imm x.v.ev
  have hne : Q ++ vnum x.id ++ txt x.v.bytes ≠ [] := by
    intro h
    have := congrArg List.length h
    simp only [List.length_append, List.length_nil] at this
    omega
  rw [hE]
  have j3 : ∀ (H : Heap) (nx aid i1 i2 : Nat) (y : LV) (e1 e2 : Bool), Bs H nx y Q → H aid = some (.cells [y, .arr i1 0 (vnum x.id).length 1 (vnum x.id).length e1, .arr i2 0 (txt x.v.bytes).length 1 (txt x.v.bytes).length e2]) → aid < nx → H i1 = some (.cells (byt (vnum x.id))) → i1 < nx → H i2 = some (.cells (byt (txt x.v.bytes))) → i2 < nx →
      Ω 36 [.arr aid 0 3 1 3 true] H nx = some (sum' (Q ++ vnum x.id ++ txt x.v.bytes), [], []) := fun H nx aid i1 i2 y e1 e2 g h0 h0' a1 b1 a2 b2 =>
    join3 g (.whole a1 b1) (.whole a2 b2) (by omega) aid h0 h0'
  rw [sum'_ne hne] at j3
  simp only [Vsn.rv, hcs] at vb
  have rr : Ent.rrow fl x = [.s (.int .u32 x.id), .imm cs 0, crd x.v.nm fl, .s (.bool x.v.gone)] := by simp only [Ent.rrow, hcs]
  rw [rr] at hr
  generalize Q ++ vnum x.id ++ txt x.v.bytes = Q2 at *
  generalize txt x.v.bytes = T at *
  generalize vnum x.id = V at *
  generalize x.v.bytes = B at *
  generalize decide (x.id < 128) = e1 at *
  generalize B.isEmpty = e2 at *
  generalize rows (Ent.rrow fl) L = R at *
  have tk : List.take 4 (List.drop (j * 4) (List.map LV.p R)) = pc [.s (.int .u32 x.id), .imm cs 0, crd x.v.nm fl, .s (.bool x.v.gone)] := by rw [← List.map_drop, ← List.map_take, hr]; rfl
  have so := fun o o' => setObj_push nx h o o'
  have hq' : ∀ o : Go.Sx.Obj, (⟨h.upd, h.new ++ [some o]⟩ : Hp) = push h o := fun o => rfl
  rcases hy with ⟨f2, rfl⟩ | ⟨i, ex, rfl, hi, hlt⟩
  · have jj := fun (H : Heap) => j3 H (nx + (h.new.length + 1 + 1 + 1 + 1)) (nx + (h.new.length + 1 + 1 + 1)) (nx + (h.new.length + 1)) (nx + (h.new.length + 1 + 1)) (.p (.sl (bytP Q) Q.length 1 f2)) e1 e2 (.sl Q f2)
    have e := Eq.refl (runCS ⟨Ω, noG, H, nx⟩ N ir37_0 ⟨[(3, .p (.sl (bytP Q) Q.length 1 f2)), (10, .p (.sl R L.length 4 ff)), (11, .int .i64 L.length), (12, .int .i64 j)], h⟩)
    conv at e => rhs; simp [ir37_0, ssB, List.idxOf?_cons, Go.Sx.LV.undef, Go.undef, callO_A, aft_nil, setAll_nil, Go.Sx.splice, Go.Sx.leI_eq, ltF, g1, w1, w2, hjl, tk, pc_cons, pc_nil, hle, so, hq', look_push, push_len, ids_byt, n1, vb, t1, bb, bytP_map, bytP_len, byt_len, aft_one, jj]
    exact ⟨_, e, rfl⟩
  · have ne0 : ¬ i = nx + h.new.length := by omega
    have ne1 : ∀ k, ¬ i = nx + (h.new.length + k) := fun k => by omega
    have ne2 : ¬ i = nx + (h.new.length + 1 + 1) := by omega
    have ne3 : ¬ i = nx + (h.new.length + 1 + 1 + 1) := by omega
    have nf1 : ¬ nx + (h.new.length + 1) = i := by omega
    have nf2 : ¬ nx + (h.new.length + 1 + 1) = i := by omega
    have nf3 : ¬ nx + (h.new.length + 1 + 1 + 1) = i := by omega
    have lt1 : ∀ k, i < nx + (h.new.length + k) := fun k => by omega
    have lt3 : i < nx + (h.new.length + 1 + 1 + 1 + 1) := by omega
    have jj := fun (H : Heap) (g : H i = some (.cells (byt Q))) => j3 H (nx + (h.new.length + 1 + 1 + 1 + 1)) (nx + (h.new.length + 1 + 1 + 1)) (nx + (h.new.length + 1)) (nx + (h.new.length + 1 + 1)) (.arr i 0 Q.length 1 Q.length ex) e1 e2 (.whole g lt3)
    have e := Eq.refl (runCS ⟨Ω, noG, H, nx⟩ N ir37_0 ⟨[(3, .arr i 0 Q.length 1 Q.length ex), (10, .p (.sl R L.length 4 ff)), (11, .int .i64 L.length), (12, .int .i64 j)], h⟩)
    conv at e => rhs; simp [ir37_0, ssB, List.idxOf?_cons, Go.Sx.LV.undef, Go.undef, callO_A, aft_nil, setAll_nil, Go.Sx.splice, Go.Sx.leI_eq, ltF, g1, w1, w2, hjl, tk, pc_cons, pc_nil, hle, so, hq', look_push, push_len, ids_byt, n1, vb, t1, bb, bytP_map, bytP_len, byt_len, aft_one, jj, ne0, ne1, ne2, ne3, nf1, nf2, nf3, lt1, lt3, hi]
    exact ⟨_, e, rfl⟩
theorem re_out {H : Heap} {nx : Nat} {h : Hp} (N n : Nat) (y X : LV) : runCS ⟨Ω, noG, H, nx⟩ N ir37_0 ⟨[(3, y), (10, X), (11, .int .i64 n), (12, .int .i64 n)], h⟩ = some (.exit 0, ⟨[(3, y), (10, X), (11, .int .i64 n), (12, .int .i64 n), (13, .bool false)], h⟩) := by
  simp [ir37_0, ssB, List.idxOf?_cons, Go.Sx.LV.undef, Go.undef, Go.Sx.callO, Go.Sx.splice, Go.Sx.finish, Go.Sx.look, Go.Sx.push, Go.Sx.setObj, Go.Sx.setU, Go.Sx.setAll, Go.Sx.appO, Go.Sx.leI_eq, ltF]
theorem re_loop {H : Heap} {nx : Nat} (N : Nat) (L : List Ent) (fl ff : Bool) (hL : L.length < 2 ^ 31) (hf : ∀ x ∈ L, x.fit ∧ x.v.ev.norm) : ∀ (d j m : Nat) (Q : List UInt8) (f2 : Bool) (h : Hp), j + d = L.length → d < m → h.upd = [] → Q.length + (entB (L.drop j)).length < 2 ^ 28 →
    ∃ h' f3, iter (runCS ⟨Ω, noG, H, nx⟩ N ir37_0) m ⟨[(3, .p (.sl (bytP Q) Q.length 1 f2)), (10, .p (.sl (rows (Ent.rrow fl) L) L.length 4 ff)), (11, .int .i64 L.length), (12, .int .i64 j)], h⟩ =
      some (.exit 0, ⟨[(3, .p (.sl (bytP (Q ++ entB (L.drop j))) (Q ++ entB (L.drop j)).length 1 f3)), (10, .p (.sl (rows (Ent.rrow fl) L) L.length 4 ff)), (11, .int .i64 L.length), (12, .int .i64 L.length), (13, .bool false)], h'⟩) ∧ h'.upd = [] ∧ (f2 = false → f3 = false) := by
  intro d
  induction d with
  | zero =>
    intro j m Q f2 h hj hm hu hq
    obtain ⟨m, rfl⟩ : ∃ r, m = r + 1 := ⟨m - 1, by omega⟩
    obtain rfl : j = L.length := by omega
    rw [List.drop_length, entB, List.append_nil]
    exact ⟨h, f2, iter_out (re_out N _ _ _) (by simp), hu, id⟩
  | succ d ih =>
    intro j m Q f2 h hj hm hu hq
    obtain ⟨m, rfl⟩ : ∃ r, m = r + 1 := ⟨m - 1, by omega⟩
    have hjl : j < L.length := by omega
    have hd : L.drop j = L[j] :: L.drop (j + 1) := List.drop_eq_getElem_cons hjl
    obtain ⟨⟨f1, f2', f3⟩, f4⟩ := hf L[j] (List.getElem_mem hjl)
    have hE : Q ++ entB (L.drop j) = (Q ++ L[j].bytes) ++ entB (L.drop (j + 1)) := by rw [hd, entB, List.append_assoc]
    have hEl := congrArg List.length hE
    rw [List.length_append, List.length_append] at hEl
    obtain ⟨h', e1, e2⟩ := re_step (H := H) (nx := nx) (h := h) N L fl ff j L[j] (List.getElem?_eq_getElem hjl) Q _ (.inl ⟨f2, rfl⟩) hL f1 f4 f2' f3 (by omega)
    rw [iter_step e1, hE]
    obtain ⟨h2, f5, q1, q2, q3⟩ := ih (j + 1) m (Q ++ L[j].bytes) false h' (by omega) (by omega) (by rw [e2]; exact hu) (by omega)
    exact ⟨h2, f5, q1, q2, fun _ => q3 rfl⟩
theorem rEntries_ (L : List Ent) (fl : Bool) (hL : L.length < 100) (hf : ∀ x ∈ L, x.fit ∧ x.v.ev.norm) (hq : (entB L).length < 2 ^ 27) (H : Heap) (nx : Nat) :
    Ω 37 [.p (entP (Ent.rrow fl) 4 L)] H nx = some (.p (.sl (bytP (vnum L.length ++ entB L)) (vnum L.length ++ entB L).length 1 L.isEmpty), [], []) := by
  refine om_run (ir := ir37) (by kernel_rfl) (L.length + 1) ?_
  have w1 : IntKind.u64.wrap (L.length : Int) = L.length := wrap_u64' _ (by omega) (by omega)
  have n := fun H nx => rNum_ L.length (by omega) H nx
  have v1 := vnum_len L.length (by omega)
  cases L with
  | nil =>
    have n0 : ∀ (H : Heap) (nx : Nat), Ω 32 [.int .u64 0] H nx = some (.arr nx 0 1 1 1 true, [], [some (.cells [.int .u8 0])]) := fun H nx => rnum_c 0 (by decide) H nx
    have w0 : IntKind.u64.wrap 0 = 0 := by decide
    have lp := fun h y => iter_out (n := 0) (re_out (H := H) (nx := nx) (h := h) 1 0 y (.p (.s (.slice none 0 0)))) (by simp)
    have v0 := vnum_lt (show 0 < 128 by decide)
    have c0 : ((0 : Nat) : Int) = 0 := rfl
    simp only [c0] at lp
    simp [ir37, ssB, List.idxOf?_cons, Go.Sx.LV.undef, Go.undef, Go.Sx.callO, Go.Sx.splice, Go.Sx.finish, Go.Sx.look, Go.Sx.push, Go.Sx.setObj, Go.Sx.setU, Go.Sx.setAll, Go.Sx.appO, Go.Sx.leI_eq, ltF, entP, n0, w0, lp, bytP, entB, v0]
  | cons x0 L0 =>
    generalize hLL : x0 :: L0 = L at *
    have hne : L ≠ [] := by rw [← hLL]; simp
    have hpos : 0 < L.length := by rw [← hLL]; simp
    have hie : L.isEmpty = false := by rw [← hLL]; rfl
    have h0 : L[0]? = some x0 := by rw [← hLL]; rfl
    have hd : L.drop 1 = L0 := by rw [← hLL]; rfl
    obtain ⟨⟨f1, f2', f3⟩, f4⟩ := hf x0 (by rw [← hLL]; exact List.mem_cons_self)
    have hE : entB L = x0.bytes ++ entB L0 := by rw [← hLL]; rfl
    have hEl := congrArg List.length hE
    rw [List.length_append] at hEl
    rw [entP, if_neg hne, hie]
    generalize hV : vnum L.length = V at *
    have lk : Go.Sx.look H nx ⟨[], [some (.cells (byt V))]⟩ nx = some (.cells (byt V)) := by simp [Go.Sx.look, ltF]
    generalize decide (L.length < 128) = ex at *
    obtain ⟨h1, e1, e2⟩ := re_step (H := H) (nx := nx) (h := ⟨[], [some (.cells (byt V))]⟩) (L.length + 1) L fl false 0 x0 h0 V _ (.inr ⟨nx, ex, rfl, lk, by simp⟩) (by omega) f1 f4 f2' f3 (by omega)
    obtain ⟨h2, f5, q1, q2, q3⟩ := re_loop (H := H) (nx := nx) (L.length + 1) L fl false (by omega) hf (L.length - 1) 1 L.length (V ++ x0.bytes) false h1 (by omega) (by omega) e2 (by rw [hd]; simp; omega)
    have q4 := q3 rfl
    subst q4
    have lp := (iter_step (n := L.length) e1).trans q1
    have hE2 : V ++ x0.bytes ++ entB (L.drop 1) = V ++ entB L := by rw [hd, hE, List.append_assoc]
    rw [hE2] at lp
    have c0 : ((0 : Nat) : Int) = 0 := rfl
    simp only [c0] at lp
    generalize V ++ entB L = Q at *
    have f := fin_p H nx (.sl (bytP Q) Q.length 1 false) h2 q2
    generalize rows (Ent.rrow fl) L = R at *
    simp [ir37, ssB, List.idxOf?_cons, Go.Sx.LV.undef, Go.undef, callO_A, aft_nil, setAll_nil, Go.Sx.splice, Go.Sx.leI_eq, ltF, aft_one, push, w1, n, lp, f]
end Go.Proofs.YtppeggedcaabkaaGreatDoor
end
