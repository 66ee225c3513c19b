/- Plain laws: the sum of bytes tells a turned byte; numbers in sevens come back. No condition. -/
import Derived.WalkKit
namespace Go.Proofs.YtkdimbcfacoboaaGreatDoor
open Go
set_option linter.unusedSimpArgs false
set_option linter.unusedVariables false

def stp (r : BitVec 32) : BitVec 32 := if r &&& 1#32 = 1#32 then (r >>> 1) ^^^ 3988292384#32 else r >>> 1
def wide (b : UInt8) : BitVec 32 := BitVec.ofNat 32 b.toNat
def crcB (r : BitVec 32) (b : UInt8) : BitVec 32 := Nat.repeat stp 8 (r ^^^ wide b)
def crcL (r : BitVec 32) (l : List UInt8) : BitVec 32 := l.foldl crcB r
def crc (l : List UInt8) : BitVec 32 := ~~~ (crcL 4294967295#32 l)

theorem odd_bit (r : BitVec 32) : (r &&& 1#32 = 1#32) ↔ r.getLsbD 0 = true := by
  rw [BitVec.and_one_eq_setWidth_ofBool_getLsbD]
  cases r.getLsbD 0 <;> decide

theorem stp_bit (r : BitVec 32) (i : Nat) (hi : i < 32) : (stp r).getLsbD i = (r.getLsbD (1 + i) ^^ (r.getLsbD 0 && (3988292384#32).getLsbD i)) := by
  unfold stp
  by_cases h : r.getLsbD 0 = true
  · rw [if_pos ((odd_bit r).2 h), BitVec.getLsbD_xor, BitVec.getLsbD_ushiftRight, h, Bool.true_and]
  · rw [if_neg (fun e => h ((odd_bit r).1 e)), BitVec.getLsbD_ushiftRight]
    have h0 : r.getLsbD 0 = false := by simpa using h
    rw [h0]; simp

theorem stp_inj {r s : BitVec 32} (h : stp r = stp s) : r = s := by
  have top : ∀ x : BitVec 32, (stp x).getLsbD 31 = x.getLsbD 0 := fun x => by
    rw [stp_bit x 31 (by omega), BitVec.getLsbD_of_ge x (1 + 31) (by omega)]
    have : (3988292384#32).getLsbD 31 = true := by decide
    rw [this]; simp
  have h0 : r.getLsbD 0 = s.getLsbD 0 := by rw [← top r, ← top s, h]
  refine BitVec.eq_of_getLsbD_eq fun i hi => ?_
  cases i with
  | zero => exact h0
  | succ i =>
    have e1 := stp_bit r i (by omega)
    have e2 := stp_bit s i (by omega)
    rw [h, e2, h0, Nat.add_comm] at e1
    have := Bool.xor_right_inj.1 ((Bool.xor_comm _ _).trans (e1.trans (Bool.xor_comm _ _)))
    rw [this]

theorem rep_inj : ∀ (n : Nat) {r s : BitVec 32}, Nat.repeat stp n r = Nat.repeat stp n s → r = s
  | 0, _, _, h => h
  | n + 1, _, _, h => rep_inj n (stp_inj h)

theorem crcB_inj {r s : BitVec 32} {b : UInt8} (h : crcB r b = crcB s b) : r = s := by
  have := rep_inj 8 h
  exact (BitVec.xor_left_inj _).1 this

theorem crcB_byte {r : BitVec 32} {b c : UInt8} (h : crcB r b = crcB r c) : b = c := by
  have := (BitVec.xor_right_inj _).1 (rep_inj 8 h)
  have e := congrArg BitVec.toNat this
  unfold wide at e
  rw [BitVec.toNat_ofNat, BitVec.toNat_ofNat] at e
  have hb := b.toNat_lt
  have hc := c.toNat_lt
  exact UInt8.toNat_inj.1 (by omega)

theorem crcL_inj : ∀ (l : List UInt8) {r s : BitVec 32}, crcL r l = crcL s l → r = s
  | [], _, _, h => h
  | b :: l, _, _, h => crcB_inj (crcL_inj l h)

theorem crc_turned (l m : List UInt8) {b c : UInt8} (hn : b ≠ c) : crc (l ++ b :: m) ≠ crc (l ++ c :: m) := by
  intro h
  unfold crc crcL at h
  have h := BitVec.not_inj.1 h
  rw [List.foldl_append, List.foldl_append] at h
  exact hn (crcB_byte (crcL_inj m h))

/-- A number of 32 bits as four bytes, and back. -/
def low (x : BitVec 32) : UInt8 := UInt8.ofNat x.toNat
def le4 (x : BitVec 32) : List UInt8 := [low x, low (x >>> 8), low (x >>> 16), low (x >>> 24)]
def un4 (a b c d : UInt8) : BitVec 32 := 0#32 ||| wide a <<< 0 ||| wide b <<< 8 ||| wide c <<< 16 ||| wide d <<< 24

theorem low_nat (x : BitVec 32) : (low x).toNat = x.toNat % 256 := by simp [low]
theorem wide_nat (b : UInt8) : (wide b).toNat = b.toNat := by
  have := b.toNat_lt
  rw [wide, BitVec.toNat_ofNat]; omega
theorem un4_nat (a b c d : UInt8) : (un4 a b c d).toNat = a.toNat + b.toNat * 256 + c.toNat * 65536 + d.toNat * 16777216 := by
  have ha := a.toNat_lt
  have hb := b.toNat_lt
  have hc := c.toNat_lt
  have hd := d.toNat_lt
  have s : ∀ (k : Nat) (x : UInt8), k ≤ 24 → (wide x <<< k).toNat = x.toNat <<< k := fun k x hk => by
    have hx := x.toNat_lt
    rw [BitVec.toNat_shiftLeft, wide_nat, Nat.mod_eq_of_lt]
    rw [Nat.shiftLeft_eq]
    have h1 : (2 : Nat) ^ k ≤ 2 ^ 24 := Nat.pow_le_pow_right (by omega) hk
    have h2 : x.toNat * 2 ^ k ≤ x.toNat * 2 ^ 24 := Nat.mul_le_mul_left _ h1
    omega
  unfold un4
  rw [BitVec.toNat_or, BitVec.toNat_or, BitVec.toNat_or, BitVec.toNat_or, s 0 a (by omega), s 8 b (by omega), s 16 c (by omega), s 24 d (by omega)]
  have e0 : (0#32).toNat ||| a.toNat <<< 0 = a.toNat := by simp
  have o : ∀ (k n x : Nat), n < 2 ^ k → n ||| x <<< k = n + x * 2 ^ k := fun k n x h => by
    have := Nat.shiftLeft_add_eq_or_of_lt h x
    rw [Nat.or_comm, ← this, Nat.shiftLeft_eq, Nat.add_comm]
  rw [e0, o 8 _ _ (by omega), o 16 _ _ (by omega), o 24 _ _ (by omega)]

theorem un4_le4 (x : BitVec 32) : un4 (low x) (low (x >>> 8)) (low (x >>> 16)) (low (x >>> 24)) = x := by
  refine BitVec.eq_of_toNat_eq ?_
  have := x.isLt
  rw [un4_nat, low_nat, low_nat, low_nat, low_nat, BitVec.toNat_ushiftRight, BitVec.toNat_ushiftRight, BitVec.toNat_ushiftRight, Nat.shiftRight_eq_div_pow, Nat.shiftRight_eq_div_pow, Nat.shiftRight_eq_div_pow]
  omega
theorem un4_inj {a b c d a' b' c' d' : UInt8} (h : un4 a b c d = un4 a' b' c' d') : a = a' ∧ b = b' ∧ c = c' ∧ d = d' := by
  have h := congrArg BitVec.toNat h
  rw [un4_nat, un4_nat] at h
  have h1 := a.toNat_lt
  have h2 := b.toNat_lt
  have h3 := c.toNat_lt
  have h4 := d.toNat_lt
  have h5 := a'.toNat_lt
  have h6 := b'.toNat_lt
  have h7 := c'.toNat_lt
  have h8 := d'.toNat_lt
  refine ⟨UInt8.toNat_inj.1 ?_, UInt8.toNat_inj.1 ?_, UInt8.toNat_inj.1 ?_, UInt8.toNat_inj.1 ?_⟩ <;> omega

/-- A number's bytes. -/
def vnum (n : Nat) : List UInt8 := if n < 128 then [UInt8.ofNat n] else UInt8.ofNat (n % 128 + 128) :: vnum (n / 128)
  termination_by n
  decreasing_by omega

theorem vnum_lt {n : Nat} (h : n < 128) : vnum n = [UInt8.ofNat n] := by rw [vnum, if_pos h]
theorem vnum_ge {n : Nat} (h : ¬ n < 128) : vnum n = UInt8.ofNat (n % 128 + 128) :: vnum (n / 128) := by rw [vnum, if_neg h]
theorem vnum_length : ∀ (k n : Nat), n < 128 ^ k → 0 < k → (vnum n).length ≤ k
  | 0, n, _, h0 => absurd h0 (Nat.lt_irrefl 0)
  | 1, n, h, _ => by rw [vnum_lt (by simpa using h)]; simp
  | k + 2, n, h, _ => by
    by_cases hn : n < 128
    · rw [vnum_lt hn]; simp
    · rw [vnum_ge hn, List.length_cons]
      have := vnum_length (k + 1) (n / 128) (by rw [Nat.pow_succ] at h; exact Nat.div_lt_of_lt_mul (by rw [Nat.mul_comm]; exact h)) (by omega)
      omega
theorem vnum_pos (n : Nat) : 0 < (vnum n).length := by
  by_cases hn : n < 128
  · rw [vnum_lt hn]; simp
  · rw [vnum_ge hn]; simp
theorem vnum_len (n : Nat) (h : n < 2 ^ 64) : (vnum n).length ≤ 10 := vnum_length 10 n (Nat.lt_of_lt_of_le h (by decide)) (by decide)

/-- The next number: what was read, behind so many bytes. -/
def rnum (i n : Nat) : List UInt8 → Option (Nat × List UInt8)
  | [] => none
  | b :: l =>
    if (i = 9 ∧ 1 < b.toNat) ∨ (b = 0 ∧ 0 < i) then none
    else if b.toNat < 128 then some (n ||| (b.toNat % 128 * 2 ^ (7 * i)) % 2 ^ 64, l)
    else rnum (i + 1) (n ||| (b.toNat % 128 * 2 ^ (7 * i)) % 2 ^ 64) l

theorem rnum_vnum : ∀ (k m i n : Nat) (l : List UInt8), k = (vnum m).length → n < 2 ^ (7 * i) → m * 2 ^ (7 * i) < 2 ^ 64 → (0 < i → 0 < m) → rnum i n (vnum m ++ l) = some (n + m * 2 ^ (7 * i), l) := by
  have or_add : ∀ (i n b : Nat), n < 2 ^ (7 * i) → n ||| b * 2 ^ (7 * i) = n + b * 2 ^ (7 * i) := fun i n b h => by
    have := Nat.shiftLeft_add_eq_or_of_lt h b
    rw [Nat.shiftLeft_eq] at this
    rw [Nat.or_comm, ← this, Nat.add_comm]
  intro k
  induction k with
  | zero => intro m i n l hk; have := vnum_pos m; omega
  | succ k ih =>
    intro m i n l hk hn hm h0
    have hi : m ≠ 0 → i ≤ 9 := fun hm0 => by
      rcases Nat.lt_or_ge i 10 with h | h
      · omega
      · have h1 : (2 : Nat) ^ 70 ≤ 2 ^ (7 * i) := Nat.pow_le_pow_right (by omega) (by omega)
        have h2 : 2 ^ (7 * i) ≤ m * 2 ^ (7 * i) := Nat.le_mul_of_pos_left _ (by omega)
        omega
    have h9 : i = 9 → m < 2 := fun h => by subst h; omega
    by_cases h : m < 128
    · rw [vnum_lt h, List.singleton_append, rnum]
      have hb : (UInt8.ofNat m).toNat = m := by simp [UInt8.toNat_ofNat']; omega
      rw [if_neg, hb, if_pos h, Nat.mod_eq_of_lt h, Nat.mod_eq_of_lt hm, or_add i n m hn]
      rw [hb]
      rintro (⟨h1, h2⟩ | ⟨h1, h2⟩)
      · have := h9 h1; omega
      · have := h0 h2
        have h3 := congrArg UInt8.toNat h1
        rw [hb] at h3
        simp at h3
        omega
    · rw [vnum_ge h, List.cons_append, rnum]
      have hb : (UInt8.ofNat (m % 128 + 128)).toNat = m % 128 + 128 := by simp [UInt8.toNat_ofNat']; omega
      have e : (m % 128 + 128) % 128 = m % 128 := by omega
      have hlt : m % 128 * 2 ^ (7 * i) < 2 ^ 64 := Nat.lt_of_le_of_lt (Nat.mul_le_mul_right _ (Nat.mod_le m 128)) hm
      rw [if_neg, hb, if_neg (by omega), e, Nat.mod_eq_of_lt hlt, or_add i n _ hn]
      · have hd : m = m % 128 + 128 * (m / 128) := by omega
        have e2 : (2 : Nat) ^ (7 * (i + 1)) = 128 * 2 ^ (7 * i) := by rw [Nat.mul_add, Nat.pow_add, Nat.mul_comm]
        have e3 : m / 128 * 2 ^ (7 * (i + 1)) = 128 * (m / 128) * 2 ^ (7 * i) := by rw [e2]; simp only [Nat.mul_assoc, Nat.mul_comm, Nat.mul_left_comm]
        have e4 : m * 2 ^ (7 * i) = m % 128 * 2 ^ (7 * i) + 128 * (m / 128) * 2 ^ (7 * i) := by rw [← Nat.add_mul, ← hd]
        rw [ih (m / 128) (i + 1) _ l (by rw [vnum_ge h] at hk; simpa using hk)]
        · rw [e3, e4, Nat.add_assoc]
        · rw [e2]
          have : m % 128 * 2 ^ (7 * i) ≤ 127 * 2 ^ (7 * i) := Nat.mul_le_mul_right _ (by omega)
          omega
        · rw [e3]; omega
        · intro _; omega
      · rw [hb]
        rintro (⟨h1, h2⟩ | ⟨h1, h2⟩)
        · have := h9 h1; omega
        · have h3 := congrArg UInt8.toNat h1
          rw [hb] at h3
          simp at h3

theorem rnum_of (m : Nat) (h : m < 2 ^ 64) (l : List UInt8) : rnum 0 0 (vnum m ++ l) = some (m, l) := by
  rw [rnum_vnum _ m 0 0 l rfl (by decide) (by simpa using h) (by omega)]
  simp

theorem rnum_trunc : ∀ (k m i n j : Nat), k = (vnum m).length → j < k → rnum i n ((vnum m).take j) = none := by
  intro k
  induction k with
  | zero => intro m i n j _ hj; omega
  | succ k ih =>
    intro m i n j hk hj
    cases j with
    | zero => rw [List.take_zero]; rfl
    | succ j =>
      by_cases hm : m < 128
      · rw [vnum_lt hm] at hk; simp at hk; omega
      · have hv := vnum_ge hm
        rw [hv] at hk ⊢
        rw [List.length_cons] at hk
        rw [List.take_succ_cons, rnum]
        have hb : ¬ (UInt8.ofNat (m % 128 + 128)).toNat < 128 := by simp; omega
        rw [if_neg hb]
        split
        · rfl
        · exact ih (m / 128) (i + 1) _ j (by omega) (by omega)
end Go.Proofs.YtkdimbcfacoboaaGreatDoor

