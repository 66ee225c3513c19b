/- Plain laws: a frame with one byte turned is none. -/
import Derived.Test.YtkdimbcfacoboaaGreatDoorNh
namespace Go.Proofs.YtkdimbcfacoboaaGreatDoor
open Go Go.Sx
set_option linter.unusedSimpArgs false
set_option linter.unusedVariables false

theorem reads_frame (f t no : Nat) (hf : f < 12) (ht : t < 12) (hn : f ≠ t) (h64 : no < 2 ^ 64) : Reads (frame (pay f t no)) (nt 7 f t no) 0 := by
  intro id H nx hl hid
  have hv := vnum_len no h64
  have hlen : (pay f t no).length < 2 ^ 32 := by simp [pay]; omega
  generalize hN : BitVec.ofNat 32 (pay f t no).length = N
  have hNn : N.toNat = (pay f t no).length := by rw [← hN, BitVec.toNat_ofNat, Nat.mod_eq_of_lt hlen]
  generalize hS : crc (le4 N ++ pay f t no) = S
  have hF : frame (pay f t no) = low N :: low (N >>> 8) :: low (N >>> 16) :: low (N >>> 24) :: low S :: low (S >>> 8) :: low (S >>> 16) :: low (S >>> 24) :: pay f t no := by
    unfold frame
    rw [hN, hS]
    rfl
  have := readA_ok (low N) (low (N >>> 8)) (low (N >>> 16)) (low (N >>> 24)) (low S) (low (S >>> 8)) (low (S >>> 16)) (low (S >>> 24)) (pay f t no) id ((pay f t no).length + 8) false H nx f t no hf ht hn h64 rfl (by rw [un4_le4]; exact hNn) (by rw [un4_le4]; exact hS.symm) (by rw [hF] at hl; exact hl) hid
  rw [hF]
  exact this

theorem set_ne {l : List UInt8} {i : Nat} {b v : UInt8} (hb : l[i]? = some b) (hv : v ≠ b) : ∃ pre post, l = pre ++ b :: post ∧ l.set i v = pre ++ v :: post := by
  obtain ⟨hi, he⟩ := List.getElem?_eq_some_iff.1 hb
  refine ⟨l.take i, l.drop (i + 1), ?_, ?_⟩
  · rw [← he, List.getElem_cons_drop, List.take_append_drop]
  · rw [List.set_eq_take_append_cons_drop, if_pos hi]

theorem reads_turned (f t no : Nat) (h64 : no < 2 ^ 64) (m : Nat) (b v : UInt8) (hb : (frame (pay f t no))[m]? = some b) (hv : v ≠ b) : ∃ e : Int, e ≠ 0 ∧ Reads ((frame (pay f t no)).set m v) (nt 0 0 0 0) e := by
  have hvl := vnum_len no h64
  have hlen : (pay f t no).length < 2 ^ 20 := by simp [pay]; omega
  generalize hN : BitVec.ofNat 32 (pay f t no).length = N
  have hNn : N.toNat = (pay f t no).length := by rw [← hN, BitVec.toNat_ofNat, Nat.mod_eq_of_lt (by omega)]
  generalize hS : crc (le4 N ++ pay f t no) = S
  have hF : frame (pay f t no) = low N :: low (N >>> 8) :: low (N >>> 16) :: low (N >>> 24) :: low S :: low (S >>> 8) :: low (S >>> 16) :: low (S >>> 24) :: pay f t no := by
    unfold frame
    rw [hN, hS]
    rfl
  rw [hF] at hb ⊢
  have hS' : crc (low N :: low (N >>> 8) :: low (N >>> 16) :: low (N >>> 24) :: pay f t no) = S := hS
  have hUN := un4_le4 N
  have hUS := un4_le4 S
  generalize hP : pay f t no = P at *
  generalize low N = a at *
  generalize low (N >>> 8) = b1 at *
  generalize low (N >>> 16) = c at *
  generalize low (N >>> 24) = d at *
  generalize low S = s0 at *
  generalize low (S >>> 8) = s1 at *
  generalize low (S >>> 16) = s2 at *
  generalize low (S >>> 24) = s3 at *
  -- a length that is another one
  have len : ∀ a' b' c' d' : UInt8, un4 a' b' c' d' ≠ N → ∃ e : Int, e ≠ 0 ∧ Reads (a' :: b' :: c' :: d' :: s0 :: s1 :: s2 :: s3 :: P) (nt 0 0 0 0) e := by
    intro a' b' c' d' hne
    have hnn : (un4 a' b' c' d').toNat ≠ P.length := fun e => hne (BitVec.eq_of_toNat_eq (by rw [e, hNn]))
    by_cases h1 : 2 ^ 20 < (un4 a' b' c' d').toNat
    · exact ⟨9, by decide, fun id H nx hl hid => readA_long a' b' c' d' s0 s1 s2 s3 P id (P.length + 8) false H nx h1 hl hid⟩
    · by_cases h2 : P.length < (un4 a' b' c' d').toNat
      · exact ⟨6, by decide, fun id H nx hl hid => readA_short a' b' c' d' s0 s1 s2 s3 P id (P.length + 8) false H nx (by omega) h2 hl hid⟩
      · by_cases h3 : un4 s0 s1 s2 s3 = crc (a' :: b' :: c' :: d' :: P.take (un4 a' b' c' d').toNat)
        · exact ⟨6, by decide, fun id H nx hl hid => readA_cut a' b' c' d' s0 s1 s2 s3 P id (P.length + 8) false H nx f t no h64 hP.symm (by omega) (by omega) h3 hl hid⟩
        · exact ⟨13, by decide, fun id H nx hl hid => readA_sum a' b' c' d' s0 s1 s2 s3 P id (P.length + 8) false H nx (by omega) (by omega) (by omega) h3 hl hid⟩
  -- a sum that is another one
  have sum : ∀ t0 t1 t2 t3 : UInt8, un4 t0 t1 t2 t3 ≠ S → ∃ e : Int, e ≠ 0 ∧ Reads (a :: b1 :: c :: d :: t0 :: t1 :: t2 :: t3 :: P) (nt 0 0 0 0) e := by
    intro t0 t1 t2 t3 hne
    have hU : (un4 a b1 c d).toNat = P.length := by rw [hUN, hNn]
    refine ⟨13, by decide, fun id H nx hl hid => readA_sum a b1 c d t0 t1 t2 t3 P id (P.length + 8) false H nx (by omega) (by omega) (by omega) ?_ hl hid⟩
    rw [hU, List.take_length, hS']
    exact hne
  match m, hb with
  | 0, hb =>
    obtain rfl : a = b := by simpa using hb
    exact len v b1 c d fun e => hv (un4_inj (e.trans hUN.symm)).1
  | 1, hb =>
    obtain rfl : b1 = b := by simpa using hb
    exact len a v c d fun e => hv (un4_inj (e.trans hUN.symm)).2.1
  | 2, hb =>
    obtain rfl : c = b := by simpa using hb
    exact len a b1 v d fun e => hv (un4_inj (e.trans hUN.symm)).2.2.1
  | 3, hb =>
    obtain rfl : d = b := by simpa using hb
    exact len a b1 c v fun e => hv (un4_inj (e.trans hUN.symm)).2.2.2
  | 4, hb =>
    obtain rfl : s0 = b := by simpa using hb
    exact sum v s1 s2 s3 fun e => hv (un4_inj (e.trans hUS.symm)).1
  | 5, hb =>
    obtain rfl : s1 = b := by simpa using hb
    exact sum s0 v s2 s3 fun e => hv (un4_inj (e.trans hUS.symm)).2.1
  | 6, hb =>
    obtain rfl : s2 = b := by simpa using hb
    exact sum s0 s1 v s3 fun e => hv (un4_inj (e.trans hUS.symm)).2.2.1
  | 7, hb =>
    obtain rfl : s3 = b := by simpa using hb
    exact sum s0 s1 s2 v fun e => hv (un4_inj (e.trans hUS.symm)).2.2.2
  | k + 8, hb =>
    have hb : P[k]? = some b := by simpa using hb
    obtain ⟨pre, post, e1, e2⟩ := set_ne hb hv
    have hU : (un4 a b1 c d).toNat = P.length := by rw [hUN, hNn]
    have hsl : (P.set k v).length = P.length := by simp
    refine ⟨13, by decide, fun id H nx hl hid => ?_⟩
    have := readA_sum a b1 c d s0 s1 s2 s3 (P.set k v) id ((P.set k v).length + 8) false H nx (by omega) (by omega) (by omega) (by
      rw [hU, ← hsl, List.take_length, hUS, ← hS']
      rw [e2]
      conv => lhs; rw [e1]
      exact fun h => crc_turned ([a, b1, c, d] ++ pre) post (b := b) (c := v) hv.symm (by simpa using h)) hl hid
    exact this
end Go.Proofs.YtkdimbcfacoboaaGreatDoor

