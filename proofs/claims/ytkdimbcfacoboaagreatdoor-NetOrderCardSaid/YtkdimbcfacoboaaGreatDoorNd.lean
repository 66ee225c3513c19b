/- Specifications: the frame in front of some bytes. -/
import Derived.Test.YtkdimbcfacoboaaGreatDoorNc
namespace Go.Proofs.YtkdimbcfacoboaaGreatDoor
open Go Go.Sx
set_option linter.unusedSimpArgs false
set_option linter.unusedVariables false

section sum
variable {c : Ctx}
theorem sumSl_step {n : Nat} (hn : 9 ≤ n) {h : Hp} {l : List UInt8} (fl : Bool) (j : Nat) (b : UInt8) (hj : l[j]? = some b) (h62 : l.length < 2 ^ 62) (r : BitVec 32) :
    runCS c n ir41_1 ⟨[(3, .int .u32 (nv r)), (6, .p (.sl (bytP l) l.length 1 fl)), (7, .int .i64 l.length), (8, .int .i64 j)], h⟩ =
      some (.normal, ⟨[(3, .int .u32 (nv (crcB r b))), (6, .p (.sl (bytP l) l.length 1 fl)), (7, .int .i64 l.length), (8, .int .i64 (j + 1 : Nat))], h⟩) := by
  obtain ⟨hlt, hv⟩ := List.getElem?_eq_some_iff.1 hj
  have h8 : ¬ (l.length : Int) ≤ j := by omega
  have hw : IntKind.i64.wrap ((j : Int) + 1) = (j : Int) + 1 := wrap_i64 _ (by omega) (by omega)
  have hb : (byt l)[j]? = some (.int .u8 b.toNat) := by simp [byt, hj]
  have hs := sumIn_all c h n (.p (.sl (bytP l) l.length 1 fl)) (.int .i64 l.length) (.int .i64 j) 8 n 0 (r ^^^ wide b) rfl (by omega)
  simp only [Int.natCast_zero, Int.ofNat_zero] at hs
  simp [ir41_1, Go.Sx.runF_S, runCS_skip, runCS_reg, runCS_draw, runCS_seq, runCS_cond, runCS_block, runCS_loop, runCS_exit, runCS_ret, runOpsS_nil, runOpsS_cons, runOpsTS_nil, runOpsTS_cons, Go.Sx.wants, Go.Sx.evOp, Go.Sx.opd, Sx.get, Go.Sx.putD, Sx.keep, Go.Sx.binL, Go.Sx.isSh, binI_add, binI_sub, binI_mul, binI_eql, binI_neq, binI_lss, binI_leq, binI_gtr, binI_geq, Go.Sx.leI_eq, Go.Sx.eqL, unL_not, unL_neg, Go.Sx.resVs, Go.Sx.resV, Go.Sx.oneL, Go.Sx.finish, Go.Sx.frz, Go.Sx.frz.go, Go.Sx.frzL, Go.Sx.frzL.go, Go.Sx.ids, Go.Sx.ids.idsL, Go.Sx.updIds, Go.Sx.reach, Go.Sx.ren, Go.Sx.ren.go, Go.Sx.renU, Go.Sx.renN, Go.Sx.renO, Go.Sx.renId, List.idxOf?_cons, Go.Sx.fillP, Go.Sx.mkAgg, Go.Sx.allP, Go.Sx.LV.cells, Go.Sx.Obj.cells, Go.Sx.splice, Go.Sx.rd, Go.Sx.push, Go.Sx.findU, Go.Sx.setObj, Go.Sx.setU, Go.Sx.setAll, Go.Sx.callO, Go.Sx.slCells, Go.Sx.sliceO, Go.Sx.appO, Value.oneCell', Go.Sx.mmL, Go.Sx.mm2, Go.Sx.gslot, Go.Sx.IROp.slots, Go.Sx.Opd.slots, Go.Sx.indepD, Go.Sx.quickD, Go.Sx.indepR, Go.Sx.pairsD, Go.Sx.apartD, Nat.testBit, Go.Sx.Obj.ids, Go.Sx.natL, Go.Sx.optMap, Go.Sx.LV.undef, Go.undef, ltF, h8, hw, hlt, bytP_map, hb, wrap_byte, xor_u32, hs, crcB]
theorem sumSl_all {n : Nat} (hn : 9 ≤ n) {h : Hp} {l : List UInt8} (fl : Bool) (h62 : l.length < 2 ^ 62) : ∀ (k m j : Nat) (r : BitVec 32), j + k = l.length → k < m →
    iter (runCS c n ir41_1) m ⟨[(3, .int .u32 (nv r)), (6, .p (.sl (bytP l) l.length 1 fl)), (7, .int .i64 l.length), (8, .int .i64 j)], h⟩ =
      some (.exit 0, ⟨[(3, .int .u32 (nv (crcL r (l.drop j)))), (6, .p (.sl (bytP l) l.length 1 fl)), (7, .int .i64 l.length), (8, .int .i64 l.length), (9, .bool false)], h⟩) := by
  intro k
  induction k with
  | zero =>
    intro m j r hj hm
    obtain ⟨m, rfl⟩ : ∃ q, m = q + 1 := ⟨m - 1, by omega⟩
    obtain rfl : j = l.length := by omega
    rw [List.drop_length]
    exact iter_out (sumOut_out _ _ r) (by simp)
  | succ k ih =>
    intro m j r hj hm
    obtain ⟨m, rfl⟩ : ∃ q, m = q + 1 := ⟨m - 1, by omega⟩
    have hlt : j < l.length := by omega
    rw [iter_step (sumSl_step hn fl j l[j] (List.getElem?_eq_getElem hlt) h62 r), ih m (j + 1) _ (by omega) (by omega), List.drop_eq_getElem_cons hlt]
    rfl
end sum
theorem sum_sl (l : List UInt8) (h62 : l.length < 2 ^ 62) (fl : Bool) (H : Heap) (nx : Nat) :
    Ω 41 [.p (.sl (bytP l) l.length 1 fl)] H nx = some (.int .u32 (nv (crc l)), [], []) := by
  refine om_run (ir := ir41) rfl (l.length + 9) ?_
  have hs := sumSl_all (c := ⟨Ω, noG, H, nx⟩) (n := l.length + 9) (h := ⟨[], []⟩) (by omega) fl h62 l.length (l.length + 9) 0 4294967295#32 (by omega) (by omega)
  have h1 : nv 4294967295#32 = 4294967295 := rfl
  rw [List.drop_zero, h1] at hs
  simp only [Int.natCast_zero, Int.ofNat_zero] at hs
  simp [ir41, Go.Sx.runF_S, runCS_skip, runCS_reg, runCS_draw, runCS_seq, runCS_cond, runCS_block, runCS_loop, runCS_exit, runCS_ret, runOpsS_nil, runOpsS_cons, runOpsTS_nil, runOpsTS_cons, Go.Sx.wants, Go.Sx.evOp, Go.Sx.opd, Sx.get, Go.Sx.putD, Sx.keep, Go.Sx.binL, Go.Sx.isSh, binI_add, binI_sub, binI_mul, binI_eql, binI_neq, binI_lss, binI_leq, binI_gtr, binI_geq, Go.Sx.leI_eq, Go.Sx.eqL, unL_not, unL_neg, Go.Sx.resVs, Go.Sx.resV, Go.Sx.oneL, Go.Sx.finish, Go.Sx.frz, Go.Sx.frz.go, Go.Sx.frzL, Go.Sx.frzL.go, Go.Sx.ids, Go.Sx.ids.idsL, Go.Sx.updIds, Go.Sx.reach, Go.Sx.ren, Go.Sx.ren.go, Go.Sx.renU, Go.Sx.renN, Go.Sx.renO, Go.Sx.renId, List.idxOf?_cons, Go.Sx.fillP, Go.Sx.mkAgg, Go.Sx.allP, Go.Sx.LV.cells, Go.Sx.Obj.cells, Go.Sx.splice, Go.Sx.rd, Go.Sx.push, Go.Sx.findU, Go.Sx.setObj, Go.Sx.setU, Go.Sx.setAll, Go.Sx.callO, Go.Sx.slCells, Go.Sx.sliceO, Go.Sx.appO, Value.oneCell', Go.Sx.mmL, Go.Sx.mm2, Go.Sx.gslot, Go.Sx.IROp.slots, Go.Sx.Opd.slots, Go.Sx.indepD, Go.Sx.quickD, Go.Sx.indepR, Go.Sx.pairsD, Go.Sx.apartD, Nat.testBit, Go.Sx.Obj.ids, Go.Sx.natL, Go.Sx.optMap, Go.Sx.LV.undef, Go.undef, ltF, hs, not_u32, crc]

theorem bytP_take (n : Nat) (l : List UInt8) : List.take n (bytP l) = bytP (l.take n) := by simp [bytP]
theorem clone_sl' (l : List UInt8) (n : Nat) (hn : l.length = n) (fl : Bool) (h30 : n < 2 ^ 31) (H : Heap) (nx : Nat) : Ω 25 [.p (.sl (bytP l) n 1 fl)] H nx =
    some (.arr nx 0 n 1 n l.isEmpty, [], [some (.cells (byt l))]) := by
  subst hn
  exact clone_sl l fl h30 H nx

section open'
variable (a b c d s0 s1 s2 s3 : UInt8) (q : List UInt8) (fl : Bool) (H : Heap) (nx : Nat)
/-- Bytes that begin with eight. -/
abbrev eight : List PV := .s (.int .u8 a.toNat) :: .s (.int .u8 b.toNat) :: .s (.int .u8 c.toNat) :: .s (.int .u8 d.toNat) :: .s (.int .u8 s0.toNat) :: .s (.int .u8 s1.toNat) :: .s (.int .u8 s2.toNat) :: .s (.int .u8 s3.toNat) :: bytP q

theorem open_long (h : 2 ^ 20 < (un4 a b c d).toNat) : Ω 27 [.p (.sl (eight a b c d s0 s1 s2 s3 q) (q.length + 8) 1 fl)] H nx =
    some (.tuple [.p (.s (.slice none 0 0)), .int .i64 0, .int .i64 9], [], []) := by
  refine om_run (ir := ir27) rfl 0 ?_
  have h1 : ¬ nv (un4 a b c d) ≤ 1048576 := by rw [nv]; omega
  have h8 : (8 : Int) ≤ (q.length : Int) + 8 := by omega
  simp [ir27, Go.Sx.runF_S, runCS_skip, runCS_reg, runCS_draw, runCS_seq, runCS_cond, runCS_block, runCS_loop, runCS_exit, runCS_ret, runOpsS_nil, runOpsS_cons, runOpsTS_nil, runOpsTS_cons, Go.Sx.wants, Go.Sx.evOp, Go.Sx.opd, Sx.get, Go.Sx.putD, Sx.keep, Go.Sx.binL, Go.Sx.isSh, binI_add, binI_sub, binI_mul, binI_eql, binI_neq, binI_lss, binI_leq, binI_gtr, binI_geq, Go.Sx.leI_eq, Go.Sx.eqL, unL_not, unL_neg, Go.Sx.resVs, Go.Sx.resV, Go.Sx.oneL, Go.Sx.finish, Go.Sx.frz, Go.Sx.frz.go, Go.Sx.frzL, Go.Sx.frzL.go, Go.Sx.ids, Go.Sx.ids.idsL, Go.Sx.updIds, Go.Sx.reach, Go.Sx.ren, Go.Sx.ren.go, Go.Sx.renU, Go.Sx.renN, Go.Sx.renO, Go.Sx.renId, List.idxOf?_cons, Go.Sx.fillP, Go.Sx.mkAgg, Go.Sx.allP, Go.Sx.LV.cells, Go.Sx.Obj.cells, Go.Sx.splice, Go.Sx.rd, Go.Sx.push, Go.Sx.look, Go.Sx.findU, Go.Sx.setObj, Go.Sx.setU, Go.Sx.setAll, Go.Sx.callO, Go.Sx.slCells, Go.Sx.sliceO, Go.Sx.appO, Value.oneCell', Go.Sx.mmL, Go.Sx.mm2, Go.Sx.gslot, Go.Sx.IROp.slots, Go.Sx.Opd.slots, Go.Sx.indepD, Go.Sx.quickD, Go.Sx.indepR, Go.Sx.pairsD, Go.Sx.apartD, Nat.testBit, Go.Sx.Obj.ids, Go.Sx.natL, Go.Sx.optMap, Go.Sx.LV.undef, Go.undef, ltF, take_, h1, h8]

theorem open_short (h : (un4 a b c d).toNat ≤ 2 ^ 20) (hs : q.length < (un4 a b c d).toNat) : Ω 27 [.p (.sl (eight a b c d s0 s1 s2 s3 q) (q.length + 8) 1 fl)] H nx =
    some (.tuple [.p (.s (.slice none 0 0)), .int .i64 0, .int .i64 6], [], []) := by
  refine om_run (ir := ir27) rfl 0 ?_
  have h1 : nv (un4 a b c d) ≤ 1048576 := by rw [nv]; omega
  have h8 : (8 : Int) ≤ (q.length : Int) + 8 := by omega
  have hw : IntKind.i64.wrap (nv (un4 a b c d)) = ((un4 a b c d).toNat : Int) := wrap_i64 _ (by rw [nv]; omega) (by rw [nv]; omega)
  have hq : IntKind.i64.wrap ((q.length : Int)) = q.length := wrap_i64 _ (by omega) (by omega)
  have h2 : ¬ (((un4 a b c d).toNat : Int) ≤ q.length) := by omega
  simp [ir27, Go.Sx.runF_S, runCS_skip, runCS_reg, runCS_draw, runCS_seq, runCS_cond, runCS_block, runCS_loop, runCS_exit, runCS_ret, runOpsS_nil, runOpsS_cons, runOpsTS_nil, runOpsTS_cons, Go.Sx.wants, Go.Sx.evOp, Go.Sx.opd, Sx.get, Go.Sx.putD, Sx.keep, Go.Sx.binL, Go.Sx.isSh, binI_add, binI_sub, binI_mul, binI_eql, binI_neq, binI_lss, binI_leq, binI_gtr, binI_geq, Go.Sx.leI_eq, Go.Sx.eqL, unL_not, unL_neg, Go.Sx.resVs, Go.Sx.resV, Go.Sx.oneL, Go.Sx.finish, Go.Sx.frz, Go.Sx.frz.go, Go.Sx.frzL, Go.Sx.frzL.go, Go.Sx.ids, Go.Sx.ids.idsL, Go.Sx.updIds, Go.Sx.reach, Go.Sx.ren, Go.Sx.ren.go, Go.Sx.renU, Go.Sx.renN, Go.Sx.renO, Go.Sx.renId, List.idxOf?_cons, Go.Sx.fillP, Go.Sx.mkAgg, Go.Sx.allP, Go.Sx.LV.cells, Go.Sx.Obj.cells, Go.Sx.splice, Go.Sx.rd, Go.Sx.push, Go.Sx.look, Go.Sx.findU, Go.Sx.setObj, Go.Sx.setU, Go.Sx.setAll, Go.Sx.callO, Go.Sx.slCells, Go.Sx.sliceO, Go.Sx.appO, Value.oneCell', Go.Sx.mmL, Go.Sx.mm2, Go.Sx.gslot, Go.Sx.IROp.slots, Go.Sx.Opd.slots, Go.Sx.indepD, Go.Sx.quickD, Go.Sx.indepR, Go.Sx.pairsD, Go.Sx.apartD, Nat.testBit, Go.Sx.Obj.ids, Go.Sx.natL, Go.Sx.optMap, Go.Sx.LV.undef, Go.undef, ltF, take_, h1, h8, hw, hq, h2]

theorem sum_4 (l : List UInt8) (n : Nat) (hn : l.length = n) (h30 : n < 2 ^ 31) (id cp : Nat) (ex : Bool) (H : Heap) (nx : Nat)
    (h1 : H id = some (.cells (.int .u8 a.toNat :: .int .u8 b.toNat :: .int .u8 c.toNat :: .int .u8 d.toNat :: byt l))) (h2 : id < nx) :
    Ω 41 [.arr id 0 (4 + n) 1 cp ex] H nx = some (.int .u32 (nv (crc (a :: b :: c :: d :: l))), [], []) := by
  have := sum_ (a :: b :: c :: d :: l) (by simp; omega) id cp ex H nx h1 h2
  have e : (a :: b :: c :: d :: l).length = 4 + n := by simp; omega
  rwa [e] at this

theorem open_ok (hq : q.length < 2 ^ 30) (h : (un4 a b c d).toNat ≤ 2 ^ 20) (hs : (un4 a b c d).toNat ≤ q.length) (hsum : un4 s0 s1 s2 s3 = crc (a :: b :: c :: d :: q.take (un4 a b c d).toNat)) :
    Ω 27 [.p (.sl (eight a b c d s0 s1 s2 s3 q) (q.length + 8) 1 fl)] H nx =
    some (.tuple [.p (.sl (bytP (q.take (un4 a b c d).toNat)) (un4 a b c d).toNat 1 (q.take (un4 a b c d).toNat).isEmpty), .int .i64 (8 + (un4 a b c d).toNat : Nat), .int .i64 0], [], []) := by
  refine om_run (ir := ir27) rfl 0 ?_
  have h1 : nv (un4 a b c d) ≤ 1048576 := by rw [nv]; omega
  have h8 : (8 : Int) ≤ (q.length : Int) + 8 := by omega
  have hw : IntKind.i64.wrap (nv (un4 a b c d)) = ((un4 a b c d).toNat : Int) := wrap_i64 _ (by rw [nv]; omega) (by rw [nv]; omega)
  have hw8 : IntKind.i64.wrap (8 + ((un4 a b c d).toNat : Int)) = 8 + ((un4 a b c d).toNat : Int) := wrap_i64 _ (by omega) (by omega)
  have hwq : IntKind.i64.wrap ((q.length : Int)) = q.length := wrap_i64 _ (by omega) (by omega)
  have h2 : ((un4 a b c d).toNat : Int) ≤ q.length := by omega
  have ht := take_ a b c d
  have ht4 := take_ s0 s1 s2 s3
  have hlen : (q.take (un4 a b c d).toNat).length = (un4 a b c d).toNat := by simp; omega
  have hcl := fun fl H nx => clone_sl' (q.take (un4 a b c d).toNat) (un4 a b c d).toNat hlen fl (by omega) H nx
  have hs4 := fun id cp ex H nx => sum_4 a b c d (q.take (un4 a b c d).toNat) (un4 a b c d).toNat hlen (by omega) id cp ex H nx
  have hge : (0 : Int) ≤ 8 + ((un4 a b c d).toNat : Int) := by omega
  have ht8 : (8 + ((un4 a b c d).toNat : Int)).toNat = 8 + (un4 a b c d).toNat := by omega
  have hle : 8 + (un4 a b c d).toNat ≤ q.length + 8 := by omega
  generalize hU : un4 a b c d = U at *
  generalize hR : q.take U.toNat = R at *
  by_cases h0 : U.toNat = 0
  · have hR0 : R = [] := by cases R <;> simp_all
    have hs0 := fun fl H nx => sum_sl [a, b, c, d] (by simp) fl H nx
    simp only [bytP, List.map, List.length_cons, List.length_nil, Nat.zero_add] at hs0
    rw [hR0, h0] at hcl
    rw [hR0] at hsum hR
    rw [h0] at hR
    have hbp : bytP [] = [] := rfl
    simp only [byt_nil, hbp, List.isEmpty_nil] at hcl
    simp [ir27, Go.Sx.runF_S, runCS_skip, runCS_reg, runCS_draw, runCS_seq, runCS_cond, runCS_block, runCS_loop, runCS_exit, runCS_ret, runOpsS_nil, runOpsS_cons, runOpsTS_nil, runOpsTS_cons, Go.Sx.wants, Go.Sx.evOp, Go.Sx.opd, Sx.get, Go.Sx.putD, Sx.keep, Go.Sx.binL, Go.Sx.isSh, binI_add, binI_sub, binI_mul, binI_eql, binI_neq, binI_lss, binI_leq, binI_gtr, binI_geq, Go.Sx.leI_eq, Go.Sx.eqL, unL_not, unL_neg, Go.Sx.resVs, Go.Sx.resV, Go.Sx.oneL, Go.Sx.finish, Go.Sx.frz, Go.Sx.frz.go, Go.Sx.frzL, Go.Sx.frzL.go, Go.Sx.ids, Go.Sx.ids.idsL, Go.Sx.updIds, Go.Sx.reach, Go.Sx.ren, Go.Sx.ren.go, Go.Sx.renU, Go.Sx.renN, Go.Sx.renO, Go.Sx.renId, List.idxOf?_cons, Go.Sx.fillP, Go.Sx.mkAgg, Go.Sx.allP, Go.Sx.LV.cells, Go.Sx.Obj.cells, Go.Sx.splice, Go.Sx.rd, Go.Sx.push, Go.Sx.look, Go.Sx.findU, Go.Sx.setObj, Go.Sx.setU, Go.Sx.setAll, Go.Sx.callO, Go.Sx.slCells, Go.Sx.sliceO, Go.Sx.appO, Value.oneCell', Go.Sx.mmL, Go.Sx.mm2, Go.Sx.gslot, Go.Sx.IROp.slots, Go.Sx.Opd.slots, Go.Sx.indepD, Go.Sx.quickD, Go.Sx.indepR, Go.Sx.pairsD, Go.Sx.apartD, Nat.testBit, Go.Sx.Obj.ids, Go.Sx.natL, Go.Sx.optMap, Go.Sx.LV.undef, Go.undef, ltF, ht, ht4, h1, h8, hw, hwq, h2, hw8, hge, ht8, hle, bytP_take, hR, hcl, byt_len, bytP_len, take_byt, ids_byt, ren_byt, ids_app, ren_app, allP_byt, allP_app, h0, hsum, hs0, hR0, wrap_i64, hbp]
  · have hR0 : R.isEmpty = false := by
      cases R with
      | nil => simp at hlen; omega
      | cons x l => rfl
    have h41 : 4 + U.toNat ≤ 1099511627776 := by omega
    have htk : List.take U.toNat (byt R) = byt R := by rw [← hlen]; exact take_byt R
    simp [ir27, Go.Sx.runF_S, runCS_skip, runCS_reg, runCS_draw, runCS_seq, runCS_cond, runCS_block, runCS_loop, runCS_exit, runCS_ret, runOpsS_nil, runOpsS_cons, runOpsTS_nil, runOpsTS_cons, Go.Sx.wants, Go.Sx.evOp, Go.Sx.opd, Sx.get, Go.Sx.putD, Sx.keep, Go.Sx.binL, Go.Sx.isSh, binI_add, binI_sub, binI_mul, binI_eql, binI_neq, binI_lss, binI_leq, binI_gtr, binI_geq, Go.Sx.leI_eq, Go.Sx.eqL, unL_not, unL_neg, Go.Sx.resVs, Go.Sx.resV, Go.Sx.oneL, Go.Sx.finish, Go.Sx.frz, Go.Sx.frz.go, Go.Sx.frzL, Go.Sx.frzL.go, Go.Sx.ids, Go.Sx.ids.idsL, Go.Sx.updIds, Go.Sx.reach, Go.Sx.ren, Go.Sx.ren.go, Go.Sx.renU, Go.Sx.renN, Go.Sx.renO, Go.Sx.renId, List.idxOf?_cons, Go.Sx.fillP, Go.Sx.mkAgg, Go.Sx.allP, Go.Sx.LV.cells, Go.Sx.Obj.cells, Go.Sx.splice, Go.Sx.rd, Go.Sx.push, Go.Sx.look, Go.Sx.findU, Go.Sx.setObj, Go.Sx.setU, Go.Sx.setAll, Go.Sx.callO, Go.Sx.slCells, Go.Sx.sliceO, Go.Sx.appO, Value.oneCell', Go.Sx.mmL, Go.Sx.mm2, Go.Sx.gslot, Go.Sx.IROp.slots, Go.Sx.Opd.slots, Go.Sx.indepD, Go.Sx.quickD, Go.Sx.indepR, Go.Sx.pairsD, Go.Sx.apartD, Nat.testBit, Go.Sx.Obj.ids, Go.Sx.natL, Go.Sx.optMap, Go.Sx.LV.undef, Go.undef, ltF, ht, ht4, h1, h8, hw, hwq, h2, hw8, hge, ht8, hle, bytP_take, hR, hcl, hs4, byt_len, bytP_len, take_byt, ids_byt, ren_byt, ids_app, ren_app, allP_byt, allP_app, hlen, h0, h41, hR0, hsum, htk]
theorem open_sum (hq : q.length < 2 ^ 30) (h : (un4 a b c d).toNat ≤ 2 ^ 20) (hs : (un4 a b c d).toNat ≤ q.length) (hsum : un4 s0 s1 s2 s3 ≠ crc (a :: b :: c :: d :: q.take (un4 a b c d).toNat)) :
    Ω 27 [.p (.sl (eight a b c d s0 s1 s2 s3 q) (q.length + 8) 1 fl)] H nx =
    some (.tuple [.p (.s (.slice none 0 0)), .int .i64 0, .int .i64 13], [], []) := by
  refine om_run (ir := ir27) rfl 0 ?_
  have h1 : nv (un4 a b c d) ≤ 1048576 := by rw [nv]; omega
  have h8 : (8 : Int) ≤ (q.length : Int) + 8 := by omega
  have hw : IntKind.i64.wrap (nv (un4 a b c d)) = ((un4 a b c d).toNat : Int) := wrap_i64 _ (by rw [nv]; omega) (by rw [nv]; omega)
  have hw8 : IntKind.i64.wrap (8 + ((un4 a b c d).toNat : Int)) = 8 + ((un4 a b c d).toNat : Int) := wrap_i64 _ (by omega) (by omega)
  have hwq : IntKind.i64.wrap ((q.length : Int)) = q.length := wrap_i64 _ (by omega) (by omega)
  have h2 : ((un4 a b c d).toNat : Int) ≤ q.length := by omega
  have ht := take_ a b c d
  have ht4 := take_ s0 s1 s2 s3
  have hlen : (q.take (un4 a b c d).toNat).length = (un4 a b c d).toNat := by simp; omega
  have hcl := fun fl H nx => clone_sl' (q.take (un4 a b c d).toNat) (un4 a b c d).toNat hlen fl (by omega) H nx
  have hs4 := fun id cp ex H nx => sum_4 a b c d (q.take (un4 a b c d).toNat) (un4 a b c d).toNat hlen (by omega) id cp ex H nx
  have hge : (0 : Int) ≤ 8 + ((un4 a b c d).toNat : Int) := by omega
  have ht8 : (8 + ((un4 a b c d).toNat : Int)).toNat = 8 + (un4 a b c d).toNat := by omega
  have hle : 8 + (un4 a b c d).toNat ≤ q.length + 8 := by omega
  have hne : (nv (un4 s0 s1 s2 s3) != nv (crc (a :: b :: c :: d :: q.take (un4 a b c d).toNat))) = true := by
    rw [bne_iff_ne]
    exact fun e => hsum (nv_inj.1 e)
  generalize hU : un4 a b c d = U at *
  generalize hR : q.take U.toNat = R at *
  by_cases h0 : U.toNat = 0
  · have hR0 : R = [] := by cases R <;> simp_all
    have hs0 := fun fl H nx => sum_sl [a, b, c, d] (by simp) fl H nx
    simp only [bytP, List.map, List.length_cons, List.length_nil, Nat.zero_add] at hs0
    rw [hR0, h0] at hcl
    rw [hR0] at hne hR
    rw [h0] at hR
    have hbp : bytP [] = [] := rfl
    simp only [byt_nil, hbp, List.isEmpty_nil] at hcl
    simp [ir27, Go.Sx.runF_S, runCS_skip, runCS_reg, runCS_draw, runCS_seq, runCS_cond, runCS_block, runCS_loop, runCS_exit, runCS_ret, runOpsS_nil, runOpsS_cons, runOpsTS_nil, runOpsTS_cons, Go.Sx.wants, Go.Sx.evOp, Go.Sx.opd, Sx.get, Go.Sx.putD, Sx.keep, Go.Sx.binL, Go.Sx.isSh, binI_add, binI_sub, binI_mul, binI_eql, binI_neq, binI_lss, binI_leq, binI_gtr, binI_geq, Go.Sx.leI_eq, Go.Sx.eqL, unL_not, unL_neg, Go.Sx.resVs, Go.Sx.resV, Go.Sx.oneL, Go.Sx.finish, Go.Sx.frz, Go.Sx.frz.go, Go.Sx.frzL, Go.Sx.frzL.go, Go.Sx.ids, Go.Sx.ids.idsL, Go.Sx.updIds, Go.Sx.reach, Go.Sx.ren, Go.Sx.ren.go, Go.Sx.renU, Go.Sx.renN, Go.Sx.renO, Go.Sx.renId, List.idxOf?_cons, Go.Sx.fillP, Go.Sx.mkAgg, Go.Sx.allP, Go.Sx.LV.cells, Go.Sx.Obj.cells, Go.Sx.splice, Go.Sx.rd, Go.Sx.push, Go.Sx.look, Go.Sx.findU, Go.Sx.setObj, Go.Sx.setU, Go.Sx.setAll, Go.Sx.callO, Go.Sx.slCells, Go.Sx.sliceO, Go.Sx.appO, Value.oneCell', Go.Sx.mmL, Go.Sx.mm2, Go.Sx.gslot, Go.Sx.IROp.slots, Go.Sx.Opd.slots, Go.Sx.indepD, Go.Sx.quickD, Go.Sx.indepR, Go.Sx.pairsD, Go.Sx.apartD, Nat.testBit, Go.Sx.Obj.ids, Go.Sx.natL, Go.Sx.optMap, Go.Sx.LV.undef, Go.undef, ltF, ht, ht4, h1, h8, hw, hwq, h2, hw8, hge, ht8, hle, bytP_take, hR, hcl, byt_len, bytP_len, take_byt, ids_byt, ren_byt, ids_app, ren_app, allP_byt, allP_app, h0, hne, hs0, hR0, wrap_i64, hbp]
  · have hR0 : R.isEmpty = false := by
      cases R with
      | nil => simp at hlen; omega
      | cons x l => rfl
    have h41 : 4 + U.toNat ≤ 1099511627776 := by omega
    have htk : List.take U.toNat (byt R) = byt R := by rw [← hlen]; exact take_byt R
    simp [ir27, Go.Sx.runF_S, runCS_skip, runCS_reg, runCS_draw, runCS_seq, runCS_cond, runCS_block, runCS_loop, runCS_exit, runCS_ret, runOpsS_nil, runOpsS_cons, runOpsTS_nil, runOpsTS_cons, Go.Sx.wants, Go.Sx.evOp, Go.Sx.opd, Sx.get, Go.Sx.putD, Sx.keep, Go.Sx.binL, Go.Sx.isSh, binI_add, binI_sub, binI_mul, binI_eql, binI_neq, binI_lss, binI_leq, binI_gtr, binI_geq, Go.Sx.leI_eq, Go.Sx.eqL, unL_not, unL_neg, Go.Sx.resVs, Go.Sx.resV, Go.Sx.oneL, Go.Sx.finish, Go.Sx.frz, Go.Sx.frz.go, Go.Sx.frzL, Go.Sx.frzL.go, Go.Sx.ids, Go.Sx.ids.idsL, Go.Sx.updIds, Go.Sx.reach, Go.Sx.ren, Go.Sx.ren.go, Go.Sx.renU, Go.Sx.renN, Go.Sx.renO, Go.Sx.renId, List.idxOf?_cons, Go.Sx.fillP, Go.Sx.mkAgg, Go.Sx.allP, Go.Sx.LV.cells, Go.Sx.Obj.cells, Go.Sx.splice, Go.Sx.rd, Go.Sx.push, Go.Sx.look, Go.Sx.findU, Go.Sx.setObj, Go.Sx.setU, Go.Sx.setAll, Go.Sx.callO, Go.Sx.slCells, Go.Sx.sliceO, Go.Sx.appO, Value.oneCell', Go.Sx.mmL, Go.Sx.mm2, Go.Sx.gslot, Go.Sx.IROp.slots, Go.Sx.Opd.slots, Go.Sx.indepD, Go.Sx.quickD, Go.Sx.indepR, Go.Sx.pairsD, Go.Sx.apartD, Nat.testBit, Go.Sx.Obj.ids, Go.Sx.natL, Go.Sx.optMap, Go.Sx.LV.undef, Go.undef, ltF, ht, ht4, h1, h8, hw, hwq, h2, hw8, hge, ht8, hle, bytP_take, hR, hcl, hs4, byt_len, bytP_len, take_byt, ids_byt, ren_byt, ids_app, ren_app, allP_byt, allP_app, hlen, h0, h41, hR0, hne, htk]
end open'
end Go.Proofs.YtkdimbcfacoboaaGreatDoor

