/- Specifications: the frame in front of bytes that may still be written. -/
import Derived.Test.YtkdimbcfacoboaaGreatDoorNe
namespace Go.Proofs.YtkdimbcfacoboaaGreatDoor
open Go Go.Sx
set_option linter.unusedSimpArgs false
set_option linter.unusedVariables false

section sum
variable {c : Ctx}
theorem sumG_step {n : Nat} (hn : 9 ≤ n) {h : Hp} {l r : List UInt8} {id : Nat} (hl : Go.Sx.look c.H c.nx h id = some (.cells (byt (l ++ r)))) (cp : Nat) (ex : Bool) (j : Nat) (b : UInt8) (hj : l[j]? = some b) (h62 : l.length < 2 ^ 62) (s : BitVec 32) :
    runCS c n ir41_1 ⟨[(3, .int .u32 (nv s)), (6, .arr id 0 l.length 1 cp ex), (7, .int .i64 l.length), (8, .int .i64 j)], h⟩ =
      some (.normal, ⟨[(3, .int .u32 (nv (crcB s b))), (6, .arr id 0 l.length 1 cp ex), (7, .int .i64 l.length), (8, .int .i64 (j + 1 : Nat))], h⟩) := by
  obtain ⟨hlt, hv⟩ := List.getElem?_eq_some_iff.1 hj
  have h8 : ¬ (l.length : Int) ≤ j := by omega
  have hw : IntKind.i64.wrap ((j : Int) + 1) = (j : Int) + 1 := wrap_i64 _ (by omega) (by omega)
  have hb : (byt (l ++ r))[j]? = some (.int .u8 b.toNat) := by
    simp only [byt, List.getElem?_map]
    rw [List.getElem?_append_left hlt, hj]
    rfl
  have hs := sumIn_all c h n (.arr id 0 l.length 1 cp ex) (.int .i64 l.length) (.int .i64 j) 8 n 0 (s ^^^ wide b) rfl (by omega)
  simp only [Int.natCast_zero, Int.ofNat_zero] at hs
  simp [ir41_1, Go.Sx.runF_S, runCS_skip, runCS_reg, runCS_draw, runCS_seq, runCS_cond, runCS_block, runCS_loop, runCS_exit, runCS_ret, runOpsS_nil, runOpsS_cons, runOpsTS_nil, runOpsTS_cons, Go.Sx.wants, Go.Sx.evOp, Go.Sx.opd, Sx.get, Go.Sx.putD, Sx.keep, Go.Sx.binL, Go.Sx.isSh, binI_add, binI_sub, binI_mul, binI_eql, binI_neq, binI_lss, binI_leq, binI_gtr, binI_geq, Go.Sx.leI_eq, Go.Sx.eqL, unL_not, unL_neg, Go.Sx.resVs, Go.Sx.resV, Go.Sx.oneL, Go.Sx.finish, Go.Sx.frz, Go.Sx.frz.go, Go.Sx.frzL, Go.Sx.frzL.go, Go.Sx.ids, Go.Sx.ids.idsL, Go.Sx.updIds, Go.Sx.reach, Go.Sx.ren, Go.Sx.ren.go, Go.Sx.renU, Go.Sx.renN, Go.Sx.renO, Go.Sx.renId, List.idxOf?_cons, Go.Sx.fillP, Go.Sx.mkAgg, Go.Sx.allP, Go.Sx.LV.cells, Go.Sx.Obj.cells, Go.Sx.splice, Go.Sx.rd, Go.Sx.push, Go.Sx.findU, Go.Sx.setObj, Go.Sx.setU, Go.Sx.setAll, Go.Sx.callO, Go.Sx.slCells, Go.Sx.sliceO, Go.Sx.appO, Value.oneCell', Go.Sx.mmL, Go.Sx.mm2, Go.Sx.gslot, Go.Sx.IROp.slots, Go.Sx.Opd.slots, Go.Sx.indepD, Go.Sx.quickD, Go.Sx.indepR, Go.Sx.pairsD, Go.Sx.apartD, Nat.testBit, Go.Sx.Obj.ids, Go.Sx.natL, Go.Sx.optMap, Go.Sx.LV.undef, Go.undef, ltF, h8, hw, hlt, hb, hl, wrap_byte, xor_u32, hs, crcB]
theorem sumG_all {n : Nat} (hn : 9 ≤ n) {h : Hp} {l r : List UInt8} {id : Nat} (hl : Go.Sx.look c.H c.nx h id = some (.cells (byt (l ++ r)))) (cp : Nat) (ex : Bool) (h62 : l.length < 2 ^ 62) : ∀ (k m j : Nat) (s : BitVec 32), j + k = l.length → k < m →
    iter (runCS c n ir41_1) m ⟨[(3, .int .u32 (nv s)), (6, .arr id 0 l.length 1 cp ex), (7, .int .i64 l.length), (8, .int .i64 j)], h⟩ =
      some (.exit 0, ⟨[(3, .int .u32 (nv (crcL s (l.drop j)))), (6, .arr id 0 l.length 1 cp ex), (7, .int .i64 l.length), (8, .int .i64 l.length), (9, .bool false)], h⟩) := by
  intro k
  induction k with
  | zero =>
    intro m j s hj hm
    obtain ⟨m, rfl⟩ : ∃ q, m = q + 1 := ⟨m - 1, by omega⟩
    obtain rfl : j = l.length := by omega
    rw [List.drop_length]
    exact iter_out (sumOut_out _ _ s) (by simp)
  | succ k ih =>
    intro m j s hj hm
    obtain ⟨m, rfl⟩ : ∃ q, m = q + 1 := ⟨m - 1, by omega⟩
    have hlt : j < l.length := by omega
    rw [iter_step (sumG_step hn hl cp ex j l[j] (List.getElem?_eq_getElem hlt) h62 s), ih m (j + 1) _ (by omega) (by omega), List.drop_eq_getElem_cons hlt]
    rfl
end sum
theorem sum_g (l r : List UInt8) (h62 : l.length < 2 ^ 62) (id cp : Nat) (ex : Bool) (H : Heap) (nx : Nat) (hl : H id = some (.cells (byt (l ++ r)))) (hid : id < nx) :
    Ω 41 [.arr id 0 l.length 1 cp ex] H nx = some (.int .u32 (nv (crc l)), [], []) := by
  refine om_run (ir := ir41) rfl (l.length + 9) ?_
  have hlk : Go.Sx.look H nx ⟨[], []⟩ id = some (.cells (byt (l ++ r))) := by simp [Go.Sx.look, findU, hid, hl]
  have hs := sumG_all (c := ⟨Ω, noG, H, nx⟩) (n := l.length + 9) (by omega) hlk cp ex h62 l.length (l.length + 9) 0 4294967295#32 (by omega) (by omega)
  have h1 : nv 4294967295#32 = 4294967295 := rfl
  rw [List.drop_zero, h1] at hs
  simp only [Int.natCast_zero, Int.ofNat_zero] at hs
  simp [ir41, Go.Sx.runF_S, runCS_skip, runCS_reg, runCS_draw, runCS_seq, runCS_cond, runCS_block, runCS_loop, runCS_exit, runCS_ret, runOpsS_nil, runOpsS_cons, runOpsTS_nil, runOpsTS_cons, Go.Sx.wants, Go.Sx.evOp, Go.Sx.opd, Sx.get, Go.Sx.putD, Sx.keep, Go.Sx.binL, Go.Sx.isSh, binI_add, binI_sub, binI_mul, binI_eql, binI_neq, binI_lss, binI_leq, binI_gtr, binI_geq, Go.Sx.leI_eq, Go.Sx.eqL, unL_not, unL_neg, Go.Sx.resVs, Go.Sx.resV, Go.Sx.oneL, Go.Sx.finish, Go.Sx.frz, Go.Sx.frz.go, Go.Sx.frzL, Go.Sx.frzL.go, Go.Sx.ids, Go.Sx.ids.idsL, Go.Sx.updIds, Go.Sx.reach, Go.Sx.ren, Go.Sx.ren.go, Go.Sx.renU, Go.Sx.renN, Go.Sx.renO, Go.Sx.renId, List.idxOf?_cons, Go.Sx.fillP, Go.Sx.mkAgg, Go.Sx.allP, Go.Sx.LV.cells, Go.Sx.Obj.cells, Go.Sx.splice, Go.Sx.rd, Go.Sx.push, Go.Sx.findU, Go.Sx.setObj, Go.Sx.setU, Go.Sx.setAll, Go.Sx.callO, Go.Sx.slCells, Go.Sx.sliceO, Go.Sx.appO, Value.oneCell', Go.Sx.mmL, Go.Sx.mm2, Go.Sx.gslot, Go.Sx.IROp.slots, Go.Sx.Opd.slots, Go.Sx.indepD, Go.Sx.quickD, Go.Sx.indepR, Go.Sx.pairsD, Go.Sx.apartD, Nat.testBit, Go.Sx.Obj.ids, Go.Sx.natL, Go.Sx.optMap, Go.Sx.LV.undef, Go.undef, ltF, hs, not_u32, crc]

theorem clone_off (pre l post : List UInt8) (id cp : Nat) (ex : Bool) (h30 : l.length < 2 ^ 31) (H : Heap) (nx : Nat) (hl : H id = some (.cells (byt (pre ++ (l ++ post))))) (hid : id < nx) : Ω 25 [.arr id pre.length l.length 1 cp ex] H nx =
    some (.arr nx 0 l.length 1 l.length l.isEmpty, [], [some (.cells (byt l))]) := by
  refine om_run (ir := ir25) rfl 0 ?_
  have h41 : l.length ≤ 1099511627776 := by omega
  have h42 : ¬ 1099511627776 < l.length := by omega
  have hle : pre.length + l.length ≤ (byt (pre ++ (l ++ post))).length := by simp [byt_len]
  have htk : List.take l.length (List.drop pre.length (byt (pre ++ (l ++ post)))) = byt l := by
    rw [byt_app, List.drop_left' (byt_len pre), byt_app, List.take_left' (byt_len l)]
  generalize byt (pre ++ (l ++ post)) = Q at *
  cases l with
  | nil =>
    simp only [List.length_nil, Nat.add_zero, List.take_zero] at hle htk ⊢
    simp [ir25, Go.Sx.runF_S, runCS_skip, runCS_reg, runCS_draw, runCS_seq, runCS_cond, runCS_block, runCS_loop, runCS_exit, runCS_ret, runOpsS_nil, runOpsS_cons, runOpsTS_nil, runOpsTS_cons, Go.Sx.wants, Go.Sx.evOp, Go.Sx.opd, Sx.get, Go.Sx.putD, Sx.keep, Go.Sx.binL, Go.Sx.isSh, binI_add, binI_sub, binI_mul, binI_eql, binI_neq, binI_lss, binI_leq, binI_gtr, binI_geq, Go.Sx.leI_eq, Go.Sx.eqL, unL_not, unL_neg, Go.Sx.resVs, Go.Sx.resV, Go.Sx.oneL, Go.Sx.finish, Go.Sx.frz, Go.Sx.frz.go, Go.Sx.frzL, Go.Sx.frzL.go, Go.Sx.ids, Go.Sx.ids.idsL, Go.Sx.updIds, Go.Sx.reach, Go.Sx.ren, Go.Sx.ren.go, Go.Sx.renU, Go.Sx.renN, Go.Sx.renO, Go.Sx.renId, List.idxOf?_cons, Go.Sx.fillP, Go.Sx.mkAgg, Go.Sx.allP, Go.Sx.LV.cells, Go.Sx.Obj.cells, Go.Sx.splice, Go.Sx.rd, Go.Sx.push, Go.Sx.look, Go.Sx.findU, Go.Sx.setObj, Go.Sx.setU, Go.Sx.setAll, Go.Sx.callO, Go.Sx.slCells, Go.Sx.sliceO, Go.Sx.appO, Value.oneCell', Go.Sx.mmL, Go.Sx.mm2, Go.Sx.gslot, Go.Sx.IROp.slots, Go.Sx.Opd.slots, Go.Sx.indepD, Go.Sx.quickD, Go.Sx.indepR, Go.Sx.pairsD, Go.Sx.apartD, Nat.testBit, Go.Sx.Obj.ids, Go.Sx.natL, Go.Sx.optMap, Go.Sx.LV.undef, Go.undef, ltF, hl, hid, hle, byt_nil]
  | cons b l =>
    have hp : ¬ (b :: l).length = 0 := by simp
    have he : (b :: l).isEmpty = false := rfl
    generalize b :: l = L at *
    simp [ir25, Go.Sx.runF_S, runCS_skip, runCS_reg, runCS_draw, runCS_seq, runCS_cond, runCS_block, runCS_loop, runCS_exit, runCS_ret, runOpsS_nil, runOpsS_cons, runOpsTS_nil, runOpsTS_cons, Go.Sx.wants, Go.Sx.evOp, Go.Sx.opd, Sx.get, Go.Sx.putD, Sx.keep, Go.Sx.binL, Go.Sx.isSh, binI_add, binI_sub, binI_mul, binI_eql, binI_neq, binI_lss, binI_leq, binI_gtr, binI_geq, Go.Sx.leI_eq, Go.Sx.eqL, unL_not, unL_neg, Go.Sx.resVs, Go.Sx.resV, Go.Sx.oneL, Go.Sx.finish, Go.Sx.frz, Go.Sx.frz.go, Go.Sx.frzL, Go.Sx.frzL.go, Go.Sx.ids, Go.Sx.ids.idsL, Go.Sx.updIds, Go.Sx.reach, Go.Sx.ren, Go.Sx.ren.go, Go.Sx.renU, Go.Sx.renN, Go.Sx.renO, Go.Sx.renId, List.idxOf?_cons, Go.Sx.fillP, Go.Sx.mkAgg, Go.Sx.allP, Go.Sx.LV.cells, Go.Sx.Obj.cells, Go.Sx.splice, Go.Sx.rd, Go.Sx.push, Go.Sx.look, Go.Sx.findU, Go.Sx.setObj, Go.Sx.setU, Go.Sx.setAll, Go.Sx.callO, Go.Sx.slCells, Go.Sx.sliceO, Go.Sx.appO, Value.oneCell', Go.Sx.mmL, Go.Sx.mm2, Go.Sx.gslot, Go.Sx.IROp.slots, Go.Sx.Opd.slots, Go.Sx.indepD, Go.Sx.quickD, Go.Sx.indepR, Go.Sx.pairsD, Go.Sx.apartD, Nat.testBit, Go.Sx.Obj.ids, Go.Sx.natL, Go.Sx.optMap, Go.Sx.LV.undef, Go.undef, ltF, hl, hid, hle, htk, byt_len, bytP_len, take_byt, ids_byt, ren_byt, ids_app, ren_app, allP_byt, allP_app, hp, he, h41, h42]

section take
variable (a b c d : UInt8) (pre : List UInt8) (post : List LV) (id off len cp : Nat) (ex : Bool) (H : Heap) (nx : Nat)
theorem take_arr (cs : List LV) (hl : H id = some (.cells cs)) (hid : id < nx) (h4 : 4 ≤ len) (g0 : cs[off]? = some (.int .u8 a.toNat)) (g1 : cs[off + 1]? = some (.int .u8 b.toNat)) (g2 : cs[off + 2]? = some (.int .u8 c.toNat)) (g3 : cs[off + 3]? = some (.int .u8 d.toNat)) :
    Ω 42 [.arr id off len 1 cp ex] H nx = some (.int .u32 (nv (un4 a b c d)), [], []) := by
  refine om_run (ir := ir42) rfl 6 ?_
  have h0 : 0 < len := by omega
  have h1 : 1 < len := by omega
  have h2 : 2 < len := by omega
  have h3 : 3 < len := by omega
  simp [ir42, ir42_0, Go.Sx.runF_S, runCS_skip, runCS_reg, runCS_draw, runCS_seq, runCS_cond, runCS_block, runCS_loop, runCS_exit, runCS_ret, runOpsS_nil, runOpsS_cons, runOpsTS_nil, runOpsTS_cons, Go.Sx.wants, Go.Sx.evOp, Go.Sx.opd, Sx.get, Go.Sx.putD, Sx.keep, Go.Sx.binL, Go.Sx.isSh, binI_add, binI_sub, binI_mul, binI_eql, binI_neq, binI_lss, binI_leq, binI_gtr, binI_geq, Go.Sx.leI_eq, Go.Sx.eqL, unL_not, unL_neg, Go.Sx.resVs, Go.Sx.resV, Go.Sx.oneL, Go.Sx.finish, Go.Sx.frz, Go.Sx.frz.go, Go.Sx.frzL, Go.Sx.frzL.go, Go.Sx.ids, Go.Sx.ids.idsL, Go.Sx.updIds, Go.Sx.reach, Go.Sx.ren, Go.Sx.ren.go, Go.Sx.renU, Go.Sx.renN, Go.Sx.renO, Go.Sx.renId, List.idxOf?_cons, Go.Sx.fillP, Go.Sx.mkAgg, Go.Sx.allP, Go.Sx.LV.cells, Go.Sx.Obj.cells, Go.Sx.splice, Go.Sx.rd, Go.Sx.push, Go.Sx.look, Go.Sx.findU, Go.Sx.setObj, Go.Sx.setU, Go.Sx.setAll, Go.Sx.callO, Go.Sx.slCells, Go.Sx.sliceO, Go.Sx.appO, Value.oneCell', Go.Sx.mmL, Go.Sx.mm2, Go.Sx.gslot, Go.Sx.IROp.slots, Go.Sx.Opd.slots, Go.Sx.indepD, Go.Sx.quickD, Go.Sx.indepR, Go.Sx.pairsD, Go.Sx.apartD, Nat.testBit, Go.Sx.Obj.ids, Go.Sx.natL, Go.Sx.optMap, Go.Sx.LV.undef, Go.undef, ltF, iter, wrap_i64, shl0, shl8, shl16, shl24, wrap_byte, or_zero, or_u32, un4, h0, h1, h2, h3, hl, hid, g0, g1, g2, g3]
end take

section open'
variable (a b c d s0 s1 s2 s3 : UInt8) (q : List UInt8) (id cp : Nat) (ex : Bool) (H : Heap) (nx : Nat)
/-- Cells that begin with eight bytes. -/
abbrev eightC : List LV := .int .u8 a.toNat :: .int .u8 b.toNat :: .int .u8 c.toNat :: .int .u8 d.toNat :: .int .u8 s0.toNat :: .int .u8 s1.toNat :: .int .u8 s2.toNat :: .int .u8 s3.toNat :: byt q

theorem openA_long (h : 2 ^ 20 < (un4 a b c d).toNat) (hl : H id = some (.cells (eightC a b c d s0 s1 s2 s3 q))) (hid : id < nx) : Ω 27 [.arr id 0 (q.length + 8) 1 cp ex] H nx =
    some (.tuple [.p (.s (.slice none 0 0)), .int .i64 0, .int .i64 9], [], []) := by
  refine om_run (ir := ir27) rfl 0 ?_
  have h1 : ¬ nv (un4 a b c d) ≤ 1048576 := by rw [nv]; omega
  have h8 : (8 : Int) ≤ (q.length : Int) + 8 := by omega
  have ht := fun H nx => take_arr a b c d id 0 (q.length + 8) cp ex H nx (eightC a b c d s0 s1 s2 s3 q)
  simp [ir27, Go.Sx.runF_S, runCS_skip, runCS_reg, runCS_draw, runCS_seq, runCS_cond, runCS_block, runCS_loop, runCS_exit, runCS_ret, runOpsS_nil, runOpsS_cons, runOpsTS_nil, runOpsTS_cons, Go.Sx.wants, Go.Sx.evOp, Go.Sx.opd, Sx.get, Go.Sx.putD, Sx.keep, Go.Sx.binL, Go.Sx.isSh, binI_add, binI_sub, binI_mul, binI_eql, binI_neq, binI_lss, binI_leq, binI_gtr, binI_geq, Go.Sx.leI_eq, Go.Sx.eqL, unL_not, unL_neg, Go.Sx.resVs, Go.Sx.resV, Go.Sx.oneL, Go.Sx.finish, Go.Sx.frz, Go.Sx.frz.go, Go.Sx.frzL, Go.Sx.frzL.go, Go.Sx.ids, Go.Sx.ids.idsL, Go.Sx.updIds, Go.Sx.reach, Go.Sx.ren, Go.Sx.ren.go, Go.Sx.renU, Go.Sx.renN, Go.Sx.renO, Go.Sx.renId, List.idxOf?_cons, Go.Sx.fillP, Go.Sx.mkAgg, Go.Sx.allP, Go.Sx.LV.cells, Go.Sx.Obj.cells, Go.Sx.splice, Go.Sx.rd, Go.Sx.push, Go.Sx.look, Go.Sx.findU, Go.Sx.setObj, Go.Sx.setU, Go.Sx.setAll, Go.Sx.callO, Go.Sx.slCells, Go.Sx.sliceO, Go.Sx.appO, Value.oneCell', Go.Sx.mmL, Go.Sx.mm2, Go.Sx.gslot, Go.Sx.IROp.slots, Go.Sx.Opd.slots, Go.Sx.indepD, Go.Sx.quickD, Go.Sx.indepR, Go.Sx.pairsD, Go.Sx.apartD, Nat.testBit, Go.Sx.Obj.ids, Go.Sx.natL, Go.Sx.optMap, Go.Sx.LV.undef, Go.undef, ltF, ht, h1, h8, hl, hid]

theorem openA_short (h : (un4 a b c d).toNat ≤ 2 ^ 20) (hs : q.length < (un4 a b c d).toNat) (hl : H id = some (.cells (eightC a b c d s0 s1 s2 s3 q))) (hid : id < nx) : Ω 27 [.arr id 0 (q.length + 8) 1 cp ex] H nx =
    some (.tuple [.p (.s (.slice none 0 0)), .int .i64 0, .int .i64 6], [], []) := by
  refine om_run (ir := ir27) rfl 0 ?_
  have h1 : nv (un4 a b c d) ≤ 1048576 := by rw [nv]; omega
  have h8 : (8 : Int) ≤ (q.length : Int) + 8 := by omega
  have hw : IntKind.i64.wrap (nv (un4 a b c d)) = ((un4 a b c d).toNat : Int) := wrap_i64 _ (by rw [nv]; omega) (by rw [nv]; omega)
  have hq : IntKind.i64.wrap ((q.length : Int)) = q.length := wrap_i64 _ (by omega) (by omega)
  have h2 : ¬ (((un4 a b c d).toNat : Int) ≤ q.length) := by omega
  have ht := fun H nx => take_arr a b c d id 0 (q.length + 8) cp ex H nx (eightC a b c d s0 s1 s2 s3 q)
  simp [ir27, Go.Sx.runF_S, runCS_skip, runCS_reg, runCS_draw, runCS_seq, runCS_cond, runCS_block, runCS_loop, runCS_exit, runCS_ret, runOpsS_nil, runOpsS_cons, runOpsTS_nil, runOpsTS_cons, Go.Sx.wants, Go.Sx.evOp, Go.Sx.opd, Sx.get, Go.Sx.putD, Sx.keep, Go.Sx.binL, Go.Sx.isSh, binI_add, binI_sub, binI_mul, binI_eql, binI_neq, binI_lss, binI_leq, binI_gtr, binI_geq, Go.Sx.leI_eq, Go.Sx.eqL, unL_not, unL_neg, Go.Sx.resVs, Go.Sx.resV, Go.Sx.oneL, Go.Sx.finish, Go.Sx.frz, Go.Sx.frz.go, Go.Sx.frzL, Go.Sx.frzL.go, Go.Sx.ids, Go.Sx.ids.idsL, Go.Sx.updIds, Go.Sx.reach, Go.Sx.ren, Go.Sx.ren.go, Go.Sx.renU, Go.Sx.renN, Go.Sx.renO, Go.Sx.renId, List.idxOf?_cons, Go.Sx.fillP, Go.Sx.mkAgg, Go.Sx.allP, Go.Sx.LV.cells, Go.Sx.Obj.cells, Go.Sx.splice, Go.Sx.rd, Go.Sx.push, Go.Sx.look, Go.Sx.findU, Go.Sx.setObj, Go.Sx.setU, Go.Sx.setAll, Go.Sx.callO, Go.Sx.slCells, Go.Sx.sliceO, Go.Sx.appO, Value.oneCell', Go.Sx.mmL, Go.Sx.mm2, Go.Sx.gslot, Go.Sx.IROp.slots, Go.Sx.Opd.slots, Go.Sx.indepD, Go.Sx.quickD, Go.Sx.indepR, Go.Sx.pairsD, Go.Sx.apartD, Nat.testBit, Go.Sx.Obj.ids, Go.Sx.natL, Go.Sx.optMap, Go.Sx.LV.undef, Go.undef, ltF, ht, h1, h8, hw, hq, h2, hl, hid]

theorem sum_4' (id cp : Nat) (ex : Bool) (H : Heap) (nx : Nat) (h1 : H id = some (.cells (eightC a b c d s0 s1 s2 s3 q))) (h2 : id < nx) :
    Ω 41 [.arr id 0 4 1 cp ex] H nx = some (.int .u32 (nv (crc [a, b, c, d])), [], []) :=
  sum_g [a, b, c, d] (s0 :: s1 :: s2 :: s3 :: q) (by simp) id cp ex H nx h1 h2

theorem openA (hq : q.length < 2 ^ 30) (h : (un4 a b c d).toNat ≤ 2 ^ 20) (hs : (un4 a b c d).toNat ≤ q.length) (hl : H id = some (.cells (eightC a b c d s0 s1 s2 s3 q))) (hid : id < nx) :
    Ω 27 [.arr id 0 (q.length + 8) 1 cp ex] H nx =
    if un4 s0 s1 s2 s3 = crc (a :: b :: c :: d :: q.take (un4 a b c d).toNat) then
      some (.tuple [.p (.sl (bytP (q.take (un4 a b c d).toNat)) (un4 a b c d).toNat 1 (q.take (un4 a b c d).toNat).isEmpty), .int .i64 (8 + (un4 a b c d).toNat : Nat), .int .i64 0], [], [])
    else some (.tuple [.p (.s (.slice none 0 0)), .int .i64 0, .int .i64 13], [], []) := by
  have h1 : nv (un4 a b c d) ≤ 1048576 := by rw [nv]; omega
  have h8 : (8 : Int) ≤ (q.length : Int) + 8 := by omega
  have hw : IntKind.i64.wrap (nv (un4 a b c d)) = ((un4 a b c d).toNat : Int) := wrap_i64 _ (by rw [nv]; omega) (by rw [nv]; omega)
  have hw8 : IntKind.i64.wrap (8 + ((un4 a b c d).toNat : Int)) = 8 + ((un4 a b c d).toNat : Int) := wrap_i64 _ (by omega) (by omega)
  have hwq : IntKind.i64.wrap ((q.length : Int)) = q.length := wrap_i64 _ (by omega) (by omega)
  have h2 : ((un4 a b c d).toNat : Int) ≤ q.length := by omega
  have ht := fun len cp ex H nx => take_arr a b c d id 0 len cp ex H nx (eightC a b c d s0 s1 s2 s3 q)
  have ht4 := fun len cp ex H nx => take_arr s0 s1 s2 s3 id 4 len cp ex H nx (eightC a b c d s0 s1 s2 s3 q)
  have hlen : (q.take (un4 a b c d).toNat).length = (un4 a b c d).toNat := by simp; omega
  have hcl := fun cp ex H nx => clone_off [a, b, c, d, s0, s1, s2, s3] (q.take (un4 a b c d).toNat) (q.drop (un4 a b c d).toNat) id cp ex (by omega) H nx
  simp only [List.take_append_drop, hlen] at hcl
  change ∀ (cp : Nat) (ex : Bool) (H : Heap) (nx : Nat), H id = some (Go.Sx.Obj.cells (eightC a b c d s0 s1 s2 s3 q)) → id < nx → Ω _ [LV.arr id 8 _ 1 cp ex] H nx = _ at hcl
  have hs4 := fun id cp ex H nx => sum_4 a b c d (q.take (un4 a b c d).toNat) (un4 a b c d).toNat hlen (by omega) id cp ex H nx
  have hs0 := fun cp ex H nx => sum_4' a b c d s0 s1 s2 s3 q id cp ex H nx
  have hge : (0 : Int) ≤ 8 + ((un4 a b c d).toNat : Int) := by omega
  have ht8 : (8 + ((un4 a b c d).toNat : Int)).toNat = 8 + (un4 a b c d).toNat := by omega
  have hle : 8 + (un4 a b c d).toNat ≤ q.length + 8 := by omega
  have hk : ∀ k, id < nx + k := fun k => by omega
  have hne : ∀ X Y : BitVec 32, (nv X != nv Y) = !decide (X = Y) := fun X Y => by
    rw [Bool.eq_iff_iff]; simp [bne_iff_ne, nv_inj]
  split
  all_goals
    rename_i hsum
    refine om_run (ir := ir27) rfl 0 ?_
    generalize hU : un4 a b c d = U at *
    generalize hR : q.take U.toNat = R at *
    by_cases h0 : U.toNat = 0
  · have hR0 : R = [] := by cases R <;> simp_all
    rw [hR0, h0] at hcl
    rw [hR0] at hsum hR
    rw [h0] at hR
    have hbp : bytP [] = [] := rfl
    simp only [byt_nil, List.isEmpty_nil] at hcl
    simp [ir27, Go.Sx.runF_S, runCS_skip, runCS_reg, runCS_draw, runCS_seq, runCS_cond, runCS_block, runCS_loop, runCS_exit, runCS_ret, runOpsS_nil, runOpsS_cons, runOpsTS_nil, runOpsTS_cons, Go.Sx.wants, Go.Sx.evOp, Go.Sx.opd, Sx.get, Go.Sx.putD, Sx.keep, Go.Sx.binL, Go.Sx.isSh, binI_add, binI_sub, binI_mul, binI_eql, binI_neq, binI_lss, binI_leq, binI_gtr, binI_geq, Go.Sx.leI_eq, Go.Sx.eqL, unL_not, unL_neg, Go.Sx.resVs, Go.Sx.resV, Go.Sx.oneL, Go.Sx.finish, Go.Sx.frz, Go.Sx.frz.go, Go.Sx.frzL, Go.Sx.frzL.go, Go.Sx.ids, Go.Sx.ids.idsL, Go.Sx.updIds, Go.Sx.reach, Go.Sx.ren, Go.Sx.ren.go, Go.Sx.renU, Go.Sx.renN, Go.Sx.renO, Go.Sx.renId, List.idxOf?_cons, Go.Sx.fillP, Go.Sx.mkAgg, Go.Sx.allP, Go.Sx.LV.cells, Go.Sx.Obj.cells, Go.Sx.splice, Go.Sx.rd, Go.Sx.push, Go.Sx.look, Go.Sx.findU, Go.Sx.setObj, Go.Sx.setU, Go.Sx.setAll, Go.Sx.callO, Go.Sx.slCells, Go.Sx.sliceO, Go.Sx.appO, Value.oneCell', Go.Sx.mmL, Go.Sx.mm2, Go.Sx.gslot, Go.Sx.IROp.slots, Go.Sx.Opd.slots, Go.Sx.indepD, Go.Sx.quickD, Go.Sx.indepR, Go.Sx.pairsD, Go.Sx.apartD, Nat.testBit, Go.Sx.Obj.ids, Go.Sx.natL, Go.Sx.optMap, Go.Sx.LV.undef, Go.undef, ltF, ht, ht4, h1, h8, hw, hwq, h2, hw8, hge, ht8, hle, bytP_take, hR, hcl, byt_len, bytP_len, take_byt, ids_byt, ren_byt, ids_app, ren_app, allP_byt, allP_app, h0, hsum, hs0, hR0, wrap_i64, hbp, hl, hid, hk, hne]
  · have hR0 : R.isEmpty = false := by
      cases R with
      | nil => simp at hlen; omega
      | cons x l => rfl
    have h41 : 4 + U.toNat ≤ 1099511627776 := by omega
    have h42 : ¬ 1099511627776 < 4 + U.toNat := by omega
    have hq4 : ¬ q.length + 1 + 1 + 1 + 1 + 1 + 1 + 1 + 1 < 4 := by omega
    have htk : List.take U.toNat (byt R) = byt R := by rw [← hlen]; exact take_byt R
    simp [ir27, Go.Sx.runF_S, runCS_skip, runCS_reg, runCS_draw, runCS_seq, runCS_cond, runCS_block, runCS_loop, runCS_exit, runCS_ret, runOpsS_nil, runOpsS_cons, runOpsTS_nil, runOpsTS_cons, Go.Sx.wants, Go.Sx.evOp, Go.Sx.opd, Sx.get, Go.Sx.putD, Sx.keep, Go.Sx.binL, Go.Sx.isSh, binI_add, binI_sub, binI_mul, binI_eql, binI_neq, binI_lss, binI_leq, binI_gtr, binI_geq, Go.Sx.leI_eq, Go.Sx.eqL, unL_not, unL_neg, Go.Sx.resVs, Go.Sx.resV, Go.Sx.oneL, Go.Sx.finish, Go.Sx.frz, Go.Sx.frz.go, Go.Sx.frzL, Go.Sx.frzL.go, Go.Sx.ids, Go.Sx.ids.idsL, Go.Sx.updIds, Go.Sx.reach, Go.Sx.ren, Go.Sx.ren.go, Go.Sx.renU, Go.Sx.renN, Go.Sx.renO, Go.Sx.renId, List.idxOf?_cons, Go.Sx.fillP, Go.Sx.mkAgg, Go.Sx.allP, Go.Sx.LV.cells, Go.Sx.Obj.cells, Go.Sx.splice, Go.Sx.rd, Go.Sx.push, Go.Sx.look, Go.Sx.findU, Go.Sx.setObj, Go.Sx.setU, Go.Sx.setAll, Go.Sx.callO, Go.Sx.slCells, Go.Sx.sliceO, Go.Sx.appO, Value.oneCell', Go.Sx.mmL, Go.Sx.mm2, Go.Sx.gslot, Go.Sx.IROp.slots, Go.Sx.Opd.slots, Go.Sx.indepD, Go.Sx.quickD, Go.Sx.indepR, Go.Sx.pairsD, Go.Sx.apartD, Nat.testBit, Go.Sx.Obj.ids, Go.Sx.natL, Go.Sx.optMap, Go.Sx.LV.undef, Go.undef, ltF, ht, ht4, h1, h8, hw, hwq, h2, hw8, hge, ht8, hle, bytP_take, hR, hcl, hs4, byt_len, bytP_len, take_byt, ids_byt, ren_byt, ids_app, ren_app, allP_byt, allP_app, hlen, h0, h41, h42, hq4, hR0, hsum, htk, hl, hid, hk, hne]
  · have hR0 : R = [] := by cases R <;> simp_all
    rw [hR0, h0] at hcl
    rw [hR0] at hsum hR
    rw [h0] at hR
    have hbp : bytP [] = [] := rfl
    simp only [byt_nil, List.isEmpty_nil] at hcl
    simp [ir27, Go.Sx.runF_S, runCS_skip, runCS_reg, runCS_draw, runCS_seq, runCS_cond, runCS_block, runCS_loop, runCS_exit, runCS_ret, runOpsS_nil, runOpsS_cons, runOpsTS_nil, runOpsTS_cons, Go.Sx.wants, Go.Sx.evOp, Go.Sx.opd, Sx.get, Go.Sx.putD, Sx.keep, Go.Sx.binL, Go.Sx.isSh, binI_add, binI_sub, binI_mul, binI_eql, binI_neq, binI_lss, binI_leq, binI_gtr, binI_geq, Go.Sx.leI_eq, Go.Sx.eqL, unL_not, unL_neg, Go.Sx.resVs, Go.Sx.resV, Go.Sx.oneL, Go.Sx.finish, Go.Sx.frz, Go.Sx.frz.go, Go.Sx.frzL, Go.Sx.frzL.go, Go.Sx.ids, Go.Sx.ids.idsL, Go.Sx.updIds, Go.Sx.reach, Go.Sx.ren, Go.Sx.ren.go, Go.Sx.renU, Go.Sx.renN, Go.Sx.renO, Go.Sx.renId, List.idxOf?_cons, Go.Sx.fillP, Go.Sx.mkAgg, Go.Sx.allP, Go.Sx.LV.cells, Go.Sx.Obj.cells, Go.Sx.splice, Go.Sx.rd, Go.Sx.push, Go.Sx.look, Go.Sx.findU, Go.Sx.setObj, Go.Sx.setU, Go.Sx.setAll, Go.Sx.callO, Go.Sx.slCells, Go.Sx.sliceO, Go.Sx.appO, Value.oneCell', Go.Sx.mmL, Go.Sx.mm2, Go.Sx.gslot, Go.Sx.IROp.slots, Go.Sx.Opd.slots, Go.Sx.indepD, Go.Sx.quickD, Go.Sx.indepR, Go.Sx.pairsD, Go.Sx.apartD, Nat.testBit, Go.Sx.Obj.ids, Go.Sx.natL, Go.Sx.optMap, Go.Sx.LV.undef, Go.undef, ltF, ht, ht4, h1, h8, hw, hwq, h2, hw8, hge, ht8, hle, bytP_take, hR, hcl, byt_len, bytP_len, take_byt, ids_byt, ren_byt, ids_app, ren_app, allP_byt, allP_app, h0, hsum, hs0, hR0, wrap_i64, hbp, hl, hid, hk, hne]
  · have hR0 : R.isEmpty = false := by
      cases R with
      | nil => simp at hlen; omega
      | cons x l => rfl
    have h41 : 4 + U.toNat ≤ 1099511627776 := by omega
    have h42 : ¬ 1099511627776 < 4 + U.toNat := by omega
    have hq4 : ¬ q.length + 1 + 1 + 1 + 1 + 1 + 1 + 1 + 1 < 4 := by omega
    have htk : List.take U.toNat (byt R) = byt R := by rw [← hlen]; exact take_byt R
    simp [ir27, Go.Sx.runF_S, runCS_skip, runCS_reg, runCS_draw, runCS_seq, runCS_cond, runCS_block, runCS_loop, runCS_exit, runCS_ret, runOpsS_nil, runOpsS_cons, runOpsTS_nil, runOpsTS_cons, Go.Sx.wants, Go.Sx.evOp, Go.Sx.opd, Sx.get, Go.Sx.putD, Sx.keep, Go.Sx.binL, Go.Sx.isSh, binI_add, binI_sub, binI_mul, binI_eql, binI_neq, binI_lss, binI_leq, binI_gtr, binI_geq, Go.Sx.leI_eq, Go.Sx.eqL, unL_not, unL_neg, Go.Sx.resVs, Go.Sx.resV, Go.Sx.oneL, Go.Sx.finish, Go.Sx.frz, Go.Sx.frz.go, Go.Sx.frzL, Go.Sx.frzL.go, Go.Sx.ids, Go.Sx.ids.idsL, Go.Sx.updIds, Go.Sx.reach, Go.Sx.ren, Go.Sx.ren.go, Go.Sx.renU, Go.Sx.renN, Go.Sx.renO, Go.Sx.renId, List.idxOf?_cons, Go.Sx.fillP, Go.Sx.mkAgg, Go.Sx.allP, Go.Sx.LV.cells, Go.Sx.Obj.cells, Go.Sx.splice, Go.Sx.rd, Go.Sx.push, Go.Sx.look, Go.Sx.findU, Go.Sx.setObj, Go.Sx.setU, Go.Sx.setAll, Go.Sx.callO, Go.Sx.slCells, Go.Sx.sliceO, Go.Sx.appO, Value.oneCell', Go.Sx.mmL, Go.Sx.mm2, Go.Sx.gslot, Go.Sx.IROp.slots, Go.Sx.Opd.slots, Go.Sx.indepD, Go.Sx.quickD, Go.Sx.indepR, Go.Sx.pairsD, Go.Sx.apartD, Nat.testBit, Go.Sx.Obj.ids, Go.Sx.natL, Go.Sx.optMap, Go.Sx.LV.undef, Go.undef, ltF, ht, ht4, h1, h8, hw, hwq, h2, hw8, hge, ht8, hle, bytP_take, hR, hcl, hs4, byt_len, bytP_len, take_byt, ids_byt, ren_byt, ids_app, ren_app, allP_byt, allP_app, hlen, h0, h41, h42, hq4, hR0, hsum, htk, hl, hid, hk, hne]
end open'
end Go.Proofs.YtkdimbcfacoboaaGreatDoor

