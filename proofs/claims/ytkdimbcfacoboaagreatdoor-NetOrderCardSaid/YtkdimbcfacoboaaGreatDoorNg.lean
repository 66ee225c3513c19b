/- Specifications: bytes are read as a note, or not. -/
import Derived.Test.YtkdimbcfacoboaaGreatDoorNf
namespace Go.Proofs.YtkdimbcfacoboaaGreatDoor
open Go Go.Sx
set_option linter.unusedSimpArgs false
set_option linter.unusedVariables false

theorem of_' (l : List UInt8) (n : Nat) (hn : l.length = n) (fl : Bool) (h30 : n < 2 ^ 31) (H : Heap) (nx : Nat) : Ω 28 [.p (.sl (bytP l) n 1 fl)] H nx =
    some (.ref nx 0, [], [some (.cells [.arr (nx + 1) 0 n 1 n l.isEmpty, .int .i64 0]), some (.cells (byt l))]) := by
  subst hn
  exact of_ l fl h30 H nx

section read
variable (a b c d s0 s1 s2 s3 : UInt8) (q : List UInt8) (id cp : Nat) (ex : Bool) (H : Heap) (nx : Nat)
theorem readA_long (h : 2 ^ 20 < (un4 a b c d).toNat) (hl : H id = some (.cells (eightC a b c d s0 s1 s2 s3 q))) (hid : id < nx) : Ω 15 [.arr id 0 (q.length + 8) 1 cp ex] H nx =
    some (.tuple [.p (nt 0 0 0 0), .int .i64 9], [], []) := by
  refine om_run (ir := ir15) rfl 0 ?_
  have ho := fun H nx => openA_long a b c d s0 s1 s2 s3 q id cp ex H nx h
  have hk : ∀ k, id < nx + k := fun k => by omega
  simp [ir15, Go.Sx.runF_S, runCS_skip, runCS_reg, runCS_draw, runCS_seq, runCS_cond, runCS_block, runCS_loop, runCS_exit, runCS_ret, runOpsS_nil, runOpsS_cons, runOpsTS_nil, runOpsTS_cons, Go.Sx.wants, Go.Sx.evOp, Go.Sx.opd, Sx.get, Go.Sx.putD, Sx.keep, Go.Sx.binL, Go.Sx.isSh, binI_add, binI_sub, binI_mul, binI_eql, binI_neq, binI_lss, binI_leq, binI_gtr, binI_geq, Go.Sx.leI_eq, Go.Sx.eqL, unL_not, unL_neg, Go.Sx.resVs, Go.Sx.resV, Go.Sx.oneL, Go.Sx.finish, Go.Sx.frz, Go.Sx.frz.go, Go.Sx.frzL, Go.Sx.frzL.go, Go.Sx.ids, Go.Sx.ids.idsL, Go.Sx.updIds, Go.Sx.reach, Go.Sx.ren, Go.Sx.ren.go, Go.Sx.renU, Go.Sx.renN, Go.Sx.renO, Go.Sx.renId, List.idxOf?_cons, Go.Sx.fillP, Go.Sx.mkAgg, Go.Sx.allP, Go.Sx.LV.cells, Go.Sx.Obj.cells, Go.Sx.splice, Go.Sx.rd, Go.Sx.push, Go.Sx.look, Go.Sx.findU, Go.Sx.setObj, Go.Sx.setU, Go.Sx.setAll, Go.Sx.callO, Go.Sx.slCells, Go.Sx.sliceO, Go.Sx.appO, Value.oneCell', Go.Sx.mmL, Go.Sx.mm2, Go.Sx.gslot, Go.Sx.IROp.slots, Go.Sx.Opd.slots, Go.Sx.indepD, Go.Sx.quickD, Go.Sx.indepR, Go.Sx.pairsD, Go.Sx.apartD, Nat.testBit, Go.Sx.Obj.ids, Go.Sx.natL, Go.Sx.optMap, Go.Sx.LV.undef, Go.undef, ltF, ho, hl, hid, hk]
theorem readA_short (h : (un4 a b c d).toNat ≤ 2 ^ 20) (hs : q.length < (un4 a b c d).toNat) (hl : H id = some (.cells (eightC a b c d s0 s1 s2 s3 q))) (hid : id < nx) : Ω 15 [.arr id 0 (q.length + 8) 1 cp ex] H nx =
    some (.tuple [.p (nt 0 0 0 0), .int .i64 6], [], []) := by
  refine om_run (ir := ir15) rfl 0 ?_
  have ho := fun H nx => openA_short a b c d s0 s1 s2 s3 q id cp ex H nx h hs
  have hk : ∀ k, id < nx + k := fun k => by omega
  simp [ir15, Go.Sx.runF_S, runCS_skip, runCS_reg, runCS_draw, runCS_seq, runCS_cond, runCS_block, runCS_loop, runCS_exit, runCS_ret, runOpsS_nil, runOpsS_cons, runOpsTS_nil, runOpsTS_cons, Go.Sx.wants, Go.Sx.evOp, Go.Sx.opd, Sx.get, Go.Sx.putD, Sx.keep, Go.Sx.binL, Go.Sx.isSh, binI_add, binI_sub, binI_mul, binI_eql, binI_neq, binI_lss, binI_leq, binI_gtr, binI_geq, Go.Sx.leI_eq, Go.Sx.eqL, unL_not, unL_neg, Go.Sx.resVs, Go.Sx.resV, Go.Sx.oneL, Go.Sx.finish, Go.Sx.frz, Go.Sx.frz.go, Go.Sx.frzL, Go.Sx.frzL.go, Go.Sx.ids, Go.Sx.ids.idsL, Go.Sx.updIds, Go.Sx.reach, Go.Sx.ren, Go.Sx.ren.go, Go.Sx.renU, Go.Sx.renN, Go.Sx.renO, Go.Sx.renId, List.idxOf?_cons, Go.Sx.fillP, Go.Sx.mkAgg, Go.Sx.allP, Go.Sx.LV.cells, Go.Sx.Obj.cells, Go.Sx.splice, Go.Sx.rd, Go.Sx.push, Go.Sx.look, Go.Sx.findU, Go.Sx.setObj, Go.Sx.setU, Go.Sx.setAll, Go.Sx.callO, Go.Sx.slCells, Go.Sx.sliceO, Go.Sx.appO, Value.oneCell', Go.Sx.mmL, Go.Sx.mm2, Go.Sx.gslot, Go.Sx.IROp.slots, Go.Sx.Opd.slots, Go.Sx.indepD, Go.Sx.quickD, Go.Sx.indepR, Go.Sx.pairsD, Go.Sx.apartD, Nat.testBit, Go.Sx.Obj.ids, Go.Sx.natL, Go.Sx.optMap, Go.Sx.LV.undef, Go.undef, ltF, ho, hl, hid, hk]
theorem readA_sum (hq : q.length < 2 ^ 30) (h : (un4 a b c d).toNat ≤ 2 ^ 20) (hs : (un4 a b c d).toNat ≤ q.length) (hsum : un4 s0 s1 s2 s3 ≠ crc (a :: b :: c :: d :: q.take (un4 a b c d).toNat))
    (hl : H id = some (.cells (eightC a b c d s0 s1 s2 s3 q))) (hid : id < nx) : Ω 15 [.arr id 0 (q.length + 8) 1 cp ex] H nx =
    some (.tuple [.p (nt 0 0 0 0), .int .i64 13], [], []) := by
  refine om_run (ir := ir15) rfl 0 ?_
  have ho := fun H nx => openA a b c d s0 s1 s2 s3 q id cp ex H nx hq h hs
  simp only [if_neg hsum] at ho
  have hk : ∀ k, id < nx + k := fun k => by omega
  simp [ir15, Go.Sx.runF_S, runCS_skip, runCS_reg, runCS_draw, runCS_seq, runCS_cond, runCS_block, runCS_loop, runCS_exit, runCS_ret, runOpsS_nil, runOpsS_cons, runOpsTS_nil, runOpsTS_cons, Go.Sx.wants, Go.Sx.evOp, Go.Sx.opd, Sx.get, Go.Sx.putD, Sx.keep, Go.Sx.binL, Go.Sx.isSh, binI_add, binI_sub, binI_mul, binI_eql, binI_neq, binI_lss, binI_leq, binI_gtr, binI_geq, Go.Sx.leI_eq, Go.Sx.eqL, unL_not, unL_neg, Go.Sx.resVs, Go.Sx.resV, Go.Sx.oneL, Go.Sx.finish, Go.Sx.frz, Go.Sx.frz.go, Go.Sx.frzL, Go.Sx.frzL.go, Go.Sx.ids, Go.Sx.ids.idsL, Go.Sx.updIds, Go.Sx.reach, Go.Sx.ren, Go.Sx.ren.go, Go.Sx.renU, Go.Sx.renN, Go.Sx.renO, Go.Sx.renId, List.idxOf?_cons, Go.Sx.fillP, Go.Sx.mkAgg, Go.Sx.allP, Go.Sx.LV.cells, Go.Sx.Obj.cells, Go.Sx.splice, Go.Sx.rd, Go.Sx.push, Go.Sx.look, Go.Sx.findU, Go.Sx.setObj, Go.Sx.setU, Go.Sx.setAll, Go.Sx.callO, Go.Sx.slCells, Go.Sx.sliceO, Go.Sx.appO, Value.oneCell', Go.Sx.mmL, Go.Sx.mm2, Go.Sx.gslot, Go.Sx.IROp.slots, Go.Sx.Opd.slots, Go.Sx.indepD, Go.Sx.quickD, Go.Sx.indepR, Go.Sx.pairsD, Go.Sx.apartD, Nat.testBit, Go.Sx.Obj.ids, Go.Sx.natL, Go.Sx.optMap, Go.Sx.LV.undef, Go.undef, ltF, ho, hl, hid, hk]
theorem readA_cut (f t no : Nat) (h64 : no < 2 ^ 64) (hP : q = pay f t no) (h : (un4 a b c d).toNat ≤ 2 ^ 20) (hs : (un4 a b c d).toNat < q.length) (hsum : un4 s0 s1 s2 s3 = crc (a :: b :: c :: d :: q.take (un4 a b c d).toNat))
    (hl : H id = some (.cells (eightC a b c d s0 s1 s2 s3 q))) (hid : id < nx) : Ω 15 [.arr id 0 (q.length + 8) 1 cp ex] H nx =
    some (.tuple [.p (nt 0 0 0 0), .int .i64 6], [], []) := by
  have hv := vnum_len no h64
  have hlq : q.length = 3 + (vnum no).length := by rw [hP]; simp [pay]; omega
  obtain ⟨k0, f0, t0, o, L, cp', hg⟩ := get_bad f t no (un4 a b c d).toNat h64 (by rw [← hP]; exact hs)
  rw [← hP] at hg
  refine om_run (ir := ir15) rfl 0 ?_
  have ho := fun H nx => openA a b c d s0 s1 s2 s3 q id cp ex H nx (by omega) h (by omega)
  simp only [if_pos hsum] at ho
  have hlen : (q.take (un4 a b c d).toNat).length = (un4 a b c d).toNat := by simp; omega
  have hof := fun fl H nx => of_' (q.take (un4 a b c d).toNat) (un4 a b c d).toNat hlen fl (by omega) H nx
  have hk : ∀ k, id < nx + k := fun k => by omega
  have hne : ((8 + ((un4 a b c d).toNat : Int)) != ((q.length : Int) + 8)) = true := by simp; omega
  generalize un4 a b c d = U at *
  generalize hR : q.take U.toNat = R at *
  have hg := fun H nx id => hg H nx id (id + 1) R.isEmpty
  simp [ir15, Go.Sx.runF_S, runCS_skip, runCS_reg, runCS_draw, runCS_seq, runCS_cond, runCS_block, runCS_loop, runCS_exit, runCS_ret, runOpsS_nil, runOpsS_cons, runOpsTS_nil, runOpsTS_cons, Go.Sx.wants, Go.Sx.evOp, Go.Sx.opd, Sx.get, Go.Sx.putD, Sx.keep, Go.Sx.binL, Go.Sx.isSh, binI_add, binI_sub, binI_mul, binI_eql, binI_neq, binI_lss, binI_leq, binI_gtr, binI_geq, Go.Sx.leI_eq, Go.Sx.eqL, unL_not, unL_neg, Go.Sx.resVs, Go.Sx.resV, Go.Sx.oneL, Go.Sx.finish, Go.Sx.frz, Go.Sx.frz.go, Go.Sx.frzL, Go.Sx.frzL.go, Go.Sx.ids, Go.Sx.ids.idsL, Go.Sx.updIds, Go.Sx.reach, Go.Sx.ren, Go.Sx.ren.go, Go.Sx.renU, Go.Sx.renN, Go.Sx.renO, Go.Sx.renId, List.idxOf?_cons, Go.Sx.fillP, Go.Sx.mkAgg, Go.Sx.allP, Go.Sx.LV.cells, Go.Sx.Obj.cells, Go.Sx.splice, Go.Sx.rd, Go.Sx.push, Go.Sx.look, Go.Sx.findU, Go.Sx.setObj, Go.Sx.setU, Go.Sx.setAll, Go.Sx.callO, Go.Sx.slCells, Go.Sx.sliceO, Go.Sx.appO, Value.oneCell', Go.Sx.mmL, Go.Sx.mm2, Go.Sx.gslot, Go.Sx.IROp.slots, Go.Sx.Opd.slots, Go.Sx.indepD, Go.Sx.quickD, Go.Sx.indepR, Go.Sx.pairsD, Go.Sx.apartD, Nat.testBit, Go.Sx.Obj.ids, Go.Sx.natL, Go.Sx.optMap, Go.Sx.LV.undef, Go.undef, ltF, ho, hl, hid, hk, hof, hg, hne, Nat.add_assoc, byt_len, bytP_len, take_byt, ids_byt, ren_byt, ids_app, ren_app, allP_byt, allP_app]
theorem readA_ok (f t no : Nat) (hf : f < 12) (ht : t < 12) (hn : f ≠ t) (h64 : no < 2 ^ 64) (hP : q = pay f t no) (hU : (un4 a b c d).toNat = q.length) (hsum : un4 s0 s1 s2 s3 = crc (a :: b :: c :: d :: q))
    (hl : H id = some (.cells (eightC a b c d s0 s1 s2 s3 q))) (hid : id < nx) : Ω 15 [.arr id 0 (q.length + 8) 1 cp ex] H nx =
    some (.tuple [.p (nt 7 f t no), .int .i64 0], [], []) := by
  have hv := vnum_len no h64
  have hlq : q.length = (vnum no).length + 3 := by rw [hP]; simp [pay]
  have hg := fun H nx id qid cp ex => get_ok H nx id qid cp ex f t no hf ht h64
  rw [← hP, ← hlq] at hg
  refine om_run (ir := ir15) rfl 0 ?_
  have ho := fun H nx => openA a b c d s0 s1 s2 s3 q id cp ex H nx (by omega) (by omega) (by omega)
  rw [hU, List.take_length] at ho
  simp only [if_pos hsum] at ho
  have hof := fun fl H nx => of_ q fl (by omega) H nx
  have hg := fun H nx id => hg H nx id (id + 1) q.length q.isEmpty
  have hend := fun H nx id => end_0 H nx id (id + 1) (3 + (vnum no).length) (q.length - 1 - 1 - 1 - (vnum no).length) q.isEmpty
  have hk : ∀ k, id < nx + k := fun k => by omega
  have hne : ((8 + (q.length : Int)) != ((q.length : Int) + 8)) = false := by simp; omega
  generalize un4 a b c d = U at *
  simp [ir15, Go.Sx.runF_S, runCS_skip, runCS_reg, runCS_draw, runCS_seq, runCS_cond, runCS_block, runCS_loop, runCS_exit, runCS_ret, runOpsS_nil, runOpsS_cons, runOpsTS_nil, runOpsTS_cons, Go.Sx.wants, Go.Sx.evOp, Go.Sx.opd, Sx.get, Go.Sx.putD, Sx.keep, Go.Sx.binL, Go.Sx.isSh, binI_add, binI_sub, binI_mul, binI_eql, binI_neq, binI_lss, binI_leq, binI_gtr, binI_geq, Go.Sx.leI_eq, Go.Sx.eqL, unL_not, unL_neg, Go.Sx.resVs, Go.Sx.resV, Go.Sx.oneL, Go.Sx.finish, Go.Sx.frz, Go.Sx.frz.go, Go.Sx.frzL, Go.Sx.frzL.go, Go.Sx.ids, Go.Sx.ids.idsL, Go.Sx.updIds, Go.Sx.reach, Go.Sx.ren, Go.Sx.ren.go, Go.Sx.renU, Go.Sx.renN, Go.Sx.renO, Go.Sx.renId, List.idxOf?_cons, Go.Sx.fillP, Go.Sx.mkAgg, Go.Sx.allP, Go.Sx.LV.cells, Go.Sx.Obj.cells, Go.Sx.splice, Go.Sx.rd, Go.Sx.push, Go.Sx.look, Go.Sx.findU, Go.Sx.setObj, Go.Sx.setU, Go.Sx.setAll, Go.Sx.callO, Go.Sx.slCells, Go.Sx.sliceO, Go.Sx.appO, Value.oneCell', Go.Sx.mmL, Go.Sx.mm2, Go.Sx.gslot, Go.Sx.IROp.slots, Go.Sx.Opd.slots, Go.Sx.indepD, Go.Sx.quickD, Go.Sx.indepR, Go.Sx.pairsD, Go.Sx.apartD, Nat.testBit, Go.Sx.Obj.ids, Go.Sx.natL, Go.Sx.optMap, Go.Sx.LV.undef, Go.undef, ltF, ho, hl, hid, hk, hof, hg, hne, Nat.add_assoc, byt_len, bytP_len, take_byt, ids_byt, ren_byt, ids_app, ren_app, allP_byt, allP_app, hend, right_ f t no hf ht hn]
end read
end Go.Proofs.YtkdimbcfacoboaaGreatDoor

