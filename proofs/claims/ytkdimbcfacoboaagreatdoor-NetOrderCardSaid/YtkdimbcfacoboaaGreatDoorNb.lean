/- Specifications: what is left of some bytes, and its next numbers. -/
import Derived.Test.YtkdimbcfacoboaaGreatDoorNa
namespace Go.Proofs.YtkdimbcfacoboaaGreatDoor
open Go Go.Sx
set_option linter.unusedSimpArgs false
set_option linter.unusedVariables false

theorem get_byt (d : List UInt8) (b : UInt8) (r : List UInt8) : (byt (d ++ b :: r))[d.length]? = some (.int .u8 b.toNat) := by
  rw [byt_app, List.getElem?_append_right (by rw [byt_len]; omega), byt_len, Nat.sub_self]
  rfl

theorem clone_sl (l : List UInt8) (fl : Bool) (h30 : l.length < 2 ^ 31) (H : Heap) (nx : Nat) : Ω 25 [.p (.sl (bytP l) l.length 1 fl)] H nx =
    some (.arr nx 0 l.length 1 l.length l.isEmpty, [], [some (.cells (byt l))]) := by
  refine om_run (ir := ir25) rfl 0 ?_
  have h41 : ¬ 1099511627776 < l.length := by omega
  cases l with
  | nil => simp [ir25, Go.Sx.runF_S, runCS_skip, runCS_reg, runCS_draw, runCS_seq, runCS_cond, runCS_block, runCS_loop, runCS_exit, runCS_ret, runOpsS_nil, runOpsS_cons, runOpsTS_nil, runOpsTS_cons, Go.Sx.wants, Go.Sx.evOp, Go.Sx.opd, Sx.get, Go.Sx.putD, Sx.keep, Go.Sx.binL, Go.Sx.isSh, binI_add, binI_sub, binI_mul, binI_eql, binI_neq, binI_lss, binI_leq, binI_gtr, binI_geq, Go.Sx.leI_eq, Go.Sx.eqL, unL_not, unL_neg, Go.Sx.resVs, Go.Sx.resV, Go.Sx.oneL, Go.Sx.finish, Go.Sx.frz, Go.Sx.frz.go, Go.Sx.frzL, Go.Sx.frzL.go, Go.Sx.ids, Go.Sx.ids.idsL, Go.Sx.updIds, Go.Sx.reach, Go.Sx.ren, Go.Sx.ren.go, Go.Sx.renU, Go.Sx.renN, Go.Sx.renO, Go.Sx.renId, List.idxOf?_cons, Go.Sx.fillP, Go.Sx.mkAgg, Go.Sx.allP, Go.Sx.LV.cells, Go.Sx.Obj.cells, Go.Sx.splice, Go.Sx.rd, Go.Sx.push, Go.Sx.look, Go.Sx.findU, Go.Sx.setObj, Go.Sx.setU, Go.Sx.setAll, Go.Sx.callO, Go.Sx.slCells, Go.Sx.sliceO, Go.Sx.appO, Value.oneCell', Go.Sx.mmL, Go.Sx.mm2, Go.Sx.gslot, Go.Sx.IROp.slots, Go.Sx.Opd.slots, Go.Sx.indepD, Go.Sx.quickD, Go.Sx.indepR, Go.Sx.pairsD, Go.Sx.apartD, Nat.testBit, Go.Sx.Obj.ids, Go.Sx.natL, Go.Sx.optMap, Go.Sx.LV.undef, Go.undef, ltF, bytP, byt]
  | cons b l =>
    have e := bytP_map (b :: l)
    have h42 : ¬ 1099511627776 < l.length + 1 := by simpa using h41
    simp [ir25, Go.Sx.runF_S, runCS_skip, runCS_reg, runCS_draw, runCS_seq, runCS_cond, runCS_block, runCS_loop, runCS_exit, runCS_ret, runOpsS_nil, runOpsS_cons, runOpsTS_nil, runOpsTS_cons, Go.Sx.wants, Go.Sx.evOp, Go.Sx.opd, Sx.get, Go.Sx.putD, Sx.keep, Go.Sx.binL, Go.Sx.isSh, binI_add, binI_sub, binI_mul, binI_eql, binI_neq, binI_lss, binI_leq, binI_gtr, binI_geq, Go.Sx.leI_eq, Go.Sx.eqL, unL_not, unL_neg, Go.Sx.resVs, Go.Sx.resV, Go.Sx.oneL, Go.Sx.finish, Go.Sx.frz, Go.Sx.frz.go, Go.Sx.frzL, Go.Sx.frzL.go, Go.Sx.ids, Go.Sx.ids.idsL, Go.Sx.updIds, Go.Sx.reach, Go.Sx.ren, Go.Sx.ren.go, Go.Sx.renU, Go.Sx.renN, Go.Sx.renO, Go.Sx.renId, List.idxOf?_cons, Go.Sx.fillP, Go.Sx.mkAgg, Go.Sx.allP, Go.Sx.LV.cells, Go.Sx.Obj.cells, Go.Sx.splice, Go.Sx.rd, Go.Sx.push, Go.Sx.look, Go.Sx.findU, Go.Sx.setObj, Go.Sx.setU, Go.Sx.setAll, Go.Sx.callO, Go.Sx.slCells, Go.Sx.sliceO, Go.Sx.appO, Value.oneCell', Go.Sx.mmL, Go.Sx.mm2, Go.Sx.gslot, Go.Sx.IROp.slots, Go.Sx.Opd.slots, Go.Sx.indepD, Go.Sx.quickD, Go.Sx.indepR, Go.Sx.pairsD, Go.Sx.apartD, Nat.testBit, Go.Sx.Obj.ids, Go.Sx.natL, Go.Sx.optMap, Go.Sx.LV.undef, Go.undef, ltF, e, byt_len, bytP_len, take_byt, ids_byt, ren_byt, ids_app, ren_app, allP_byt, allP_app, h42]

theorem clone_arr (l : List UInt8) (id cp : Nat) (ex : Bool) (h0 : 0 < l.length) (h30 : l.length < 2 ^ 31) (H : Heap) (nx : Nat) (hl : H id = some (.cells (byt l))) (hid : id < nx) : Ω 25 [.arr id 0 l.length 1 cp ex] H nx =
    some (.arr nx 0 l.length 1 l.length false, [], [some (.cells (byt l))]) := by
  refine om_run (ir := ir25) rfl 0 ?_
  have h41 : ¬ 1099511627776 < l.length := by omega
  have h1 : ¬ l.length = 0 := by omega
  simp [ir25, Go.Sx.runF_S, runCS_skip, runCS_reg, runCS_draw, runCS_seq, runCS_cond, runCS_block, runCS_loop, runCS_exit, runCS_ret, runOpsS_nil, runOpsS_cons, runOpsTS_nil, runOpsTS_cons, Go.Sx.wants, Go.Sx.evOp, Go.Sx.opd, Sx.get, Go.Sx.putD, Sx.keep, Go.Sx.binL, Go.Sx.isSh, binI_add, binI_sub, binI_mul, binI_eql, binI_neq, binI_lss, binI_leq, binI_gtr, binI_geq, Go.Sx.leI_eq, Go.Sx.eqL, unL_not, unL_neg, Go.Sx.resVs, Go.Sx.resV, Go.Sx.oneL, Go.Sx.finish, Go.Sx.frz, Go.Sx.frz.go, Go.Sx.frzL, Go.Sx.frzL.go, Go.Sx.ids, Go.Sx.ids.idsL, Go.Sx.updIds, Go.Sx.reach, Go.Sx.ren, Go.Sx.ren.go, Go.Sx.renU, Go.Sx.renN, Go.Sx.renO, Go.Sx.renId, List.idxOf?_cons, Go.Sx.fillP, Go.Sx.mkAgg, Go.Sx.allP, Go.Sx.LV.cells, Go.Sx.Obj.cells, Go.Sx.splice, Go.Sx.rd, Go.Sx.push, Go.Sx.look, Go.Sx.findU, Go.Sx.setObj, Go.Sx.setU, Go.Sx.setAll, Go.Sx.callO, Go.Sx.slCells, Go.Sx.sliceO, Go.Sx.appO, Value.oneCell', Go.Sx.mmL, Go.Sx.mm2, Go.Sx.gslot, Go.Sx.IROp.slots, Go.Sx.Opd.slots, Go.Sx.indepD, Go.Sx.quickD, Go.Sx.indepR, Go.Sx.pairsD, Go.Sx.apartD, Nat.testBit, Go.Sx.Obj.ids, Go.Sx.natL, Go.Sx.optMap, Go.Sx.LV.undef, Go.undef, ltF, byt_len, bytP_len, take_byt, ids_byt, ren_byt, ids_app, ren_app, allP_byt, allP_app, h41, hl, hid, h1]

theorem of_ (l : List UInt8) (fl : Bool) (h30 : l.length < 2 ^ 31) (H : Heap) (nx : Nat) : Ω 28 [.p (.sl (bytP l) l.length 1 fl)] H nx =
    some (.ref nx 0, [], [some (.cells [.arr (nx + 1) 0 l.length 1 l.length l.isEmpty, .int .i64 0]), some (.cells (byt l))]) := by
  refine om_run (ir := ir28) rfl 0 ?_
  simp [ir28, Go.Sx.runF_S, runCS_skip, runCS_reg, runCS_draw, runCS_seq, runCS_cond, runCS_block, runCS_loop, runCS_exit, runCS_ret, runOpsS_nil, runOpsS_cons, runOpsTS_nil, runOpsTS_cons, Go.Sx.wants, Go.Sx.evOp, Go.Sx.opd, Sx.get, Go.Sx.putD, Sx.keep, Go.Sx.binL, Go.Sx.isSh, binI_add, binI_sub, binI_mul, binI_eql, binI_neq, binI_lss, binI_leq, binI_gtr, binI_geq, Go.Sx.leI_eq, Go.Sx.eqL, unL_not, unL_neg, Go.Sx.resVs, Go.Sx.resV, Go.Sx.oneL, Go.Sx.finish, Go.Sx.frz, Go.Sx.frz.go, Go.Sx.frzL, Go.Sx.frzL.go, Go.Sx.ids, Go.Sx.ids.idsL, Go.Sx.updIds, Go.Sx.reach, Go.Sx.ren, Go.Sx.ren.go, Go.Sx.renU, Go.Sx.renN, Go.Sx.renO, Go.Sx.renId, List.idxOf?_cons, Go.Sx.fillP, Go.Sx.mkAgg, Go.Sx.allP, Go.Sx.LV.cells, Go.Sx.Obj.cells, Go.Sx.splice, Go.Sx.rd, Go.Sx.push, Go.Sx.look, Go.Sx.findU, Go.Sx.setObj, Go.Sx.setU, Go.Sx.setAll, Go.Sx.callO, Go.Sx.slCells, Go.Sx.sliceO, Go.Sx.appO, Value.oneCell', Go.Sx.mmL, Go.Sx.mm2, Go.Sx.gslot, Go.Sx.IROp.slots, Go.Sx.Opd.slots, Go.Sx.indepD, Go.Sx.quickD, Go.Sx.indepR, Go.Sx.pairsD, Go.Sx.apartD, Nat.testBit, Go.Sx.Obj.ids, Go.Sx.natL, Go.Sx.optMap, Go.Sx.LV.undef, Go.undef, ltF, byt_len, bytP_len, take_byt, ids_byt, ren_byt, ids_app, ren_app, allP_byt, allP_app, clone_sl _ _ h30]

section in'
variable (H : Heap) (nx id qid off len cp : Nat) (ex : Bool) (hid : id < nx) (hq : qid < nx)
theorem err_ (e : Int) (x : LV) (hl : H id = some (.cells [x, .int .i64 e])) (hid : id < nx) : Ω 51 [.ref id 0] H nx = some (.int .i64 e, [], []) := by
  refine om_run (ir := ir51) rfl 0 ?_
  simp [ir51, Go.Sx.runF_S, runCS_skip, runCS_reg, runCS_draw, runCS_seq, runCS_cond, runCS_block, runCS_loop, runCS_exit, runCS_ret, runOpsS_nil, runOpsS_cons, runOpsTS_nil, runOpsTS_cons, Go.Sx.wants, Go.Sx.evOp, Go.Sx.opd, Sx.get, Go.Sx.putD, Sx.keep, Go.Sx.binL, Go.Sx.isSh, binI_add, binI_sub, binI_mul, binI_eql, binI_neq, binI_lss, binI_leq, binI_gtr, binI_geq, Go.Sx.leI_eq, Go.Sx.eqL, unL_not, unL_neg, Go.Sx.resVs, Go.Sx.resV, Go.Sx.oneL, Go.Sx.finish, Go.Sx.frz, Go.Sx.frz.go, Go.Sx.frzL, Go.Sx.frzL.go, Go.Sx.ids, Go.Sx.ids.idsL, Go.Sx.updIds, Go.Sx.reach, Go.Sx.ren, Go.Sx.ren.go, Go.Sx.renU, Go.Sx.renN, Go.Sx.renO, Go.Sx.renId, List.idxOf?_cons, Go.Sx.fillP, Go.Sx.mkAgg, Go.Sx.allP, Go.Sx.LV.cells, Go.Sx.Obj.cells, Go.Sx.splice, Go.Sx.rd, Go.Sx.push, Go.Sx.look, Go.Sx.findU, Go.Sx.setObj, Go.Sx.setU, Go.Sx.setAll, Go.Sx.callO, Go.Sx.slCells, Go.Sx.sliceO, Go.Sx.appO, Value.oneCell', Go.Sx.mmL, Go.Sx.mm2, Go.Sx.gslot, Go.Sx.IROp.slots, Go.Sx.Opd.slots, Go.Sx.indepD, Go.Sx.quickD, Go.Sx.indepR, Go.Sx.pairsD, Go.Sx.apartD, Nat.testBit, Go.Sx.Obj.ids, Go.Sx.natL, Go.Sx.optMap, Go.Sx.LV.undef, Go.undef, ltF, hl, hid]
theorem left_ (e : Int) (hl : H id = some (.cells [.arr qid off len 1 cp ex, .int .i64 e])) (hid : id < nx) : Ω 50 [.ref id 0] H nx = some (.int .i64 len, [], []) := by
  refine om_run (ir := ir50) rfl 0 ?_
  simp [ir50, Go.Sx.runF_S, runCS_skip, runCS_reg, runCS_draw, runCS_seq, runCS_cond, runCS_block, runCS_loop, runCS_exit, runCS_ret, runOpsS_nil, runOpsS_cons, runOpsTS_nil, runOpsTS_cons, Go.Sx.wants, Go.Sx.evOp, Go.Sx.opd, Sx.get, Go.Sx.putD, Sx.keep, Go.Sx.binL, Go.Sx.isSh, binI_add, binI_sub, binI_mul, binI_eql, binI_neq, binI_lss, binI_leq, binI_gtr, binI_geq, Go.Sx.leI_eq, Go.Sx.eqL, unL_not, unL_neg, Go.Sx.resVs, Go.Sx.resV, Go.Sx.oneL, Go.Sx.finish, Go.Sx.frz, Go.Sx.frz.go, Go.Sx.frzL, Go.Sx.frzL.go, Go.Sx.ids, Go.Sx.ids.idsL, Go.Sx.updIds, Go.Sx.reach, Go.Sx.ren, Go.Sx.ren.go, Go.Sx.renU, Go.Sx.renN, Go.Sx.renO, Go.Sx.renId, List.idxOf?_cons, Go.Sx.fillP, Go.Sx.mkAgg, Go.Sx.allP, Go.Sx.LV.cells, Go.Sx.Obj.cells, Go.Sx.splice, Go.Sx.rd, Go.Sx.push, Go.Sx.look, Go.Sx.findU, Go.Sx.setObj, Go.Sx.setU, Go.Sx.setAll, Go.Sx.callO, Go.Sx.slCells, Go.Sx.sliceO, Go.Sx.appO, Value.oneCell', Go.Sx.mmL, Go.Sx.mm2, Go.Sx.gslot, Go.Sx.IROp.slots, Go.Sx.Opd.slots, Go.Sx.indepD, Go.Sx.quickD, Go.Sx.indepR, Go.Sx.pairsD, Go.Sx.apartD, Nat.testBit, Go.Sx.Obj.ids, Go.Sx.natL, Go.Sx.optMap, Go.Sx.LV.undef, Go.undef, ltF, hl, hid]
theorem fail_0 (k : Int) (hl : H id = some (.cells [.arr qid off len 1 cp ex, .int .i64 0])) (hid : id < nx) (hq : qid < nx) : Ω 44 [.ref id 0, .int .i64 k] H nx =
    some (.tuple [], [(id, some (.cells [.arr qid off len 1 cp ex, .int .i64 k]))], []) := by
  refine om_run (ir := ir44) rfl 0 ?_
  simp [ir44, Go.Sx.runF_S, runCS_skip, runCS_reg, runCS_draw, runCS_seq, runCS_cond, runCS_block, runCS_loop, runCS_exit, runCS_ret, runOpsS_nil, runOpsS_cons, runOpsTS_nil, runOpsTS_cons, Go.Sx.wants, Go.Sx.evOp, Go.Sx.opd, Sx.get, Go.Sx.putD, Sx.keep, Go.Sx.binL, Go.Sx.isSh, binI_add, binI_sub, binI_mul, binI_eql, binI_neq, binI_lss, binI_leq, binI_gtr, binI_geq, Go.Sx.leI_eq, Go.Sx.eqL, unL_not, unL_neg, Go.Sx.resVs, Go.Sx.resV, Go.Sx.oneL, Go.Sx.finish, Go.Sx.frz, Go.Sx.frz.go, Go.Sx.frzL, Go.Sx.frzL.go, Go.Sx.ids, Go.Sx.ids.idsL, Go.Sx.updIds, Go.Sx.reach, Go.Sx.ren, Go.Sx.ren.go, Go.Sx.renU, Go.Sx.renN, Go.Sx.renO, Go.Sx.renId, List.idxOf?_cons, Go.Sx.fillP, Go.Sx.mkAgg, Go.Sx.allP, Go.Sx.LV.cells, Go.Sx.Obj.cells, Go.Sx.splice, Go.Sx.rd, Go.Sx.push, Go.Sx.look, Go.Sx.findU, Go.Sx.setObj, Go.Sx.setU, Go.Sx.setAll, Go.Sx.callO, Go.Sx.slCells, Go.Sx.sliceO, Go.Sx.appO, Value.oneCell', Go.Sx.mmL, Go.Sx.mm2, Go.Sx.gslot, Go.Sx.IROp.slots, Go.Sx.Opd.slots, Go.Sx.indepD, Go.Sx.quickD, Go.Sx.indepR, Go.Sx.pairsD, Go.Sx.apartD, Nat.testBit, Go.Sx.Obj.ids, Go.Sx.natL, Go.Sx.optMap, Go.Sx.LV.undef, Go.undef, ltF, hl, hid, hq]
theorem fail_n (k e : Int) (he : e ≠ 0) (hl : H id = some (.cells [.arr qid off len 1 cp ex, .int .i64 e])) (hid : id < nx) (hq : qid < nx) : Ω 44 [.ref id 0, .int .i64 k] H nx =
    some (.tuple [], [], []) := by
  refine om_run (ir := ir44) rfl 0 ?_
  simp [ir44, Go.Sx.runF_S, runCS_skip, runCS_reg, runCS_draw, runCS_seq, runCS_cond, runCS_block, runCS_loop, runCS_exit, runCS_ret, runOpsS_nil, runOpsS_cons, runOpsTS_nil, runOpsTS_cons, Go.Sx.wants, Go.Sx.evOp, Go.Sx.opd, Sx.get, Go.Sx.putD, Sx.keep, Go.Sx.binL, Go.Sx.isSh, binI_add, binI_sub, binI_mul, binI_eql, binI_neq, binI_lss, binI_leq, binI_gtr, binI_geq, Go.Sx.leI_eq, Go.Sx.eqL, unL_not, unL_neg, Go.Sx.resVs, Go.Sx.resV, Go.Sx.oneL, Go.Sx.finish, Go.Sx.frz, Go.Sx.frz.go, Go.Sx.frzL, Go.Sx.frzL.go, Go.Sx.ids, Go.Sx.ids.idsL, Go.Sx.updIds, Go.Sx.reach, Go.Sx.ren, Go.Sx.ren.go, Go.Sx.renU, Go.Sx.renN, Go.Sx.renO, Go.Sx.renId, List.idxOf?_cons, Go.Sx.fillP, Go.Sx.mkAgg, Go.Sx.allP, Go.Sx.LV.cells, Go.Sx.Obj.cells, Go.Sx.splice, Go.Sx.rd, Go.Sx.push, Go.Sx.look, Go.Sx.findU, Go.Sx.setObj, Go.Sx.setU, Go.Sx.setAll, Go.Sx.callO, Go.Sx.slCells, Go.Sx.sliceO, Go.Sx.appO, Value.oneCell', Go.Sx.mmL, Go.Sx.mm2, Go.Sx.gslot, Go.Sx.IROp.slots, Go.Sx.Opd.slots, Go.Sx.indepD, Go.Sx.quickD, Go.Sx.indepR, Go.Sx.pairsD, Go.Sx.apartD, Nat.testBit, Go.Sx.Obj.ids, Go.Sx.natL, Go.Sx.optMap, Go.Sx.LV.undef, Go.undef, ltF, hl, hid, hq, he]
theorem byte_0 (d : List UInt8) (b : UInt8) (r : List UInt8) (hl : H id = some (.cells [.arr qid d.length (r.length + 1) 1 cp ex, .int .i64 0])) (hb : H qid = some (.cells (byt (d ++ b :: r)))) (hid : id < nx) (hq : qid < nx) :
    Ω 43 [.ref id 0] H nx = some (.int .u8 b.toNat, [(id, some (.cells [.arr qid (d.length + 1) r.length 1 (cp - 1) ex, .int .i64 0]))], []) := by
  refine om_run (ir := ir43) rfl 0 ?_
  have hg := get_byt d b r
  have hne : ¬ ((r.length : Int) + 1 = 0) := by omega
  have he := fun H nx => err_ H nx id 0 (.arr qid d.length (r.length + 1) 1 cp ex)
  simp [ir43, Go.Sx.runF_S, runCS_skip, runCS_reg, runCS_draw, runCS_seq, runCS_cond, runCS_block, runCS_loop, runCS_exit, runCS_ret, runOpsS_nil, runOpsS_cons, runOpsTS_nil, runOpsTS_cons, Go.Sx.wants, Go.Sx.evOp, Go.Sx.opd, Sx.get, Go.Sx.putD, Sx.keep, Go.Sx.binL, Go.Sx.isSh, binI_add, binI_sub, binI_mul, binI_eql, binI_neq, binI_lss, binI_leq, binI_gtr, binI_geq, Go.Sx.leI_eq, Go.Sx.eqL, unL_not, unL_neg, Go.Sx.resVs, Go.Sx.resV, Go.Sx.oneL, Go.Sx.finish, Go.Sx.frz, Go.Sx.frz.go, Go.Sx.frzL, Go.Sx.frzL.go, Go.Sx.ids, Go.Sx.ids.idsL, Go.Sx.updIds, Go.Sx.reach, Go.Sx.ren, Go.Sx.ren.go, Go.Sx.renU, Go.Sx.renN, Go.Sx.renO, Go.Sx.renId, List.idxOf?_cons, Go.Sx.fillP, Go.Sx.mkAgg, Go.Sx.allP, Go.Sx.LV.cells, Go.Sx.Obj.cells, Go.Sx.splice, Go.Sx.rd, Go.Sx.push, Go.Sx.look, Go.Sx.findU, Go.Sx.setObj, Go.Sx.setU, Go.Sx.setAll, Go.Sx.callO, Go.Sx.slCells, Go.Sx.sliceO, Go.Sx.appO, Value.oneCell', Go.Sx.mmL, Go.Sx.mm2, Go.Sx.gslot, Go.Sx.IROp.slots, Go.Sx.Opd.slots, Go.Sx.indepD, Go.Sx.quickD, Go.Sx.indepR, Go.Sx.pairsD, Go.Sx.apartD, Nat.testBit, Go.Sx.Obj.ids, Go.Sx.natL, Go.Sx.optMap, Go.Sx.LV.undef, Go.undef, ltF, hl, hid, hq, hb, hg, he, hne]
theorem byte_nil (hl : H id = some (.cells [.arr qid off 0 1 cp ex, .int .i64 0])) (hid : id < nx) (hq : qid < nx) :
    Ω 43 [.ref id 0] H nx = some (.int .u8 0, [(id, some (.cells [.arr qid off 0 1 cp ex, .int .i64 6]))], []) := by
  refine om_run (ir := ir43) rfl 0 ?_
  have he := fun H nx => err_ H nx id 0 (.arr qid off 0 1 cp ex)
  have hf := fun H nx => fail_0 H nx id qid off 0 cp ex 6
  simp [ir43, Go.Sx.runF_S, runCS_skip, runCS_reg, runCS_draw, runCS_seq, runCS_cond, runCS_block, runCS_loop, runCS_exit, runCS_ret, runOpsS_nil, runOpsS_cons, runOpsTS_nil, runOpsTS_cons, Go.Sx.wants, Go.Sx.evOp, Go.Sx.opd, Sx.get, Go.Sx.putD, Sx.keep, Go.Sx.binL, Go.Sx.isSh, binI_add, binI_sub, binI_mul, binI_eql, binI_neq, binI_lss, binI_leq, binI_gtr, binI_geq, Go.Sx.leI_eq, Go.Sx.eqL, unL_not, unL_neg, Go.Sx.resVs, Go.Sx.resV, Go.Sx.oneL, Go.Sx.finish, Go.Sx.frz, Go.Sx.frz.go, Go.Sx.frzL, Go.Sx.frzL.go, Go.Sx.ids, Go.Sx.ids.idsL, Go.Sx.updIds, Go.Sx.reach, Go.Sx.ren, Go.Sx.ren.go, Go.Sx.renU, Go.Sx.renN, Go.Sx.renO, Go.Sx.renId, List.idxOf?_cons, Go.Sx.fillP, Go.Sx.mkAgg, Go.Sx.allP, Go.Sx.LV.cells, Go.Sx.Obj.cells, Go.Sx.splice, Go.Sx.rd, Go.Sx.push, Go.Sx.look, Go.Sx.findU, Go.Sx.setObj, Go.Sx.setU, Go.Sx.setAll, Go.Sx.callO, Go.Sx.slCells, Go.Sx.sliceO, Go.Sx.appO, Value.oneCell', Go.Sx.mmL, Go.Sx.mm2, Go.Sx.gslot, Go.Sx.IROp.slots, Go.Sx.Opd.slots, Go.Sx.indepD, Go.Sx.quickD, Go.Sx.indepR, Go.Sx.pairsD, Go.Sx.apartD, Nat.testBit, Go.Sx.Obj.ids, Go.Sx.natL, Go.Sx.optMap, Go.Sx.LV.undef, Go.undef, ltF, hl, hid, hq, he, hf]
theorem byte_err (e : Int) (h0 : e ≠ 0) (hl : H id = some (.cells [.arr qid off len 1 cp ex, .int .i64 e])) (hid : id < nx) (hq : qid < nx) :
    Ω 43 [.ref id 0] H nx = some (.int .u8 0, [], []) := by
  refine om_run (ir := ir43) rfl 0 ?_
  have he := fun H nx => err_ H nx id e (.arr qid off len 1 cp ex)
  have hf := fun H nx => fail_n H nx id qid off len cp ex 6 e h0
  have h1 : (e != 0) = true := by simp [h0]
  simp [ir43, Go.Sx.runF_S, runCS_skip, runCS_reg, runCS_draw, runCS_seq, runCS_cond, runCS_block, runCS_loop, runCS_exit, runCS_ret, runOpsS_nil, runOpsS_cons, runOpsTS_nil, runOpsTS_cons, Go.Sx.wants, Go.Sx.evOp, Go.Sx.opd, Sx.get, Go.Sx.putD, Sx.keep, Go.Sx.binL, Go.Sx.isSh, binI_add, binI_sub, binI_mul, binI_eql, binI_neq, binI_lss, binI_leq, binI_gtr, binI_geq, Go.Sx.leI_eq, Go.Sx.eqL, unL_not, unL_neg, Go.Sx.resVs, Go.Sx.resV, Go.Sx.oneL, Go.Sx.finish, Go.Sx.frz, Go.Sx.frz.go, Go.Sx.frzL, Go.Sx.frzL.go, Go.Sx.ids, Go.Sx.ids.idsL, Go.Sx.updIds, Go.Sx.reach, Go.Sx.ren, Go.Sx.ren.go, Go.Sx.renU, Go.Sx.renN, Go.Sx.renO, Go.Sx.renId, List.idxOf?_cons, Go.Sx.fillP, Go.Sx.mkAgg, Go.Sx.allP, Go.Sx.LV.cells, Go.Sx.Obj.cells, Go.Sx.splice, Go.Sx.rd, Go.Sx.push, Go.Sx.look, Go.Sx.findU, Go.Sx.setObj, Go.Sx.setU, Go.Sx.setAll, Go.Sx.callO, Go.Sx.slCells, Go.Sx.sliceO, Go.Sx.appO, Value.oneCell', Go.Sx.mmL, Go.Sx.mm2, Go.Sx.gslot, Go.Sx.IROp.slots, Go.Sx.Opd.slots, Go.Sx.indepD, Go.Sx.quickD, Go.Sx.indepR, Go.Sx.pairsD, Go.Sx.apartD, Nat.testBit, Go.Sx.Obj.ids, Go.Sx.natL, Go.Sx.optMap, Go.Sx.LV.undef, Go.undef, ltF, hl, hid, hq, he, hf, h0, h1]
theorem end_0 (hl : H id = some (.cells [.arr qid off 0 1 cp ex, .int .i64 0])) (hid : id < nx) (hq : qid < nx) :
    Ω 30 [.ref id 0] H nx = some (.int .i64 0, [], []) := by
  refine om_run (ir := ir30) rfl 0 ?_
  have he := fun H nx => err_ H nx id 0 (.arr qid off 0 1 cp ex)
  have hf := fun H nx => left_ H nx id qid off 0 cp ex 0
  simp [ir30, Go.Sx.runF_S, runCS_skip, runCS_reg, runCS_draw, runCS_seq, runCS_cond, runCS_block, runCS_loop, runCS_exit, runCS_ret, runOpsS_nil, runOpsS_cons, runOpsTS_nil, runOpsTS_cons, Go.Sx.wants, Go.Sx.evOp, Go.Sx.opd, Sx.get, Go.Sx.putD, Sx.keep, Go.Sx.binL, Go.Sx.isSh, binI_add, binI_sub, binI_mul, binI_eql, binI_neq, binI_lss, binI_leq, binI_gtr, binI_geq, Go.Sx.leI_eq, Go.Sx.eqL, unL_not, unL_neg, Go.Sx.resVs, Go.Sx.resV, Go.Sx.oneL, Go.Sx.finish, Go.Sx.frz, Go.Sx.frz.go, Go.Sx.frzL, Go.Sx.frzL.go, Go.Sx.ids, Go.Sx.ids.idsL, Go.Sx.updIds, Go.Sx.reach, Go.Sx.ren, Go.Sx.ren.go, Go.Sx.renU, Go.Sx.renN, Go.Sx.renO, Go.Sx.renId, List.idxOf?_cons, Go.Sx.fillP, Go.Sx.mkAgg, Go.Sx.allP, Go.Sx.LV.cells, Go.Sx.Obj.cells, Go.Sx.splice, Go.Sx.rd, Go.Sx.push, Go.Sx.look, Go.Sx.findU, Go.Sx.setObj, Go.Sx.setU, Go.Sx.setAll, Go.Sx.callO, Go.Sx.slCells, Go.Sx.sliceO, Go.Sx.appO, Value.oneCell', Go.Sx.mmL, Go.Sx.mm2, Go.Sx.gslot, Go.Sx.IROp.slots, Go.Sx.Opd.slots, Go.Sx.indepD, Go.Sx.quickD, Go.Sx.indepR, Go.Sx.pairsD, Go.Sx.apartD, Nat.testBit, Go.Sx.Obj.ids, Go.Sx.natL, Go.Sx.optMap, Go.Sx.LV.undef, Go.undef, ltF, hl, hid, hq, he, hf]
end in'

theorem not128 : ∀ x : Fin 256, (BitVec.ofInt 8 (x.val : Int) &&& ~~~ BitVec.ofInt 8 128).toNat = x.val % 128 := by decide +kernel
theorem byte_low (b : UInt8) : binI .andNot .u8 b.toNat 128 = some (.int .u8 (b.toNat % 128 : Nat)) := by
  have h1 : binI .andNot .u8 b.toNat 128 = some (.int .u8 (IntKind.u8.wrap (BitVec.ofInt 8 (b.toNat : Int) &&& ~~~ BitVec.ofInt 8 128).toNat)) := rfl
  have h3 := not128 ⟨b.toNat, b.toNat_lt⟩
  simp only at h3
  rw [h1, h3]
  simp [IntKind.wrap, IntKind.signed, IntKind.bits]
  omega
theorem wrap_u64 (n : Nat) (h : n < 2 ^ 64) : IntKind.u64.wrap (n : Int) = n := by
  simp [IntKind.wrap, IntKind.signed, IntKind.bits]
  omega
theorem shl_u64 (n k : Nat) (hk : k ≤ 64) : shI .shl .u64 n k = some (.int .u64 (n * 2 ^ k % 2 ^ 64 : Nat)) := by
  have : shI .shl .u64 (n : Int) k = some (.int .u64 (IntKind.u64.wrap ((n : Int) * (2 ^ (min k 64))))) := by
    simp only [shI]
    rw [if_neg (by omega)]
    rfl
  rw [this, Nat.min_eq_left hk]
  simp [IntKind.wrap, IntKind.signed, IntKind.bits]
theorem or_u64 (x y : Nat) (hx : x < 2 ^ 64) (hy : y < 2 ^ 64) : binI .or .u64 x y = some (.int .u64 (x ||| y : Nat)) := by
  have : binI .or .u64 (x : Int) (y : Int) = some (.int .u64 (IntKind.u64.wrap (BitVec.ofInt 64 (x : Int) ||| BitVec.ofInt 64 (y : Int)).toNat)) := rfl
  rw [this, BitVec.ofInt_natCast, BitVec.ofInt_natCast, BitVec.toNat_or, BitVec.toNat_ofNat, BitVec.toNat_ofNat, Nat.mod_eq_of_lt hx, Nat.mod_eq_of_lt hy, wrap_u64 _ (Nat.or_lt_two_pow hx hy)]

section rnum
variable {c : Ctx}
set_option maxHeartbeats 1000000 in
theorem rnum_step {N : Nat} {h : Hp} {id qid cp i n L : Nat} {ex : Bool} {d r : List UInt8} {b : UInt8} (hid : Go.Sx.look c.H c.nx h id = some (.cells [.arr qid d.length L 1 cp ex, .int .i64 0])) (hq : Go.Sx.look c.H c.nx h qid = some (.cells (byt (d ++ r)))) (hL : r.length = L) (h30 : L < 2 ^ 31)
    (hb : r[i]? = some b) (hi : i ≤ 9) (hn : n < 2 ^ 64) :
    runCS c N ir45_0 ⟨[(0, .ref id 0), (3, .int .u64 n), (12, .arr qid d.length L 1 cp ex), (13, .int .i64 L), (14, .int .i64 i)], h⟩ =
      if (i = 9 ∧ 1 < b.toNat) ∨ (b = 0 ∧ 0 < i) then some (.exit 0, ⟨[(0, .ref id 0), (3, .int .u64 n), (4, .int .i64 i), (5, .int .u8 b.toNat), (12, .arr qid d.length L 1 cp ex), (13, .int .i64 L), (14, .int .i64 i), (32, .bool true)], h⟩)
      else if b.toNat < 128 then some (.ret, ⟨[(2, .int .u64 (n ||| (b.toNat % 128 * 2 ^ (7 * i)) % 2 ^ 64 : Nat))], Go.Sx.setObj c.nx h id (some (.cells [.arr qid (d.length + (i + 1)) (L - (i + 1)) 1 (cp - (i + 1)) ex, .int .i64 0]))⟩)
      else some (.normal, ⟨[(0, .ref id 0), (3, .int .u64 (n ||| (b.toNat % 128 * 2 ^ (7 * i)) % 2 ^ 64 : Nat)), (12, .arr qid d.length L 1 cp ex), (13, .int .i64 L), (14, .int .i64 (i + 1 : Nat))], h⟩) := by
  obtain ⟨hlt, hv⟩ := List.getElem?_eq_some_iff.1 hb
  have hc : (byt (d ++ r))[d.length + i]? = some (.int .u8 b.toNat) := by
    rw [byt_app, List.getElem?_append_right (by rw [byt_len]; omega), byt_len, Nat.add_sub_cancel_left]
    simp [byt, hb]
  have hsh := shl_u64 (b.toNat % 128) (7 * i) (by omega)
  have hor := or_u64 n (b.toNat % 128 * 2 ^ (7 * i) % 2 ^ 64) hn (Nat.mod_lt _ (by decide))
  have hw1 : IntKind.i64.wrap ((i : Int) + 1) = (i : Int) + 1 := wrap_i64 _ (by omega) (by omega)
  have hw2 : IntKind.i64.wrap (7 * (i : Int)) = 7 * (i : Int) := wrap_i64 _ (by omega) (by omega)
  have hlow := byte_low b
  have hw3 : IntKind.u64.wrap ((b.toNat % 128 : Nat) : Int) = ((b.toNat % 128 : Nat) : Int) := wrap_u64 _ (by omega)
  have g1 : leI (L : Int) i = false := by rw [leI_eq]; simp; omega
  have g2 : i < L := by omega
  generalize n ||| b.toNat % 128 * 2 ^ (7 * i) % 2 ^ 64 = z at *
  generalize b.toNat % 128 * 2 ^ (7 * i) % 2 ^ 64 = y at *
  generalize b.toNat % 128 = lo at *
  rw [show ((7 * i : Nat) : Int) = 7 * (i : Int) by omega] at hsh
  have hL1 : i + 1 ≤ L := by omega
  have hge : (0 : Int) ≤ (i : Int) + 1 := by omega
  by_cases h9 : i = 9
  · have e1 : ((i : Int) == 9) = true := by simp; omega
    by_cases h1 : b.toNat ≤ 1
    · have e2 : leI (b.toNat : Int) 1 = true := by rw [leI_eq]; simp; omega
      by_cases h0 : b = 0
      · have e3 : ((b.toNat : Int) == 0) = true := by simp [h0]
        have e4 : leI (i : Int) 0 = false := by rw [leI_eq]; simp; omega
        rw [if_pos (.inr ⟨h0, by omega⟩)]
        simp [ir45_0, Go.Sx.runF_S, runCS_skip, runCS_reg, runCS_draw, runCS_seq, runCS_cond, runCS_block, runCS_loop, runCS_exit, runCS_ret, runOpsS_nil, runOpsS_cons, runOpsTS_nil, runOpsTS_cons, Go.Sx.wants, Go.Sx.evOp, Go.Sx.opd, Sx.get, Go.Sx.putD, Sx.keep, Go.Sx.binL, Go.Sx.isSh, binI_add, binI_sub, binI_mul, binI_eql, binI_neq, binI_lss, binI_leq, binI_gtr, binI_geq, Go.Sx.eqL, unL_not, unL_neg, Go.Sx.resVs, Go.Sx.resV, Go.Sx.oneL, Go.Sx.finish, Go.Sx.frz, Go.Sx.frz.go, Go.Sx.frzL, Go.Sx.frzL.go, Go.Sx.ids, Go.Sx.ids.idsL, Go.Sx.updIds, Go.Sx.reach, Go.Sx.ren, Go.Sx.ren.go, Go.Sx.renU, Go.Sx.renN, Go.Sx.renO, Go.Sx.renId, List.idxOf?_cons, Go.Sx.fillP, Go.Sx.mkAgg, Go.Sx.allP, Go.Sx.LV.cells, Go.Sx.Obj.cells, Go.Sx.splice, Go.Sx.rd, Go.Sx.findU, Go.Sx.setAll, Go.Sx.callO, Go.Sx.slCells, Go.Sx.sliceO, Value.oneCell', Go.Sx.mmL, Go.Sx.mm2, Go.Sx.gslot, Go.Sx.IROp.slots, Go.Sx.Opd.slots, Go.Sx.indepD, Go.Sx.quickD, Go.Sx.indepR, Go.Sx.pairsD, Go.Sx.apartD, Nat.testBit, Go.Sx.Obj.ids, Go.Sx.natL, Go.Sx.optMap, Go.Sx.LV.undef, Go.undef, ltF, g1, g2, hc, hq, hid, hlow, hw1, hw2, hw3, hsh, hor, hL1, hge, e1, e2, e3, e4]
      · have e3 : ((b.toNat : Int) == 0) = false := by simp; intro h; exact h0 (UInt8.toNat_inj.1 (by simpa using h))
        have e5 : leI 128 (b.toNat : Int) = false := by rw [leI_eq]; simp; omega
        rw [if_neg (by rintro (⟨_, h⟩ | ⟨h, _⟩); omega; exact h0 h), if_pos (by omega)]
        simp [ir45_0, Go.Sx.runF_S, runCS_skip, runCS_reg, runCS_draw, runCS_seq, runCS_cond, runCS_block, runCS_loop, runCS_exit, runCS_ret, runOpsS_nil, runOpsS_cons, runOpsTS_nil, runOpsTS_cons, Go.Sx.wants, Go.Sx.evOp, Go.Sx.opd, Sx.get, Go.Sx.putD, Sx.keep, Go.Sx.binL, Go.Sx.isSh, binI_add, binI_sub, binI_mul, binI_eql, binI_neq, binI_lss, binI_leq, binI_gtr, binI_geq, Go.Sx.eqL, unL_not, unL_neg, Go.Sx.resVs, Go.Sx.resV, Go.Sx.oneL, Go.Sx.finish, Go.Sx.frz, Go.Sx.frz.go, Go.Sx.frzL, Go.Sx.frzL.go, Go.Sx.ids, Go.Sx.ids.idsL, Go.Sx.updIds, Go.Sx.reach, Go.Sx.ren, Go.Sx.ren.go, Go.Sx.renU, Go.Sx.renN, Go.Sx.renO, Go.Sx.renId, List.idxOf?_cons, Go.Sx.fillP, Go.Sx.mkAgg, Go.Sx.allP, Go.Sx.LV.cells, Go.Sx.Obj.cells, Go.Sx.splice, Go.Sx.rd, Go.Sx.findU, Go.Sx.setAll, Go.Sx.callO, Go.Sx.slCells, Go.Sx.sliceO, Value.oneCell', Go.Sx.mmL, Go.Sx.mm2, Go.Sx.gslot, Go.Sx.IROp.slots, Go.Sx.Opd.slots, Go.Sx.indepD, Go.Sx.quickD, Go.Sx.indepR, Go.Sx.pairsD, Go.Sx.apartD, Nat.testBit, Go.Sx.Obj.ids, Go.Sx.natL, Go.Sx.optMap, Go.Sx.LV.undef, Go.undef, ltF, g1, g2, hc, hq, hid, hlow, hw1, hw2, hw3, hsh, hor, hL1, hge, e1, e2, e3, e5]
    · have e2 : leI (b.toNat : Int) 1 = false := by rw [leI_eq]; simp; omega
      rw [if_pos (.inl ⟨h9, by omega⟩)]
      simp [ir45_0, Go.Sx.runF_S, runCS_skip, runCS_reg, runCS_draw, runCS_seq, runCS_cond, runCS_block, runCS_loop, runCS_exit, runCS_ret, runOpsS_nil, runOpsS_cons, runOpsTS_nil, runOpsTS_cons, Go.Sx.wants, Go.Sx.evOp, Go.Sx.opd, Sx.get, Go.Sx.putD, Sx.keep, Go.Sx.binL, Go.Sx.isSh, binI_add, binI_sub, binI_mul, binI_eql, binI_neq, binI_lss, binI_leq, binI_gtr, binI_geq, Go.Sx.eqL, unL_not, unL_neg, Go.Sx.resVs, Go.Sx.resV, Go.Sx.oneL, Go.Sx.finish, Go.Sx.frz, Go.Sx.frz.go, Go.Sx.frzL, Go.Sx.frzL.go, Go.Sx.ids, Go.Sx.ids.idsL, Go.Sx.updIds, Go.Sx.reach, Go.Sx.ren, Go.Sx.ren.go, Go.Sx.renU, Go.Sx.renN, Go.Sx.renO, Go.Sx.renId, List.idxOf?_cons, Go.Sx.fillP, Go.Sx.mkAgg, Go.Sx.allP, Go.Sx.LV.cells, Go.Sx.Obj.cells, Go.Sx.splice, Go.Sx.rd, Go.Sx.findU, Go.Sx.setAll, Go.Sx.callO, Go.Sx.slCells, Go.Sx.sliceO, Value.oneCell', Go.Sx.mmL, Go.Sx.mm2, Go.Sx.gslot, Go.Sx.IROp.slots, Go.Sx.Opd.slots, Go.Sx.indepD, Go.Sx.quickD, Go.Sx.indepR, Go.Sx.pairsD, Go.Sx.apartD, Nat.testBit, Go.Sx.Obj.ids, Go.Sx.natL, Go.Sx.optMap, Go.Sx.LV.undef, Go.undef, ltF, g1, g2, hc, hq, hid, hlow, hw1, hw2, hw3, hsh, hor, hL1, hge, e1, e2]
  · have e1 : ((i : Int) == 9) = false := by simp; omega
    by_cases h0 : b = 0
    · have e3 : ((b.toNat : Int) == 0) = true := by simp [h0]
      have e5 : leI 128 (b.toNat : Int) = false := by rw [leI_eq, h0]; decide
      by_cases hi0 : i = 0
      · have e4 : leI (i : Int) 0 = true := by rw [leI_eq]; simp; omega
        rw [if_neg (by rintro (⟨h, _⟩ | ⟨_, h⟩); exact h9 h; omega), if_pos (by rw [h0]; decide)]
        simp [ir45_0, Go.Sx.runF_S, runCS_skip, runCS_reg, runCS_draw, runCS_seq, runCS_cond, runCS_block, runCS_loop, runCS_exit, runCS_ret, runOpsS_nil, runOpsS_cons, runOpsTS_nil, runOpsTS_cons, Go.Sx.wants, Go.Sx.evOp, Go.Sx.opd, Sx.get, Go.Sx.putD, Sx.keep, Go.Sx.binL, Go.Sx.isSh, binI_add, binI_sub, binI_mul, binI_eql, binI_neq, binI_lss, binI_leq, binI_gtr, binI_geq, Go.Sx.eqL, unL_not, unL_neg, Go.Sx.resVs, Go.Sx.resV, Go.Sx.oneL, Go.Sx.finish, Go.Sx.frz, Go.Sx.frz.go, Go.Sx.frzL, Go.Sx.frzL.go, Go.Sx.ids, Go.Sx.ids.idsL, Go.Sx.updIds, Go.Sx.reach, Go.Sx.ren, Go.Sx.ren.go, Go.Sx.renU, Go.Sx.renN, Go.Sx.renO, Go.Sx.renId, List.idxOf?_cons, Go.Sx.fillP, Go.Sx.mkAgg, Go.Sx.allP, Go.Sx.LV.cells, Go.Sx.Obj.cells, Go.Sx.splice, Go.Sx.rd, Go.Sx.findU, Go.Sx.setAll, Go.Sx.callO, Go.Sx.slCells, Go.Sx.sliceO, Value.oneCell', Go.Sx.mmL, Go.Sx.mm2, Go.Sx.gslot, Go.Sx.IROp.slots, Go.Sx.Opd.slots, Go.Sx.indepD, Go.Sx.quickD, Go.Sx.indepR, Go.Sx.pairsD, Go.Sx.apartD, Nat.testBit, Go.Sx.Obj.ids, Go.Sx.natL, Go.Sx.optMap, Go.Sx.LV.undef, Go.undef, ltF, g1, g2, hc, hq, hid, hlow, hw1, hw2, hw3, hsh, hor, hL1, hge, e1, e3, e4, e5]
      · have e4 : leI (i : Int) 0 = false := by rw [leI_eq]; simp; omega
        rw [if_pos (.inr ⟨h0, by omega⟩)]
        simp [ir45_0, Go.Sx.runF_S, runCS_skip, runCS_reg, runCS_draw, runCS_seq, runCS_cond, runCS_block, runCS_loop, runCS_exit, runCS_ret, runOpsS_nil, runOpsS_cons, runOpsTS_nil, runOpsTS_cons, Go.Sx.wants, Go.Sx.evOp, Go.Sx.opd, Sx.get, Go.Sx.putD, Sx.keep, Go.Sx.binL, Go.Sx.isSh, binI_add, binI_sub, binI_mul, binI_eql, binI_neq, binI_lss, binI_leq, binI_gtr, binI_geq, Go.Sx.eqL, unL_not, unL_neg, Go.Sx.resVs, Go.Sx.resV, Go.Sx.oneL, Go.Sx.finish, Go.Sx.frz, Go.Sx.frz.go, Go.Sx.frzL, Go.Sx.frzL.go, Go.Sx.ids, Go.Sx.ids.idsL, Go.Sx.updIds, Go.Sx.reach, Go.Sx.ren, Go.Sx.ren.go, Go.Sx.renU, Go.Sx.renN, Go.Sx.renO, Go.Sx.renId, List.idxOf?_cons, Go.Sx.fillP, Go.Sx.mkAgg, Go.Sx.allP, Go.Sx.LV.cells, Go.Sx.Obj.cells, Go.Sx.splice, Go.Sx.rd, Go.Sx.findU, Go.Sx.setAll, Go.Sx.callO, Go.Sx.slCells, Go.Sx.sliceO, Value.oneCell', Go.Sx.mmL, Go.Sx.mm2, Go.Sx.gslot, Go.Sx.IROp.slots, Go.Sx.Opd.slots, Go.Sx.indepD, Go.Sx.quickD, Go.Sx.indepR, Go.Sx.pairsD, Go.Sx.apartD, Nat.testBit, Go.Sx.Obj.ids, Go.Sx.natL, Go.Sx.optMap, Go.Sx.LV.undef, Go.undef, ltF, g1, g2, hc, hq, hid, hlow, hw1, hw2, hw3, hsh, hor, hL1, hge, e1, e3, e4]
    · have e3 : ((b.toNat : Int) == 0) = false := by simp; intro h; exact h0 (UInt8.toNat_inj.1 (by simpa using h))
      by_cases h128 : b.toNat < 128
      · have e5 : leI 128 (b.toNat : Int) = false := by rw [leI_eq]; simp; omega
        rw [if_neg (by rintro (⟨h, _⟩ | ⟨h, _⟩); exact h9 h; exact h0 h), if_pos h128]
        simp [ir45_0, Go.Sx.runF_S, runCS_skip, runCS_reg, runCS_draw, runCS_seq, runCS_cond, runCS_block, runCS_loop, runCS_exit, runCS_ret, runOpsS_nil, runOpsS_cons, runOpsTS_nil, runOpsTS_cons, Go.Sx.wants, Go.Sx.evOp, Go.Sx.opd, Sx.get, Go.Sx.putD, Sx.keep, Go.Sx.binL, Go.Sx.isSh, binI_add, binI_sub, binI_mul, binI_eql, binI_neq, binI_lss, binI_leq, binI_gtr, binI_geq, Go.Sx.eqL, unL_not, unL_neg, Go.Sx.resVs, Go.Sx.resV, Go.Sx.oneL, Go.Sx.finish, Go.Sx.frz, Go.Sx.frz.go, Go.Sx.frzL, Go.Sx.frzL.go, Go.Sx.ids, Go.Sx.ids.idsL, Go.Sx.updIds, Go.Sx.reach, Go.Sx.ren, Go.Sx.ren.go, Go.Sx.renU, Go.Sx.renN, Go.Sx.renO, Go.Sx.renId, List.idxOf?_cons, Go.Sx.fillP, Go.Sx.mkAgg, Go.Sx.allP, Go.Sx.LV.cells, Go.Sx.Obj.cells, Go.Sx.splice, Go.Sx.rd, Go.Sx.findU, Go.Sx.setAll, Go.Sx.callO, Go.Sx.slCells, Go.Sx.sliceO, Value.oneCell', Go.Sx.mmL, Go.Sx.mm2, Go.Sx.gslot, Go.Sx.IROp.slots, Go.Sx.Opd.slots, Go.Sx.indepD, Go.Sx.quickD, Go.Sx.indepR, Go.Sx.pairsD, Go.Sx.apartD, Nat.testBit, Go.Sx.Obj.ids, Go.Sx.natL, Go.Sx.optMap, Go.Sx.LV.undef, Go.undef, ltF, g1, g2, hc, hq, hid, hlow, hw1, hw2, hw3, hsh, hor, hL1, hge, e1, e3, e5]
      · have e5 : leI 128 (b.toNat : Int) = true := by rw [leI_eq]; simp; omega
        rw [if_neg (by rintro (⟨h, _⟩ | ⟨h, _⟩); exact h9 h; exact h0 h), if_neg h128]
        simp [ir45_0, Go.Sx.runF_S, runCS_skip, runCS_reg, runCS_draw, runCS_seq, runCS_cond, runCS_block, runCS_loop, runCS_exit, runCS_ret, runOpsS_nil, runOpsS_cons, runOpsTS_nil, runOpsTS_cons, Go.Sx.wants, Go.Sx.evOp, Go.Sx.opd, Sx.get, Go.Sx.putD, Sx.keep, Go.Sx.binL, Go.Sx.isSh, binI_add, binI_sub, binI_mul, binI_eql, binI_neq, binI_lss, binI_leq, binI_gtr, binI_geq, Go.Sx.eqL, unL_not, unL_neg, Go.Sx.resVs, Go.Sx.resV, Go.Sx.oneL, Go.Sx.finish, Go.Sx.frz, Go.Sx.frz.go, Go.Sx.frzL, Go.Sx.frzL.go, Go.Sx.ids, Go.Sx.ids.idsL, Go.Sx.updIds, Go.Sx.reach, Go.Sx.ren, Go.Sx.ren.go, Go.Sx.renU, Go.Sx.renN, Go.Sx.renO, Go.Sx.renId, List.idxOf?_cons, Go.Sx.fillP, Go.Sx.mkAgg, Go.Sx.allP, Go.Sx.LV.cells, Go.Sx.Obj.cells, Go.Sx.splice, Go.Sx.rd, Go.Sx.findU, Go.Sx.setAll, Go.Sx.callO, Go.Sx.slCells, Go.Sx.sliceO, Value.oneCell', Go.Sx.mmL, Go.Sx.mm2, Go.Sx.gslot, Go.Sx.IROp.slots, Go.Sx.Opd.slots, Go.Sx.indepD, Go.Sx.quickD, Go.Sx.indepR, Go.Sx.pairsD, Go.Sx.apartD, Nat.testBit, Go.Sx.Obj.ids, Go.Sx.natL, Go.Sx.optMap, Go.Sx.LV.undef, Go.undef, ltF, g1, g2, hc, hq, hid, hlow, hw1, hw2, hw3, hsh, hor, hL1, hge, e1, e3, e5]

theorem rnum_end {N : Nat} {h : Hp} {x y z : LV} {L : Nat} :
    runCS c N ir45_0 ⟨[(0, x), (3, y), (12, z), (13, .int .i64 L), (14, .int .i64 L)], h⟩ = some (.exit 0, ⟨[(0, x), (3, y), (12, z), (13, .int .i64 L), (14, .int .i64 L), (15, .bool false)], h⟩) := by
  simp [ir45_0, Go.Sx.runF_S, runCS_skip, runCS_reg, runCS_draw, runCS_seq, runCS_cond, runCS_block, runCS_loop, runCS_exit, runCS_ret, runOpsS_nil, runOpsS_cons, runOpsTS_nil, runOpsTS_cons, Go.Sx.wants, Go.Sx.evOp, Go.Sx.opd, Sx.get, Go.Sx.putD, Sx.keep, Go.Sx.binL, Go.Sx.isSh, binI_add, binI_sub, binI_mul, binI_eql, binI_neq, binI_lss, binI_leq, binI_gtr, binI_geq, Go.Sx.leI_eq, Go.Sx.eqL, unL_not, unL_neg, Go.Sx.resVs, Go.Sx.resV, Go.Sx.oneL, Go.Sx.finish, Go.Sx.frz, Go.Sx.frz.go, Go.Sx.frzL, Go.Sx.frzL.go, Go.Sx.ids, Go.Sx.ids.idsL, Go.Sx.updIds, Go.Sx.reach, Go.Sx.ren, Go.Sx.ren.go, Go.Sx.renU, Go.Sx.renN, Go.Sx.renO, Go.Sx.renId, List.idxOf?_cons, Go.Sx.fillP, Go.Sx.mkAgg, Go.Sx.allP, Go.Sx.LV.cells, Go.Sx.Obj.cells, Go.Sx.splice, Go.Sx.rd, Go.Sx.findU, Go.Sx.setAll, Go.Sx.callO, Go.Sx.slCells, Go.Sx.sliceO, Value.oneCell', Go.Sx.mmL, Go.Sx.mm2, Go.Sx.gslot, Go.Sx.IROp.slots, Go.Sx.Opd.slots, Go.Sx.indepD, Go.Sx.quickD, Go.Sx.indepR, Go.Sx.pairsD, Go.Sx.apartD, Nat.testBit, Go.Sx.Obj.ids, Go.Sx.natL, Go.Sx.optMap, Go.Sx.LV.undef, Go.undef, ltF]

theorem rnum_loop {N : Nat} {h : Hp} {id qid cp L : Nat} {ex : Bool} {d r : List UInt8} (hid : Go.Sx.look c.H c.nx h id = some (.cells [.arr qid d.length L 1 cp ex, .int .i64 0])) (hq : Go.Sx.look c.H c.nx h qid = some (.cells (byt (d ++ r)))) (hL : r.length = L) (h30 : L < 2 ^ 31) :
    ∀ (l : List UInt8) (i n m : Nat), r.drop i = l → l.length < m → i + l.length = L → (i ≤ 9 ∨ l = []) → n < 2 ^ 64 →
    (∀ v rest, rnum i n l = some (v, rest) → iter (runCS c N ir45_0) m ⟨[(0, .ref id 0), (3, .int .u64 n), (12, .arr qid d.length L 1 cp ex), (13, .int .i64 L), (14, .int .i64 i)], h⟩ =
      some (.ret, ⟨[(2, .int .u64 v)], Go.Sx.setObj c.nx h id (some (.cells [.arr qid (d.length + (L - rest.length)) rest.length 1 (cp - (L - rest.length)) ex, .int .i64 0]))⟩)) ∧
    (rnum i n l = none → ∃ env, get env 0 = .ref id 0 ∧ iter (runCS c N ir45_0) m ⟨[(0, .ref id 0), (3, .int .u64 n), (12, .arr qid d.length L 1 cp ex), (13, .int .i64 L), (14, .int .i64 i)], h⟩ = some (.exit 0, ⟨env, h⟩)) := by
  intro l
  induction l with
  | nil =>
    intro i n m hd hm hi _ _
    obtain ⟨m, rfl⟩ : ∃ q, m = q + 1 := ⟨m - 1, by omega⟩
    obtain rfl : i = L := by simpa using hi
    exact ⟨fun v rest h => by simp [rnum] at h, fun _ => ⟨_, rfl, iter_out rnum_end (by simp)⟩⟩
  | cons b l ih =>
    intro i n m hd hm hi h9 hn
    obtain ⟨m, rfl⟩ : ∃ q, m = q + 1 := ⟨m - 1, by omega⟩
    have h9 : i ≤ 9 := by
      rcases h9 with h | h
      · exact h
      · cases h
    rw [List.length_cons] at hi hm
    have hb : r[i]? = some b := by
      have : (r.drop i)[0]? = some b := by rw [hd]; rfl
      simpa using this
    have hs := rnum_step (N := N) hid hq hL h30 hb h9 hn
    rw [rnum]
    by_cases hc : (i = 9 ∧ 1 < b.toNat) ∨ (b = 0 ∧ 0 < i)
    · rw [if_pos hc]
      rw [if_pos hc] at hs
      exact ⟨fun v rest h => by simp at h, fun _ => ⟨_, rfl, iter_out hs (by simp)⟩⟩
    · rw [if_neg hc]
      rw [if_neg hc] at hs
      by_cases h128 : b.toNat < 128
      · rw [if_pos h128]
        rw [if_pos h128] at hs
        refine ⟨fun v rest h => ?_, fun h => by simp at h⟩
        obtain ⟨rfl, rfl⟩ := Prod.mk.inj (Option.some.inj h)
        have e1 : L - l.length = i + 1 := by omega
        have e2 : L - (i + 1) = l.length := by omega
        rw [e2] at hs
        rw [e1]
        exact iter_out hs (by simp)
      · rw [if_neg h128]
        rw [if_neg h128] at hs
        rw [iter_step hs]
        have hi9 : i ≠ 9 := fun h => hc (.inl ⟨h, by omega⟩)
        have hlt : n ||| b.toNat % 128 * 2 ^ (7 * i) % 2 ^ 64 < 2 ^ 64 := Nat.or_lt_two_pow hn (Nat.mod_lt _ (by decide))
        exact ih (i + 1) _ m (by rw [← List.drop_drop, hd]; rfl) (by omega) (by omega) (.inl (by omega)) hlt
end rnum

section getnum
variable (H : Heap) (nx id qid cp : Nat) (ex : Bool)
theorem getnum_ok (d r rest : List UInt8) (v : Nat) (hr : rnum 0 0 r = some (v, rest)) (h30 : r.length < 2 ^ 31) (hl : H id = some (.cells [.arr qid d.length r.length 1 cp ex, .int .i64 0])) (hb : H qid = some (.cells (byt (d ++ r)))) (hid : id < nx) (hq : qid < nx) :
    Ω 45 [.ref id 0] H nx = some (.int .u64 v, [(id, some (.cells [.arr qid (d.length + (r.length - rest.length)) rest.length 1 (cp - (r.length - rest.length)) ex, .int .i64 0]))], []) := by
  refine om_run (ir := ir45) rfl (r.length + 1) ?_
  have he := fun H nx => err_ H nx id 0 (.arr qid d.length r.length 1 cp ex)
  have hs := (rnum_loop (c := ⟨Ω, noG, H, nx⟩) (N := r.length + 1) (h := ⟨[], []⟩) (id := id) (qid := qid) (cp := cp) (ex := ex) (d := d) (r := r) (L := r.length) (by simp [Go.Sx.look, findU, hid, hl]) (by simp [Go.Sx.look, findU, hq, hb]) rfl h30 r 0 0 (r.length + 1) rfl (by omega) (by omega) (.inl (by omega)) (by decide)).1 v rest hr
  simp only [Int.natCast_zero, Int.ofNat_zero] at hs
  simp [ir45, Go.Sx.runF_S, runCS_skip, runCS_reg, runCS_draw, runCS_seq, runCS_cond, runCS_block, runCS_loop, runCS_exit, runCS_ret, runOpsS_nil, runOpsS_cons, runOpsTS_nil, runOpsTS_cons, Go.Sx.wants, Go.Sx.evOp, Go.Sx.opd, Sx.get, Go.Sx.putD, Sx.keep, Go.Sx.binL, Go.Sx.isSh, binI_add, binI_sub, binI_mul, binI_eql, binI_neq, binI_lss, binI_leq, binI_gtr, binI_geq, Go.Sx.leI_eq, Go.Sx.eqL, unL_not, unL_neg, Go.Sx.resVs, Go.Sx.resV, Go.Sx.oneL, Go.Sx.finish, Go.Sx.frz, Go.Sx.frz.go, Go.Sx.frzL, Go.Sx.frzL.go, Go.Sx.ids, Go.Sx.ids.idsL, Go.Sx.updIds, Go.Sx.reach, Go.Sx.ren, Go.Sx.ren.go, Go.Sx.renU, Go.Sx.renN, Go.Sx.renO, Go.Sx.renId, List.idxOf?_cons, Go.Sx.fillP, Go.Sx.mkAgg, Go.Sx.allP, Go.Sx.LV.cells, Go.Sx.Obj.cells, Go.Sx.splice, Go.Sx.rd, Go.Sx.push, Go.Sx.look, Go.Sx.findU, Go.Sx.setObj, Go.Sx.setU, Go.Sx.setAll, Go.Sx.callO, Go.Sx.slCells, Go.Sx.sliceO, Go.Sx.appO, Value.oneCell', Go.Sx.mmL, Go.Sx.mm2, Go.Sx.gslot, Go.Sx.IROp.slots, Go.Sx.Opd.slots, Go.Sx.indepD, Go.Sx.quickD, Go.Sx.indepR, Go.Sx.pairsD, Go.Sx.apartD, Nat.testBit, Go.Sx.Obj.ids, Go.Sx.natL, Go.Sx.optMap, Go.Sx.LV.undef, Go.undef, ltF, hl, hid, hq, he, hs]
theorem getnum_bad (d r : List UInt8) (hr : rnum 0 0 r = none) (h30 : r.length < 2 ^ 31) (hl : H id = some (.cells [.arr qid d.length r.length 1 cp ex, .int .i64 0])) (hb : H qid = some (.cells (byt (d ++ r)))) (hid : id < nx) (hq : qid < nx) :
    Ω 45 [.ref id 0] H nx = some (.int .u64 0, [(id, some (.cells [.arr qid d.length r.length 1 cp ex, .int .i64 6]))], []) := by
  refine om_run (ir := ir45) rfl (r.length + 1) ?_
  have he := fun H nx => err_ H nx id 0 (.arr qid d.length r.length 1 cp ex)
  have hf := fun H nx => fail_0 H nx id qid d.length r.length cp ex 6
  obtain ⟨env, e1, e2⟩ := (rnum_loop (c := ⟨Ω, noG, H, nx⟩) (N := r.length + 1) (h := ⟨[], []⟩) (id := id) (qid := qid) (cp := cp) (ex := ex) (d := d) (r := r) (L := r.length) (by simp [Go.Sx.look, findU, hid, hl]) (by simp [Go.Sx.look, findU, hq, hb]) rfl h30 r 0 0 (r.length + 1) rfl (by omega) (by omega) (.inl (by omega)) (by decide)).2 hr
  simp only [Int.natCast_zero, Int.ofNat_zero] at e2
  simp [ir45, Go.Sx.runF_S, runCS_skip, runCS_reg, runCS_draw, runCS_seq, runCS_cond, runCS_block, runCS_loop, runCS_exit, runCS_ret, runOpsS_nil, runOpsS_cons, runOpsTS_nil, runOpsTS_cons, Go.Sx.wants, Go.Sx.evOp, Go.Sx.opd, Sx.get, Go.Sx.putD, Sx.keep, Go.Sx.binL, Go.Sx.isSh, binI_add, binI_sub, binI_mul, binI_eql, binI_neq, binI_lss, binI_leq, binI_gtr, binI_geq, Go.Sx.leI_eq, Go.Sx.eqL, unL_not, unL_neg, Go.Sx.resVs, Go.Sx.resV, Go.Sx.oneL, Go.Sx.finish, Go.Sx.frz, Go.Sx.frz.go, Go.Sx.frzL, Go.Sx.frzL.go, Go.Sx.ids, Go.Sx.ids.idsL, Go.Sx.updIds, Go.Sx.reach, Go.Sx.ren, Go.Sx.ren.go, Go.Sx.renU, Go.Sx.renN, Go.Sx.renO, Go.Sx.renId, List.idxOf?_cons, Go.Sx.fillP, Go.Sx.mkAgg, Go.Sx.allP, Go.Sx.LV.cells, Go.Sx.Obj.cells, Go.Sx.splice, Go.Sx.rd, Go.Sx.push, Go.Sx.look, Go.Sx.findU, Go.Sx.setObj, Go.Sx.setU, Go.Sx.setAll, Go.Sx.callO, Go.Sx.slCells, Go.Sx.sliceO, Go.Sx.appO, Value.oneCell', Go.Sx.mmL, Go.Sx.mm2, Go.Sx.gslot, Go.Sx.IROp.slots, Go.Sx.Opd.slots, Go.Sx.indepD, Go.Sx.quickD, Go.Sx.indepR, Go.Sx.pairsD, Go.Sx.apartD, Nat.testBit, Go.Sx.Obj.ids, Go.Sx.natL, Go.Sx.optMap, Go.Sx.LV.undef, Go.undef, ltF, hl, hid, hq, he, e1, e2, hf]
theorem getnum_err (e : Int) (off len : Nat) (h0 : e ≠ 0) (hl : H id = some (.cells [.arr qid off len 1 cp ex, .int .i64 e])) (hid : id < nx) (hq : qid < nx) :
    Ω 45 [.ref id 0] H nx = some (.int .u64 0, [], []) := by
  refine om_run (ir := ir45) rfl 0 ?_
  have he := fun H nx => err_ H nx id e (.arr qid off len 1 cp ex)
  have h1 : (e != 0) = true := by simp [h0]
  simp [ir45, Go.Sx.runF_S, runCS_skip, runCS_reg, runCS_draw, runCS_seq, runCS_cond, runCS_block, runCS_loop, runCS_exit, runCS_ret, runOpsS_nil, runOpsS_cons, runOpsTS_nil, runOpsTS_cons, Go.Sx.wants, Go.Sx.evOp, Go.Sx.opd, Sx.get, Go.Sx.putD, Sx.keep, Go.Sx.binL, Go.Sx.isSh, binI_add, binI_sub, binI_mul, binI_eql, binI_neq, binI_lss, binI_leq, binI_gtr, binI_geq, Go.Sx.leI_eq, Go.Sx.eqL, unL_not, unL_neg, Go.Sx.resVs, Go.Sx.resV, Go.Sx.oneL, Go.Sx.finish, Go.Sx.frz, Go.Sx.frz.go, Go.Sx.frzL, Go.Sx.frzL.go, Go.Sx.ids, Go.Sx.ids.idsL, Go.Sx.updIds, Go.Sx.reach, Go.Sx.ren, Go.Sx.ren.go, Go.Sx.renU, Go.Sx.renN, Go.Sx.renO, Go.Sx.renId, List.idxOf?_cons, Go.Sx.fillP, Go.Sx.mkAgg, Go.Sx.allP, Go.Sx.LV.cells, Go.Sx.Obj.cells, Go.Sx.splice, Go.Sx.rd, Go.Sx.push, Go.Sx.look, Go.Sx.findU, Go.Sx.setObj, Go.Sx.setU, Go.Sx.setAll, Go.Sx.callO, Go.Sx.slCells, Go.Sx.sliceO, Go.Sx.appO, Value.oneCell', Go.Sx.mmL, Go.Sx.mm2, Go.Sx.gslot, Go.Sx.IROp.slots, Go.Sx.Opd.slots, Go.Sx.indepD, Go.Sx.quickD, Go.Sx.indepR, Go.Sx.pairsD, Go.Sx.apartD, Nat.testBit, Go.Sx.Obj.ids, Go.Sx.natL, Go.Sx.optMap, Go.Sx.LV.undef, Go.undef, ltF, hl, hid, hq, he, h1]
end getnum
end Go.Proofs.YtkdimbcfacoboaaGreatDoor

