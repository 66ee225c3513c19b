/- Specifications: notes under way, one alone. -/
import Derived.Test.YtkdimbcfacoboaaGreatDoorNg
namespace Go.Proofs.YtkdimbcfacoboaaGreatDoor
open Go Go.Sx
set_option linter.unusedSimpArgs false
set_option linter.unusedVariables false

theorem bytes_no (f no : Nat) (hf : f < 12) (H : Heap) (nx : Nat) : Ω 12 [.p (nt 7 f f no)] H nx =
    some (.tuple [.p (.s (.slice none 0 0)), .int .i64 1], [], []) := by
  refine om_run (ir := ir12) rfl 0 ?_
  simp [ir12, Go.Sx.runF_S, runCS_skip, runCS_reg, runCS_draw, runCS_seq, runCS_cond, runCS_block, runCS_loop, runCS_exit, runCS_ret, runOpsS_nil, runOpsS_cons, runOpsTS_nil, runOpsTS_cons, Go.Sx.wants, Go.Sx.evOp, Go.Sx.opd, Sx.get, Go.Sx.putD, Sx.keep, Go.Sx.binL, Go.Sx.isSh, binI_add, binI_sub, binI_mul, binI_eql, binI_neq, binI_lss, binI_leq, binI_gtr, binI_geq, Go.Sx.leI_eq, Go.Sx.eqL, unL_not, unL_neg, Go.Sx.resVs, Go.Sx.resV, Go.Sx.oneL, Go.Sx.finish, Go.Sx.frz, Go.Sx.frz.go, Go.Sx.frzL, Go.Sx.frzL.go, Go.Sx.ids, Go.Sx.ids.idsL, Go.Sx.updIds, Go.Sx.reach, Go.Sx.ren, Go.Sx.ren.go, Go.Sx.renU, Go.Sx.renN, Go.Sx.renO, Go.Sx.renId, List.idxOf?_cons, Go.Sx.fillP, Go.Sx.mkAgg, Go.Sx.allP, Go.Sx.LV.cells, Go.Sx.Obj.cells, Go.Sx.splice, Go.Sx.rd, Go.Sx.push, Go.Sx.look, Go.Sx.findU, Go.Sx.setObj, Go.Sx.setU, Go.Sx.setAll, Go.Sx.callO, Go.Sx.slCells, Go.Sx.sliceO, Go.Sx.appO, Value.oneCell', Go.Sx.mmL, Go.Sx.mm2, Go.Sx.gslot, Go.Sx.IROp.slots, Go.Sx.Opd.slots, Go.Sx.indepD, Go.Sx.quickD, Go.Sx.indepR, Go.Sx.pairsD, Go.Sx.apartD, Nat.testBit, Go.Sx.Obj.ids, Go.Sx.natL, Go.Sx.optMap, Go.Sx.LV.undef, Go.undef, ltF, right_no f no hf]

theorem new_ (k : Nat) (H : Heap) (nx : Nat) : Ω 6 [.int .i64 k] H nx = some (.ref nx 0, [], [some (.cells [.p (.s (.slice none 0 0)), .int .i64 k])]) := by
  refine om_run (ir := ir6) rfl 0 ?_
  have h1 : ¬ ((0 : Int) > k) := by omega
  simp [ir6, Go.Sx.runF_S, runCS_skip, runCS_reg, runCS_draw, runCS_seq, runCS_cond, runCS_block, runCS_loop, runCS_exit, runCS_ret, runOpsS_nil, runOpsS_cons, runOpsTS_nil, runOpsTS_cons, Go.Sx.wants, Go.Sx.evOp, Go.Sx.opd, Sx.get, Go.Sx.putD, Sx.keep, Go.Sx.binL, Go.Sx.isSh, binI_add, binI_sub, binI_mul, binI_eql, binI_neq, binI_lss, binI_leq, binI_gtr, binI_geq, Go.Sx.leI_eq, Go.Sx.eqL, unL_not, unL_neg, Go.Sx.resVs, Go.Sx.resV, Go.Sx.oneL, Go.Sx.finish, Go.Sx.frz, Go.Sx.frz.go, Go.Sx.frzL, Go.Sx.frzL.go, Go.Sx.ids, Go.Sx.ids.idsL, Go.Sx.updIds, Go.Sx.reach, Go.Sx.ren, Go.Sx.ren.go, Go.Sx.renU, Go.Sx.renN, Go.Sx.renO, Go.Sx.renId, List.idxOf?_cons, Go.Sx.fillP, Go.Sx.mkAgg, Go.Sx.allP, Go.Sx.LV.cells, Go.Sx.Obj.cells, Go.Sx.splice, Go.Sx.rd, Go.Sx.push, Go.Sx.look, Go.Sx.findU, Go.Sx.setObj, Go.Sx.setU, Go.Sx.setAll, Go.Sx.callO, Go.Sx.slCells, Go.Sx.sliceO, Go.Sx.appO, Value.oneCell', Go.Sx.mmL, Go.Sx.mm2, Go.Sx.gslot, Go.Sx.IROp.slots, Go.Sx.Opd.slots, Go.Sx.indepD, Go.Sx.quickD, Go.Sx.indepR, Go.Sx.pairsD, Go.Sx.apartD, Nat.testBit, Go.Sx.Obj.ids, Go.Sx.natL, Go.Sx.optMap, Go.Sx.LV.undef, Go.undef, ltF, h1]

section send
variable (nid k f t no : Nat) (H : Heap) (nx : Nat)
theorem send_no (hf : f < 12) (hl : H nid = some (.cells [.p (.s (.slice none 0 0)), .int .i64 k])) (hid : nid < nx) : Ω 7 [.ref nid 0, .p (nt 7 f f no)] H nx = some (.int .i64 1, [], []) := by
  refine om_run (ir := ir7) rfl 0 ?_
  simp [ir7, Go.Sx.runF_S, runCS_skip, runCS_reg, runCS_draw, runCS_seq, runCS_cond, runCS_block, runCS_loop, runCS_exit, runCS_ret, runOpsS_nil, runOpsS_cons, runOpsTS_nil, runOpsTS_cons, Go.Sx.wants, Go.Sx.evOp, Go.Sx.opd, Sx.get, Go.Sx.putD, Sx.keep, Go.Sx.binL, Go.Sx.isSh, binI_add, binI_sub, binI_mul, binI_eql, binI_neq, binI_lss, binI_leq, binI_gtr, binI_geq, Go.Sx.leI_eq, Go.Sx.eqL, unL_not, unL_neg, Go.Sx.resVs, Go.Sx.resV, Go.Sx.oneL, Go.Sx.finish, Go.Sx.frz, Go.Sx.frz.go, Go.Sx.frzL, Go.Sx.frzL.go, Go.Sx.ids, Go.Sx.ids.idsL, Go.Sx.updIds, Go.Sx.reach, Go.Sx.ren, Go.Sx.ren.go, Go.Sx.renU, Go.Sx.renN, Go.Sx.renO, Go.Sx.renId, List.idxOf?_cons, Go.Sx.fillP, Go.Sx.mkAgg, Go.Sx.allP, Go.Sx.LV.cells, Go.Sx.Obj.cells, Go.Sx.splice, Go.Sx.rd, Go.Sx.push, Go.Sx.look, Go.Sx.findU, Go.Sx.setObj, Go.Sx.setU, Go.Sx.setAll, Go.Sx.callO, Go.Sx.slCells, Go.Sx.sliceO, Go.Sx.appO, Value.oneCell', Go.Sx.mmL, Go.Sx.mm2, Go.Sx.gslot, Go.Sx.IROp.slots, Go.Sx.Opd.slots, Go.Sx.indepD, Go.Sx.quickD, Go.Sx.indepR, Go.Sx.pairsD, Go.Sx.apartD, Nat.testBit, Go.Sx.Obj.ids, Go.Sx.natL, Go.Sx.optMap, Go.Sx.LV.undef, Go.undef, ltF, bytes_no f no hf, hl, hid]
theorem send_1 (hf : f < 12) (ht : t < 12) (hn : f ≠ t) (h64 : no < 2 ^ 64) (hk : 0 < k) (hl : H nid = some (.cells [.p (.s (.slice none 0 0)), .int .i64 k])) (hid : nid < nx) :
    Ω 7 [.ref nid 0, .p (nt 7 f t no)] H nx = some (.int .i64 0, [(nid, some (.cells [.arr nx 0 1 2 1 false, .int .i64 k]))],
      [some (.cells [.p (.sl (bytP (frame (pay f t no))) (frame (pay f t no)).length 1 false), .int .i64 t])]) := by
  refine om_run (ir := ir7) rfl 0 ?_
  have h1 : ¬ (k : Int) ≤ 0 := by omega
  have hk' : ∀ k, nid < nx + k := fun k => by omega
  have hk2 : ∀ k, ¬ nx + k ≤ nid := fun k => by omega
  have hk0 : ¬ k = 0 := by omega
  simp [ir7, Go.Sx.runF_S, runCS_skip, runCS_reg, runCS_draw, runCS_seq, runCS_cond, runCS_block, runCS_loop, runCS_exit, runCS_ret, runOpsS_nil, runOpsS_cons, runOpsTS_nil, runOpsTS_cons, Go.Sx.wants, Go.Sx.evOp, Go.Sx.opd, Sx.get, Go.Sx.putD, Sx.keep, Go.Sx.binL, Go.Sx.isSh, binI_add, binI_sub, binI_mul, binI_eql, binI_neq, binI_lss, binI_leq, binI_gtr, binI_geq, Go.Sx.leI_eq, Go.Sx.eqL, unL_not, unL_neg, Go.Sx.resVs, Go.Sx.resV, Go.Sx.oneL, Go.Sx.finish, Go.Sx.frz, Go.Sx.frz.go, Go.Sx.frzL, Go.Sx.frzL.go, Go.Sx.ids, Go.Sx.ids.idsL, Go.Sx.updIds, Go.Sx.reach, Go.Sx.ren, Go.Sx.ren.go, Go.Sx.renU, Go.Sx.renN, Go.Sx.renO, Go.Sx.renId, List.idxOf?_cons, Go.Sx.fillP, Go.Sx.mkAgg, Go.Sx.allP, Go.Sx.LV.cells, Go.Sx.Obj.cells, Go.Sx.splice, Go.Sx.rd, Go.Sx.push, Go.Sx.look, Go.Sx.findU, Go.Sx.setObj, Go.Sx.setU, Go.Sx.setAll, Go.Sx.callO, Go.Sx.slCells, Go.Sx.sliceO, Go.Sx.appO, Value.oneCell', Go.Sx.mmL, Go.Sx.mm2, Go.Sx.gslot, Go.Sx.IROp.slots, Go.Sx.Opd.slots, Go.Sx.indepD, Go.Sx.quickD, Go.Sx.indepR, Go.Sx.pairsD, Go.Sx.apartD, Nat.testBit, Go.Sx.Obj.ids, Go.Sx.natL, Go.Sx.optMap, Go.Sx.LV.undef, Go.undef, ltF, bytes_ f t no hf ht hn h64, hl, hid, h1, hk', hk2, hk0]
end send

section look
variable (nid lid pid k to : Nat) (F : List UInt8) (H : Heap) (nx : Nat)
theorem len_ (x : LV) (n off cp : Nat) (ex : Bool) (hl : H nid = some (.cells [.arr lid off n 2 cp ex, x])) (hid : nid < nx) : Ω 9 [.ref nid 0] H nx = some (.int .i64 n, [], []) := by
  refine om_run (ir := ir9) rfl 0 ?_
  simp [ir9, Go.Sx.runF_S, runCS_skip, runCS_reg, runCS_draw, runCS_seq, runCS_cond, runCS_block, runCS_loop, runCS_exit, runCS_ret, runOpsS_nil, runOpsS_cons, runOpsTS_nil, runOpsTS_cons, Go.Sx.wants, Go.Sx.evOp, Go.Sx.opd, Sx.get, Go.Sx.putD, Sx.keep, Go.Sx.binL, Go.Sx.isSh, binI_add, binI_sub, binI_mul, binI_eql, binI_neq, binI_lss, binI_leq, binI_gtr, binI_geq, Go.Sx.leI_eq, Go.Sx.eqL, unL_not, unL_neg, Go.Sx.resVs, Go.Sx.resV, Go.Sx.oneL, Go.Sx.finish, Go.Sx.frz, Go.Sx.frz.go, Go.Sx.frzL, Go.Sx.frzL.go, Go.Sx.ids, Go.Sx.ids.idsL, Go.Sx.updIds, Go.Sx.reach, Go.Sx.ren, Go.Sx.ren.go, Go.Sx.renU, Go.Sx.renN, Go.Sx.renO, Go.Sx.renId, List.idxOf?_cons, Go.Sx.fillP, Go.Sx.mkAgg, Go.Sx.allP, Go.Sx.LV.cells, Go.Sx.Obj.cells, Go.Sx.splice, Go.Sx.rd, Go.Sx.push, Go.Sx.look, Go.Sx.findU, Go.Sx.setObj, Go.Sx.setU, Go.Sx.setAll, Go.Sx.callO, Go.Sx.slCells, Go.Sx.sliceO, Go.Sx.appO, Value.oneCell', Go.Sx.mmL, Go.Sx.mm2, Go.Sx.gslot, Go.Sx.IROp.slots, Go.Sx.Opd.slots, Go.Sx.indepD, Go.Sx.quickD, Go.Sx.indepR, Go.Sx.pairsD, Go.Sx.apartD, Nat.testBit, Go.Sx.Obj.ids, Go.Sx.natL, Go.Sx.optMap, Go.Sx.LV.undef, Go.undef, ltF, hl, hid]
theorem hasN_ (x : LV) (i : Int) (n off cp : Nat) (ex : Bool) (hi0 : 0 ≤ i) (hi : i < n) (hl : H nid = some (.cells [.arr lid off n 2 cp ex, x])) (hid : nid < nx) : Ω 16 [.ref nid 0, .int .i64 i] H nx = some (.bool true, [], []) := by
  refine om_run (ir := ir16) rfl 0 ?_
  have h2 : ¬ (n : Int) ≤ i := by omega
  have hh := fun H nx => len_ nid lid H nx x n off cp ex
  simp [ir16, Go.Sx.runF_S, runCS_skip, runCS_reg, runCS_draw, runCS_seq, runCS_cond, runCS_block, runCS_loop, runCS_exit, runCS_ret, runOpsS_nil, runOpsS_cons, runOpsTS_nil, runOpsTS_cons, Go.Sx.wants, Go.Sx.evOp, Go.Sx.opd, Sx.get, Go.Sx.putD, Sx.keep, Go.Sx.binL, Go.Sx.isSh, binI_add, binI_sub, binI_mul, binI_eql, binI_neq, binI_lss, binI_leq, binI_gtr, binI_geq, Go.Sx.leI_eq, Go.Sx.eqL, unL_not, unL_neg, Go.Sx.resVs, Go.Sx.resV, Go.Sx.oneL, Go.Sx.finish, Go.Sx.frz, Go.Sx.frz.go, Go.Sx.frzL, Go.Sx.frzL.go, Go.Sx.ids, Go.Sx.ids.idsL, Go.Sx.updIds, Go.Sx.reach, Go.Sx.ren, Go.Sx.ren.go, Go.Sx.renU, Go.Sx.renN, Go.Sx.renO, Go.Sx.renId, List.idxOf?_cons, Go.Sx.fillP, Go.Sx.mkAgg, Go.Sx.allP, Go.Sx.LV.cells, Go.Sx.Obj.cells, Go.Sx.splice, Go.Sx.rd, Go.Sx.push, Go.Sx.look, Go.Sx.findU, Go.Sx.setObj, Go.Sx.setU, Go.Sx.setAll, Go.Sx.callO, Go.Sx.slCells, Go.Sx.sliceO, Go.Sx.appO, Value.oneCell', Go.Sx.mmL, Go.Sx.mm2, Go.Sx.gslot, Go.Sx.IROp.slots, Go.Sx.Opd.slots, Go.Sx.indepD, Go.Sx.quickD, Go.Sx.indepR, Go.Sx.pairsD, Go.Sx.apartD, Nat.testBit, Go.Sx.Obj.ids, Go.Sx.natL, Go.Sx.optMap, Go.Sx.LV.undef, Go.undef, ltF, hh, hi0, h2, hl, hid]
theorem look_sl (h30 : F.length < 2 ^ 31) (hne : F.isEmpty = false) (hl : H nid = some (.cells [.arr lid 0 1 2 1 false, .int .i64 k])) (hf : H lid = some (.cells [.p (.sl (bytP F) F.length 1 false), .int .i64 to])) (hid : nid < nx) (hlid : lid < nx) :
    Ω 13 [.ref nid 0, .int .i64 0] H nx = some (.tuple [.arr nx 0 F.length 1 F.length false, .int .i64 to, .bool true], [], [some (.cells (byt F))]) := by
  refine om_run (ir := ir13) rfl 0 ?_
  have hh := fun H nx => hasN_ nid lid H nx (.int .i64 k) 0 1 0 1 false (by decide) (by decide)
  have hk : ∀ k, nid < nx + k := fun k => by omega
  have hk2 : ∀ k, ¬ nx + k ≤ nid := fun k => by omega
  have hk3 : ∀ k, lid < nx + k := fun k => by omega
  have hk4 : ∀ k, ¬ nx + k ≤ lid := fun k => by omega
  have hk5 : ¬ nx ≤ nid := by omega
  have hk6 : ¬ nx ≤ lid := by omega
  simp [ir13, Go.Sx.runF_S, runCS_skip, runCS_reg, runCS_draw, runCS_seq, runCS_cond, runCS_block, runCS_loop, runCS_exit, runCS_ret, runOpsS_nil, runOpsS_cons, runOpsTS_nil, runOpsTS_cons, Go.Sx.wants, Go.Sx.evOp, Go.Sx.opd, Sx.get, Go.Sx.putD, Sx.keep, Go.Sx.binL, Go.Sx.isSh, binI_add, binI_sub, binI_mul, binI_eql, binI_neq, binI_lss, binI_leq, binI_gtr, binI_geq, Go.Sx.leI_eq, Go.Sx.eqL, unL_not, unL_neg, Go.Sx.resVs, Go.Sx.resV, Go.Sx.oneL, Go.Sx.finish, Go.Sx.frz, Go.Sx.frz.go, Go.Sx.frzL, Go.Sx.frzL.go, Go.Sx.ids, Go.Sx.ids.idsL, Go.Sx.updIds, Go.Sx.reach, Go.Sx.ren, Go.Sx.ren.go, Go.Sx.renU, Go.Sx.renN, Go.Sx.renO, Go.Sx.renId, List.idxOf?_cons, Go.Sx.fillP, Go.Sx.mkAgg, Go.Sx.allP, Go.Sx.LV.cells, Go.Sx.Obj.cells, Go.Sx.splice, Go.Sx.rd, Go.Sx.push, Go.Sx.look, Go.Sx.findU, Go.Sx.setObj, Go.Sx.setU, Go.Sx.setAll, Go.Sx.callO, Go.Sx.slCells, Go.Sx.sliceO, Go.Sx.appO, Value.oneCell', Go.Sx.mmL, Go.Sx.mm2, Go.Sx.gslot, Go.Sx.IROp.slots, Go.Sx.Opd.slots, Go.Sx.indepD, Go.Sx.quickD, Go.Sx.indepR, Go.Sx.pairsD, Go.Sx.apartD, Nat.testBit, Go.Sx.Obj.ids, Go.Sx.natL, Go.Sx.optMap, Go.Sx.LV.undef, Go.undef, ltF, hh, hl, hid, hf, hlid, clone_sl F false h30, hk, hk2, hk3, hk4, hk5, hk6, hne, byt_len, bytP_len, take_byt, ids_byt, ren_byt, ids_app, ren_app, allP_byt, allP_app]
theorem look_arr (h30 : F.length < 2 ^ 31) (hne : 0 < F.length) (hl : H nid = some (.cells [.arr lid 0 1 2 1 false, .int .i64 k])) (hf : H lid = some (.cells [.arr pid 0 F.length 1 F.length false, .int .i64 to])) (hp : H pid = some (.cells (byt F))) (hid : nid < nx) (hlid : lid < nx) (hpid : pid < nx) (d1 : pid ≠ nid) (d2 : pid ≠ lid) (d3 : nid ≠ lid) :
    Ω 13 [.ref nid 0, .int .i64 0] H nx = some (.tuple [.arr nx 0 F.length 1 F.length false, .int .i64 to, .bool true], [], [some (.cells (byt F))]) := by
  refine om_run (ir := ir13) rfl 0 ?_
  have hh := fun H nx => hasN_ nid lid H nx (.int .i64 k) 0 1 0 1 false (by decide) (by decide)
  have hk : ∀ k, nid < nx + k := fun k => by omega
  have hk2 : ∀ k, ¬ nx + k ≤ nid := fun k => by omega
  have hk3 : ∀ k, lid < nx + k := fun k => by omega
  have hk4 : ∀ k, ¬ nx + k ≤ lid := fun k => by omega
  have hk5 : ¬ nx ≤ nid := by omega
  have hk6 : ¬ nx ≤ lid := by omega
  have hk7 : ∀ k, pid < nx + k := fun k => by omega
  have hk8 : ∀ k, ¬ nx + k ≤ pid := fun k => by omega
  have hk9 : ¬ nx ≤ pid := by omega
  have hc := fun H nx => clone_arr F pid F.length false hne h30 H nx
  simp [ir13, Go.Sx.runF_S, runCS_skip, runCS_reg, runCS_draw, runCS_seq, runCS_cond, runCS_block, runCS_loop, runCS_exit, runCS_ret, runOpsS_nil, runOpsS_cons, runOpsTS_nil, runOpsTS_cons, Go.Sx.wants, Go.Sx.evOp, Go.Sx.opd, Sx.get, Go.Sx.putD, Sx.keep, Go.Sx.binL, Go.Sx.isSh, binI_add, binI_sub, binI_mul, binI_eql, binI_neq, binI_lss, binI_leq, binI_gtr, binI_geq, Go.Sx.leI_eq, Go.Sx.eqL, unL_not, unL_neg, Go.Sx.resVs, Go.Sx.resV, Go.Sx.oneL, Go.Sx.finish, Go.Sx.frz, Go.Sx.frz.go, Go.Sx.frzL, Go.Sx.frzL.go, Go.Sx.ids, Go.Sx.ids.idsL, Go.Sx.updIds, Go.Sx.reach, Go.Sx.ren, Go.Sx.ren.go, Go.Sx.renU, Go.Sx.renN, Go.Sx.renO, Go.Sx.renId, List.idxOf?_cons, Go.Sx.fillP, Go.Sx.mkAgg, Go.Sx.allP, Go.Sx.LV.cells, Go.Sx.Obj.cells, Go.Sx.splice, Go.Sx.rd, Go.Sx.push, Go.Sx.look, Go.Sx.findU, Go.Sx.setObj, Go.Sx.setU, Go.Sx.setAll, Go.Sx.callO, Go.Sx.slCells, Go.Sx.sliceO, Go.Sx.appO, Value.oneCell', Go.Sx.mmL, Go.Sx.mm2, Go.Sx.gslot, Go.Sx.IROp.slots, Go.Sx.Opd.slots, Go.Sx.indepD, Go.Sx.quickD, Go.Sx.indepR, Go.Sx.pairsD, Go.Sx.apartD, Nat.testBit, Go.Sx.Obj.ids, Go.Sx.natL, Go.Sx.optMap, Go.Sx.LV.undef, Go.undef, ltF, hh, hl, hid, hf, hlid, hp, hpid, hc, hk, hk2, hk3, hk4, hk5, hk6, hk7, hk8, hk9, d1, d2, d3, byt_len, bytP_len, take_byt, ids_byt, ren_byt, ids_app, ren_app, allP_byt, allP_app]
end look

theorem delete_1 (lid : Nat) (x y : LV) (H : Heap) (nx : Nat) (hl : H lid = some (.cells [x, y])) (hid : lid < nx) :
    Ω 26 [.arr lid 0 1 2 1 false, .int .i64 0, .int .i64 1] H nx = some (.arr lid 0 0 2 1 false, [(lid, some (.cells [.p (.s (.slice none 0 0)), .int .i64 0]))], []) := by
  refine om_run (ir := ir26) rfl 0 ?_
  simp [ir26, Go.Sx.runF_S, runCS_skip, runCS_reg, runCS_draw, runCS_seq, runCS_cond, runCS_block, runCS_loop, runCS_exit, runCS_ret, runOpsS_nil, runOpsS_cons, runOpsTS_nil, runOpsTS_cons, Go.Sx.wants, Go.Sx.evOp, Go.Sx.opd, Sx.get, Go.Sx.putD, Sx.keep, Go.Sx.binL, Go.Sx.isSh, binI_add, binI_sub, binI_mul, binI_eql, binI_neq, binI_lss, binI_leq, binI_gtr, binI_geq, Go.Sx.leI_eq, Go.Sx.eqL, unL_not, unL_neg, Go.Sx.resVs, Go.Sx.resV, Go.Sx.oneL, Go.Sx.finish, Go.Sx.frz, Go.Sx.frz.go, Go.Sx.frzL, Go.Sx.frzL.go, Go.Sx.ids, Go.Sx.ids.idsL, Go.Sx.updIds, Go.Sx.reach, Go.Sx.ren, Go.Sx.ren.go, Go.Sx.renU, Go.Sx.renN, Go.Sx.renO, Go.Sx.renId, List.idxOf?_cons, Go.Sx.fillP, Go.Sx.mkAgg, Go.Sx.allP, Go.Sx.LV.cells, Go.Sx.Obj.cells, Go.Sx.splice, Go.Sx.rd, Go.Sx.push, Go.Sx.look, Go.Sx.findU, Go.Sx.setObj, Go.Sx.setU, Go.Sx.setAll, Go.Sx.callO, Go.Sx.slCells, Go.Sx.sliceO, Go.Sx.appO, Value.oneCell', Go.Sx.mmL, Go.Sx.mm2, Go.Sx.gslot, Go.Sx.IROp.slots, Go.Sx.Opd.slots, Go.Sx.indepD, Go.Sx.quickD, Go.Sx.indepR, Go.Sx.pairsD, Go.Sx.apartD, Nat.testBit, Go.Sx.Obj.ids, Go.Sx.natL, Go.Sx.optMap, Go.Sx.LV.undef, Go.undef, ltF, hl, hid]
theorem drop_1 (nid lid k : Nat) (x y : LV) (H : Heap) (nx : Nat) (hl : H nid = some (.cells [.arr lid 0 1 2 1 false, .int .i64 k])) (hf : H lid = some (.cells [x, y])) (hid : nid < nx) (hlid : lid < nx) (hne : nid ≠ lid) :
    Ω 14 [.ref nid 0, .int .i64 0] H nx = some (.int .i64 0, [(lid, some (.cells [.p (.s (.slice none 0 0)), .int .i64 0])), (nid, some (.cells [.arr lid 0 0 2 1 false, .int .i64 k]))], []) := by
  refine om_run (ir := ir14) rfl 0 ?_
  have hh := fun H nx => hasN_ nid lid H nx (.int .i64 k) 0 1 0 1 false (by decide) (by decide)
  have hd := fun H nx => delete_1 lid x y H nx
  have w : IntKind.i64.wrap 1 = 1 := rfl
  simp [ir14, Go.Sx.runF_S, runCS_skip, runCS_reg, runCS_draw, runCS_seq, runCS_cond, runCS_block, runCS_loop, runCS_exit, runCS_ret, runOpsS_nil, runOpsS_cons, runOpsTS_nil, runOpsTS_cons, Go.Sx.wants, Go.Sx.evOp, Go.Sx.opd, Sx.get, Go.Sx.putD, Sx.keep, Go.Sx.binL, Go.Sx.isSh, binI_add, binI_sub, binI_mul, binI_eql, binI_neq, binI_lss, binI_leq, binI_gtr, binI_geq, Go.Sx.leI_eq, Go.Sx.eqL, unL_not, unL_neg, Go.Sx.resVs, Go.Sx.resV, Go.Sx.oneL, Go.Sx.finish, Go.Sx.frz, Go.Sx.frz.go, Go.Sx.frzL, Go.Sx.frzL.go, Go.Sx.ids, Go.Sx.ids.idsL, Go.Sx.updIds, Go.Sx.reach, Go.Sx.ren, Go.Sx.ren.go, Go.Sx.renU, Go.Sx.renN, Go.Sx.renO, Go.Sx.renId, List.idxOf?_cons, Go.Sx.fillP, Go.Sx.mkAgg, Go.Sx.allP, Go.Sx.LV.cells, Go.Sx.Obj.cells, Go.Sx.splice, Go.Sx.rd, Go.Sx.push, Go.Sx.look, Go.Sx.findU, Go.Sx.setObj, Go.Sx.setU, Go.Sx.setAll, Go.Sx.callO, Go.Sx.slCells, Go.Sx.sliceO, Go.Sx.appO, Value.oneCell', Go.Sx.mmL, Go.Sx.mm2, Go.Sx.gslot, Go.Sx.IROp.slots, Go.Sx.Opd.slots, Go.Sx.indepD, Go.Sx.quickD, Go.Sx.indepR, Go.Sx.pairsD, Go.Sx.apartD, Nat.testBit, Go.Sx.Obj.ids, Go.Sx.natL, Go.Sx.optMap, Go.Sx.LV.undef, Go.undef, ltF, hh, hd, w, hl, hid, hf, hlid, hne]

theorem binI_rem (k : IntKind) (x y : Int) (hy : y ≠ 0) : binI .rem k x y = some (.int k (x.tmod y)) := by simp [binI, hy]
theorem xor_u8 (x y : UInt8) : binI .xor .u8 x.toNat y.toNat = some (.int .u8 (x ^^^ y).toNat) := by
  have : binI .xor .u8 (x.toNat : Int) (y.toNat : Int) = some (.int .u8 (IntKind.u8.wrap (BitVec.ofInt 8 (x.toNat : Int) ^^^ BitVec.ofInt 8 (y.toNat : Int)).toNat)) := rfl
  have hx := x.toNat_lt
  have hy := y.toNat_lt
  rw [this, BitVec.ofInt_natCast, BitVec.ofInt_natCast, BitVec.toNat_xor, BitVec.toNat_ofNat, BitVec.toNat_ofNat, Nat.mod_eq_of_lt hx, Nat.mod_eq_of_lt hy, UInt8.toNat_xor]
  have := Nat.xor_lt_two_pow (n := 8) hx hy
  simp [IntKind.wrap, IntKind.signed, IntKind.bits]
  omega
theorem splice_byt (F : List UInt8) (m : Nat) (v : UInt8) (hm : m < F.length) : List.take m (byt F) ++ .int .u8 v.toNat :: List.drop (m + 1) (byt F) = byt (F.set m v) := by
  rw [List.set_eq_take_append_cons_drop, if_pos hm]
  simp [byt]

/-- What a read answers, wherever its bytes lie. -/
def Reads (F : List UInt8) (N : PV) (e : Int) : Prop := ∀ (id : Nat) (H : Heap) (nx : Nat), H id = some (.cells (byt F)) → id < nx → Ω 15 [.arr id 0 F.length 1 F.length false] H nx = some (.tuple [.p N, .int .i64 e], [], [])

section turn
variable (nid lid k f t no to : Nat) (F : List UInt8) (H : Heap) (nx : Nat) (kd : Int)
theorem turn_ (x : Int) (v b : UInt8) (m : Nat) (hF : 0 < F.length) (h30 : F.length < 2 ^ 31) (hr : Reads F (nt kd f t no) 0) (hm : x.emod F.length = m) (hb : F[m]? = some b)
    (hl : H nid = some (.cells [.arr lid 0 1 2 1 false, .int .i64 k])) (hf : H lid = some (.cells [.p (.sl (bytP F) F.length 1 false), .int .i64 to])) (hid : nid < nx) (hlid : lid < nx) (hne : nid ≠ lid) :
    Ω 10 [.ref nid 0, .int .i64 0, .int .i64 x, .int .u8 v.toNat] H nx = some (.int .i64 0, [(lid, some (.cells [.arr nx 0 F.length 1 F.length false, .int .i64 to]))], [some (.cells (byt (F.set m (b ^^^ v))))]) := by
  refine om_run (ir := ir10) rfl 0 ?_
  have hemp : F.isEmpty = false := by cases F with
    | nil => simp at hF
    | cons a l => rfl
  have hlk := fun H nx => look_sl nid lid k to F H nx h30 hemp
  obtain ⟨hmF, _⟩ := List.getElem?_eq_some_iff.1 hb
  have hrem := binI_rem .i64 x F.length (by omega)
  have hbb : (byt F)[m]? = some (.int .u8 b.toNat) := by simp [byt, hb]
  have hx := xor_u8 b v
  have hsp := splice_byt F m (b ^^^ v) hmF
  have hrd := fun id H nx => hr id H nx
  have hk : ∀ k, nid < nx + k := fun k => by omega
  have hk2 : ∀ k, ¬ nx + k ≤ nid := fun k => by omega
  have hk3 : ∀ k, lid < nx + k := fun k => by omega
  have hk4 : ∀ k, ¬ nx + k ≤ lid := fun k => by omega
  have hFl : (byt F).length = F.length := byt_len F
  generalize hv : b ^^^ v = z at *
  have hmF1 : m + 1 ≤ F.length := by omega
  have hbb2 : ∀ h : m < (byt F).length, (byt F)[m] = .int .u8 b.toNat := fun h => (List.getElem?_eq_some_iff.1 hbb).2
  have hte := Int.tmod_eq_emod (a := x) (b := F.length)
  have hem0 := Int.emod_nonneg x (show (F.length : Int) ≠ 0 by omega)
  change 0 ≤ x.emod F.length at hem0
  change x.tmod F.length = x.emod F.length - _ at hte
  by_cases hneg : x.tmod F.length < 0
  · have h1 : ¬ (0 : Int) ≤ x.tmod F.length := by omega
    have hw : IntKind.i64.wrap (x.tmod F.length + F.length) = m := by
      split at hte
      · omega
      · rw [wrap_i64 _ (by omega) (by omega)]; omega
    simp [ir10, Go.Sx.runF_S, runCS_skip, runCS_reg, runCS_draw, runCS_seq, runCS_cond, runCS_block, runCS_loop, runCS_exit, runCS_ret, runOpsS_nil, runOpsS_cons, runOpsTS_nil, runOpsTS_cons, Go.Sx.wants, Go.Sx.evOp, Go.Sx.opd, Sx.get, Go.Sx.putD, Sx.keep, Go.Sx.binL, Go.Sx.isSh, binI_add, binI_sub, binI_mul, binI_eql, binI_neq, binI_lss, binI_leq, binI_gtr, binI_geq, Go.Sx.leI_eq, Go.Sx.eqL, unL_not, unL_neg, Go.Sx.resVs, Go.Sx.resV, Go.Sx.oneL, Go.Sx.finish, Go.Sx.frz, Go.Sx.frz.go, Go.Sx.frzL, Go.Sx.frzL.go, Go.Sx.ids, Go.Sx.ids.idsL, Go.Sx.updIds, Go.Sx.reach, Go.Sx.ren, Go.Sx.ren.go, Go.Sx.renU, Go.Sx.renN, Go.Sx.renO, Go.Sx.renId, List.idxOf?_cons, Go.Sx.fillP, Go.Sx.mkAgg, Go.Sx.allP, Go.Sx.LV.cells, Go.Sx.Obj.cells, Go.Sx.splice, Go.Sx.rd, Go.Sx.push, Go.Sx.look, Go.Sx.findU, Go.Sx.setObj, Go.Sx.setU, Go.Sx.setAll, Go.Sx.callO, Go.Sx.slCells, Go.Sx.sliceO, Go.Sx.appO, Value.oneCell', Go.Sx.mmL, Go.Sx.mm2, Go.Sx.gslot, Go.Sx.IROp.slots, Go.Sx.Opd.slots, Go.Sx.indepD, Go.Sx.quickD, Go.Sx.indepR, Go.Sx.pairsD, Go.Sx.apartD, Nat.testBit, Go.Sx.Obj.ids, Go.Sx.natL, Go.Sx.optMap, Go.Sx.LV.undef, Go.undef, ltF, hlk, hrd, hrem, hw, hl, hf, hid, hlid, hne, hk, hk2, hk3, hk4, h1, hmF, hmF1, hbb, hbb2, hx, hsp, byt_len, bytP_len, take_byt, ids_byt, ren_byt, ids_app, ren_app, allP_byt, allP_app]
  · have h1 : (0 : Int) ≤ x.tmod F.length := by omega
    have hw : x.tmod F.length = m := by
      split at hte
      · omega
      · have hlt := Int.emod_lt_of_pos x (show (0 : Int) < F.length by omega)
        change x.emod F.length < _ at hlt
        omega
    simp [ir10, Go.Sx.runF_S, runCS_skip, runCS_reg, runCS_draw, runCS_seq, runCS_cond, runCS_block, runCS_loop, runCS_exit, runCS_ret, runOpsS_nil, runOpsS_cons, runOpsTS_nil, runOpsTS_cons, Go.Sx.wants, Go.Sx.evOp, Go.Sx.opd, Sx.get, Go.Sx.putD, Sx.keep, Go.Sx.binL, Go.Sx.isSh, binI_add, binI_sub, binI_mul, binI_eql, binI_neq, binI_lss, binI_leq, binI_gtr, binI_geq, Go.Sx.leI_eq, Go.Sx.eqL, unL_not, unL_neg, Go.Sx.resVs, Go.Sx.resV, Go.Sx.oneL, Go.Sx.finish, Go.Sx.frz, Go.Sx.frz.go, Go.Sx.frzL, Go.Sx.frzL.go, Go.Sx.ids, Go.Sx.ids.idsL, Go.Sx.updIds, Go.Sx.reach, Go.Sx.ren, Go.Sx.ren.go, Go.Sx.renU, Go.Sx.renN, Go.Sx.renO, Go.Sx.renId, List.idxOf?_cons, Go.Sx.fillP, Go.Sx.mkAgg, Go.Sx.allP, Go.Sx.LV.cells, Go.Sx.Obj.cells, Go.Sx.splice, Go.Sx.rd, Go.Sx.push, Go.Sx.look, Go.Sx.findU, Go.Sx.setObj, Go.Sx.setU, Go.Sx.setAll, Go.Sx.callO, Go.Sx.slCells, Go.Sx.sliceO, Go.Sx.appO, Value.oneCell', Go.Sx.mmL, Go.Sx.mm2, Go.Sx.gslot, Go.Sx.IROp.slots, Go.Sx.Opd.slots, Go.Sx.indepD, Go.Sx.quickD, Go.Sx.indepR, Go.Sx.pairsD, Go.Sx.apartD, Nat.testBit, Go.Sx.Obj.ids, Go.Sx.natL, Go.Sx.optMap, Go.Sx.LV.undef, Go.undef, ltF, hlk, hrd, hrem, hw, hl, hf, hid, hlid, hne, hk, hk2, hk3, hk4, h1, hmF, hmF1, hbb, hbb2, hx, hsp, byt_len, bytP_len, take_byt, ids_byt, ren_byt, ids_app, ren_app, allP_byt, allP_app]
theorem take_1 (pid : Nat) (e : Int) (hF : 0 < F.length) (h30 : F.length < 2 ^ 31) (hr : Reads F (nt kd f t no) e) (hl : H nid = some (.cells [.arr lid 0 1 2 1 false, .int .i64 k])) (hf : H lid = some (.cells [.arr pid 0 F.length 1 F.length false, .int .i64 to])) (hp : H pid = some (.cells (byt F)))
    (hid : nid < nx) (hlid : lid < nx) (hpid : pid < nx) (d1 : pid ≠ nid) (d2 : pid ≠ lid) (d3 : nid ≠ lid) :
    Ω 8 [.ref nid 0, .int .i64 0] H nx = some (.tuple [.p (nt kd f t no), .int .i64 e], [(nid, some (.cells [.arr lid 0 0 2 1 false, .int .i64 k])), (lid, some (.cells [.p (.s (.slice none 0 0)), .int .i64 0]))], []) := by
  refine om_run (ir := ir8) rfl 0 ?_
  have hlk := fun H nx => look_arr nid lid pid k to F H nx h30 hF
  have hdr := fun H nx => drop_1 nid lid k (.arr pid 0 F.length 1 F.length false) (.int .i64 to) H nx
  have hrd := fun id H nx => hr id H nx
  have hk : ∀ k, nid < nx + k := fun k => by omega
  have hk2 : ∀ k, ¬ nx + k ≤ nid := fun k => by omega
  have hk3 : ∀ k, lid < nx + k := fun k => by omega
  have hk4 : ∀ k, ¬ nx + k ≤ lid := fun k => by omega
  have hk7 : ∀ k, pid < nx + k := fun k => by omega
  have hk8 : ∀ k, ¬ nx + k ≤ pid := fun k => by omega
  have q1 : ∀ k, ¬ nx + k = nid := fun k => by omega
  have q2 : ∀ k, ¬ nx + k = lid := fun k => by omega
  have q3 : ∀ k, ¬ nx + k = pid := fun k => by omega
  have d3' : ¬ lid = nid := fun e => d3 e.symm
  simp [ir8, Go.Sx.runF_S, runCS_skip, runCS_reg, runCS_draw, runCS_seq, runCS_cond, runCS_block, runCS_loop, runCS_exit, runCS_ret, runOpsS_nil, runOpsS_cons, runOpsTS_nil, runOpsTS_cons, Go.Sx.wants, Go.Sx.evOp, Go.Sx.opd, Sx.get, Go.Sx.putD, Sx.keep, Go.Sx.binL, Go.Sx.isSh, binI_add, binI_sub, binI_mul, binI_eql, binI_neq, binI_lss, binI_leq, binI_gtr, binI_geq, Go.Sx.leI_eq, Go.Sx.eqL, unL_not, unL_neg, Go.Sx.resVs, Go.Sx.resV, Go.Sx.oneL, Go.Sx.finish, Go.Sx.frz, Go.Sx.frz.go, Go.Sx.frzL, Go.Sx.frzL.go, Go.Sx.ids, Go.Sx.ids.idsL, Go.Sx.updIds, Go.Sx.reach, Go.Sx.ren, Go.Sx.ren.go, Go.Sx.renU, Go.Sx.renN, Go.Sx.renO, Go.Sx.renId, List.idxOf?_cons, Go.Sx.fillP, Go.Sx.mkAgg, Go.Sx.allP, Go.Sx.LV.cells, Go.Sx.Obj.cells, Go.Sx.splice, Go.Sx.rd, Go.Sx.push, Go.Sx.look, Go.Sx.findU, Go.Sx.setObj, Go.Sx.setU, Go.Sx.setAll, Go.Sx.callO, Go.Sx.slCells, Go.Sx.sliceO, Go.Sx.appO, Value.oneCell', Go.Sx.mmL, Go.Sx.mm2, Go.Sx.gslot, Go.Sx.IROp.slots, Go.Sx.Opd.slots, Go.Sx.indepD, Go.Sx.quickD, Go.Sx.indepR, Go.Sx.pairsD, Go.Sx.apartD, Nat.testBit, Go.Sx.Obj.ids, Go.Sx.natL, Go.Sx.optMap, Go.Sx.LV.undef, Go.undef, ltF, hlk, hdr, hrd, hl, hf, hp, hid, hlid, hpid, d1, d2, d3, d3', hk, hk2, hk3, hk4, hk7, hk8, q1, q2, q3, byt_len, bytP_len, take_byt, ids_byt, ren_byt, ids_app, ren_app, allP_byt, allP_app]
end turn
end Go.Proofs.YtkdimbcfacoboaaGreatDoor

