/- Specifications: a note is read. -/
import Derived.Test.YtkdimbcfacoboaaGreatDoorNd
namespace Go.Proofs.YtkdimbcfacoboaaGreatDoor
open Go Go.Sx
set_option linter.unusedSimpArgs false
set_option linter.unusedVariables false

section get
variable (H : Heap) (nx id qid cp : Nat) (ex : Bool)
theorem byte_at (l : List UInt8) (o len : Nat) (b : UInt8) (hg : l[o]? = some b) (hl : H id = some (.cells [.arr qid o (len + 1) 1 cp ex, .int .i64 0])) (hb : H qid = some (.cells (byt l))) (hid : id < nx) (hq : qid < nx) :
    Ω 43 [.ref id 0] H nx = some (.int .u8 b.toNat, [(id, some (.cells [.arr qid (o + 1) len 1 (cp - 1) ex, .int .i64 0]))], []) := by
  have hlt := (List.getElem?_eq_some_iff.1 hg).1
  have e1 : l = l.take o ++ b :: l.drop (o + 1) := by
    have := (List.getElem?_eq_some_iff.1 hg).2
    rw [← this, List.getElem_cons_drop, List.take_append_drop]
  have := byte_0 H nx id qid cp ex (l.take o) b (List.replicate len 0)
  have e2 : (l.take o).length = o := by simp; omega
  refine om_run (ir := ir43) rfl 0 ?_
  have hg' : (byt l)[o]? = some (.int .u8 b.toNat) := by simp [byt, hg]
  have hne : ¬ ((len : Int) + 1 = 0) := by omega
  have he := fun H nx => err_ H nx id 0 (.arr qid o (len + 1) 1 cp ex)
  simp [ir43, Go.Sx.runF_S, runCS_skip, runCS_reg, runCS_draw, runCS_seq, runCS_cond, runCS_block, runCS_loop, runCS_exit, runCS_ret, runOpsS_nil, runOpsS_cons, runOpsTS_nil, runOpsTS_cons, Go.Sx.wants, Go.Sx.evOp, Go.Sx.opd, Sx.get, Go.Sx.putD, Sx.keep, Go.Sx.binL, Go.Sx.isSh, binI_add, binI_sub, binI_mul, binI_eql, binI_neq, binI_lss, binI_leq, binI_gtr, binI_geq, Go.Sx.leI_eq, Go.Sx.eqL, unL_not, unL_neg, Go.Sx.resVs, Go.Sx.resV, Go.Sx.oneL, Go.Sx.finish, Go.Sx.frz, Go.Sx.frz.go, Go.Sx.frzL, Go.Sx.frzL.go, Go.Sx.ids, Go.Sx.ids.idsL, Go.Sx.updIds, Go.Sx.reach, Go.Sx.ren, Go.Sx.ren.go, Go.Sx.renU, Go.Sx.renN, Go.Sx.renO, Go.Sx.renId, List.idxOf?_cons, Go.Sx.fillP, Go.Sx.mkAgg, Go.Sx.allP, Go.Sx.LV.cells, Go.Sx.Obj.cells, Go.Sx.splice, Go.Sx.rd, Go.Sx.push, Go.Sx.look, Go.Sx.findU, Go.Sx.setObj, Go.Sx.setU, Go.Sx.setAll, Go.Sx.callO, Go.Sx.slCells, Go.Sx.sliceO, Go.Sx.appO, Value.oneCell', Go.Sx.mmL, Go.Sx.mm2, Go.Sx.gslot, Go.Sx.IROp.slots, Go.Sx.Opd.slots, Go.Sx.indepD, Go.Sx.quickD, Go.Sx.indepR, Go.Sx.pairsD, Go.Sx.apartD, Nat.testBit, Go.Sx.Obj.ids, Go.Sx.natL, Go.Sx.optMap, Go.Sx.LV.undef, Go.undef, ltF, hl, hid, hq, hb, hg', he, hne]

theorem get_ok (f t no : Nat) (hf : f < 12) (ht : t < 12) (h64 : no < 2 ^ 64) (hl : H id = some (.cells [.arr qid 0 ((vnum no).length + 3) 1 cp ex, .int .i64 0])) (hb : H qid = some (.cells (byt (pay f t no)))) (hid : id < nx) (hq : qid < nx) (hne : id ≠ qid) :
    Ω 29 [.ref id 0] H nx = some (.p (nt 7 f t no), [(id, some (.cells [.arr qid (3 + (vnum no).length) 0 1 (cp - 1 - 1 - 1 - (vnum no).length) ex, .int .i64 0]))], []) := by
  refine om_run (ir := ir29) rfl 0 ?_
  have b0 := fun H nx => byte_at H nx id qid cp ex (pay f t no) 0 ((vnum no).length + 2) 7 rfl
  have b1 := fun H nx => byte_at H nx id qid (cp - 1) ex (pay f t no) 1 ((vnum no).length + 1) (UInt8.ofNat f) rfl
  have b2 := fun H nx => byte_at H nx id qid (cp - 1 - 1) ex (pay f t no) 2 ((vnum no).length) (UInt8.ofNat t) rfl
  have hr : rnum 0 0 (vnum no) = some (no, []) := by have := rnum_of no h64 []; rwa [List.append_nil] at this
  have hv := vnum_len no h64
  have gn := fun H nx => getnum_ok H nx id qid (cp - 1 - 1 - 1) ex [7, UInt8.ofNat f, UInt8.ofNat t] (vnum no) [] no hr (by omega)
  simp only [List.length_cons, List.length_nil, Nat.zero_add, Nat.sub_zero] at gn
  change ∀ (H : Heap) (nx : Nat), _ → H qid = some (Go.Sx.Obj.cells (byt (pay f t no))) → _ at gn
  have w1 : IntKind.i64.wrap ((UInt8.ofNat f).toNat : Int) = f := by
    rw [wrap_i64 _ (by omega) (by have := (UInt8.ofNat f).toNat_lt; omega)]; simp; omega
  have w2 : IntKind.i64.wrap ((UInt8.ofNat t).toNat : Int) = t := by
    rw [wrap_i64 _ (by omega) (by have := (UInt8.ofNat t).toNat_lt; omega)]; simp; omega
  have w7 : ((7 : UInt8).toNat : Int) = 7 := rfl
  have w7' : IntKind.i64.wrap 7 = 7 := rfl
  have hne' : ¬ qid = id := fun e => hne e.symm
  generalize UInt8.ofNat f = bf at *
  generalize UInt8.ofNat t = bt at *
  simp only [w7] at b0
  generalize hP : pay f t no = P at *
  have hk : ∀ k, id < nx + k := fun k => by omega
  have hk' : ∀ k, qid < nx + k := fun k => by omega
  simp [ir29, Go.Sx.runF_S, runCS_skip, runCS_reg, runCS_draw, runCS_seq, runCS_cond, runCS_block, runCS_loop, runCS_exit, runCS_ret, runOpsS_nil, runOpsS_cons, runOpsTS_nil, runOpsTS_cons, Go.Sx.wants, Go.Sx.evOp, Go.Sx.opd, Sx.get, Go.Sx.putD, Sx.keep, Go.Sx.binL, Go.Sx.isSh, binI_add, binI_sub, binI_mul, binI_eql, binI_neq, binI_lss, binI_leq, binI_gtr, binI_geq, Go.Sx.leI_eq, Go.Sx.eqL, unL_not, unL_neg, Go.Sx.resVs, Go.Sx.resV, Go.Sx.oneL, Go.Sx.finish, Go.Sx.frz, Go.Sx.frz.go, Go.Sx.frzL, Go.Sx.frzL.go, Go.Sx.ids, Go.Sx.ids.idsL, Go.Sx.updIds, Go.Sx.reach, Go.Sx.ren, Go.Sx.ren.go, Go.Sx.renU, Go.Sx.renN, Go.Sx.renO, Go.Sx.renId, List.idxOf?_cons, Go.Sx.fillP, Go.Sx.mkAgg, Go.Sx.allP, Go.Sx.LV.cells, Go.Sx.Obj.cells, Go.Sx.splice, Go.Sx.rd, Go.Sx.push, Go.Sx.look, Go.Sx.findU, Go.Sx.setObj, Go.Sx.setU, Go.Sx.setAll, Go.Sx.callO, Go.Sx.slCells, Go.Sx.sliceO, Go.Sx.appO, Value.oneCell', Go.Sx.mmL, Go.Sx.mm2, Go.Sx.gslot, Go.Sx.IROp.slots, Go.Sx.Opd.slots, Go.Sx.indepD, Go.Sx.quickD, Go.Sx.indepR, Go.Sx.pairsD, Go.Sx.apartD, Nat.testBit, Go.Sx.Obj.ids, Go.Sx.natL, Go.Sx.optMap, Go.Sx.LV.undef, Go.undef, ltF, hl, hb, hid, hq, hk, hk', hne, hne', b0, b1, b2, gn, w1, w2, w7', has_7, a1, a2, a4, a8, a16, a32, a64]
end get

/-- What can't be a note: the bytes end too early. -/
theorem get_bad (f t no k : Nat) (h64 : no < 2 ^ 64) (hk : k < (pay f t no).length) : ∃ (k0 : Int) (f0 t0 o L cp' : Nat), ∀ (H : Heap) (nx id qid : Nat) (ex : Bool),
    H id = some (.cells [.arr qid 0 k 1 k ex, .int .i64 0]) → H qid = some (.cells (byt ((pay f t no).take k))) → id < nx → qid < nx → id ≠ qid →
    Ω 29 [.ref id 0] H nx = some (.p (nt k0 f0 t0 0), [(id, some (.cells [.arr qid o L 1 cp' ex, .int .i64 6]))], []) := by
  match k, hk with
  | 0, _ =>
    refine ⟨0, 0, 0, 0, 0, 0, fun H nx id qid ex hl hb hid hq hne => ?_⟩
    refine om_run (ir := ir29) rfl 0 ?_
    have b0 := fun H nx => byte_nil H nx id qid 0 0 ex
    have b1 := fun H nx => byte_err H nx id qid 0 0 0 ex 6 (by decide)
    have b2 := fun H nx => fail_n H nx id qid 0 0 0 ex 6 6 (by decide)
    have w0 : IntKind.i64.wrap 0 = 0 := rfl
    have hne' : ¬ qid = id := fun e => hne e.symm
    have hk : ∀ k, id < nx + k := fun k => by omega
    have hk' : ∀ k, qid < nx + k := fun k => by omega
    simp [ir29, Go.Sx.runF_S, runCS_skip, runCS_reg, runCS_draw, runCS_seq, runCS_cond, runCS_block, runCS_loop, runCS_exit, runCS_ret, runOpsS_nil, runOpsS_cons, runOpsTS_nil, runOpsTS_cons, Go.Sx.wants, Go.Sx.evOp, Go.Sx.opd, Sx.get, Go.Sx.putD, Sx.keep, Go.Sx.binL, Go.Sx.isSh, binI_add, binI_sub, binI_mul, binI_eql, binI_neq, binI_lss, binI_leq, binI_gtr, binI_geq, Go.Sx.leI_eq, Go.Sx.eqL, unL_not, unL_neg, Go.Sx.resVs, Go.Sx.resV, Go.Sx.oneL, Go.Sx.finish, Go.Sx.frz, Go.Sx.frz.go, Go.Sx.frzL, Go.Sx.frzL.go, Go.Sx.ids, Go.Sx.ids.idsL, Go.Sx.updIds, Go.Sx.reach, Go.Sx.ren, Go.Sx.ren.go, Go.Sx.renU, Go.Sx.renN, Go.Sx.renO, Go.Sx.renId, List.idxOf?_cons, Go.Sx.fillP, Go.Sx.mkAgg, Go.Sx.allP, Go.Sx.LV.cells, Go.Sx.Obj.cells, Go.Sx.splice, Go.Sx.rd, Go.Sx.push, Go.Sx.look, Go.Sx.findU, Go.Sx.setObj, Go.Sx.setU, Go.Sx.setAll, Go.Sx.callO, Go.Sx.slCells, Go.Sx.sliceO, Go.Sx.appO, Value.oneCell', Go.Sx.mmL, Go.Sx.mm2, Go.Sx.gslot, Go.Sx.IROp.slots, Go.Sx.Opd.slots, Go.Sx.indepD, Go.Sx.quickD, Go.Sx.indepR, Go.Sx.pairsD, Go.Sx.apartD, Nat.testBit, Go.Sx.Obj.ids, Go.Sx.natL, Go.Sx.optMap, Go.Sx.LV.undef, Go.undef, ltF, hl, hb, hid, hq, hk, hk', hne, hne', b0, b1, b2, w0, has_0]
  | 1, _ =>
    refine ⟨7, 0, 0, 1, 0, 0, fun H nx id qid ex hl hb hid hq hne => ?_⟩
    refine om_run (ir := ir29) rfl 0 ?_
    have b := fun H nx => byte_at H nx id qid 1 ex ((pay f t no).take 1) 0 0 7 rfl
    have b0 := fun H nx => byte_nil H nx id qid 1 0 ex
    have b1 := fun H nx => byte_err H nx id qid 1 0 0 ex 6 (by decide)
    have b2 := fun H nx => getnum_err H nx id qid 0 ex 6 1 0 (by decide)
    have w0 : IntKind.i64.wrap 0 = 0 := rfl
    have w7 : ((7 : UInt8).toNat : Int) = 7 := rfl
    have w7' : IntKind.i64.wrap 7 = 7 := rfl
    simp only [w7] at b
    have hne' : ¬ qid = id := fun e => hne e.symm
    have hk : ∀ k, id < nx + k := fun k => by omega
    have hk' : ∀ k, qid < nx + k := fun k => by omega
    generalize (pay f t no).take 1 = P at *
    simp [ir29, Go.Sx.runF_S, runCS_skip, runCS_reg, runCS_draw, runCS_seq, runCS_cond, runCS_block, runCS_loop, runCS_exit, runCS_ret, runOpsS_nil, runOpsS_cons, runOpsTS_nil, runOpsTS_cons, Go.Sx.wants, Go.Sx.evOp, Go.Sx.opd, Sx.get, Go.Sx.putD, Sx.keep, Go.Sx.binL, Go.Sx.isSh, binI_add, binI_sub, binI_mul, binI_eql, binI_neq, binI_lss, binI_leq, binI_gtr, binI_geq, Go.Sx.leI_eq, Go.Sx.eqL, unL_not, unL_neg, Go.Sx.resVs, Go.Sx.resV, Go.Sx.oneL, Go.Sx.finish, Go.Sx.frz, Go.Sx.frz.go, Go.Sx.frzL, Go.Sx.frzL.go, Go.Sx.ids, Go.Sx.ids.idsL, Go.Sx.updIds, Go.Sx.reach, Go.Sx.ren, Go.Sx.ren.go, Go.Sx.renU, Go.Sx.renN, Go.Sx.renO, Go.Sx.renId, List.idxOf?_cons, Go.Sx.fillP, Go.Sx.mkAgg, Go.Sx.allP, Go.Sx.LV.cells, Go.Sx.Obj.cells, Go.Sx.splice, Go.Sx.rd, Go.Sx.push, Go.Sx.look, Go.Sx.findU, Go.Sx.setObj, Go.Sx.setU, Go.Sx.setAll, Go.Sx.callO, Go.Sx.slCells, Go.Sx.sliceO, Go.Sx.appO, Value.oneCell', Go.Sx.mmL, Go.Sx.mm2, Go.Sx.gslot, Go.Sx.IROp.slots, Go.Sx.Opd.slots, Go.Sx.indepD, Go.Sx.quickD, Go.Sx.indepR, Go.Sx.pairsD, Go.Sx.apartD, Nat.testBit, Go.Sx.Obj.ids, Go.Sx.natL, Go.Sx.optMap, Go.Sx.LV.undef, Go.undef, ltF, hl, hb, hid, hq, hk, hk', hne, hne', b, b0, b1, b2, w0, w7', has_7, a1, a2, a4, a8, a16, a32, a64]
  | 2, _ =>
    refine ⟨7, (UInt8.ofNat f).toNat, 0, 2, 0, 0, fun H nx id qid ex hl hb hid hq hne => ?_⟩
    refine om_run (ir := ir29) rfl 0 ?_
    have b := fun H nx => byte_at H nx id qid 2 ex ((pay f t no).take 2) 0 1 7 rfl
    have b' := fun H nx => byte_at H nx id qid 1 ex ((pay f t no).take 2) 1 0 (UInt8.ofNat f) rfl
    have b0 := fun H nx => byte_nil H nx id qid 2 0 ex
    have b2 := fun H nx => getnum_err H nx id qid 0 ex 6 2 0 (by decide)
    have w0 : IntKind.i64.wrap 0 = 0 := rfl
    have w7 : ((7 : UInt8).toNat : Int) = 7 := rfl
    have w7' : IntKind.i64.wrap 7 = 7 := rfl
    simp only [w7] at b
    have w1 : IntKind.i64.wrap ((UInt8.ofNat f).toNat : Int) = (UInt8.ofNat f).toNat := wrap_i64 _ (by omega) (by have := (UInt8.ofNat f).toNat_lt; omega)
    have hne' : ¬ qid = id := fun e => hne e.symm
    have hk : ∀ k, id < nx + k := fun k => by omega
    have hk' : ∀ k, qid < nx + k := fun k => by omega
    generalize (pay f t no).take 2 = P at *
    generalize UInt8.ofNat f = bf at *
    simp [ir29, Go.Sx.runF_S, runCS_skip, runCS_reg, runCS_draw, runCS_seq, runCS_cond, runCS_block, runCS_loop, runCS_exit, runCS_ret, runOpsS_nil, runOpsS_cons, runOpsTS_nil, runOpsTS_cons, Go.Sx.wants, Go.Sx.evOp, Go.Sx.opd, Sx.get, Go.Sx.putD, Sx.keep, Go.Sx.binL, Go.Sx.isSh, binI_add, binI_sub, binI_mul, binI_eql, binI_neq, binI_lss, binI_leq, binI_gtr, binI_geq, Go.Sx.leI_eq, Go.Sx.eqL, unL_not, unL_neg, Go.Sx.resVs, Go.Sx.resV, Go.Sx.oneL, Go.Sx.finish, Go.Sx.frz, Go.Sx.frz.go, Go.Sx.frzL, Go.Sx.frzL.go, Go.Sx.ids, Go.Sx.ids.idsL, Go.Sx.updIds, Go.Sx.reach, Go.Sx.ren, Go.Sx.ren.go, Go.Sx.renU, Go.Sx.renN, Go.Sx.renO, Go.Sx.renId, List.idxOf?_cons, Go.Sx.fillP, Go.Sx.mkAgg, Go.Sx.allP, Go.Sx.LV.cells, Go.Sx.Obj.cells, Go.Sx.splice, Go.Sx.rd, Go.Sx.push, Go.Sx.look, Go.Sx.findU, Go.Sx.setObj, Go.Sx.setU, Go.Sx.setAll, Go.Sx.callO, Go.Sx.slCells, Go.Sx.sliceO, Go.Sx.appO, Value.oneCell', Go.Sx.mmL, Go.Sx.mm2, Go.Sx.gslot, Go.Sx.IROp.slots, Go.Sx.Opd.slots, Go.Sx.indepD, Go.Sx.quickD, Go.Sx.indepR, Go.Sx.pairsD, Go.Sx.apartD, Nat.testBit, Go.Sx.Obj.ids, Go.Sx.natL, Go.Sx.optMap, Go.Sx.LV.undef, Go.undef, ltF, hl, hb, hid, hq, hk, hk', hne, hne', b, b', b0, b2, w0, w1, w7', has_7, a1, a2, a4, a8, a16, a32, a64]
  | j + 3, hj =>
    have hj : j < (vnum no).length := by simp [pay] at hj; omega
    refine ⟨7, (UInt8.ofNat f).toNat, (UInt8.ofNat t).toNat, 3, j, j, fun H nx id qid ex hl hb hid hq hne => ?_⟩
    refine om_run (ir := ir29) rfl 0 ?_
    have b0 := fun H nx => byte_at H nx id qid (j + 3) ex ((pay f t no).take (j + 3)) 0 (j + 2) 7 rfl
    have b1 := fun H nx => byte_at H nx id qid (j + 2) ex ((pay f t no).take (j + 3)) 1 (j + 1) (UInt8.ofNat f) rfl
    have b2 := fun H nx => byte_at H nx id qid (j + 1) ex ((pay f t no).take (j + 3)) 2 j (UInt8.ofNat t) rfl
    have hr : rnum 0 0 ((vnum no).take j) = none := rnum_trunc _ no 0 0 j rfl hj
    have hv := vnum_len no h64
    have hjl : ((vnum no).take j).length = j := by simp; omega
    have gn := fun H nx => getnum_bad H nx id qid j ex [7, UInt8.ofNat f, UInt8.ofNat t] ((vnum no).take j) hr (by omega)
    simp only [List.length_cons, List.length_nil, Nat.zero_add, hjl] at gn
    change ∀ (H : Heap) (nx : Nat), _ → H qid = some (Go.Sx.Obj.cells (byt ((pay f t no).take (j + 3)))) → _ at gn
    have w0 : IntKind.i64.wrap 0 = 0 := rfl
    have w7 : ((7 : UInt8).toNat : Int) = 7 := rfl
    have w7' : IntKind.i64.wrap 7 = 7 := rfl
    have w1 : IntKind.i64.wrap ((UInt8.ofNat f).toNat : Int) = (UInt8.ofNat f).toNat := wrap_i64 _ (by omega) (by have := (UInt8.ofNat f).toNat_lt; omega)
    have w2 : IntKind.i64.wrap ((UInt8.ofNat t).toNat : Int) = (UInt8.ofNat t).toNat := wrap_i64 _ (by omega) (by have := (UInt8.ofNat t).toNat_lt; omega)
    simp only [w7] at b0
    have hne' : ¬ qid = id := fun e => hne e.symm
    have hk : ∀ k, id < nx + k := fun k => by omega
    have hk' : ∀ k, qid < nx + k := fun k => by omega
    generalize (pay f t no).take (j + 3) = P at *
    generalize UInt8.ofNat f = bf at *
    generalize UInt8.ofNat t = bt at *
    simp [ir29, Go.Sx.runF_S, runCS_skip, runCS_reg, runCS_draw, runCS_seq, runCS_cond, runCS_block, runCS_loop, runCS_exit, runCS_ret, runOpsS_nil, runOpsS_cons, runOpsTS_nil, runOpsTS_cons, Go.Sx.wants, Go.Sx.evOp, Go.Sx.opd, Sx.get, Go.Sx.putD, Sx.keep, Go.Sx.binL, Go.Sx.isSh, binI_add, binI_sub, binI_mul, binI_eql, binI_neq, binI_lss, binI_leq, binI_gtr, binI_geq, Go.Sx.leI_eq, Go.Sx.eqL, unL_not, unL_neg, Go.Sx.resVs, Go.Sx.resV, Go.Sx.oneL, Go.Sx.finish, Go.Sx.frz, Go.Sx.frz.go, Go.Sx.frzL, Go.Sx.frzL.go, Go.Sx.ids, Go.Sx.ids.idsL, Go.Sx.updIds, Go.Sx.reach, Go.Sx.ren, Go.Sx.ren.go, Go.Sx.renU, Go.Sx.renN, Go.Sx.renO, Go.Sx.renId, List.idxOf?_cons, Go.Sx.fillP, Go.Sx.mkAgg, Go.Sx.allP, Go.Sx.LV.cells, Go.Sx.Obj.cells, Go.Sx.splice, Go.Sx.rd, Go.Sx.push, Go.Sx.look, Go.Sx.findU, Go.Sx.setObj, Go.Sx.setU, Go.Sx.setAll, Go.Sx.callO, Go.Sx.slCells, Go.Sx.sliceO, Go.Sx.appO, Value.oneCell', Go.Sx.mmL, Go.Sx.mm2, Go.Sx.gslot, Go.Sx.IROp.slots, Go.Sx.Opd.slots, Go.Sx.indepD, Go.Sx.quickD, Go.Sx.indepR, Go.Sx.pairsD, Go.Sx.apartD, Nat.testBit, Go.Sx.Obj.ids, Go.Sx.natL, Go.Sx.optMap, Go.Sx.LV.undef, Go.undef, ltF, hl, hb, hid, hq, hk, hk', hne, hne', b0, b1, b2, gn, w0, w1, w2, w7', has_7, a1, a2, a4, a8, a16, a32, a64]
end Go.Proofs.YtkdimbcfacoboaaGreatDoor

