/- The law NetTurned, on the value machine. -/
import Derived.Test.YtkdimbcfacoboaaGreatDoorNi
import Derived.KernelRfl
namespace Go.Proofs.YtkdimbcfacoboaaGreatDoor
open Go Go.Sx
set_option linter.unusedSimpArgs false
set_option linter.unusedVariables false

theorem awake_ : Ω 5 [] (Go.Sx.look noH 0 ⟨[], []⟩) 0 = some (.bool true, [], []) := om_of_eval (n := 30) (by kernel_rfl)

theorem rem12 (u : UInt8) : binI .rem .u8 u.toNat 12 = some (.int .u8 (u.toNat % 12 : Nat)) := by
  rw [binI_rem _ _ _ (by decide)]
  have : (u.toNat : Int).tmod 12 = ((u.toNat % 12 : Nat) : Int) := by
    rw [Int.tmod_eq_emod_of_nonneg (by omega)]
    norm_cast
  rw [this]

theorem law_gen (H : Heap) (nx : Nat) (ha : Ω 5 [] (Go.Sx.look H nx ⟨[], []⟩) nx = some (.bool true, [], [])) (u v : UInt8) (no : Nat) (h64 : no < 2 ^ 64) (x : Int) (w : UInt8) :
    Ω 4 [.int .u8 u.toNat, .int .u8 v.toNat, .int .u64 no, .int .i64 x, .int .u8 w.toNat] H nx = some (.bool true, [], []) := by
  refine om_run (ir := ir4) rfl 0 ?_
  have hu := rem12 u
  have hv := rem12 v
  have hf : u.toNat % 12 < 12 := Nat.mod_lt _ (by decide)
  have ht : v.toNat % 12 < 12 := Nat.mod_lt _ (by decide)
  generalize u.toNat % 12 = f at *
  generalize v.toNat % 12 = t at *
  have w1 : IntKind.i64.wrap (f : Int) = f := wrap_i64 _ (by omega) (by omega)
  have w2 : IntKind.i64.wrap (t : Int) = t := wrap_i64 _ (by omega) (by omega)
  have hn3 : ∀ (H : Heap) (nx : Nat), Ω 6 [.int .i64 3] H nx = some (.ref nx 0, [], [some (.cells [.p (.s (.slice none 0 0)), .int .i64 3])]) := fun H nx => new_ 3 H nx
  by_cases hft : f = t
  · subst hft
    have hs := fun nid H nx => send_no nid 3 f no H nx hf
    simp [ir4, Go.Sx.runF_S, runCS_skip, runCS_reg, runCS_draw, runCS_seq, runCS_cond, runCS_block, runCS_loop, runCS_exit, runCS_ret, runOpsS_nil, runOpsS_cons, runOpsTS_nil, runOpsTS_cons, Go.Sx.wants, Go.Sx.evOp, Go.Sx.opd, Sx.get, Go.Sx.putD, Sx.keep, Go.Sx.binL, Go.Sx.isSh, binI_add, binI_sub, binI_mul, binI_eql, binI_neq, binI_lss, binI_leq, binI_gtr, binI_geq, Go.Sx.leI_eq, Go.Sx.eqL, unL_not, unL_neg, Go.Sx.resVs, Go.Sx.resV, Go.Sx.oneL, Go.Sx.finish, Go.Sx.frz, Go.Sx.frz.go, Go.Sx.frzL, Go.Sx.frzL.go, Go.Sx.ids, Go.Sx.ids.idsL, Go.Sx.updIds, Go.Sx.reach, Go.Sx.ren, Go.Sx.ren.go, Go.Sx.renU, Go.Sx.renN, Go.Sx.renO, Go.Sx.renId, List.idxOf?_cons, Go.Sx.fillP, Go.Sx.mkAgg, Go.Sx.allP, Go.Sx.LV.cells, Go.Sx.Obj.cells, Go.Sx.splice, Go.Sx.rd, Go.Sx.push, Go.Sx.look, Go.Sx.findU, Go.Sx.setObj, Go.Sx.setU, Go.Sx.setAll, Go.Sx.callO, Go.Sx.slCells, Go.Sx.sliceO, Go.Sx.appO, Value.oneCell', Go.Sx.mmL, Go.Sx.mm2, Go.Sx.gslot, Go.Sx.IROp.slots, Go.Sx.Opd.slots, Go.Sx.indepD, Go.Sx.quickD, Go.Sx.indepR, Go.Sx.pairsD, Go.Sx.apartD, Nat.testBit, Go.Sx.Obj.ids, Go.Sx.natL, Go.Sx.optMap, Go.Sx.LV.undef, Go.undef, ltF, ha, hn3, hu, hv, w1, hs]
  · have hvl := vnum_len no h64
    have hlF : (frame (pay f t no)).length = 11 + (vnum no).length := by simp [frame_len, pay]; omega
    have hs := fun nid H nx => send_1 nid 3 f t no H nx hf ht hft h64 (by decide)
    have hrF := reads_frame f t no hf ht hft h64
    have hrT := reads_turned f t no h64
    generalize frame (pay f t no) = F at *
    obtain ⟨m, hm⟩ : ∃ m : Nat, x.emod F.length = m := ⟨(x.emod F.length).toNat, (Int.toNat_of_nonneg (Int.emod_nonneg x (by omega))).symm⟩
    have hmlt : m < F.length := by
      have := Int.emod_lt_of_pos x (show (0 : Int) < F.length by omega)
      change x.emod F.length < _ at this
      omega
    have hb : F[m]? = some F[m] := List.getElem?_eq_getElem hmlt
    generalize F[m] = b at hb
    have hturn := fun nid lid H nx => turn_ nid lid 3 f t no t F H nx 7 x w b m (by omega) (by omega) hrF hm hb
    have hlG : (F.set m (b ^^^ w)).length = F.length := by simp
    have hG0 : w = 0 → F.set m (b ^^^ w) = F := fun h => by
      rw [h, UInt8.xor_zero]
      obtain ⟨h1, h2⟩ := List.getElem?_eq_some_iff.1 hb
      rw [← h2, List.set_getElem_self]
    have hG1 : w ≠ 0 → b ^^^ w ≠ b := fun h e => h (by
      have := congrArg (fun y => b ^^^ y) e
      simpa [← UInt8.xor_assoc] using this)
    by_cases hw : w = 0
    · have hr := hrF
      rw [← hG0 hw] at hr
      generalize F.set m (b ^^^ w) = G at *
      have htake := fun nid lid pid H nx => take_1 nid lid 3 f t no t G H nx 7 pid 0 (by omega) (by omega) hr
      rw [hlG] at htake
      have hw0 : ((w.toNat : Int) == 0) = true := by simp [hw]
      simp [ir4, Go.Sx.runF_S, runCS_skip, runCS_reg, runCS_draw, runCS_seq, runCS_cond, runCS_block, runCS_loop, runCS_exit, runCS_ret, runOpsS_nil, runOpsS_cons, runOpsTS_nil, runOpsTS_cons, Go.Sx.wants, Go.Sx.evOp, Go.Sx.opd, Sx.get, Go.Sx.putD, Sx.keep, Go.Sx.binL, Go.Sx.isSh, binI_add, binI_sub, binI_mul, binI_eql, binI_neq, binI_lss, binI_leq, binI_gtr, binI_geq, Go.Sx.leI_eq, Go.Sx.eqL, unL_not, unL_neg, Go.Sx.resVs, Go.Sx.resV, Go.Sx.oneL, Go.Sx.finish, Go.Sx.frz, Go.Sx.frz.go, Go.Sx.frzL, Go.Sx.frzL.go, Go.Sx.ids, Go.Sx.ids.idsL, Go.Sx.updIds, Go.Sx.reach, Go.Sx.ren, Go.Sx.ren.go, Go.Sx.renU, Go.Sx.renN, Go.Sx.renO, Go.Sx.renId, List.idxOf?_cons, Go.Sx.fillP, Go.Sx.mkAgg, Go.Sx.allP, Go.Sx.LV.cells, Go.Sx.Obj.cells, Go.Sx.splice, Go.Sx.rd, Go.Sx.push, Go.Sx.look, Go.Sx.findU, Go.Sx.setObj, Go.Sx.setU, Go.Sx.setAll, Go.Sx.callO, Go.Sx.slCells, Go.Sx.sliceO, Go.Sx.appO, Value.oneCell', Go.Sx.mmL, Go.Sx.mm2, Go.Sx.gslot, Go.Sx.IROp.slots, Go.Sx.Opd.slots, Go.Sx.indepD, Go.Sx.quickD, Go.Sx.indepR, Go.Sx.pairsD, Go.Sx.apartD, Nat.testBit, Go.Sx.Obj.ids, Go.Sx.natL, Go.Sx.optMap, Go.Sx.LV.undef, Go.undef, ltF, ha, hn3, hu, hv, w1, w2, hs, hturn, htake, hw0]
    · obtain ⟨e, he, hr⟩ := hrT m b (b ^^^ w) hb (hG1 hw)
      generalize F.set m (b ^^^ w) = G at *
      have htake := fun nid lid pid H nx => take_1 nid lid 3 0 0 0 t G H nx 0 pid e (by omega) (by omega) hr
      rw [hlG] at htake
      have hw0 : ((w.toNat : Int) == 0) = false := by
        simp
        intro h
        exact hw (UInt8.toNat_inj.1 (by simpa using h))
      have he0 : (e != 0) = true := by simp [he]
      simp [ir4, Go.Sx.runF_S, runCS_skip, runCS_reg, runCS_draw, runCS_seq, runCS_cond, runCS_block, runCS_loop, runCS_exit, runCS_ret, runOpsS_nil, runOpsS_cons, runOpsTS_nil, runOpsTS_cons, Go.Sx.wants, Go.Sx.evOp, Go.Sx.opd, Sx.get, Go.Sx.putD, Sx.keep, Go.Sx.binL, Go.Sx.isSh, binI_add, binI_sub, binI_mul, binI_eql, binI_neq, binI_lss, binI_leq, binI_gtr, binI_geq, Go.Sx.leI_eq, Go.Sx.eqL, unL_not, unL_neg, Go.Sx.resVs, Go.Sx.resV, Go.Sx.oneL, Go.Sx.finish, Go.Sx.frz, Go.Sx.frz.go, Go.Sx.frzL, Go.Sx.frzL.go, Go.Sx.ids, Go.Sx.ids.idsL, Go.Sx.updIds, Go.Sx.reach, Go.Sx.ren, Go.Sx.ren.go, Go.Sx.renU, Go.Sx.renN, Go.Sx.renO, Go.Sx.renId, List.idxOf?_cons, Go.Sx.fillP, Go.Sx.mkAgg, Go.Sx.allP, Go.Sx.LV.cells, Go.Sx.Obj.cells, Go.Sx.splice, Go.Sx.rd, Go.Sx.push, Go.Sx.look, Go.Sx.findU, Go.Sx.setObj, Go.Sx.setU, Go.Sx.setAll, Go.Sx.callO, Go.Sx.slCells, Go.Sx.sliceO, Go.Sx.appO, Value.oneCell', Go.Sx.mmL, Go.Sx.mm2, Go.Sx.gslot, Go.Sx.IROp.slots, Go.Sx.Opd.slots, Go.Sx.indepD, Go.Sx.quickD, Go.Sx.indepR, Go.Sx.pairsD, Go.Sx.apartD, Nat.testBit, Go.Sx.Obj.ids, Go.Sx.natL, Go.Sx.optMap, Go.Sx.LV.undef, Go.undef, ltF, ha, hn3, hu, hv, w1, w2, hs, hturn, htake, hw0, he0]

theorem law_ (u v : UInt8) (no : Nat) (h64 : no < 2 ^ 64) (x : Int) (w : UInt8) :
    Ω 4 [.int .u8 u.toNat, .int .u8 v.toNat, .int .u64 no, .int .i64 x, .int .u8 w.toNat] noH 0 = some (.bool true, [], []) :=
  law_gen noH 0 awake_ u v no h64 x w
end Go.Proofs.YtkdimbcfacoboaaGreatDoor

