/- Specifications: notes under way, as many as there are. -/
import Derived.Test.YtkdimbcfacoboaaGreatDoorNi
namespace Go.Proofs.YtkdimbcfacoboaaGreatDoor
open Go Go.Sx
set_option linter.unusedSimpArgs false
set_option linter.unusedVariables false

/-- The cells of frames, all for the node 0. -/
def fcs (fs : List (List UInt8)) : List LV := fs.flatMap fun F => [.p (.sl (bytP F) F.length 1 false), .int .i64 0]
theorem fcs_cons (F : List UInt8) (fs : List (List UInt8)) : fcs (F :: fs) = .p (.sl (bytP F) F.length 1 false) :: .int .i64 0 :: fcs fs := rfl
theorem fcs_app (fs gs : List (List UInt8)) : fcs (fs ++ gs) = fcs fs ++ fcs gs := by simp [fcs]
theorem fcs_len (fs : List (List UInt8)) : (fcs fs).length = fs.length * 2 := by
  induction fs with
  | nil => rfl
  | cons F fs ih => rw [fcs_cons, List.length_cons, List.length_cons, ih, List.length_cons]; omega
theorem ids_fcs (fs : List (List UInt8)) : ids.idsL (fcs fs) = [] := by
  induction fs with
  | nil => rfl
  | cons F fs ih => rw [fcs_cons, ids.idsL, ids.idsL, ih]; rfl
theorem ren_fcs (nx : Nat) (s : List Nat) (fs : List (List UInt8)) : ren.go nx s (fcs fs) = some (fcs fs) := by
  induction fs with
  | nil => rfl
  | cons F fs ih => rw [fcs_cons, ren.go, ren.go, ih]; rfl
theorem ren_app' (nx : Nat) (s : List Nat) (l m : List LV) : ren.go nx s (l ++ m) = match ren.go nx s l, ren.go nx s m with
    | some p, some q => some (p ++ q)
    | _, _ => none := by
  induction l with
  | nil => rw [List.nil_append]; cases ren.go nx s m <;> rfl
  | cons x l ih =>
    rw [List.cons_append, ren.go, ih, ren.go]
    cases ren nx s x <;> cases ren.go nx s l <;> cases ren.go nx s m <;> rfl
theorem fcs_get {fs : List (List UInt8)} {z : List LV} {i : Nat} {F : List UInt8} (h : fs[i]? = some F) : (fcs fs ++ z)[i * 2]? = some (.p (.sl (bytP F) F.length 1 false)) ∧ (fcs fs ++ z)[i * 2 + 1]? = some (.int .i64 0) := by
  induction fs generalizing i with
  | nil => simp at h
  | cons G fs ih =>
    cases i with
    | zero =>
      obtain rfl : G = F := by simpa using h
      exact ⟨rfl, rfl⟩
    | succ i =>
      have := ih (i := i) (by simpa using h)
      rw [show (i + 1) * 2 = i * 2 + 2 by omega]
      exact this
theorem fcs_take (fs : List (List UInt8)) (k : Nat) (z : List LV) (hk : k ≤ fs.length) : List.take (k * 2) (fcs fs ++ z) = fcs (fs.take k) := by
  have h : fcs fs = fcs (fs.take k) ++ fcs (fs.drop k) := by rw [← fcs_app, List.take_append_drop]
  rw [h, List.append_assoc, List.take_left']
  rw [fcs_len]; simp [hk]
theorem fcs_drop (fs : List (List UInt8)) (k : Nat) (z : List LV) (hk : k ≤ fs.length) : List.drop (k * 2) (fcs fs ++ z) = fcs (fs.drop k) ++ z := by
  have h : fcs fs = fcs (fs.take k) ++ fcs (fs.drop k) := by rw [← fcs_app, List.take_append_drop]
  rw [h, List.append_assoc, List.drop_left']
  rw [fcs_len]; simp [hk]

/-- A note that tells of the gift 'no': from 1, for 0. -/
abbrev ord (no : Nat) : PV := .agg [.s (.int .i64 7), .s (.int .i64 1), .s (.int .i64 0), .s (.int .u64 0), .s (.int .i64 0), .s (.bool false), .s (.int .u64 0), .s (.pointer none), .s (.slice none 0 0),
  .s (.int .u64 0), .s (.int .i64 0), .s (.int .i64 0), .s (.bool false), .s (.pointer none), .s (.int .u64 no)]
/-- Its frame. -/
def fr (no : Nat) : List UInt8 := frame (pay 1 0 no)

/-- Places that were cleared. -/
def zs : Nat → List LV
  | 0 => []
  | m + 1 => .p (.s (.slice none 0 0)) :: .int .i64 0 :: zs m
theorem zs_len (m : Nat) : (zs m).length = m * 2 := by
  induction m with
  | zero => rfl
  | succ m ih => simp only [zs, List.length_cons, ih]; omega
theorem ids_zs (m : Nat) : ids.idsL (zs m) = [] := by
  induction m with
  | zero => rfl
  | succ m ih => simp only [zs, ids.idsL, ih]; rfl
theorem ren_zs (nx : Nat) (s : List Nat) (m : Nat) : ren.go nx s (zs m) = some (zs m) := by
  induction m with
  | zero => rfl
  | succ m ih => simp only [zs, ren.go, ih]; rfl

section send
variable (nid lid no : Nat) (fs : List (List UInt8)) (H : Heap) (nx : Nat)
theorem send_first (h64 : no < 2 ^ 64) (hl : H nid = some (.cells [.p (.s (.slice none 0 0)), .int .i64 50])) (hid : nid < nx) :
    Ω 7 [.ref nid 0, .p (ord no)] H nx = some (.int .i64 0, [(nid, some (.cells [.arr nx 0 1 2 1 false, .int .i64 50]))], [some (.cells (fcs [fr no]))]) :=
  send_1 nid 50 1 0 no H nx (by decide) (by decide) (by decide) h64 (by decide) hl hid
theorem send_more (h64 : no < 2 ^ 64) (hk : fs.length < 50) (h0 : 0 < fs.length)
    (hl : H nid = some (.cells [.arr lid 0 fs.length 2 fs.length false, .int .i64 50])) (hg : H lid = some (.cells (fcs fs))) (hid : nid < nx) (hlid : lid < nx) (hne : nid ≠ lid) :
    Ω 7 [.ref nid 0, .p (ord no)] H nx = some (.int .i64 0, [(lid, none), (nid, some (.cells [.arr nx 0 (fs.length + 1) 2 (fs.length + 1) false, .int .i64 50]))],
      [some (.cells (fcs (fs ++ [fr no])))]) := by
  refine om_run (ir := ir7) rfl 0 ?_
  have hb : ∀ (H : Heap) (nx : Nat), Ω 12 [.p (ord no)] H nx = some (.tuple [.p (.sl (bytP (fr no)) (fr no).length 1 false), .int .i64 0], [], []) := fun H nx => bytes_ 1 0 no (by decide) (by decide) (by decide) h64 H nx
  have h1 : ¬ (50 : Int) ≤ fs.length := by omega
  have h1' : ¬ 50 ≤ fs.length := by omega
  have hk' : ∀ k, nid < nx + k := fun k => by omega
  have hk3 : ∀ k, ¬ nx + k ≤ nid := fun k => by omega
  have hk4 : ∀ k, lid < nx + k := fun k => by omega
  have hk5 : ∀ k, ¬ nx + k ≤ lid := fun k => by omega
  have hne' : ¬ lid = nid := fun e => hne e.symm
  have h41 : (fs.length + 1) * 32 ≤ 1099511627776 := by omega
  have h42 : ¬ 1099511627776 < (fs.length + 1) * 32 := by omega
  have hl0 : ¬ fs.length = 0 := by omega
  have hlen := fcs_len fs
  have hap : fcs (fs ++ [fr no]) = fcs fs ++ [.p (.sl (bytP (fr no)) (fr no).length 1 false), .int .i64 0] := by rw [fcs_app]; rfl
  rw [hap]
  simp [ir7, Go.Sx.runF_S, runCS_skip, runCS_reg, runCS_draw, runCS_seq, runCS_cond, runCS_block, runCS_loop, runCS_exit, runCS_ret, runOpsS_nil, runOpsS_cons, runOpsTS_nil, runOpsTS_cons, Go.Sx.wants, Go.Sx.evOp, Go.Sx.opd, Sx.get, Go.Sx.putD, Sx.keep, Go.Sx.binL, Go.Sx.isSh, binI_add, binI_sub, binI_mul, binI_eql, binI_neq, binI_lss, binI_leq, binI_gtr, binI_geq, Go.Sx.leI_eq, Go.Sx.eqL, unL_not, unL_neg, Go.Sx.resVs, Go.Sx.resV, Go.Sx.oneL, Go.Sx.finish, Go.Sx.frz, Go.Sx.frz.go, Go.Sx.frzL, Go.Sx.frzL.go, Go.Sx.ids, Go.Sx.ids.idsL, Go.Sx.updIds, Go.Sx.reach, Go.Sx.ren, Go.Sx.ren.go, Go.Sx.renU, Go.Sx.renN, Go.Sx.renO, Go.Sx.renId, List.idxOf?_cons, Go.Sx.fillP, Go.Sx.mkAgg, Go.Sx.allP, Go.Sx.LV.cells, Go.Sx.Obj.cells, Go.Sx.splice, Go.Sx.rd, Go.Sx.push, Go.Sx.look, Go.Sx.findU, Go.Sx.setObj, Go.Sx.setU, Go.Sx.setAll, Go.Sx.callO, Go.Sx.slCells, Go.Sx.sliceO, Go.Sx.appO, Value.oneCell', Go.Sx.mmL, Go.Sx.mm2, Go.Sx.gslot, Go.Sx.IROp.slots, Go.Sx.Opd.slots, Go.Sx.indepD, Go.Sx.quickD, Go.Sx.indepR, Go.Sx.pairsD, Go.Sx.apartD, Nat.testBit, Go.Sx.Obj.ids, Go.Sx.natL, Go.Sx.optMap, Go.Sx.LV.undef, Go.undef, ltF, hb, hl, hg, hid, hlid, hne, hne', h1, h1', hk', hk3, hk4, hk5, h41, h42, hlen, hl0, ids_app, ids_fcs, ren_app', ren_fcs]
end send

section look
variable (nid lid cp : Nat) (A B : List (List UInt8)) (F : List UInt8) (z : List LV) (x : LV) (H : Heap) (nx : Nat)
theorem look_k (h30 : F.length < 2 ^ 31) (hF : 0 < F.length) (hl : H nid = some (.cells [.arr lid 0 (A.length + 1 + B.length) 2 cp false, x])) (hg : H lid = some (.cells (fcs (A ++ F :: B) ++ z))) (hid : nid < nx) (hlid : lid < nx) :
    Ω 13 [.ref nid 0, .int .i64 A.length] H nx = some (.tuple [.arr nx 0 F.length 1 F.length false, .int .i64 0, .bool true], [], [some (.cells (byt F))]) := by
  refine om_run (ir := ir13) rfl 0 ?_
  have hemp : F.isEmpty = false := by cases F with
    | nil => simp at hF
    | cons a l => rfl
  have hh := fun H nx => hasN_ nid lid H nx x A.length (A.length + 1 + B.length) 0 cp false (by omega) (by omega)
  obtain ⟨g1, g2⟩ := fcs_get (fs := A ++ F :: B) (z := z) (i := A.length) (F := F) (by simp)
  have hlt : A.length < A.length + 1 + B.length := by omega
  have hk : ∀ k, nid < nx + k := fun k => by omega
  have hk2 : ∀ k, ¬ nx + k ≤ nid := fun k => by omega
  have hk3 : ∀ k, lid < nx + k := fun k => by omega
  have hk4 : ∀ k, ¬ nx + k ≤ lid := fun k => by omega
  have hk5 : ¬ nx ≤ nid := by omega
  have hk6 : ¬ nx ≤ lid := by omega
  generalize fcs (A ++ F :: B) ++ z = cs at *
  simp [ir13, Go.Sx.runF_S, runCS_skip, runCS_reg, runCS_draw, runCS_seq, runCS_cond, runCS_block, runCS_loop, runCS_exit, runCS_ret, runOpsS_nil, runOpsS_cons, runOpsTS_nil, runOpsTS_cons, Go.Sx.wants, Go.Sx.evOp, Go.Sx.opd, Sx.get, Go.Sx.putD, Sx.keep, Go.Sx.binL, Go.Sx.isSh, binI_add, binI_sub, binI_mul, binI_eql, binI_neq, binI_lss, binI_leq, binI_gtr, binI_geq, Go.Sx.leI_eq, Go.Sx.eqL, unL_not, unL_neg, Go.Sx.resVs, Go.Sx.resV, Go.Sx.oneL, Go.Sx.finish, Go.Sx.frz, Go.Sx.frz.go, Go.Sx.frzL, Go.Sx.frzL.go, Go.Sx.ids, Go.Sx.ids.idsL, Go.Sx.updIds, Go.Sx.reach, Go.Sx.ren, Go.Sx.ren.go, Go.Sx.renU, Go.Sx.renN, Go.Sx.renO, Go.Sx.renId, List.idxOf?_cons, Go.Sx.fillP, Go.Sx.mkAgg, Go.Sx.allP, Go.Sx.LV.cells, Go.Sx.Obj.cells, Go.Sx.splice, Go.Sx.rd, Go.Sx.push, Go.Sx.look, Go.Sx.findU, Go.Sx.setObj, Go.Sx.setU, Go.Sx.setAll, Go.Sx.callO, Go.Sx.slCells, Go.Sx.sliceO, Go.Sx.appO, Value.oneCell', Go.Sx.mmL, Go.Sx.mm2, Go.Sx.gslot, Go.Sx.IROp.slots, Go.Sx.Opd.slots, Go.Sx.indepD, Go.Sx.quickD, Go.Sx.indepR, Go.Sx.pairsD, Go.Sx.apartD, Nat.testBit, Go.Sx.Obj.ids, Go.Sx.natL, Go.Sx.optMap, Go.Sx.LV.undef, Go.undef, ltF, hh, hl, hid, hg, hlid, g1, g2, hlt, clone_sl F false h30, hk, hk2, hk3, hk4, hk5, hk6, hemp, byt_len, bytP_len, take_byt, ids_byt, ren_byt, ids_app, ren_app, allP_byt, allP_app]

theorem del_cells (A' B' z : List LV) (p q n o : LV) : splice (splice (A' ++ p :: q :: (B' ++ z)) A'.length B') (A'.length + B'.length) [n, o] = A' ++ (B' ++ n :: o :: z) := by
  have e1 : splice (A' ++ p :: q :: (B' ++ z)) A'.length B' = A' ++ (B' ++ List.drop B'.length (p :: q :: (B' ++ z))) := by
    simp only [splice]
    rw [List.take_left', List.append_assoc, ← List.drop_drop, List.drop_left'] <;> rfl
  rw [e1]
  simp only [splice, List.length_cons, List.length_nil]
  rw [← List.append_assoc, List.take_left' (by simp), ← List.drop_drop, List.drop_left' (by simp), List.drop_drop]
  have e2 : List.drop (B'.length + (0 + 1 + 1)) (p :: q :: (B' ++ z)) = z := by
    rw [show B'.length + (0 + 1 + 1) = B'.length + 2 by omega]
    rw [List.drop_succ_cons, List.drop_succ_cons, List.drop_left' rfl]
  rw [e2]
  simp
theorem delete_k (m : Nat) (hcpm : cp = A.length + 1 + B.length + m) (hc30 : cp < 2 ^ 20) (hg : H lid = some (.cells (fcs (A ++ F :: B) ++ zs m))) (hlid : lid < nx) :
    Ω 26 [.arr lid 0 (A.length + 1 + B.length) 2 cp false, .int .i64 A.length, .int .i64 (A.length + 1)] H nx =
    some (.arr lid 0 (A.length + B.length) 2 cp false, [(lid, some (.cells (fcs (A ++ B) ++ zs (m + 1))))], []) := by
  refine om_run (ir := ir26) rfl 0 ?_
  have hcp : A.length + 1 + B.length ≤ cp := by omega
  have hz := zs_len m
  have hzi := ids_zs m
  have hzr := fun nx s => ren_zs nx s m
  rw [show zs (m + 1) = .p (.s (.slice none 0 0)) :: .int .i64 0 :: zs m from rfl]
  generalize zs m = z at *
  have hlA := fcs_len A
  have hlB := fcs_len B
  have hcs : fcs (A ++ F :: B) ++ z = fcs A ++ .p (.sl (bytP F) F.length 1 false) :: .int .i64 0 :: (fcs B ++ z) := by rw [fcs_app, fcs_cons]; simp
  have hres : fcs (A ++ B) ++ .p (.s (.slice none 0 0)) :: .int .i64 0 :: z = fcs A ++ (fcs B ++ .p (.s (.slice none 0 0)) :: .int .i64 0 :: z) := by rw [fcs_app]; simp
  have hdel := del_cells (fcs A) (fcs B) z (.p (.sl (bytP F) F.length 1 false)) (.int .i64 0) (.p (.s (.slice none 0 0))) (.int .i64 0)
  rw [hcs] at hg
  rw [hres]
  have hw : IntKind.i64.wrap ((A.length : Int) + 1) = (A.length : Int) + 1 := wrap_i64 _ (by omega) (by omega)
  have f1 : (0 : Int) ≤ (A.length : Int) + 1 := by omega
  have f2 : ((A.length : Int) + 1).toNat = A.length + 1 := by omega
  have f3 : ((A.length : Int) == (A.length : Int) + 1) = false := by simp; omega
  have f7 : (0 : Int) ≤ (A.length : Int) + 1 + B.length := by omega
  have f8 : ((A.length : Int) + 1 + B.length).toNat = A.length + 1 + B.length := by omega
  have f4 : A.length + 1 ≤ A.length + 1 + B.length := by omega
  have f5 : A.length ≤ A.length + 1 + B.length := by omega
  have f6 : A.length + 1 + B.length - (A.length + 1) = B.length := by omega
  have hyc : List.take (B.length * 2) (List.drop ((A.length + 1) * 2) (fcs A ++ .p (.sl (bytP F) F.length 1 false) :: .int .i64 0 :: (fcs B ++ z))) = fcs B := by
    rw [show (A.length + 1) * 2 = A.length * 2 + 2 by omega, ← List.drop_drop, List.drop_left' hlA]
    rw [List.drop_succ_cons, List.drop_succ_cons, List.drop_zero, List.take_left' hlB]
  have hQ : (fcs A ++ .p (.sl (bytP F) F.length 1 false) :: .int .i64 0 :: (fcs B ++ z)).length = cp * 2 := by
    simp only [List.length_append, List.length_cons, hlA, hlB, hz]
    omega
  rw [hlA, hlB, ← Nat.add_mul] at hdel
  generalize fcs A ++ .p (.sl (bytP F) F.length 1 false) :: .int .i64 0 :: (fcs B ++ z) = Q at *
  have hR : ids.idsL (fcs A ++ (fcs B ++ .p (.s (.slice none 0 0)) :: .int .i64 0 :: z)) = [] ∧ ∀ nx s, ren.go nx s (fcs A ++ (fcs B ++ .p (.s (.slice none 0 0)) :: .int .i64 0 :: z)) = some (fcs A ++ (fcs B ++ .p (.s (.slice none 0 0)) :: .int .i64 0 :: z)) := by
    constructor
    · simp [ids_app, ids_fcs, ids.idsL, ids, hzi]
    · intro nx s
      simp [ren_app', ren_fcs, ren.go, ren, hzr]
  generalize fcs A ++ (fcs B ++ .p (.s (.slice none 0 0)) :: .int .i64 0 :: z) = R at *
  generalize fcs B = C at *
  have hlen2 : (splice Q (A.length * 2) C).length = cp * 2 := by simp only [splice, List.length_append, List.length_take, List.length_drop, hQ, hlB]; omega
  generalize A.length = a at *
  generalize B.length = b at *
  have g1 : (a + 1) * 2 + b * 2 ≤ cp * 2 := by omega
  have g2 : ¬ 1099511627776 < (a + b) * 32 := by omega
  have g3 : ¬ cp * 2 < a * 2 := by omega
  have g4 : ¬ a * 2 = cp * 2 := by omega
  have g4' : ¬ a = cp := by omega
  have g5 : (a + b) * 2 ≤ cp * 2 := by omega
  have g5' : a + b ≤ cp := by omega
  have g6 : a + 1 + b - (a + b) = 1 := by omega
  have g7 : a + b ≤ a + 1 + b := by omega
  have g8 : (a + b) * 2 + 2 ≤ cp * 2 := by omega
  have g9 : (0 : Int) ≤ (a : Int) + b := by omega
  have g10 : ((a : Int) + b).toNat = a + b := by omega
  by_cases hB : b = 0
  · subst hB
    have hC : C = [] := List.length_eq_zero_iff.1 (by rw [hlB])
    subst hC
    have hsp : splice Q (a * 2) [] = Q := by simp [splice]
    rw [hsp] at hdel
    rw [Nat.add_zero] at hdel
    have q1 : a + 1 - a = 1 := by omega
    have q2 : a + 1 ≤ cp := by omega
    have q3 : (a + 1) * 2 ≤ cp * 2 := by omega
    have q4 : a * 2 + 2 ≤ cp * 2 := by omega
    simp only [Nat.add_zero, Int.natCast_zero, Int.add_zero] at f4 f5 f6 f7 f8
    simp [ir26, Go.Sx.runF_S, runCS_skip, runCS_reg, runCS_draw, runCS_seq, runCS_cond, runCS_block, runCS_loop, runCS_exit, runCS_ret, runOpsS_nil, runOpsS_cons, runOpsTS_nil, runOpsTS_cons, Go.Sx.wants, Go.Sx.evOp, Go.Sx.opd, Sx.get, Go.Sx.putD, Sx.keep, Go.Sx.binL, Go.Sx.isSh, binI_add, binI_sub, binI_mul, binI_eql, binI_neq, binI_lss, binI_leq, binI_gtr, binI_geq, Go.Sx.leI_eq, Go.Sx.eqL, unL_not, unL_neg, Go.Sx.resVs, Go.Sx.resV, Go.Sx.oneL, Go.Sx.finish, Go.Sx.frz, Go.Sx.frz.go, Go.Sx.frzL, Go.Sx.frzL.go, Go.Sx.ids, Go.Sx.ids.idsL, Go.Sx.updIds, Go.Sx.reach, Go.Sx.ren, Go.Sx.ren.go, Go.Sx.renU, Go.Sx.renN, Go.Sx.renO, Go.Sx.renId, List.idxOf?_cons, Go.Sx.fillP, Go.Sx.mkAgg, Go.Sx.allP, Go.Sx.LV.cells, Go.Sx.Obj.cells, Go.Sx.rd, Go.Sx.push, Go.Sx.look, Go.Sx.findU, Go.Sx.setObj, Go.Sx.setU, Go.Sx.setAll, Go.Sx.callO, Go.Sx.slCells, Go.Sx.sliceO, Go.Sx.appO, Value.oneCell', Go.Sx.mmL, Go.Sx.mm2, Go.Sx.gslot, Go.Sx.IROp.slots, Go.Sx.Opd.slots, Go.Sx.indepD, Go.Sx.quickD, Go.Sx.indepR, Go.Sx.pairsD, Go.Sx.apartD, Nat.testBit, Go.Sx.Obj.ids, Go.Sx.natL, Go.Sx.optMap, Go.Sx.LV.undef, Go.undef, ltF, hg, hlid, hw, f1, f2, f3, hQ, hdel, g3, g4, g4', q1, q2, q3, q4, hR]
  · simp [ir26, Go.Sx.runF_S, runCS_skip, runCS_reg, runCS_draw, runCS_seq, runCS_cond, runCS_block, runCS_loop, runCS_exit, runCS_ret, runOpsS_nil, runOpsS_cons, runOpsTS_nil, runOpsTS_cons, Go.Sx.wants, Go.Sx.evOp, Go.Sx.opd, Sx.get, Go.Sx.putD, Sx.keep, Go.Sx.binL, Go.Sx.isSh, binI_add, binI_sub, binI_mul, binI_eql, binI_neq, binI_lss, binI_leq, binI_gtr, binI_geq, Go.Sx.leI_eq, Go.Sx.eqL, unL_not, unL_neg, Go.Sx.resVs, Go.Sx.resV, Go.Sx.oneL, Go.Sx.finish, Go.Sx.frz, Go.Sx.frz.go, Go.Sx.frzL, Go.Sx.frzL.go, Go.Sx.ids, Go.Sx.ids.idsL, Go.Sx.updIds, Go.Sx.reach, Go.Sx.ren, Go.Sx.ren.go, Go.Sx.renU, Go.Sx.renN, Go.Sx.renO, Go.Sx.renId, List.idxOf?_cons, Go.Sx.fillP, Go.Sx.mkAgg, Go.Sx.allP, Go.Sx.LV.cells, Go.Sx.Obj.cells, Go.Sx.rd, Go.Sx.push, Go.Sx.look, Go.Sx.findU, Go.Sx.setObj, Go.Sx.setU, Go.Sx.setAll, Go.Sx.callO, Go.Sx.slCells, Go.Sx.sliceO, Go.Sx.appO, Value.oneCell', Go.Sx.mmL, Go.Sx.mm2, Go.Sx.gslot, Go.Sx.IROp.slots, Go.Sx.Opd.slots, Go.Sx.indepD, Go.Sx.quickD, Go.Sx.indepR, Go.Sx.pairsD, Go.Sx.apartD, Nat.testBit, Go.Sx.Obj.ids, Go.Sx.natL, Go.Sx.optMap, Go.Sx.LV.undef, Go.undef, ltF, hg, hlid, hw, f1, f2, f3, f4, f5, f6, f7, f8, hyc, hlB, hB, hQ, hlen2, hdel, g1, g2, g3, g4, g4', g5, g5', g6, g7, g8, g9, g10, hcp, hR]
theorem drop_k (m : Nat) (hcpm : cp = A.length + 1 + B.length + m) (hc30 : cp < 2 ^ 20) (hl : H nid = some (.cells [.arr lid 0 (A.length + 1 + B.length) 2 cp false, .int .i64 50])) (hg : H lid = some (.cells (fcs (A ++ F :: B) ++ zs m))) (hid : nid < nx) (hlid : lid < nx) (hne : nid ≠ lid) :
    Ω 14 [.ref nid 0, .int .i64 A.length] H nx = some (.int .i64 0, [(lid, some (.cells (fcs (A ++ B) ++ zs (m + 1)))), (nid, some (.cells [.arr lid 0 (A.length + B.length) 2 cp false, .int .i64 50]))], []) := by
  refine om_run (ir := ir14) rfl 0 ?_
  have hh := fun H nx => hasN_ nid lid H nx (.int .i64 50) A.length (A.length + 1 + B.length) 0 cp false (by omega) (by omega)
  have hd := fun H nx => delete_k lid cp A B F H nx m hcpm hc30
  have hw : IntKind.i64.wrap ((A.length : Int) + 1) = (A.length : Int) + 1 := wrap_i64 _ (by omega) (by omega)
  have hi := ids_zs (m + 1)
  have hr := fun nx s => ren_zs nx s (m + 1)
  generalize zs (m + 1) = z at *
  simp [ir14, Go.Sx.runF_S, runCS_skip, runCS_reg, runCS_draw, runCS_seq, runCS_cond, runCS_block, runCS_loop, runCS_exit, runCS_ret, runOpsS_nil, runOpsS_cons, runOpsTS_nil, runOpsTS_cons, Go.Sx.wants, Go.Sx.evOp, Go.Sx.opd, Sx.get, Go.Sx.putD, Sx.keep, Go.Sx.binL, Go.Sx.isSh, binI_add, binI_sub, binI_mul, binI_eql, binI_neq, binI_lss, binI_leq, binI_gtr, binI_geq, Go.Sx.leI_eq, Go.Sx.eqL, unL_not, unL_neg, Go.Sx.resVs, Go.Sx.resV, Go.Sx.oneL, Go.Sx.finish, Go.Sx.frz, Go.Sx.frz.go, Go.Sx.frzL, Go.Sx.frzL.go, Go.Sx.ids, Go.Sx.ids.idsL, Go.Sx.updIds, Go.Sx.reach, Go.Sx.ren, Go.Sx.ren.go, Go.Sx.renU, Go.Sx.renN, Go.Sx.renO, Go.Sx.renId, List.idxOf?_cons, Go.Sx.fillP, Go.Sx.mkAgg, Go.Sx.allP, Go.Sx.LV.cells, Go.Sx.Obj.cells, Go.Sx.splice, Go.Sx.rd, Go.Sx.push, Go.Sx.look, Go.Sx.findU, Go.Sx.setObj, Go.Sx.setU, Go.Sx.setAll, Go.Sx.callO, Go.Sx.slCells, Go.Sx.sliceO, Go.Sx.appO, Value.oneCell', Go.Sx.mmL, Go.Sx.mm2, Go.Sx.gslot, Go.Sx.IROp.slots, Go.Sx.Opd.slots, Go.Sx.indepD, Go.Sx.quickD, Go.Sx.indepR, Go.Sx.pairsD, Go.Sx.apartD, Nat.testBit, Go.Sx.Obj.ids, Go.Sx.natL, Go.Sx.optMap, Go.Sx.LV.undef, Go.undef, ltF, hh, hd, hw, hl, hid, hg, hlid, hne, ids_app, ids_fcs, ren_app', ren_fcs, hi, hr]

theorem take_k (m : Nat) (no : Nat) (h30 : F.length < 2 ^ 31) (hF : 0 < F.length) (hr : Reads F (ord no) 0) (hcpm : cp = A.length + 1 + B.length + m) (hc30 : cp < 2 ^ 20) (hl : H nid = some (.cells [.arr lid 0 (A.length + 1 + B.length) 2 cp false, .int .i64 50])) (hg : H lid = some (.cells (fcs (A ++ F :: B) ++ zs m))) (hid : nid < nx) (hlid : lid < nx) (hne : nid ≠ lid) :
    Ω 8 [.ref nid 0, .int .i64 A.length] H nx = some (.tuple [.p (ord no), .int .i64 0], [(nid, some (.cells [.arr lid 0 (A.length + B.length) 2 cp false, .int .i64 50])), (lid, some (.cells (fcs (A ++ B) ++ zs (m + 1))))], []) := by
  refine om_run (ir := ir8) rfl 0 ?_
  have hlk := fun H nx => look_k nid lid cp A B F (zs m) (.int .i64 50) H nx h30 hF
  have hdr := fun H nx => drop_k nid lid cp A B F H nx m hcpm hc30
  have hrd := fun id H nx => hr id H nx
  have hi := ids_zs (m + 1)
  have hr := fun nx s => ren_zs nx s (m + 1)
  generalize zs (m + 1) = z' at *
  generalize zs m = z at *
  have hk : ∀ k, nid < nx + k := fun k => by omega
  have hk2 : ∀ k, ¬ nx + k ≤ nid := fun k => by omega
  have hk3 : ∀ k, lid < nx + k := fun k => by omega
  have hk4 : ∀ k, ¬ nx + k ≤ lid := fun k => by omega
  have q1 : ∀ k, ¬ nx + k = nid := fun k => by omega
  have q2 : ∀ k, ¬ nx + k = lid := fun k => by omega
  have d3' : ¬ lid = nid := fun e => hne e.symm
  simp [ir8, Go.Sx.runF_S, runCS_skip, runCS_reg, runCS_draw, runCS_seq, runCS_cond, runCS_block, runCS_loop, runCS_exit, runCS_ret, runOpsS_nil, runOpsS_cons, runOpsTS_nil, runOpsTS_cons, Go.Sx.wants, Go.Sx.evOp, Go.Sx.opd, Sx.get, Go.Sx.putD, Sx.keep, Go.Sx.binL, Go.Sx.isSh, binI_add, binI_sub, binI_mul, binI_eql, binI_neq, binI_lss, binI_leq, binI_gtr, binI_geq, Go.Sx.leI_eq, Go.Sx.eqL, unL_not, unL_neg, Go.Sx.resVs, Go.Sx.resV, Go.Sx.oneL, Go.Sx.finish, Go.Sx.frz, Go.Sx.frz.go, Go.Sx.frzL, Go.Sx.frzL.go, Go.Sx.ids, Go.Sx.ids.idsL, Go.Sx.updIds, Go.Sx.reach, Go.Sx.ren, Go.Sx.ren.go, Go.Sx.renU, Go.Sx.renN, Go.Sx.renO, Go.Sx.renId, List.idxOf?_cons, Go.Sx.fillP, Go.Sx.mkAgg, Go.Sx.allP, Go.Sx.LV.cells, Go.Sx.Obj.cells, Go.Sx.splice, Go.Sx.rd, Go.Sx.push, Go.Sx.look, Go.Sx.findU, Go.Sx.setObj, Go.Sx.setU, Go.Sx.setAll, Go.Sx.callO, Go.Sx.slCells, Go.Sx.sliceO, Go.Sx.appO, Value.oneCell', Go.Sx.mmL, Go.Sx.mm2, Go.Sx.gslot, Go.Sx.IROp.slots, Go.Sx.Opd.slots, Go.Sx.indepD, Go.Sx.quickD, Go.Sx.indepR, Go.Sx.pairsD, Go.Sx.apartD, Nat.testBit, Go.Sx.Obj.ids, Go.Sx.natL, Go.Sx.optMap, Go.Sx.LV.undef, Go.undef, ltF, hlk, hdr, hrd, hl, hg, hid, hlid, hne, d3', hk, hk2, hk3, hk4, q1, q2, byt_len, bytP_len, take_byt, ids_byt, ren_byt, ids_app, ren_app, allP_byt, allP_app, ids_fcs, ren_app', ren_fcs, hi, hr]
end look

section none
variable (nid lid cp : Nat) (H : Heap) (nx : Nat)
theorem has_nil (x : LV) (hl : H nid = some (.cells [.p (.s (.slice none 0 0)), x])) (hid : nid < nx) : Ω 16 [.ref nid 0, .int .i64 0] H nx = some (.bool false, [], []) := by
  refine om_run (ir := ir16) rfl 0 ?_
  have hh : ∀ (H : Heap) (nx : Nat), H nid = some (.cells [.p (.s (.slice none 0 0)), x]) → nid < nx → Ω 9 [.ref nid 0] H nx = some (.int .i64 0, [], []) := fun H nx hl hid => by
    refine om_run (ir := ir9) rfl 0 ?_
    simp [ir9, Go.Sx.runF_S, runCS_skip, runCS_reg, runCS_draw, runCS_seq, runCS_cond, runCS_block, runCS_loop, runCS_exit, runCS_ret, runOpsS_nil, runOpsS_cons, runOpsTS_nil, runOpsTS_cons, Go.Sx.wants, Go.Sx.evOp, Go.Sx.opd, Sx.get, Go.Sx.putD, Sx.keep, Go.Sx.binL, Go.Sx.isSh, binI_add, binI_sub, binI_mul, binI_eql, binI_neq, binI_lss, binI_leq, binI_gtr, binI_geq, Go.Sx.leI_eq, Go.Sx.eqL, unL_not, unL_neg, Go.Sx.resVs, Go.Sx.resV, Go.Sx.oneL, Go.Sx.finish, Go.Sx.frz, Go.Sx.frz.go, Go.Sx.frzL, Go.Sx.frzL.go, Go.Sx.ids, Go.Sx.ids.idsL, Go.Sx.updIds, Go.Sx.reach, Go.Sx.ren, Go.Sx.ren.go, Go.Sx.renU, Go.Sx.renN, Go.Sx.renO, Go.Sx.renId, List.idxOf?_cons, Go.Sx.fillP, Go.Sx.mkAgg, Go.Sx.allP, Go.Sx.LV.cells, Go.Sx.Obj.cells, Go.Sx.splice, Go.Sx.rd, Go.Sx.push, Go.Sx.look, Go.Sx.findU, Go.Sx.setObj, Go.Sx.setU, Go.Sx.setAll, Go.Sx.callO, Go.Sx.slCells, Go.Sx.sliceO, Go.Sx.appO, Value.oneCell', Go.Sx.mmL, Go.Sx.mm2, Go.Sx.gslot, Go.Sx.IROp.slots, Go.Sx.Opd.slots, Go.Sx.indepD, Go.Sx.quickD, Go.Sx.indepR, Go.Sx.pairsD, Go.Sx.apartD, Nat.testBit, Go.Sx.Obj.ids, Go.Sx.natL, Go.Sx.optMap, Go.Sx.LV.undef, Go.undef, ltF, hl, hid]
  simp [ir16, Go.Sx.runF_S, runCS_skip, runCS_reg, runCS_draw, runCS_seq, runCS_cond, runCS_block, runCS_loop, runCS_exit, runCS_ret, runOpsS_nil, runOpsS_cons, runOpsTS_nil, runOpsTS_cons, Go.Sx.wants, Go.Sx.evOp, Go.Sx.opd, Sx.get, Go.Sx.putD, Sx.keep, Go.Sx.binL, Go.Sx.isSh, binI_add, binI_sub, binI_mul, binI_eql, binI_neq, binI_lss, binI_leq, binI_gtr, binI_geq, Go.Sx.leI_eq, Go.Sx.eqL, unL_not, unL_neg, Go.Sx.resVs, Go.Sx.resV, Go.Sx.oneL, Go.Sx.finish, Go.Sx.frz, Go.Sx.frz.go, Go.Sx.frzL, Go.Sx.frzL.go, Go.Sx.ids, Go.Sx.ids.idsL, Go.Sx.updIds, Go.Sx.reach, Go.Sx.ren, Go.Sx.ren.go, Go.Sx.renU, Go.Sx.renN, Go.Sx.renO, Go.Sx.renId, List.idxOf?_cons, Go.Sx.fillP, Go.Sx.mkAgg, Go.Sx.allP, Go.Sx.LV.cells, Go.Sx.Obj.cells, Go.Sx.splice, Go.Sx.rd, Go.Sx.push, Go.Sx.look, Go.Sx.findU, Go.Sx.setObj, Go.Sx.setU, Go.Sx.setAll, Go.Sx.callO, Go.Sx.slCells, Go.Sx.sliceO, Go.Sx.appO, Value.oneCell', Go.Sx.mmL, Go.Sx.mm2, Go.Sx.gslot, Go.Sx.IROp.slots, Go.Sx.Opd.slots, Go.Sx.indepD, Go.Sx.quickD, Go.Sx.indepR, Go.Sx.pairsD, Go.Sx.apartD, Nat.testBit, Go.Sx.Obj.ids, Go.Sx.natL, Go.Sx.optMap, Go.Sx.LV.undef, Go.undef, ltF, hh, hl, hid]
theorem has_0' (x : LV) (hl : H nid = some (.cells [.arr lid 0 0 2 cp false, x])) (hid : nid < nx) : Ω 16 [.ref nid 0, .int .i64 0] H nx = some (.bool false, [], []) := by
  refine om_run (ir := ir16) rfl 0 ?_
  have hh := fun H nx => len_ nid lid H nx x 0 0 cp false
  simp [ir16, Go.Sx.runF_S, runCS_skip, runCS_reg, runCS_draw, runCS_seq, runCS_cond, runCS_block, runCS_loop, runCS_exit, runCS_ret, runOpsS_nil, runOpsS_cons, runOpsTS_nil, runOpsTS_cons, Go.Sx.wants, Go.Sx.evOp, Go.Sx.opd, Sx.get, Go.Sx.putD, Sx.keep, Go.Sx.binL, Go.Sx.isSh, binI_add, binI_sub, binI_mul, binI_eql, binI_neq, binI_lss, binI_leq, binI_gtr, binI_geq, Go.Sx.leI_eq, Go.Sx.eqL, unL_not, unL_neg, Go.Sx.resVs, Go.Sx.resV, Go.Sx.oneL, Go.Sx.finish, Go.Sx.frz, Go.Sx.frz.go, Go.Sx.frzL, Go.Sx.frzL.go, Go.Sx.ids, Go.Sx.ids.idsL, Go.Sx.updIds, Go.Sx.reach, Go.Sx.ren, Go.Sx.ren.go, Go.Sx.renU, Go.Sx.renN, Go.Sx.renO, Go.Sx.renId, List.idxOf?_cons, Go.Sx.fillP, Go.Sx.mkAgg, Go.Sx.allP, Go.Sx.LV.cells, Go.Sx.Obj.cells, Go.Sx.splice, Go.Sx.rd, Go.Sx.push, Go.Sx.look, Go.Sx.findU, Go.Sx.setObj, Go.Sx.setU, Go.Sx.setAll, Go.Sx.callO, Go.Sx.slCells, Go.Sx.sliceO, Go.Sx.appO, Value.oneCell', Go.Sx.mmL, Go.Sx.mm2, Go.Sx.gslot, Go.Sx.IROp.slots, Go.Sx.Opd.slots, Go.Sx.indepD, Go.Sx.quickD, Go.Sx.indepR, Go.Sx.pairsD, Go.Sx.apartD, Nat.testBit, Go.Sx.Obj.ids, Go.Sx.natL, Go.Sx.optMap, Go.Sx.LV.undef, Go.undef, ltF, hh, hl, hid]
theorem take_none (h : ∀ (H' : Heap) (nx' : Nat), H' nid = H nid → nid < nx' → Ω 16 [.ref nid 0, .int .i64 0] H' nx' = some (.bool false, [], [])) (hid : nid < nx) :
    Ω 8 [.ref nid 0, .int .i64 0] H nx = some (.tuple [.p (nt 0 0 0 0), .int .i64 2], [], []) := by
  have hlk : ∀ (H' : Heap) (nx' : Nat), H' nid = H nid → nid < nx' → Ω 13 [.ref nid 0, .int .i64 0] H' nx' = some (.tuple [.p (.s (.slice none 0 0)), .int .i64 0, .bool false], [], []) := fun H' nx' e hid => by
    refine om_run (ir := ir13) rfl 0 ?_
    simp [ir13, Go.Sx.runF_S, runCS_skip, runCS_reg, runCS_draw, runCS_seq, runCS_cond, runCS_block, runCS_loop, runCS_exit, runCS_ret, runOpsS_nil, runOpsS_cons, runOpsTS_nil, runOpsTS_cons, Go.Sx.wants, Go.Sx.evOp, Go.Sx.opd, Sx.get, Go.Sx.putD, Sx.keep, Go.Sx.binL, Go.Sx.isSh, binI_add, binI_sub, binI_mul, binI_eql, binI_neq, binI_lss, binI_leq, binI_gtr, binI_geq, Go.Sx.leI_eq, Go.Sx.eqL, unL_not, unL_neg, Go.Sx.resVs, Go.Sx.resV, Go.Sx.oneL, Go.Sx.finish, Go.Sx.frz, Go.Sx.frz.go, Go.Sx.frzL, Go.Sx.frzL.go, Go.Sx.ids, Go.Sx.ids.idsL, Go.Sx.updIds, Go.Sx.reach, Go.Sx.ren, Go.Sx.ren.go, Go.Sx.renU, Go.Sx.renN, Go.Sx.renO, Go.Sx.renId, List.idxOf?_cons, Go.Sx.fillP, Go.Sx.mkAgg, Go.Sx.allP, Go.Sx.LV.cells, Go.Sx.Obj.cells, Go.Sx.splice, Go.Sx.rd, Go.Sx.push, Go.Sx.look, Go.Sx.findU, Go.Sx.setObj, Go.Sx.setU, Go.Sx.setAll, Go.Sx.callO, Go.Sx.slCells, Go.Sx.sliceO, Go.Sx.appO, Value.oneCell', Go.Sx.mmL, Go.Sx.mm2, Go.Sx.gslot, Go.Sx.IROp.slots, Go.Sx.Opd.slots, Go.Sx.indepD, Go.Sx.quickD, Go.Sx.indepR, Go.Sx.pairsD, Go.Sx.apartD, Nat.testBit, Go.Sx.Obj.ids, Go.Sx.natL, Go.Sx.optMap, Go.Sx.LV.undef, Go.undef, ltF, h, e, hid]
  refine om_run (ir := ir8) rfl 0 ?_
  have hk : ∀ k, nid < nx + k := fun k => by omega
  simp [ir8, Go.Sx.runF_S, runCS_skip, runCS_reg, runCS_draw, runCS_seq, runCS_cond, runCS_block, runCS_loop, runCS_exit, runCS_ret, runOpsS_nil, runOpsS_cons, runOpsTS_nil, runOpsTS_cons, Go.Sx.wants, Go.Sx.evOp, Go.Sx.opd, Sx.get, Go.Sx.putD, Sx.keep, Go.Sx.binL, Go.Sx.isSh, binI_add, binI_sub, binI_mul, binI_eql, binI_neq, binI_lss, binI_leq, binI_gtr, binI_geq, Go.Sx.leI_eq, Go.Sx.eqL, unL_not, unL_neg, Go.Sx.resVs, Go.Sx.resV, Go.Sx.oneL, Go.Sx.finish, Go.Sx.frz, Go.Sx.frz.go, Go.Sx.frzL, Go.Sx.frzL.go, Go.Sx.ids, Go.Sx.ids.idsL, Go.Sx.updIds, Go.Sx.reach, Go.Sx.ren, Go.Sx.ren.go, Go.Sx.renU, Go.Sx.renN, Go.Sx.renO, Go.Sx.renId, List.idxOf?_cons, Go.Sx.fillP, Go.Sx.mkAgg, Go.Sx.allP, Go.Sx.LV.cells, Go.Sx.Obj.cells, Go.Sx.splice, Go.Sx.rd, Go.Sx.push, Go.Sx.look, Go.Sx.findU, Go.Sx.setObj, Go.Sx.setU, Go.Sx.setAll, Go.Sx.callO, Go.Sx.slCells, Go.Sx.sliceO, Go.Sx.appO, Value.oneCell', Go.Sx.mmL, Go.Sx.mm2, Go.Sx.gslot, Go.Sx.IROp.slots, Go.Sx.Opd.slots, Go.Sx.indepD, Go.Sx.quickD, Go.Sx.indepR, Go.Sx.pairsD, Go.Sx.apartD, Nat.testBit, Go.Sx.Obj.ids, Go.Sx.natL, Go.Sx.optMap, Go.Sx.LV.undef, Go.undef, ltF, hlk, hid, hk]
end none
end Go.Proofs.YtkdimbcfacoboaaGreatDoor

