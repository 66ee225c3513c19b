/- The law NetOrder, on the value machine. -/
import Derived.Test.YtkdimbcfacoboaaGreatDoorNl
import Derived.Test.YtkdimbcfacoboaaGreatDoorNp
import Derived.Test.YtkdimbcfacoboaaGreatDoorNj
namespace Go.Proofs.YtkdimbcfacoboaaGreatDoor
open Go Go.Sx
set_option linter.unusedSimpArgs false
set_option linter.unusedVariables false

theorem numsP_take (n : Nat) (l : List Nat) : List.take n (numsP l) = numsP (l.take n) := by simp [numsP]

/-- A slice of numbers, as the machine has it. -/
def Nos (x : LV) (l : List Nat) : Prop := (x = .p (.s (.slice none 0 0)) ∧ l = []) ∨ ∃ fl, x = .p (.sl (numsP l) l.length 1 fl)

theorem order_gen (H : Heap) (nx : Nat) (ha : Ω 5 [] (Go.Sx.look H nx ⟨[], []⟩) nx = some (.bool true, [], [])) (x : LV) (l : List Nat) (hx : Nos x l) (h64 : ∀ v ∈ l, v < 2 ^ 64)
    (P : LV) (hP : P = .p (.s (.slice none 0 0)) ∨ ∃ pk fl, P = .p (.sl (bytP pk) pk.length 1 fl)) :
    Ω 3 [x, P] H nx = some (.bool true, [], []) := by
  refine om_run (ir := ir3) rfl 41 ?_
  have parts : ir3.body = match ir3.body with
    | .seq a (.seq b (.seq c (.seq d (.seq e _)))) => .seq a (.seq b (.seq c (.seq d (.seq e ordT))))
    | r => r := rfl
  have hn50 : ∀ (H : Heap) (nx : Nat), Ω 6 [.int .i64 50] H nx = some (.ref nx 0, [], [some (.cells [.p (.s (.slice none 0 0)), .int .i64 50])]) := fun H nx => new_ 50 H nx
  have g0 : Net1 H nx (push ⟨[], []⟩ (.cells [.p (.s (.slice none 0 0)), .int .i64 50])) nx [] := by
    refine ⟨rfl, Nat.le_refl _, by simp [push], .inl ⟨rfl, ?_⟩⟩
    simp [Go.Sx.look, push]
  rcases hx with ⟨rfl, rfl⟩ | ⟨fl, rfl⟩
  · have e1 := fun h => iter_out (n := 40) (one_end (H := H) (nx := nx) 41 (.p (.s (.slice none 0 0))) P (.ref nx 0) (.p (.s (.slice none 0 0))) 0 h) (by simp)
    simp only [Int.natCast_zero, Int.ofNat_zero] at e1
    obtain ⟨h', e2, e3⟩ := tail_ (l := []) 41 (by decide) P hP (.p (.s (.slice none 0 0))) (.inl ⟨rfl, rfl⟩) (by simp) (by simp) g0 [(23, .p (.s (.slice none 0 0))), (24, .int .i64 0), (25, .int .i64 0), (26, .bool false)]
    have hbody : ir3 = ⟨ir3.params, ir3.body, ir3.results, ir3.own⟩ := rfl
    rw [hbody, parts]
    simp [ir3, Go.Sx.runF_S, runCS_skip, runCS_reg, runCS_draw, runCS_seq, runCS_cond, runCS_block, runCS_loop, runCS_exit, runCS_ret, runOpsS_nil, runOpsS_cons, runOpsTS_nil, runOpsTS_cons, Go.Sx.wants, Go.Sx.evOp, Go.Sx.opd, Sx.get, Go.Sx.putD, Sx.keep, Go.Sx.binL, Go.Sx.isSh, binI_add, binI_sub, binI_mul, binI_eql, binI_neq, binI_lss, binI_leq, binI_gtr, binI_geq, Go.Sx.leI_eq, Go.Sx.eqL, unL_not, unL_neg, Go.Sx.resVs, Go.Sx.resV, Go.Sx.oneL, Go.Sx.finish, Go.Sx.frz, Go.Sx.frz.go, Go.Sx.frzL, Go.Sx.frzL.go, Go.Sx.ids, Go.Sx.ids.idsL, Go.Sx.updIds, Go.Sx.reach, Go.Sx.ren, Go.Sx.ren.go, Go.Sx.renU, Go.Sx.renN, Go.Sx.renO, Go.Sx.renId, List.idxOf?_cons, Go.Sx.fillP, Go.Sx.mkAgg, Go.Sx.allP, Go.Sx.LV.cells, Go.Sx.Obj.cells, Go.Sx.splice, Go.Sx.rd, Go.Sx.findU, Go.Sx.setAll, callO_A, aft_nil, aft_one, Go.Sx.slCells, Go.Sx.sliceO, Go.Sx.appO, Value.oneCell', Go.Sx.mmL, Go.Sx.mm2, Go.Sx.gslot, Go.Sx.IROp.slots, Go.Sx.Opd.slots, Go.Sx.indepD, Go.Sx.quickD, Go.Sx.indepR, Go.Sx.pairsD, Go.Sx.apartD, Nat.testBit, Go.Sx.Obj.ids, Go.Sx.natL, Go.Sx.optMap, Go.Sx.LV.undef, Go.undef, ltF, look_push, push_len, setObj_len, look_set', Nat.add_assoc, ha, hn50, e1, e2, e3]
  · have hbody : ir3 = ⟨ir3.params, ir3.body, ir3.results, ir3.own⟩ := rfl
    by_cases h30 : 30 < l.length
    · have hl : (l.take 30).length = 30 := by simp; omega
      have hv : ∀ v ∈ l.take 30, v < 2 ^ 64 := fun v hv => h64 v (List.mem_of_mem_take hv)
      obtain ⟨h1, e1, g1⟩ := one_all (H := H) (nx := nx) 41 (l.take 30) (fl && (30 == l.length)) (.p (.sl (numsP (l.take 30)) 30 1 (fl && (30 == l.length)))) P hv (by omega) 30 41 0 _ (by omega) (by decide) g0
      rw [hl] at e1
      simp only [Int.natCast_zero, Int.ofNat_zero] at e1
      obtain ⟨h', e2, e3⟩ := tail_ (l := l.take 30) 41 (by decide) P hP (.p (.sl (numsP (l.take 30)) 30 1 (fl && (30 == l.length)))) (.inr ⟨_, by rw [hl]⟩) (by omega) hv g1 [(23, .p (.sl (numsP (l.take 30)) 30 1 (fl && (30 == l.length)))), (24, .int .i64 (30 : Nat)), (25, .int .i64 (30 : Nat)), (26, .bool false)]
      have c30 : ((30 : Nat) : Int) = 30 := rfl
      rw [c30] at e1 e2
      have h30' : (30 : Int) < l.length := by omega
      have h30'' : 30 ≤ l.length := by omega
      rw [hbody, parts]
      simp [ir3, Go.Sx.runF_S, runCS_skip, runCS_reg, runCS_draw, runCS_seq, runCS_cond, runCS_block, runCS_loop, runCS_exit, runCS_ret, runOpsS_nil, runOpsS_cons, runOpsTS_nil, runOpsTS_cons, Go.Sx.wants, Go.Sx.evOp, Go.Sx.opd, Sx.get, Go.Sx.putD, Sx.keep, Go.Sx.binL, Go.Sx.isSh, binI_add, binI_sub, binI_mul, binI_eql, binI_neq, binI_lss, binI_leq, binI_gtr, binI_geq, Go.Sx.leI_eq, Go.Sx.eqL, unL_not, unL_neg, Go.Sx.resVs, Go.Sx.resV, Go.Sx.oneL, Go.Sx.finish, Go.Sx.frz, Go.Sx.frz.go, Go.Sx.frzL, Go.Sx.frzL.go, Go.Sx.ids, Go.Sx.ids.idsL, Go.Sx.updIds, Go.Sx.reach, Go.Sx.ren, Go.Sx.ren.go, Go.Sx.renU, Go.Sx.renN, Go.Sx.renO, Go.Sx.renId, List.idxOf?_cons, Go.Sx.fillP, Go.Sx.mkAgg, Go.Sx.allP, Go.Sx.LV.cells, Go.Sx.Obj.cells, Go.Sx.splice, Go.Sx.rd, Go.Sx.findU, Go.Sx.setAll, callO_A, aft_nil, aft_one, Go.Sx.slCells, Go.Sx.sliceO, Go.Sx.appO, Value.oneCell', Go.Sx.mmL, Go.Sx.mm2, Go.Sx.gslot, Go.Sx.IROp.slots, Go.Sx.Opd.slots, Go.Sx.indepD, Go.Sx.quickD, Go.Sx.indepR, Go.Sx.pairsD, Go.Sx.apartD, Nat.testBit, Go.Sx.Obj.ids, Go.Sx.natL, Go.Sx.optMap, Go.Sx.LV.undef, Go.undef, ltF, look_push, push_len, setObj_len, look_set', Nat.add_assoc, ha, hn50, numsP_len, numsP_take, h30, h30', h30'', e1, e2, e3]
    · have hl : l.length ≤ 30 := by omega
      obtain ⟨h1, e1, g1⟩ := one_all (H := H) (nx := nx) 41 l (fl && (l.length == l.length)) (.p (.sl (numsP l) l.length 1 (fl && (l.length == l.length)))) P h64 hl l.length 41 0 _ (by omega) (by omega) g0
      simp only [Int.natCast_zero, Int.ofNat_zero] at e1
      obtain ⟨h', e2, e3⟩ := tail_ (l := l) 41 (by decide) P hP (.p (.sl (numsP l) l.length 1 (fl && (l.length == l.length)))) (.inr ⟨_, rfl⟩) hl h64 g1 [(23, .p (.sl (numsP l) l.length 1 (fl && (l.length == l.length)))), (24, .int .i64 l.length), (25, .int .i64 l.length), (26, .bool false)]
      have h30' : ¬ (30 : Int) < l.length := by omega
      have tk : List.take l.length (numsP l) = numsP l := by rw [← numsP_len, List.take_length]
      simp only [beq_self_eq_true, Bool.and_true] at e1 e2
      rw [hbody, parts]
      simp [ir3, Go.Sx.runF_S, runCS_skip, runCS_reg, runCS_draw, runCS_seq, runCS_cond, runCS_block, runCS_loop, runCS_exit, runCS_ret, runOpsS_nil, runOpsS_cons, runOpsTS_nil, runOpsTS_cons, Go.Sx.wants, Go.Sx.evOp, Go.Sx.opd, Sx.get, Go.Sx.putD, Sx.keep, Go.Sx.binL, Go.Sx.isSh, binI_add, binI_sub, binI_mul, binI_eql, binI_neq, binI_lss, binI_leq, binI_gtr, binI_geq, Go.Sx.leI_eq, Go.Sx.eqL, unL_not, unL_neg, Go.Sx.resVs, Go.Sx.resV, Go.Sx.oneL, Go.Sx.finish, Go.Sx.frz, Go.Sx.frz.go, Go.Sx.frzL, Go.Sx.frzL.go, Go.Sx.ids, Go.Sx.ids.idsL, Go.Sx.updIds, Go.Sx.reach, Go.Sx.ren, Go.Sx.ren.go, Go.Sx.renU, Go.Sx.renN, Go.Sx.renO, Go.Sx.renId, List.idxOf?_cons, Go.Sx.fillP, Go.Sx.mkAgg, Go.Sx.allP, Go.Sx.LV.cells, Go.Sx.Obj.cells, Go.Sx.splice, Go.Sx.rd, Go.Sx.findU, Go.Sx.setAll, callO_A, aft_nil, aft_one, Go.Sx.slCells, Go.Sx.sliceO, Go.Sx.appO, Value.oneCell', Go.Sx.mmL, Go.Sx.mm2, Go.Sx.gslot, Go.Sx.IROp.slots, Go.Sx.Opd.slots, Go.Sx.indepD, Go.Sx.quickD, Go.Sx.indepR, Go.Sx.pairsD, Go.Sx.apartD, Nat.testBit, Go.Sx.Obj.ids, Go.Sx.natL, Go.Sx.optMap, Go.Sx.LV.undef, Go.undef, ltF, look_push, push_len, setObj_len, look_set', Nat.add_assoc, ha, hn50, numsP_len, tk, h30, h30', e1, e2, e3]

theorem order_ (x : LV) (l : List Nat) (hx : Nos x l) (h64 : ∀ v ∈ l, v < 2 ^ 64) (P : LV) (hP : P = .p (.s (.slice none 0 0)) ∨ ∃ pk fl, P = .p (.sl (bytP pk) pk.length 1 fl)) :
    Ω 3 [x, P] noH 0 = some (.bool true, [], []) := order_gen noH 0 awake_ x l hx h64 P hP
end Go.Proofs.YtkdimbcfacoboaaGreatDoor

