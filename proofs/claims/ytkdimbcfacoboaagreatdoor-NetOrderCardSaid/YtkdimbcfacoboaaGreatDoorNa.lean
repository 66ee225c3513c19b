/- Specifications: numbers, texts, sums, frames. -/
import Derived.Test.YtkdimbcfacoboaaGreatDoorOm
import Derived.Test.YtkdimbcfacoboaaGreatDoorNm
namespace Go.Proofs.YtkdimbcfacoboaaGreatDoor
open Go Go.Sx
set_option linter.unusedSimpArgs false
set_option linter.unusedVariables false

theorem iter_step {f : St → Option (Ex × St)} {n : Nat} {st st' : St} (h : f st = some (.normal, st')) : iter f (n + 1) st = iter f n st' := by simp only [iter, h]
theorem iter_out {f : St → Option (Ex × St)} {n : Nat} {st st' : St} {e : Ex} (h : f st = some (e, st')) (he : e ≠ .normal) : iter f (n + 1) st = some (e, st') := by
  simp only [iter, h]
  cases e <;> first | rfl | exact absurd rfl he

def byt (l : List UInt8) : List LV := l.map fun x => .int .u8 x.toNat
def bytP (l : List UInt8) : List PV := l.map fun x => .s (.int .u8 x.toNat)
theorem byt_nil : byt [] = [] := rfl
theorem byt_cons (x : UInt8) (l : List UInt8) : byt (x :: l) = .int .u8 x.toNat :: byt l := rfl
theorem byt_app (l m : List UInt8) : byt (l ++ m) = byt l ++ byt m := by simp [byt]
theorem byt_len (l : List UInt8) : (byt l).length = l.length := by simp [byt]
theorem bytP_map (l : List UInt8) : (bytP l).map LV.p = byt l := by simp [byt, bytP]
theorem bytP_len (l : List UInt8) : (bytP l).length = l.length := by simp [bytP]

theorem rep_succ {α : Type} (f : α → α) : ∀ (n : Nat) (a : α), Nat.repeat f (n + 1) a = Nat.repeat f n (f a)
  | 0, _ => rfl
  | n + 1, a => congrArg f (rep_succ f n a)

theorem wrap_u32 (x : BitVec 32) : IntKind.u32.wrap (x.toNat : Int) = x.toNat := by
  simp only [IntKind.wrap, IntKind.signed, IntKind.bits]
  have := x.isLt
  simp
  omega
/-- A number of 32 bits. -/
def nv (x : BitVec 32) : Int := x.toNat
theorem nv_inj {x y : BitVec 32} : nv x = nv y ↔ x = y := by
  constructor
  · intro h; exact BitVec.eq_of_toNat_eq (Int.ofNat_inj.1 h)
  · intro h; rw [h]
theorem xor_u32 (x y : BitVec 32) : binI .xor .u32 (nv x) (nv y) = some (.int .u32 (nv (x ^^^ y))) := by
  have : binI .xor .u32 (nv x) (nv y) = some (.int .u32 (IntKind.u32.wrap (BitVec.ofInt 32 (nv x) ^^^ BitVec.ofInt 32 (nv y)).toNat)) := rfl
  rw [this, nv, nv, BitVec.ofInt_natCast, BitVec.ofInt_natCast, BitVec.ofNat_toNat, BitVec.ofNat_toNat, BitVec.setWidth_eq, BitVec.setWidth_eq, wrap_u32]
  rfl
theorem and_u32 (x y : BitVec 32) : binI .and .u32 (nv x) (nv y) = some (.int .u32 (nv (x &&& y))) := by
  have : binI .and .u32 (nv x) (nv y) = some (.int .u32 (IntKind.u32.wrap (BitVec.ofInt 32 (nv x) &&& BitVec.ofInt 32 (nv y)).toNat)) := rfl
  rw [this, nv, nv, BitVec.ofInt_natCast, BitVec.ofInt_natCast, BitVec.ofNat_toNat, BitVec.ofNat_toNat, BitVec.setWidth_eq, BitVec.setWidth_eq, wrap_u32]
  rfl
theorem or_u32 (x y : BitVec 32) : binI .or .u32 (nv x) (nv y) = some (.int .u32 (nv (x ||| y))) := by
  have : binI .or .u32 (nv x) (nv y) = some (.int .u32 (IntKind.u32.wrap (BitVec.ofInt 32 (nv x) ||| BitVec.ofInt 32 (nv y)).toNat)) := rfl
  rw [this, nv, nv, BitVec.ofInt_natCast, BitVec.ofInt_natCast, BitVec.ofNat_toNat, BitVec.ofNat_toNat, BitVec.setWidth_eq, BitVec.setWidth_eq, wrap_u32]
  rfl
theorem xor_poly (x : BitVec 32) : binI .xor .u32 (nv x) 3988292384 = some (.int .u32 (nv (x ^^^ 3988292384#32))) := xor_u32 x 3988292384#32
theorem and_one (x : BitVec 32) : binI .and .u32 (nv x) 1 = some (.int .u32 (nv (x &&& 1#32))) := and_u32 x 1#32
theorem shr_one (x : BitVec 32) : shI .shr .u32 (nv x) 1 = some (.int .u32 (nv (x >>> 1))) := by
  have : shI .shr .u32 (nv x) 1 = some (.int .u32 ((x.toNat : Int).fdiv (2 ^ 1))) := rfl
  rw [this, nv, BitVec.toNat_ushiftRight, Nat.shiftRight_eq_div_pow, Int.fdiv_eq_ediv_of_nonneg _ (by decide)]
  norm_cast
theorem wrap_byte (b : UInt8) : IntKind.u32.wrap (b.toNat : Int) = nv (wide b) := by
  have hb := b.toNat_lt
  simp only [IntKind.wrap, IntKind.signed, IntKind.bits, nv, wide, BitVec.toNat_ofNat]
  simp
  omega

theorem not_u32 (x : BitVec 32) : unL .xor (.p (.s (.int .u32 (nv x)))) = some (.p (.s (.int .u32 (nv (~~~ x))))) := by
  have : unL .xor (.p (.s (.int .u32 (nv x)))) = some (.p (.s (.int .u32 (IntKind.u32.wrap (BitVec.ofInt 32 4294967295 ^^^ BitVec.ofInt 32 (nv x)).toNat)))) := rfl
  have h1 : BitVec.ofInt 32 4294967295 = BitVec.allOnes 32 := by decide
  rw [this, h1, nv, BitVec.ofInt_natCast, BitVec.ofNat_toNat, BitVec.setWidth_eq, BitVec.allOnes_xor, wrap_u32]
  rfl

theorem shr_u32 (x : BitVec 32) (k : Nat) (hk : k ≤ 32) : shI .shr .u32 (nv x) k = some (.int .u32 (nv (x >>> k))) := by
  have : shI .shr .u32 (nv x) k = some (.int .u32 ((x.toNat : Int).fdiv (2 ^ (min k 32)))) := by
    simp only [shI, nv]
    rw [if_neg (by omega)]
    rfl
  rw [this, nv, BitVec.toNat_ushiftRight, Nat.shiftRight_eq_div_pow, Int.fdiv_eq_ediv_of_nonneg _ (Int.le_of_lt (Int.pow_pos (by decide))), Nat.min_eq_left hk]
  norm_cast
theorem shl_u32 (x : BitVec 32) (k : Nat) (hk : k ≤ 32) : shI .shl .u32 (nv x) k = some (.int .u32 (nv (x <<< k))) := by
  have : shI .shl .u32 (nv x) k = some (.int .u32 (IntKind.u32.wrap ((x.toNat : Int) * (2 ^ (min k 32))))) := by
    simp only [shI, nv]
    rw [if_neg (by omega)]
    rfl
  rw [this, nv, BitVec.toNat_shiftLeft, Nat.shiftLeft_eq, Nat.min_eq_left hk]
  simp [IntKind.wrap, IntKind.signed, IntKind.bits]
theorem wrap_low (x : BitVec 32) : IntKind.u8.wrap (nv x) = (low x).toNat := by
  rw [low_nat, nv]
  simp [IntKind.wrap, IntKind.signed, IntKind.bits]

theorem shr0 (x : BitVec 32) : shI .shr .u32 (nv x) 0 = some (.int .u32 (nv x)) := shr_u32 x 0 (by decide)
theorem shr8 (x : BitVec 32) : shI .shr .u32 (nv x) 8 = some (.int .u32 (nv (x >>> 8))) := shr_u32 x 8 (by decide)
theorem shr16 (x : BitVec 32) : shI .shr .u32 (nv x) 16 = some (.int .u32 (nv (x >>> 16))) := shr_u32 x 16 (by decide)
theorem shr24 (x : BitVec 32) : shI .shr .u32 (nv x) 24 = some (.int .u32 (nv (x >>> 24))) := shr_u32 x 24 (by decide)
theorem shl0 (x : BitVec 32) : shI .shl .u32 (nv x) 0 = some (.int .u32 (nv (x <<< 0))) := shl_u32 x 0 (by decide)
theorem shl8 (x : BitVec 32) : shI .shl .u32 (nv x) 8 = some (.int .u32 (nv (x <<< 8))) := shl_u32 x 8 (by decide)
theorem shl16 (x : BitVec 32) : shI .shl .u32 (nv x) 16 = some (.int .u32 (nv (x <<< 16))) := shl_u32 x 16 (by decide)
theorem shl24 (x : BitVec 32) : shI .shl .u32 (nv x) 24 = some (.int .u32 (nv (x <<< 24))) := shl_u32 x 24 (by decide)
theorem or_zero (x : BitVec 32) : binI .or .u32 0 (nv x) = some (.int .u32 (nv (0#32 ||| x))) := or_u32 0#32 x

section sum
variable (c : Ctx) (h : Hp)
theorem sumIn_step (n : Nat) (j : Nat) (hj : j < 8) (r : BitVec 32) (x6 x7 x8 : LV) :
    runCS c n ir41_0 ⟨[(3, .int .u32 (nv r)), (6, x6), (7, x7), (8, x8), (16, .int .i64 j)], h⟩ =
      some (.normal, ⟨[(3, .int .u32 (nv (stp r))), (6, x6), (7, x7), (8, x8), (16, .int .i64 (j + 1 : Nat))], h⟩) := by
  have h8 : ¬ (8 : Int) ≤ j := by omega
  have hw : IntKind.i64.wrap ((j : Int) + 1) = (j : Int) + 1 := wrap_i64 _ (by omega) (by omega)
  have h1 : nv 1#32 = 1 := rfl
  by_cases hb : r &&& 1#32 = 1#32
  · have hb' : nv (r &&& 1#32) = 1 := by rw [hb]; rfl
    simp [ir41_0, Go.Sx.runF_S, runCS_skip, runCS_reg, runCS_draw, runCS_seq, runCS_cond, runCS_block, runCS_loop, runCS_exit, runCS_ret, runOpsS_nil, runOpsS_cons, runOpsTS_nil, runOpsTS_cons, Go.Sx.wants, Go.Sx.evOp, Go.Sx.opd, Sx.get, Go.Sx.putD, Sx.keep, Go.Sx.binL, Go.Sx.isSh, binI_add, binI_sub, binI_mul, binI_eql, binI_neq, binI_lss, binI_leq, binI_gtr, binI_geq, Go.Sx.leI_eq, Go.Sx.eqL, unL_not, unL_neg, Go.Sx.resVs, Go.Sx.resV, Go.Sx.oneL, Go.Sx.finish, Go.Sx.frz, Go.Sx.frz.go, Go.Sx.frzL, Go.Sx.frzL.go, Go.Sx.ids, Go.Sx.ids.idsL, Go.Sx.updIds, Go.Sx.reach, Go.Sx.ren, Go.Sx.ren.go, Go.Sx.renU, Go.Sx.renN, Go.Sx.renO, Go.Sx.renId, List.idxOf?_cons, Go.Sx.fillP, Go.Sx.mkAgg, Go.Sx.allP, Go.Sx.LV.cells, Go.Sx.Obj.cells, Go.Sx.splice, Go.Sx.rd, Go.Sx.push, Go.Sx.look, Go.Sx.findU, Go.Sx.setObj, Go.Sx.setU, Go.Sx.setAll, Go.Sx.callO, Go.Sx.slCells, Go.Sx.sliceO, Go.Sx.appO, Value.oneCell', Go.Sx.mmL, Go.Sx.mm2, Go.Sx.gslot, Go.Sx.IROp.slots, Go.Sx.Opd.slots, Go.Sx.indepD, Go.Sx.quickD, Go.Sx.indepR, Go.Sx.pairsD, Go.Sx.apartD, Nat.testBit, Go.Sx.Obj.ids, Go.Sx.natL, Go.Sx.optMap, Go.Sx.LV.undef, Go.undef, ltF, h8, hw, and_one, shr_one, xor_poly, stp, hb, h1]
  · have hb' : ¬ nv (r &&& 1#32) = 1 := fun e => hb (nv_inj.1 e)
    simp [ir41_0, Go.Sx.runF_S, runCS_skip, runCS_reg, runCS_draw, runCS_seq, runCS_cond, runCS_block, runCS_loop, runCS_exit, runCS_ret, runOpsS_nil, runOpsS_cons, runOpsTS_nil, runOpsTS_cons, Go.Sx.wants, Go.Sx.evOp, Go.Sx.opd, Sx.get, Go.Sx.putD, Sx.keep, Go.Sx.binL, Go.Sx.isSh, binI_add, binI_sub, binI_mul, binI_eql, binI_neq, binI_lss, binI_leq, binI_gtr, binI_geq, Go.Sx.leI_eq, Go.Sx.eqL, unL_not, unL_neg, Go.Sx.resVs, Go.Sx.resV, Go.Sx.oneL, Go.Sx.finish, Go.Sx.frz, Go.Sx.frz.go, Go.Sx.frzL, Go.Sx.frzL.go, Go.Sx.ids, Go.Sx.ids.idsL, Go.Sx.updIds, Go.Sx.reach, Go.Sx.ren, Go.Sx.ren.go, Go.Sx.renU, Go.Sx.renN, Go.Sx.renO, Go.Sx.renId, List.idxOf?_cons, Go.Sx.fillP, Go.Sx.mkAgg, Go.Sx.allP, Go.Sx.LV.cells, Go.Sx.Obj.cells, Go.Sx.splice, Go.Sx.rd, Go.Sx.push, Go.Sx.look, Go.Sx.findU, Go.Sx.setObj, Go.Sx.setU, Go.Sx.setAll, Go.Sx.callO, Go.Sx.slCells, Go.Sx.sliceO, Go.Sx.appO, Value.oneCell', Go.Sx.mmL, Go.Sx.mm2, Go.Sx.gslot, Go.Sx.IROp.slots, Go.Sx.Opd.slots, Go.Sx.indepD, Go.Sx.quickD, Go.Sx.indepR, Go.Sx.pairsD, Go.Sx.apartD, Nat.testBit, Go.Sx.Obj.ids, Go.Sx.natL, Go.Sx.optMap, Go.Sx.LV.undef, Go.undef, ltF, h8, hw, and_one, shr_one, xor_poly, stp, hb, hb']
theorem sumIn_out (n : Nat) (r : BitVec 32) (x6 x7 x8 : LV) :
    runCS c n ir41_0 ⟨[(3, .int .u32 (nv r)), (6, x6), (7, x7), (8, x8), (16, .int .i64 8)], h⟩ =
      some (.exit 2, ⟨[(3, .int .u32 (nv r)), (6, x6), (7, x7), (8, x8), (16, .int .i64 8), (17, .bool false)], h⟩) := by
  simp [ir41_0, Go.Sx.runF_S, runCS_skip, runCS_reg, runCS_draw, runCS_seq, runCS_cond, runCS_block, runCS_loop, runCS_exit, runCS_ret, runOpsS_nil, runOpsS_cons, runOpsTS_nil, runOpsTS_cons, Go.Sx.wants, Go.Sx.evOp, Go.Sx.opd, Sx.get, Go.Sx.putD, Sx.keep, Go.Sx.binL, Go.Sx.isSh, binI_add, binI_sub, binI_mul, binI_eql, binI_neq, binI_lss, binI_leq, binI_gtr, binI_geq, Go.Sx.leI_eq, Go.Sx.eqL, unL_not, unL_neg, Go.Sx.resVs, Go.Sx.resV, Go.Sx.oneL, Go.Sx.finish, Go.Sx.frz, Go.Sx.frz.go, Go.Sx.frzL, Go.Sx.frzL.go, Go.Sx.ids, Go.Sx.ids.idsL, Go.Sx.updIds, Go.Sx.reach, Go.Sx.ren, Go.Sx.ren.go, Go.Sx.renU, Go.Sx.renN, Go.Sx.renO, Go.Sx.renId, List.idxOf?_cons, Go.Sx.fillP, Go.Sx.mkAgg, Go.Sx.allP, Go.Sx.LV.cells, Go.Sx.Obj.cells, Go.Sx.splice, Go.Sx.rd, Go.Sx.push, Go.Sx.look, Go.Sx.findU, Go.Sx.setObj, Go.Sx.setU, Go.Sx.setAll, Go.Sx.callO, Go.Sx.slCells, Go.Sx.sliceO, Go.Sx.appO, Value.oneCell', Go.Sx.mmL, Go.Sx.mm2, Go.Sx.gslot, Go.Sx.IROp.slots, Go.Sx.Opd.slots, Go.Sx.indepD, Go.Sx.quickD, Go.Sx.indepR, Go.Sx.pairsD, Go.Sx.apartD, Nat.testBit, Go.Sx.Obj.ids, Go.Sx.natL, Go.Sx.optMap, Go.Sx.LV.undef, Go.undef, ltF]
theorem sumIn_all (n : Nat) (x6 x7 x8 : LV) : ∀ (k m j : Nat) (r : BitVec 32), j + k = 8 → k < m → iter (runCS c n ir41_0) m ⟨[(3, .int .u32 (nv r)), (6, x6), (7, x7), (8, x8), (16, .int .i64 j)], h⟩ =
      some (.exit 2, ⟨[(3, .int .u32 (nv (Nat.repeat stp k r))), (6, x6), (7, x7), (8, x8), (16, .int .i64 8), (17, .bool false)], h⟩) := by
  intro k
  induction k with
  | zero =>
    intro m j r hj hm
    obtain ⟨m, rfl⟩ : ∃ q, m = q + 1 := ⟨m - 1, by omega⟩
    obtain rfl : j = 8 := by omega
    exact iter_out (sumIn_out c h n r x6 x7 x8) (by simp)
  | succ k ih =>
    intro m j r hj hm
    obtain ⟨m, rfl⟩ : ∃ q, m = q + 1 := ⟨m - 1, by omega⟩
    rw [iter_step (sumIn_step c h n j (by omega) r x6 x7 x8), ih m (j + 1) (stp r) (by omega) (by omega), rep_succ]
end sum

section sum
variable {c : Ctx}
theorem sumOut_step {n : Nat} (hn : 9 ≤ n) {h : Hp} {l : List UInt8} {id : Nat} (hl : Go.Sx.look c.H c.nx h id = some (.cells (byt l))) (cp : Nat) (ex : Bool) (j : Nat) (b : UInt8) (hj : l[j]? = some b) (h62 : l.length < 2 ^ 62) (r : BitVec 32) :
    runCS c n ir41_1 ⟨[(3, .int .u32 (nv r)), (6, .arr id 0 l.length 1 cp ex), (7, .int .i64 l.length), (8, .int .i64 j)], h⟩ =
      some (.normal, ⟨[(3, .int .u32 (nv (crcB r b))), (6, .arr id 0 l.length 1 cp ex), (7, .int .i64 l.length), (8, .int .i64 (j + 1 : Nat))], h⟩) := by
  obtain ⟨hlt, hv⟩ := List.getElem?_eq_some_iff.1 hj
  have h8 : ¬ (l.length : Int) ≤ j := by omega
  have hw : IntKind.i64.wrap ((j : Int) + 1) = (j : Int) + 1 := wrap_i64 _ (by omega) (by omega)
  have hb : (byt l)[j]? = some (.int .u8 b.toNat) := by simp [byt, hj]
  have hs := sumIn_all c h n (.arr id 0 l.length 1 cp ex) (.int .i64 l.length) (.int .i64 j) 8 n 0 (r ^^^ wide b) rfl (by omega)
  simp only [Int.natCast_zero, Int.ofNat_zero] at hs
  simp [ir41_1, Go.Sx.runF_S, runCS_skip, runCS_reg, runCS_draw, runCS_seq, runCS_cond, runCS_block, runCS_loop, runCS_exit, runCS_ret, runOpsS_nil, runOpsS_cons, runOpsTS_nil, runOpsTS_cons, Go.Sx.wants, Go.Sx.evOp, Go.Sx.opd, Sx.get, Go.Sx.putD, Sx.keep, Go.Sx.binL, Go.Sx.isSh, binI_add, binI_sub, binI_mul, binI_eql, binI_neq, binI_lss, binI_leq, binI_gtr, binI_geq, Go.Sx.leI_eq, Go.Sx.eqL, unL_not, unL_neg, Go.Sx.resVs, Go.Sx.resV, Go.Sx.oneL, Go.Sx.finish, Go.Sx.frz, Go.Sx.frz.go, Go.Sx.frzL, Go.Sx.frzL.go, Go.Sx.ids, Go.Sx.ids.idsL, Go.Sx.updIds, Go.Sx.reach, Go.Sx.ren, Go.Sx.ren.go, Go.Sx.renU, Go.Sx.renN, Go.Sx.renO, Go.Sx.renId, List.idxOf?_cons, Go.Sx.fillP, Go.Sx.mkAgg, Go.Sx.allP, Go.Sx.LV.cells, Go.Sx.Obj.cells, Go.Sx.splice, Go.Sx.rd, Go.Sx.push, Go.Sx.findU, Go.Sx.setObj, Go.Sx.setU, Go.Sx.setAll, Go.Sx.callO, Go.Sx.slCells, Go.Sx.sliceO, Go.Sx.appO, Value.oneCell', Go.Sx.mmL, Go.Sx.mm2, Go.Sx.gslot, Go.Sx.IROp.slots, Go.Sx.Opd.slots, Go.Sx.indepD, Go.Sx.quickD, Go.Sx.indepR, Go.Sx.pairsD, Go.Sx.apartD, Nat.testBit, Go.Sx.Obj.ids, Go.Sx.natL, Go.Sx.optMap, Go.Sx.LV.undef, Go.undef, ltF, h8, hw, hlt, hb, hl, wrap_byte, xor_u32, hs, crcB]
theorem sumOut_out {n : Nat} {h : Hp} (len : Nat) (x : LV) (r : BitVec 32) :
    runCS c n ir41_1 ⟨[(3, .int .u32 (nv r)), (6, x), (7, .int .i64 len), (8, .int .i64 len)], h⟩ =
      some (.exit 0, ⟨[(3, .int .u32 (nv r)), (6, x), (7, .int .i64 len), (8, .int .i64 len), (9, .bool false)], h⟩) := by
  simp [ir41_1, Go.Sx.runF_S, runCS_skip, runCS_reg, runCS_draw, runCS_seq, runCS_cond, runCS_block, runCS_loop, runCS_exit, runCS_ret, runOpsS_nil, runOpsS_cons, runOpsTS_nil, runOpsTS_cons, Go.Sx.wants, Go.Sx.evOp, Go.Sx.opd, Sx.get, Go.Sx.putD, Sx.keep, Go.Sx.binL, Go.Sx.isSh, binI_add, binI_sub, binI_mul, binI_eql, binI_neq, binI_lss, binI_leq, binI_gtr, binI_geq, Go.Sx.leI_eq, Go.Sx.eqL, unL_not, unL_neg, Go.Sx.resVs, Go.Sx.resV, Go.Sx.oneL, Go.Sx.finish, Go.Sx.frz, Go.Sx.frz.go, Go.Sx.frzL, Go.Sx.frzL.go, Go.Sx.ids, Go.Sx.ids.idsL, Go.Sx.updIds, Go.Sx.reach, Go.Sx.ren, Go.Sx.ren.go, Go.Sx.renU, Go.Sx.renN, Go.Sx.renO, Go.Sx.renId, List.idxOf?_cons, Go.Sx.fillP, Go.Sx.mkAgg, Go.Sx.allP, Go.Sx.LV.cells, Go.Sx.Obj.cells, Go.Sx.splice, Go.Sx.rd, Go.Sx.push, Go.Sx.look, Go.Sx.findU, Go.Sx.setObj, Go.Sx.setU, Go.Sx.setAll, Go.Sx.callO, Go.Sx.slCells, Go.Sx.sliceO, Go.Sx.appO, Value.oneCell', Go.Sx.mmL, Go.Sx.mm2, Go.Sx.gslot, Go.Sx.IROp.slots, Go.Sx.Opd.slots, Go.Sx.indepD, Go.Sx.quickD, Go.Sx.indepR, Go.Sx.pairsD, Go.Sx.apartD, Nat.testBit, Go.Sx.Obj.ids, Go.Sx.natL, Go.Sx.optMap, Go.Sx.LV.undef, Go.undef, ltF]
theorem sumOut_all {n : Nat} (hn : 9 ≤ n) {h : Hp} {l : List UInt8} {id : Nat} (hl : Go.Sx.look c.H c.nx h id = some (.cells (byt l))) (cp : Nat) (ex : Bool) (h62 : l.length < 2 ^ 62) : ∀ (k m j : Nat) (r : BitVec 32), j + k = l.length → k < m →
    iter (runCS c n ir41_1) m ⟨[(3, .int .u32 (nv r)), (6, .arr id 0 l.length 1 cp ex), (7, .int .i64 l.length), (8, .int .i64 j)], h⟩ =
      some (.exit 0, ⟨[(3, .int .u32 (nv (crcL r (l.drop j)))), (6, .arr id 0 l.length 1 cp ex), (7, .int .i64 l.length), (8, .int .i64 l.length), (9, .bool false)], h⟩) := by
  intro k
  induction k with
  | zero =>
    intro m j r hj hm
    obtain ⟨m, rfl⟩ : ∃ q, m = q + 1 := ⟨m - 1, by omega⟩
    obtain rfl : j = l.length := by omega
    rw [List.drop_length]
    exact iter_out (sumOut_out _ _ r) (by simp)
  | succ k ih =>
    intro m j r hj hm
    obtain ⟨m, rfl⟩ : ∃ q, m = q + 1 := ⟨m - 1, by omega⟩
    have hlt : j < l.length := by omega
    rw [iter_step (sumOut_step hn hl cp ex j l[j] (List.getElem?_eq_getElem hlt) h62 r), ih m (j + 1) _ (by omega) (by omega), List.drop_eq_getElem_cons hlt]
    rfl
end sum

theorem sum_ (l : List UInt8) (h62 : l.length < 2 ^ 62) (id cp : Nat) (ex : Bool) (H : Heap) (nx : Nat) (hl : H id = some (.cells (byt l))) (hid : id < nx) :
    Ω 41 [.arr id 0 l.length 1 cp ex] H nx = some (.int .u32 (nv (crc l)), [], []) := by
  refine om_run (ir := ir41) rfl (l.length + 9) ?_
  have hlk : Go.Sx.look H nx ⟨[], []⟩ id = some (.cells (byt l)) := by simp [Go.Sx.look, findU, hid, hl]
  have hs := sumOut_all (c := ⟨Ω, noG, H, nx⟩) (n := l.length + 9) (by omega) hlk cp ex h62 l.length (l.length + 9) 0 4294967295#32 (by omega) (by omega)
  have h1 : nv 4294967295#32 = 4294967295 := rfl
  rw [List.drop_zero, h1] at hs
  simp only [Int.natCast_zero, Int.ofNat_zero] at hs
  simp [ir41, Go.Sx.runF_S, runCS_skip, runCS_reg, runCS_draw, runCS_seq, runCS_cond, runCS_block, runCS_loop, runCS_exit, runCS_ret, runOpsS_nil, runOpsS_cons, runOpsTS_nil, runOpsTS_cons, Go.Sx.wants, Go.Sx.evOp, Go.Sx.opd, Sx.get, Go.Sx.putD, Sx.keep, Go.Sx.binL, Go.Sx.isSh, binI_add, binI_sub, binI_mul, binI_eql, binI_neq, binI_lss, binI_leq, binI_gtr, binI_geq, Go.Sx.leI_eq, Go.Sx.eqL, unL_not, unL_neg, Go.Sx.resVs, Go.Sx.resV, Go.Sx.oneL, Go.Sx.finish, Go.Sx.frz, Go.Sx.frz.go, Go.Sx.frzL, Go.Sx.frzL.go, Go.Sx.ids, Go.Sx.ids.idsL, Go.Sx.updIds, Go.Sx.reach, Go.Sx.ren, Go.Sx.ren.go, Go.Sx.renU, Go.Sx.renN, Go.Sx.renO, Go.Sx.renId, List.idxOf?_cons, Go.Sx.fillP, Go.Sx.mkAgg, Go.Sx.allP, Go.Sx.LV.cells, Go.Sx.Obj.cells, Go.Sx.splice, Go.Sx.rd, Go.Sx.push, Go.Sx.findU, Go.Sx.setObj, Go.Sx.setU, Go.Sx.setAll, Go.Sx.callO, Go.Sx.slCells, Go.Sx.sliceO, Go.Sx.appO, Value.oneCell', Go.Sx.mmL, Go.Sx.mm2, Go.Sx.gslot, Go.Sx.IROp.slots, Go.Sx.Opd.slots, Go.Sx.indepD, Go.Sx.quickD, Go.Sx.indepR, Go.Sx.pairsD, Go.Sx.apartD, Nat.testBit, Go.Sx.Obj.ids, Go.Sx.natL, Go.Sx.optMap, Go.Sx.LV.undef, Go.undef, ltF, hs, not_u32, crc]

theorem lay_nil (x : BitVec 32) (H : Heap) (nx : Nat) : Ω 40 [.p (.s (.slice none 0 0)), .int .u32 (nv x)] H nx =
    some (.arr nx 0 4 1 4 false, [], [some (.cells (byt (le4 x)))]) := by
  refine om_run (ir := ir40) rfl 6 ?_
  simp [ir40, ir40_0, Go.Sx.runF_S, runCS_skip, runCS_reg, runCS_draw, runCS_seq, runCS_cond, runCS_block, runCS_loop, runCS_exit, runCS_ret, runOpsS_nil, runOpsS_cons, runOpsTS_nil, runOpsTS_cons, Go.Sx.wants, Go.Sx.evOp, Go.Sx.opd, Sx.get, Go.Sx.putD, Sx.keep, Go.Sx.binL, Go.Sx.isSh, binI_add, binI_sub, binI_mul, binI_eql, binI_neq, binI_lss, binI_leq, binI_gtr, binI_geq, Go.Sx.leI_eq, Go.Sx.eqL, unL_not, unL_neg, Go.Sx.resVs, Go.Sx.resV, Go.Sx.oneL, Go.Sx.finish, Go.Sx.frz, Go.Sx.frz.go, Go.Sx.frzL, Go.Sx.frzL.go, Go.Sx.ids, Go.Sx.ids.idsL, Go.Sx.updIds, Go.Sx.reach, Go.Sx.ren, Go.Sx.ren.go, Go.Sx.renU, Go.Sx.renN, Go.Sx.renO, Go.Sx.renId, List.idxOf?_cons, Go.Sx.fillP, Go.Sx.mkAgg, Go.Sx.allP, Go.Sx.LV.cells, Go.Sx.Obj.cells, Go.Sx.splice, Go.Sx.rd, Go.Sx.push, Go.Sx.look, Go.Sx.findU, Go.Sx.setObj, Go.Sx.setU, Go.Sx.setAll, Go.Sx.callO, Go.Sx.slCells, Go.Sx.sliceO, Go.Sx.appO, Value.oneCell', Go.Sx.mmL, Go.Sx.mm2, Go.Sx.gslot, Go.Sx.IROp.slots, Go.Sx.Opd.slots, Go.Sx.indepD, Go.Sx.quickD, Go.Sx.indepR, Go.Sx.pairsD, Go.Sx.apartD, Nat.testBit, Go.Sx.Obj.ids, Go.Sx.natL, Go.Sx.optMap, Go.Sx.LV.undef, Go.undef, ltF, iter, wrap_i64, shr0, shr8, shr16, shr24, wrap_low, byt, le4]

theorem ids_byt (l : List UInt8) : ids.idsL (byt l) = [] := by
  induction l with
  | nil => rfl
  | cons x l ih => rw [byt_cons, ids.idsL, ih]; rfl
theorem ids_app (l m : List LV) : ids.idsL (l ++ m) = ids.idsL l ++ ids.idsL m := by
  induction l with
  | nil => rfl
  | cons x l ih => rw [List.cons_append, ids.idsL, ids.idsL, ih, List.append_assoc]
theorem ren_byt (nx : Nat) (s : List Nat) (l : List UInt8) : ren.go nx s (byt l) = some (byt l) := by
  induction l with
  | nil => rfl
  | cons x l ih => rw [byt_cons, ren.go, ih]; rfl
theorem allP_byt (l : List UInt8) : allP (byt l) = some (bytP l) := by
  induction l with
  | nil => rfl
  | cons x l ih => rw [byt_cons, allP, ih]; rfl

theorem ren_app (nx : Nat) (s : List Nat) (l : List UInt8) (m : List LV) : ren.go nx s (byt l ++ m) = match ren.go nx s m with
    | some q => some (byt l ++ q)
    | none => none := by
  induction l with
  | nil => rw [byt_nil, List.nil_append]; cases ren.go nx s m <;> rfl
  | cons x l ih => rw [byt_cons, List.cons_append, ren.go, ih]; cases ren.go nx s m <;> rfl
theorem allP_app (l : List UInt8) (m : List LV) : allP (byt l ++ m) = match allP m with
    | some q => some (bytP l ++ q)
    | none => none := by
  induction l with
  | nil => rw [byt_nil, List.nil_append]; cases allP m <;> rfl
  | cons x l ih => rw [byt_cons, List.cons_append, allP, ih]; cases allP m <;> rfl
theorem take_byt (l : List UInt8) : List.take l.length (byt l) = byt l := by
  rw [← byt_len, List.take_length]

theorem lay_arr (a b c d : UInt8) (x : BitVec 32) (id : Nat) (H : Heap) (nx : Nat) (hl : H id = some (.cells (byt [a, b, c, d]))) (hid : id < nx) : Ω 40 [.arr id 0 4 1 4 true, .int .u32 (nv x)] H nx =
    some (.arr nx 0 8 1 8 false, [], [some (.cells (byt ([a, b, c, d] ++ le4 x)))]) := by
  refine om_run (ir := ir40) rfl 6 ?_
  simp only [byt, List.map] at hl
  simp [ir40, ir40_0, Go.Sx.runF_S, runCS_skip, runCS_reg, runCS_draw, runCS_seq, runCS_cond, runCS_block, runCS_loop, runCS_exit, runCS_ret, runOpsS_nil, runOpsS_cons, runOpsTS_nil, runOpsTS_cons, Go.Sx.wants, Go.Sx.evOp, Go.Sx.opd, Sx.get, Go.Sx.putD, Sx.keep, Go.Sx.binL, Go.Sx.isSh, binI_add, binI_sub, binI_mul, binI_eql, binI_neq, binI_lss, binI_leq, binI_gtr, binI_geq, Go.Sx.leI_eq, Go.Sx.eqL, unL_not, unL_neg, Go.Sx.resVs, Go.Sx.resV, Go.Sx.oneL, Go.Sx.finish, Go.Sx.frz, Go.Sx.frz.go, Go.Sx.frzL, Go.Sx.frzL.go, Go.Sx.ids, Go.Sx.ids.idsL, Go.Sx.updIds, Go.Sx.reach, Go.Sx.ren, Go.Sx.ren.go, Go.Sx.renU, Go.Sx.renN, Go.Sx.renO, Go.Sx.renId, List.idxOf?_cons, Go.Sx.fillP, Go.Sx.mkAgg, Go.Sx.allP, Go.Sx.LV.cells, Go.Sx.Obj.cells, Go.Sx.splice, Go.Sx.rd, Go.Sx.push, Go.Sx.look, Go.Sx.findU, Go.Sx.setObj, Go.Sx.setU, Go.Sx.setAll, Go.Sx.callO, Go.Sx.slCells, Go.Sx.sliceO, Go.Sx.appO, Value.oneCell', Go.Sx.mmL, Go.Sx.mm2, Go.Sx.gslot, Go.Sx.IROp.slots, Go.Sx.Opd.slots, Go.Sx.indepD, Go.Sx.quickD, Go.Sx.indepR, Go.Sx.pairsD, Go.Sx.apartD, Nat.testBit, Go.Sx.Obj.ids, Go.Sx.natL, Go.Sx.optMap, Go.Sx.LV.undef, Go.undef, ltF, iter, wrap_i64, shr0, shr8, shr16, shr24, wrap_low, byt, le4, hl, hid]

theorem take_ (a b c d : UInt8) (l : List PV) (len : Nat) (fl : Bool) (h4 : 4 ≤ len) (H : Heap) (nx : Nat) :
    Ω 42 [.p (.sl (.s (.int .u8 a.toNat) :: .s (.int .u8 b.toNat) :: .s (.int .u8 c.toNat) :: .s (.int .u8 d.toNat) :: l) len 1 fl)] H nx = some (.int .u32 (nv (un4 a b c d)), [], []) := by
  refine om_run (ir := ir42) rfl 6 ?_
  have h0 : 0 < len := by omega
  have h1 : 1 < len := by omega
  have h2 : 2 < len := by omega
  have h3 : 3 < len := by omega
  simp [ir42, ir42_0, Go.Sx.runF_S, runCS_skip, runCS_reg, runCS_draw, runCS_seq, runCS_cond, runCS_block, runCS_loop, runCS_exit, runCS_ret, runOpsS_nil, runOpsS_cons, runOpsTS_nil, runOpsTS_cons, Go.Sx.wants, Go.Sx.evOp, Go.Sx.opd, Sx.get, Go.Sx.putD, Sx.keep, Go.Sx.binL, Go.Sx.isSh, binI_add, binI_sub, binI_mul, binI_eql, binI_neq, binI_lss, binI_leq, binI_gtr, binI_geq, Go.Sx.leI_eq, Go.Sx.eqL, unL_not, unL_neg, Go.Sx.resVs, Go.Sx.resV, Go.Sx.oneL, Go.Sx.finish, Go.Sx.frz, Go.Sx.frz.go, Go.Sx.frzL, Go.Sx.frzL.go, Go.Sx.ids, Go.Sx.ids.idsL, Go.Sx.updIds, Go.Sx.reach, Go.Sx.ren, Go.Sx.ren.go, Go.Sx.renU, Go.Sx.renN, Go.Sx.renO, Go.Sx.renId, List.idxOf?_cons, Go.Sx.fillP, Go.Sx.mkAgg, Go.Sx.allP, Go.Sx.LV.cells, Go.Sx.Obj.cells, Go.Sx.splice, Go.Sx.rd, Go.Sx.push, Go.Sx.look, Go.Sx.findU, Go.Sx.setObj, Go.Sx.setU, Go.Sx.setAll, Go.Sx.callO, Go.Sx.slCells, Go.Sx.sliceO, Go.Sx.appO, Value.oneCell', Go.Sx.mmL, Go.Sx.mm2, Go.Sx.gslot, Go.Sx.IROp.slots, Go.Sx.Opd.slots, Go.Sx.indepD, Go.Sx.quickD, Go.Sx.indepR, Go.Sx.pairsD, Go.Sx.apartD, Nat.testBit, Go.Sx.Obj.ids, Go.Sx.natL, Go.Sx.optMap, Go.Sx.LV.undef, Go.undef, ltF, iter, wrap_i64, shl0, shl8, shl16, shl24, wrap_byte, or_zero, or_u32, un4, h0, h1, h2, h3]

/-- The frame of some bytes. -/
def frame (l : List UInt8) : List UInt8 := le4 (BitVec.ofNat 32 l.length) ++ le4 (crc (le4 (BitVec.ofNat 32 l.length) ++ l)) ++ l
theorem wrap_len (n : Nat) : IntKind.u32.wrap (n : Int) = nv (BitVec.ofNat 32 n) := by
  rw [nv, BitVec.toNat_ofNat]
  simp [IntKind.wrap, IntKind.signed, IntKind.bits]

theorem frame_ (l : List UInt8) (h0 : 0 < l.length) (h30 : l.length < 2 ^ 30) (id cp : Nat) (ex : Bool) (H : Heap) (nx : Nat) (hl : H id = some (.cells (byt l))) (hid : id < nx) :
    Ω 24 [.arr id 0 l.length 1 cp ex] H nx = some (.arr nx 0 (8 + l.length) 1 (8 + l.length) false, [], [some (.cells (byt (frame l)))]) := by
  refine om_run (ir := ir24) rfl 0 ?_
  have hs : ∀ (id cp : Nat) (ex : Bool) (H : Heap) (nx : Nat), H id = some (.cells (byt (le4 (BitVec.ofNat 32 l.length)) ++ byt l)) → id < nx →
      Ω 41 [.arr id 0 (4 + l.length) 1 cp ex] H nx = some (.int .u32 (nv (crc (le4 (BitVec.ofNat 32 l.length) ++ l))), [], []) := fun id cp ex H nx h1 h2 => by
    have := sum_ (le4 (BitVec.ofNat 32 l.length) ++ l) (by simp [le4]; omega) id cp ex H nx (by rw [byt_app]; exact h1) h2
    have e : (le4 (BitVec.ofNat 32 l.length) ++ l).length = 4 + l.length := by simp [le4]; omega
    rwa [e] at this
  have hb : ∀ (x : BitVec 32), byt (le4 x) = [.int .u8 (low x).toNat, .int .u8 (low (x >>> 8)).toNat, .int .u8 (low (x >>> 16)).toNat, .int .u8 (low (x >>> 24)).toNat] := fun x => rfl
  have hne : ¬ l.length = 0 := by omega
  have hla := fun id H nx h1 h2 => lay_arr (low (BitVec.ofNat 32 l.length)) (low (BitVec.ofNat 32 l.length >>> 8)) (low (BitVec.ofNat 32 l.length >>> 16)) (low (BitVec.ofNat 32 l.length >>> 24)) (crc (le4 (BitVec.ofNat 32 l.length) ++ l)) id H nx h1 h2
  simp only [byt_app, hb] at hs
  simp only [byt_app, hb, byt_cons, byt_nil] at hla
  have h41 : ¬ 1099511627776 < 4 + l.length := by omega
  have h42 : ¬ 1099511627776 < 8 + l.length := by omega
  have hk : ∀ k, id < nx + k := fun k => by omega
  simp [ir24, Go.Sx.runF_S, runCS_skip, runCS_reg, runCS_draw, runCS_seq, runCS_cond, runCS_block, runCS_loop, runCS_exit, runCS_ret, runOpsS_nil, runOpsS_cons, runOpsTS_nil, runOpsTS_cons, Go.Sx.wants, Go.Sx.evOp, Go.Sx.opd, Sx.get, Go.Sx.putD, Sx.keep, Go.Sx.binL, Go.Sx.isSh, binI_add, binI_sub, binI_mul, binI_eql, binI_neq, binI_lss, binI_leq, binI_gtr, binI_geq, Go.Sx.leI_eq, Go.Sx.eqL, unL_not, unL_neg, Go.Sx.resVs, Go.Sx.resV, Go.Sx.oneL, Go.Sx.finish, Go.Sx.frz, Go.Sx.frz.go, Go.Sx.frzL, Go.Sx.frzL.go, Go.Sx.ids, Go.Sx.ids.idsL, Go.Sx.updIds, Go.Sx.reach, Go.Sx.ren, Go.Sx.ren.go, Go.Sx.renU, Go.Sx.renN, Go.Sx.renO, Go.Sx.renId, List.idxOf?_cons, Go.Sx.fillP, Go.Sx.mkAgg, Go.Sx.allP, Go.Sx.LV.cells, Go.Sx.Obj.cells, Go.Sx.splice, Go.Sx.rd, Go.Sx.push, Go.Sx.look, Go.Sx.findU, Go.Sx.setObj, Go.Sx.setU, Go.Sx.setAll, Go.Sx.callO, Go.Sx.slCells, Go.Sx.sliceO, Go.Sx.appO, Value.oneCell', Go.Sx.mmL, Go.Sx.mm2, Go.Sx.gslot, Go.Sx.IROp.slots, Go.Sx.Opd.slots, Go.Sx.indepD, Go.Sx.quickD, Go.Sx.indepR, Go.Sx.pairsD, Go.Sx.apartD, Nat.testBit, Go.Sx.Obj.ids, Go.Sx.natL, Go.Sx.optMap, Go.Sx.LV.undef, Go.undef, ltF, hid, hk, hl, wrap_len, lay_nil, byt_len, bytP_len, take_byt, ids_byt, ren_byt, ids_app, ren_app, allP_byt, allP_app, hs, hla, hb, hne, h41, h42, frame]
  rw [byt_app, byt_app, hb, hb]
  rfl

theorem frame_len (l : List UInt8) : (frame l).length = 8 + l.length := by simp [frame, le4]; omega
theorem frame_' (l : List UInt8) (h0 : 0 < l.length) (h30 : l.length < 2 ^ 30) (id cp : Nat) (ex : Bool) (H : Heap) (nx : Nat) (hl : H id = some (.cells (byt l))) (hid : id < nx) :
    Ω 24 [.arr id 0 l.length 1 cp ex] H nx = some (.arr nx 0 (frame l).length 1 (frame l).length false, [], [some (.cells (byt (frame l)))]) := by
  rw [frame_len]
  exact frame_ l h0 h30 id cp ex H nx hl hid

/- Bytes behind bytes. -/
theorem look_last (H : Heap) (nx : Nat) (h : Hp) (o : Go.Sx.Obj) : Go.Sx.look H nx (push h o) (nx + h.new.length) = some o := by
  simp [Go.Sx.look, push, ltF]
theorem look_before (H : Heap) (nx : Nat) (h : Hp) (o : Go.Sx.Obj) (i : Nat) (hi : i < nx + h.new.length) : Go.Sx.look H nx (push h o) i = Go.Sx.look H nx h i := by
  rw [look_push, if_neg (by omega)]
theorem app1 {c : Ctx} {h : Hp} {q : List UInt8} {i j : Nat} {ex : Bool} {b : UInt8} (hi : Go.Sx.look c.H c.nx h i = some (.cells (byt q))) (hj : Go.Sx.look c.H c.nx h j = some (.cells [.int .u8 b.toNat])) (h30 : q.length < 2 ^ 31) :
    appO c h 1 1 (.arr i 0 q.length 1 q.length ex) (.arr j 0 1 1 1 true) = some ⟨.arr (c.nx + h.new.length) 0 (q.length + 1) 1 (q.length + 1) false,
      push (if ex then h else Go.Sx.setObj c.nx h i none) (.cells (byt (q ++ [b]))), [i, j], !ex⟩ := by
  have h41 : ¬ 2 ^ 40 < (q.length + 1) * 1 := by omega
  cases ex <;> simp [appO, slCells, hi, hj, byt_len, h41, take_byt, byt_app, byt_cons, byt_nil, ids] <;> omega

theorem or128 : ∀ x : Fin 256, (BitVec.ofInt 8 (x.val : Int) ||| BitVec.ofInt 8 128).toNat = x.val % 128 + 128 := by decide +kernel
theorem byte_or (n : Nat) : binI .or .u8 (IntKind.u8.wrap (n : Int)) 128 = some (.int .u8 ((UInt8.ofNat (n % 128 + 128)).toNat : Nat)) := by
  have h1 : binI .or .u8 (IntKind.u8.wrap (n : Int)) 128 = some (.int .u8 (IntKind.u8.wrap (BitVec.ofInt 8 (IntKind.u8.wrap (n : Int)) ||| BitVec.ofInt 8 128).toNat)) := rfl
  have h2 : IntKind.u8.wrap (n : Int) = ((n % 256 : Nat) : Int) := by simp [IntKind.wrap, IntKind.signed, IntKind.bits]
  have h3 := or128 ⟨n % 256, Nat.mod_lt _ (by decide)⟩
  simp only at h3
  rw [h1, h2, h3]
  have h4 : IntKind.u8.wrap ((n % 256 % 128 + 128 : Nat) : Int) = ((n % 256 % 128 + 128 : Nat) : Int) := by
    simp [IntKind.wrap, IntKind.signed, IntKind.bits]
    omega
  rw [h4]
  simp
  omega
theorem wrap_u8 (n : Nat) : IntKind.u8.wrap (n : Int) = ((UInt8.ofNat n).toNat : Nat) := by
  simp [IntKind.wrap, IntKind.signed, IntKind.bits]
theorem shr7 (n : Nat) : shI .shr .u64 n 7 = some (.int .u64 (n / 128 : Nat)) := by
  have : shI .shr .u64 (n : Int) 7 = some (.int .u64 ((n : Int).fdiv (2 ^ 7))) := rfl
  rw [this, Int.fdiv_eq_ediv_of_nonneg _ (by decide)]
  norm_cast

section num
variable {c : Ctx}
theorem num_step {N : Nat} {h : Hp} {q : List UInt8} {i n : Nat} {ex : Bool} (hn : 128 ≤ n) (hi : Go.Sx.look c.H c.nx h i = some (.cells (byt q))) (hlt : i < c.nx + h.new.length) (h30 : q.length < 2 ^ 31) :
    runCS c N ir19_0 ⟨[(0, .arr i 0 q.length 1 q.length ex), (1, .int .u64 n)], h⟩ =
      some (.normal, ⟨[(0, .arr (c.nx + (h.new.length + 1)) 0 (q.length + 1) 1 (q.length + 1) false), (1, .int .u64 (n / 128 : Nat))],
        push (if ex then push h (.cells [.int .u8 (UInt8.ofNat (n % 128 + 128)).toNat]) else Go.Sx.setObj c.nx (push h (.cells [.int .u8 (UInt8.ofNat (n % 128 + 128)).toNat])) i none) (.cells (byt (q ++ [UInt8.ofNat (n % 128 + 128)])))⟩) := by
  have hn' : (128 : Int) ≤ n := by omega
  have ha := app1 (c := c) (h := push h (.cells [.int .u8 (UInt8.ofNat (n % 128 + 128)).toNat])) (q := q) (i := i) (j := c.nx + h.new.length) (ex := ex) (b := UInt8.ofNat (n % 128 + 128))
    (by rw [look_before _ _ _ _ _ hlt]; exact hi) (look_last _ _ _ _) h30
  have hb := byte_or n
  have hl : (push h (.cells [.int .u8 (UInt8.ofNat (n % 128 + 128)).toNat])).new.length = h.new.length + 1 := by simp [push]
  rw [hl] at ha
  generalize UInt8.ofNat (n % 128 + 128) = b at *
  simp [ir19_0, Go.Sx.runF_S, runCS_skip, runCS_reg, runCS_draw, runCS_seq, runCS_cond, runCS_block, runCS_loop, runCS_exit, runCS_ret, runOpsS_nil, runOpsS_cons, runOpsTS_nil, runOpsTS_cons, Go.Sx.wants, Go.Sx.evOp, Go.Sx.opd, Sx.get, Go.Sx.putD, Sx.keep, Go.Sx.binL, Go.Sx.isSh, binI_add, binI_sub, binI_mul, binI_eql, binI_neq, binI_lss, binI_leq, binI_gtr, binI_geq, Go.Sx.leI_eq, Go.Sx.eqL, unL_not, unL_neg, Go.Sx.resVs, Go.Sx.resV, Go.Sx.oneL, Go.Sx.finish, Go.Sx.frz, Go.Sx.frz.go, Go.Sx.frzL, Go.Sx.frzL.go, Go.Sx.ids, Go.Sx.ids.idsL, Go.Sx.updIds, Go.Sx.reach, Go.Sx.ren, Go.Sx.ren.go, Go.Sx.renU, Go.Sx.renN, Go.Sx.renO, Go.Sx.renId, List.idxOf?_cons, Go.Sx.fillP, Go.Sx.mkAgg, Go.Sx.allP, Go.Sx.LV.cells, Go.Sx.Obj.cells, Go.Sx.splice, Go.Sx.rd, Go.Sx.findU, Go.Sx.setAll, Go.Sx.callO, Go.Sx.slCells, Go.Sx.sliceO, Value.oneCell', Go.Sx.mmL, Go.Sx.mm2, Go.Sx.gslot, Go.Sx.IROp.slots, Go.Sx.Opd.slots, Go.Sx.indepD, Go.Sx.quickD, Go.Sx.indepR, Go.Sx.pairsD, Go.Sx.apartD, Nat.testBit, Go.Sx.Obj.ids, Go.Sx.natL, Go.Sx.optMap, Go.Sx.LV.undef, Go.undef, ltF, hn', hb, ha, shr7]
theorem num_out {N : Nat} {h : Hp} {x : LV} {n : Nat} (hn : n < 128) :
    runCS c N ir19_0 ⟨[(0, x), (1, .int .u64 n)], h⟩ = some (.exit 0, ⟨[(0, x), (1, .int .u64 n), (12, .bool false)], h⟩) := by
  have hn' : ¬ (128 : Int) ≤ n := by omega
  simp [ir19_0, Go.Sx.runF_S, runCS_skip, runCS_reg, runCS_draw, runCS_seq, runCS_cond, runCS_block, runCS_loop, runCS_exit, runCS_ret, runOpsS_nil, runOpsS_cons, runOpsTS_nil, runOpsTS_cons, Go.Sx.wants, Go.Sx.evOp, Go.Sx.opd, Sx.get, Go.Sx.putD, Sx.keep, Go.Sx.binL, Go.Sx.isSh, binI_add, binI_sub, binI_mul, binI_eql, binI_neq, binI_lss, binI_leq, binI_gtr, binI_geq, Go.Sx.leI_eq, Go.Sx.eqL, unL_not, unL_neg, Go.Sx.resVs, Go.Sx.resV, Go.Sx.oneL, Go.Sx.finish, Go.Sx.frz, Go.Sx.frz.go, Go.Sx.frzL, Go.Sx.frzL.go, Go.Sx.ids, Go.Sx.ids.idsL, Go.Sx.updIds, Go.Sx.reach, Go.Sx.ren, Go.Sx.ren.go, Go.Sx.renU, Go.Sx.renN, Go.Sx.renO, Go.Sx.renId, List.idxOf?_cons, Go.Sx.fillP, Go.Sx.mkAgg, Go.Sx.allP, Go.Sx.LV.cells, Go.Sx.Obj.cells, Go.Sx.splice, Go.Sx.rd, Go.Sx.findU, Go.Sx.setAll, Go.Sx.callO, Go.Sx.slCells, Go.Sx.sliceO, Value.oneCell', Go.Sx.mmL, Go.Sx.mm2, Go.Sx.gslot, Go.Sx.IROp.slots, Go.Sx.Opd.slots, Go.Sx.indepD, Go.Sx.quickD, Go.Sx.indepR, Go.Sx.pairsD, Go.Sx.apartD, Nat.testBit, Go.Sx.Obj.ids, Go.Sx.natL, Go.Sx.optMap, Go.Sx.LV.undef, Go.undef, ltF, hn']
theorem look_grow {h : Hp} {i : Nat} {o p : Go.Sx.Obj} {ex : Bool} (hex : ex = true ∨ c.nx ≤ i) (hu : h.upd = []) :
    Go.Sx.look c.H c.nx (push (if ex then push h o else Go.Sx.setObj c.nx (push h o) i none) p) (c.nx + (h.new.length + 1)) = some p ∧
    (push (if ex then push h o else Go.Sx.setObj c.nx (push h o) i none) p).upd = [] ∧
    (push (if ex then push h o else Go.Sx.setObj c.nx (push h o) i none) p).new.length = h.new.length + 2 := by
  cases ex with
  | true => exact ⟨by simp [Go.Sx.look, push, ltF], by simp [push, hu], by simp [push]⟩
  | false =>
    have hge : ¬ i < c.nx := by
      rcases hex with h | h
      · cases h
      · omega
    refine ⟨?_, ?_, ?_⟩
    · simp [Go.Sx.look, push, ltF, Go.Sx.setObj, hge]
    · simp [push, Go.Sx.setObj, hge, hu]
    · simp [push, Go.Sx.setObj, hge]

theorem num_loop {N : Nat} : ∀ (k n : Nat), k = (vnum n).length → ∀ (m : Nat) (h : Hp) (q : List UInt8) (i : Nat) (ex : Bool), k < m → Go.Sx.look c.H c.nx h i = some (.cells (byt q)) → i < c.nx + h.new.length → h.upd = [] → (ex = true ∨ c.nx ≤ i) → q.length + k < 2 ^ 31 →
    ∃ (h' : Hp) (q' : List UInt8) (i' n' : Nat) (ex' : Bool), iter (runCS c N ir19_0) m ⟨[(0, .arr i 0 q.length 1 q.length ex), (1, .int .u64 n)], h⟩ =
      some (.exit 0, ⟨[(0, .arr i' 0 q'.length 1 q'.length ex'), (1, .int .u64 n'), (12, .bool false)], h'⟩) ∧ q' ++ [UInt8.ofNat n'] = q ++ vnum n ∧
      Go.Sx.look c.H c.nx h' i' = some (.cells (byt q')) ∧ i' < c.nx + h'.new.length ∧ h'.upd = [] ∧ (ex' = true ∨ c.nx ≤ i') ∧ q'.length < 2 ^ 31 := by
  intro k
  induction k with
  | zero => intro n hk; have := vnum_pos n; omega
  | succ k ih =>
    intro n hk m h q i ex hm hi hlt hu hex hq
    obtain ⟨m, rfl⟩ : ∃ r, m = r + 1 := ⟨m - 1, by omega⟩
    by_cases hn : n < 128
    · exact ⟨h, q, i, n, ex, iter_out (num_out hn) (by simp), by rw [vnum_lt hn], hi, hlt, hu, hex, by omega⟩
    · obtain ⟨e1, e2, e3⟩ := look_grow (c := c) (h := h) (i := i) (ex := ex) (o := .cells [.int .u8 (UInt8.ofNat (n % 128 + 128)).toNat]) (p := .cells (byt (q ++ [UInt8.ofNat (n % 128 + 128)]))) hex hu
      rw [iter_step (num_step (by omega) hi hlt (by omega))]
      have hv := vnum_ge hn
      rw [hv, List.length_cons] at hk
      have hql : (q ++ [UInt8.ofNat (n % 128 + 128)]).length = q.length + 1 := by simp
      have := ih (n / 128) (by omega) m _ (q ++ [UInt8.ofNat (n % 128 + 128)]) (c.nx + (h.new.length + 1)) false (by omega) e1 (by rw [e3]; omega) e2 (.inr (by omega)) (by rw [hql]; omega)
      rw [hql] at this
      rw [hv]
      simpa using this
end num

theorem finish_arr {H : Heap} {nx i L : Nat} {h : Hp} {q : List UInt8} {ex : Bool} (hu : h.upd = []) (hi : nx ≤ i) (hl : Go.Sx.look H nx h i = some (.cells (byt q))) :
    finish true H nx (.arr i 0 L 1 L ex) h = some (.arr nx 0 L 1 L ex, [], [some (.cells (byt q))]) := by
  have h1 : ¬ i < nx := by omega
  simp [finish, Go.Sx.runF_S, runCS_skip, runCS_reg, runCS_draw, runCS_seq, runCS_cond, runCS_block, runCS_loop, runCS_exit, runCS_ret, runOpsS_nil, runOpsS_cons, runOpsTS_nil, runOpsTS_cons, Go.Sx.wants, Go.Sx.evOp, Go.Sx.opd, Sx.get, Go.Sx.putD, Sx.keep, Go.Sx.binL, Go.Sx.isSh, binI_add, binI_sub, binI_mul, binI_eql, binI_neq, binI_lss, binI_leq, binI_gtr, binI_geq, Go.Sx.leI_eq, Go.Sx.eqL, unL_not, unL_neg, Go.Sx.resVs, Go.Sx.resV, Go.Sx.oneL, Go.Sx.finish, Go.Sx.frz, Go.Sx.frz.go, Go.Sx.frzL, Go.Sx.frzL.go, Go.Sx.ids, Go.Sx.ids.idsL, Go.Sx.updIds, Go.Sx.reach, Go.Sx.ren, Go.Sx.ren.go, Go.Sx.renU, Go.Sx.renN, Go.Sx.renO, Go.Sx.renId, List.idxOf?_cons, Go.Sx.fillP, Go.Sx.mkAgg, Go.Sx.allP, Go.Sx.LV.cells, Go.Sx.Obj.cells, Go.Sx.splice, Go.Sx.rd, Go.Sx.push, Go.Sx.findU, Go.Sx.setObj, Go.Sx.setU, Go.Sx.setAll, Go.Sx.callO, Go.Sx.slCells, Go.Sx.sliceO, Go.Sx.appO, Value.oneCell', Go.Sx.mmL, Go.Sx.mm2, Go.Sx.gslot, Go.Sx.IROp.slots, Go.Sx.Opd.slots, Go.Sx.indepD, Go.Sx.quickD, Go.Sx.indepR, Go.Sx.pairsD, Go.Sx.apartD, Nat.testBit, Go.Sx.Obj.ids, Go.Sx.natL, Go.Sx.optMap, Go.Sx.LV.undef, Go.undef, ltF, hu, h1, hl, byt_len, bytP_len, take_byt, ids_byt, ren_byt, ids_app, ren_app, allP_byt, allP_app]

theorem num_ (q : List UInt8) (n : Nat) (h64 : n < 2 ^ 64) (hq : q.length < 2 ^ 30) (id cp : Nat) (ex : Bool) (H : Heap) (nx : Nat) (hl : H id = some (.cells (byt q))) (hid : id < nx) :
    Ω 19 [.arr id 0 q.length 1 cp ex, .int .u64 n] H nx = some (.arr nx 0 (q ++ vnum n).length 1 (q ++ vnum n).length false, [], [some (.cells (byt (q ++ vnum n)))]) := by
  refine om_run (ir := ir19) rfl 11 ?_
  have hv := vnum_len n h64
  have hlk : Go.Sx.look H nx ⟨[], []⟩ id = some (.cells (byt q)) := by simp [Go.Sx.look, findU, hid, hl]
  obtain ⟨h', q', i', n', ex', e1, e2, e3, e4, e5, e6, e7⟩ := num_loop (c := ⟨Ω, noG, H, nx⟩) (N := 11) _ n rfl 11 ⟨[], []⟩ q id true (by omega) hlk (by simp; omega) rfl (.inl rfl) (by omega)
  rw [← e2]
  obtain ⟨f1, f2, f3⟩ := look_grow (c := ⟨Ω, noG, H, nx⟩) (h := h') (i := i') (ex := ex') (o := .cells [.int .u8 (UInt8.ofNat n').toNat]) (p := .cells (byt (q' ++ [UInt8.ofNat n']))) e6 e5
  have ha := app1 (c := ⟨Ω, noG, H, nx⟩) (h := push h' (.cells [.int .u8 (UInt8.ofNat n').toNat])) (q := q') (i := i') (j := nx + h'.new.length) (ex := ex') (b := UInt8.ofNat n')
    (by rw [look_before _ _ _ _ _ e4]; exact e3) (look_last _ _ _ _) e7
  have hl : (push h' (.cells [.int .u8 (UInt8.ofNat n').toNat])).new.length = h'.new.length + 1 := by simp [push]
  rw [hl] at ha
  have hw := wrap_u8 n'
  have hlen : (q' ++ [UInt8.ofNat n']).length = q'.length + 1 := by simp
  rw [hlen]
  generalize UInt8.ofNat n' = b at *
  dsimp only at ha f1 f2
  simp [ir19, Go.Sx.runF_S, runCS_skip, runCS_reg, runCS_draw, runCS_seq, runCS_cond, runCS_block, runCS_loop, runCS_exit, runCS_ret, runOpsS_nil, runOpsS_cons, runOpsTS_nil, runOpsTS_cons, Go.Sx.wants, Go.Sx.evOp, Go.Sx.opd, Sx.get, Go.Sx.putD, Sx.keep, Go.Sx.binL, Go.Sx.isSh, binI_add, binI_sub, binI_mul, binI_eql, binI_neq, binI_lss, binI_leq, binI_gtr, binI_geq, Go.Sx.leI_eq, Go.Sx.eqL, unL_not, unL_neg, Go.Sx.resVs, Go.Sx.resV, Go.Sx.oneL, Go.Sx.finish, Go.Sx.frz, Go.Sx.frz.go, Go.Sx.frzL, Go.Sx.frzL.go, Go.Sx.ids, Go.Sx.ids.idsL, Go.Sx.updIds, Go.Sx.reach, Go.Sx.ren, Go.Sx.ren.go, Go.Sx.renU, Go.Sx.renN, Go.Sx.renO, Go.Sx.renId, List.idxOf?_cons, Go.Sx.fillP, Go.Sx.mkAgg, Go.Sx.allP, Go.Sx.LV.cells, Go.Sx.Obj.cells, Go.Sx.splice, Go.Sx.rd, Go.Sx.findU, Go.Sx.setAll, Go.Sx.callO, Go.Sx.slCells, Go.Sx.sliceO, Value.oneCell', Go.Sx.mmL, Go.Sx.mm2, Go.Sx.gslot, Go.Sx.IROp.slots, Go.Sx.Opd.slots, Go.Sx.indepD, Go.Sx.quickD, Go.Sx.indepR, Go.Sx.pairsD, Go.Sx.apartD, Nat.testBit, Go.Sx.Obj.ids, Go.Sx.natL, Go.Sx.optMap, Go.Sx.LV.undef, Go.undef, ltF, e1, hw, ha, f1, f2, byt_len, bytP_len, take_byt, ids_byt, ren_byt, ids_app, ren_app, allP_byt, allP_app]
end Go.Proofs.YtkdimbcfacoboaaGreatDoor

