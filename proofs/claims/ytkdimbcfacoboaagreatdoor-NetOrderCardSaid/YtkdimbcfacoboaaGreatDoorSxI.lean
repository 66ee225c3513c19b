/- Single operations, one by one: the rest that are no calls. -/
import Derived.Test.YtkdimbcfacoboaaGreatDoorSxH
import Derived.Laws.IdiomStrings
namespace Go.Sx
open Go

section ops
variable {P : Program} {imT : TypeId → Bool} {c : Ctx} {dr : Bool} {env : Env} {h : Hp} {a : Act} {w : World} {I : Nat → Prop} {μ : Mu} {r : Res} {T : Nat → Prop}
variable {dst : Option Tmp} {ty : TypeId} {pos : String} {after : Array Edge} {guard : Option (Nat × Bool)}

theorem op_copy (hH : HR I μ w T (look c.H c.nx h)) (ho : Opds c env a I μ w) (hT : ∀ id ∈ r.tch, T id) {e : TypeId} {x y : Operand} {ats : Array TypeId} {sz : Nat}
    (ht : (ats[0]?).bind (P.underlying ·) = some (.slice e)) (hs : tsz P e = some sz) (hr : evOp c dr env h (.copy sz (copd x) (copd y)) = some r) :
    DoesOp P c h a w I μ r T ⟨dst, .call { callee := .builtin .copy, args := #[x, y], argTypes := ats }, ty, pos, after, guard⟩ := by
  obtain ⟨i, hi, hsz⟩ := tsz_info hs
  have hx := ho x
  have hy := ho y
  simp only [evOp] at hr
  split at hr
  case h_2 => cases hr
  rename_i id off len s' cp ex hv
  split at hr
  case h_2 => cases hr
  rename_i cs yc n hl hyc
  split at hr
  case isFalse => cases hr
  rename_i hcond
  obtain ⟨rfl, hlen, hle⟩ := hcond
  obtain rfl := Option.some.inj hr
  rw [hv] at hx
  obtain ⟨b, o, s, o2, cap, hm, he, hoo, hlc, hfull, hroom, hcp, hlcp⟩ := vr_arr hx
  have hTid : T id := hT id (by simp)
  obtain ⟨b', o', s2, e', hm', hsh, hcs, hfz, hat⟩ := hH.obj id _ hTid hl
  rw [hm] at hm'
  obtain ⟨rfl, rfl, rfl⟩ : b = b' ∧ o = o' ∧ s = s2 := by simpa using hm'
  obtain ⟨vals, g1, g2, g3, g4, g5⟩ := src_run (P := P) hH hyc (fun i hi => hT i (by simp [hi])) hy hlen
  cases hu : ats[0]? with
  | none => rw [hu] at ht; cases ht
  | some t =>
    rw [hu] at ht
    simp only [Option.bind_some] at ht
    have hmin : min n len ≤ n := Nat.min_le_left _ _
    have hminl : min n len ≤ len := Nat.min_le_right _ _
    have hm1 : min n len * s' ≤ n * s' := Nat.mul_le_mul_right _ hmin
    have hm2 : min n len * s' ≤ len * s' := Nat.mul_le_mul_right _ hminl
    have hvl : (vals.take (min n len * s')).length = min n len * s' := by rw [List.length_take, g1]; exact Nat.min_eq_left hm1
    have hyl : (yc.take (min n len * s')).length = min n len * s' := by rw [List.length_take, hlen]; exact Nat.min_eq_left hm1
    have hwr := splice_goes (nx := c.nx) (H := c.H) hH id hTid hl hm (p := off) (ys := yc.take (min n len * s')) (vs := vals.take (min n len * s')) (by rw [hvl, hyl]) (fun v hv => g2 v (List.mem_of_mem_take hv)) (fun j l v hj hv => by
      rw [List.getElem?_take] at hj hv
      split at hj
      · rename_i hlt; rw [if_pos hlt] at hv; exact g3 j l v hj hv
      · cases hj) (by rw [hyl]; omega)
    have hfirst := g5 w rfl (min n len) hmin
    have hst : (storeCells ⟨b, o2, none⟩ (vals.take (min n len * s'))).run P w = .ok () (w.setCells b (o + off) (vals.take (min n len * s'))) := by
      rcases hoo with h0 | h0
      · have hz : min n len = 0 := by omega
        rw [hz]; simp [storeCells, World.setCells]
      · subst h0
        have := run_storeCells_cells (P := P) b (o + off) (vals.take (min n len * s')) 0 w (fun j hj => by
            obtain ⟨q, hq⟩ := cell_of_shape (k := o + off + 0 + j) hsh (by rw [hvl] at hj; omega)
            rw [hq]; rfl) (fun j hj => hfz _ (by rw [hvl] at hj; omega)) (fun v hv => g2 v (List.mem_of_mem_take hv))
        simpa using this
    have hrun : (execOp a.eval ⟨dst, .call { callee := .builtin .copy, args := #[x, y], argTypes := ats }, ty, pos, after, guard⟩).run P w = .ok (.value (.int .i64 (min n len : Nat))) (w.setCells b (o + off) (vals.take (min n len * s'))) := by
      have h3 := g4 w
      have hmn : Nat.min n len = min n len := rfl
      simp only [execOp, resolve, invoke, builtin, Builtin.copy_]
      simp [hu, run_underlying ht, he, h3, sizeOf, typeInfo, hi, hsz, hmn, hfirst, hst, goInt]
    exact ⟨_, _, _, _, .inl hrun, (hwr.widen hH fun _ h => h ▸ hTid).congrN fun j => by simp [newN, setObj_len], .p (.s _)⟩

theorem op_clear (hH : HR I μ w T (look c.H c.nx h)) (ho : Opds c env a I μ w) (hT : ∀ id ∈ r.tch, T id) {e : TypeId} {x : Operand} {ats : Array TypeId} {sz : Nat} {z : List PV}
    (ht : (ats[0]?).bind (P.underlying ·) = some (.slice e)) (hs : tsz P e = some sz) (hz : tzero P e = some z) (hr : evOp c dr env h (.clr sz z (copd x)) = some r) :
    DoesOp P c h a w I μ r T ⟨dst, .call { callee := .builtin .clear, args := #[x], argTypes := ats }, ty, pos, after, guard⟩ := by
  obtain ⟨i, hi, hsz⟩ := tsz_info hs
  obtain ⟨i', zv, hi', hzv, h1, hzz⟩ := tzero_some hz
  obtain rfl : i = i' := Option.some.inj (hi.symm.trans hi')
  have hx := ho x
  cases hu : ats[0]? with
  | none => rw [hu] at ht; cases ht
  | some t =>
  rw [hu] at ht
  simp only [Option.bind_some] at ht
  have nil : VR I μ w (.tuple []) (.tuple #[]) := .tuple [] #[] rfl fun j l u hj => by simp at hj
  simp only [evOp] at hr
  split at hr
  · rename_i hv
    obtain rfl := Option.some.inj hr
    rw [hv] at hx
    have he := vr_s hx
    exact does_pure hH newN_self (v := .tuple #[]) (by simp [execOp, resolve, invoke, builtin, Builtin.clear_, hu, he, run_underlying ht]) nil
  · rename_i id off len s' cp ex hv
    rw [hv] at hx
    obtain ⟨b, o, s, o2, cap, hm, he, hoo, hlc, hfull, hroom, hcp, hlcp⟩ := vr_arr hx
    split at hr
    · rename_i h0
      subst h0
      obtain rfl := Option.some.inj hr
      exact does_pure hH newN_self (v := .tuple #[]) (by simp [execOp, resolve, invoke, builtin, Builtin.clear_, hu, he, run_underlying ht]) nil
    · rename_i h0
      split at hr
      case h_2 => cases hr
      rename_i cs hl
      split at hr
      case isFalse => cases hr
      rename_i hcond
      obtain ⟨rfl, hzl, hle⟩ := hcond
      obtain rfl := Option.some.inj hr
      have hTid : T id := hT id (by simp)
      obtain ⟨b', o', s2, e', hm', hsh, hcs, hfz, hat⟩ := hH.obj id _ hTid hl
      rw [hm] at hm'
      obtain ⟨rfl, rfl, rfl⟩ : b = b' ∧ o = o' ∧ s = s2 := by simpa using hm'
      have hoe : o2 = o + off := by
        rcases hoo with h | h
        · omega
        · exact h
      subst hoe
      have hzs : zv.cells.size = s' := by rw [hzz] at hzl; simpa using hzl
      have hmade := made_vr (I := I) (μ := μ) (w := w) h1 len (len * s')
      rw [← hzz] at hmade
      have hms : (madeCells zv.cells (len * s')).size = len * s' := size_madeCells _ _
      have hzc : Builtin.zeroCells zv.cells len = madeCells zv.cells (len * s') := by rw [← hzs]; rfl
      have hyl : (((List.replicate len z).flatten).map LV.p).length = len * s' := by simp [hzl]
      have hone : ∀ v ∈ (madeCells zv.cells (len * s')).toList, v.oneCell' = true := fun v hv => hmade.1 v hv (.inr fun e => by
        have : len * s' = 0 := by rw [← hzs, e, Nat.mul_zero]
        have hlt := List.length_pos_of_mem hv
        rw [Array.length_toList, hms] at hlt
        omega)
      have hwr := splice_goes (nx := c.nx) (H := c.H) hH id hTid hl hm (p := off) (ys := ((List.replicate len z).flatten).map LV.p) (vs := (madeCells zv.cells (len * s')).toList) (by rw [Array.length_toList, hms, hyl]) hone (fun j l v hj hv => by
        rw [Array.getElem?_toList] at hv
        exact hmade.2 j l v hj hv) (by rw [hyl]; omega)
      have hst : (storeCells ⟨b, o + off, none⟩ (madeCells zv.cells (len * s')).toList).run P w = .ok () (w.setCells b (o + off) (madeCells zv.cells (len * s')).toList) := by
        have := run_storeCells_cells (P := P) b (o + off) (madeCells zv.cells (len * s')).toList 0 w (fun j hj => by
            rw [Array.length_toList, hms] at hj
            obtain ⟨q, hq⟩ := cell_of_shape (k := o + off + 0 + j) hsh (by omega)
            rw [hq]; rfl) (fun j hj => hfz _ (by rw [Array.length_toList, hms] at hj; omega)) hone
        simpa using this
      have hrun : (execOp a.eval ⟨dst, .call { callee := .builtin .clear, args := #[x], argTypes := ats }, ty, pos, after, guard⟩).run P w = .ok (.value (.tuple #[])) (w.setCells b (o + off) (madeCells zv.cells (len * s')).toList) := by
        obtain ⟨k, rfl⟩ : ∃ k, len = k + 1 := ⟨len - 1, by omega⟩
        simp only [execOp, resolve, invoke, builtin, Builtin.clear_]
        simp [hu, run_underlying ht, he, zeroValue, typeInfo, hi, hzv, hzc, hst]
      exact ⟨_, _, _, _, .inl hrun, (hwr.widen hH fun _ h => h ▸ hTid).congrN fun j => by simp [newN, setObj_len], .tuple [] #[] rfl fun j l u hj => by simp at hj⟩
  · cases hr

theorem op_len (hH : HR I μ w T (look c.H c.nx h)) (ho : Opds c env a I μ w) {x : Operand} {ats : Array TypeId} {str : Bool} (ht : if str then (ats[0]?).bind (P.underlying ·) = some .string else ∃ e, (ats[0]?).bind (P.underlying ·) = some (.slice e))
    (hr : evOp c dr env h (.len str (copd x)) = some r) : DoesOp P c h a w I μ r T ⟨dst, .call { callee := .builtin .len, args := #[x], argTypes := ats }, ty, pos, after, guard⟩ := by
  have hx := ho x
  cases hu : ats[0]? with
  | none => rw [hu] at ht; cases str <;> simp at ht
  | some t =>
    simp only [hu, Option.bind_some] at ht
    simp only [evOp] at hr
    have slc : ∀ {base : Option Addr} {n cap : Nat}, a.eval x = .slice base n cap → (∃ e, P.underlying t = some (.slice e)) →
        (execOp a.eval ⟨dst, .call { callee := .builtin .len, args := #[x], argTypes := ats }, ty, pos, after, guard⟩).run P w = .ok (.value (.int .i64 n)) w := fun he ⟨e, hh⟩ => by
      simp [execOp, resolve, invoke, builtin, Builtin.len_, hu, he, run_underlying hh, goInt]
    split at hr
    · rename_i b hv
      obtain rfl := Option.some.inj hr
      rw [hv] at hx
      simp only [if_true] at ht
      exact does_pure hH newN_self (v := .int .i64 b.size) (by simp [execOp, resolve, invoke, builtin, Builtin.len_, hu, vr_s hx, run_underlying ht, goInt]) (.p (.s _))
    · rename_i n k hv
      obtain rfl := Option.some.inj hr
      rw [hv] at hx
      exact does_pure hH newN_self (slc (vr_s hx) (by simpa using ht)) (.p (.s _))
    · rename_i cs n sz full hv
      obtain rfl := Option.some.inj hr
      rw [hv] at hx
      obtain ⟨b, o, cap, he, _⟩ := hx.pp.sl_at (μ := μ)
      exact does_pure hH newN_self (slc he (by simpa using ht)) (.p (.s _))
    · rename_i id off n sz cp ex hv
      obtain rfl := Option.some.inj hr
      rw [hv] at hx
      obtain ⟨b, o, s, o2, cap, hm, he, _⟩ := vr_arr hx
      exact does_pure hH newN_self (slc he (by simpa using ht)) (.p (.s _))
    · cases hr

theorem mm_run {mx : Bool} : ∀ {l : List LV} {vs : List Value} {x z : LV} {u : Value}, mmL mx x l = some z → VR I μ w x u → vs.length = l.length → (∀ (j : Nat) (q : LV) (v : Value), l[j]? = some q → vs[j]? = some v → VR I μ w q v) →
    ∃ v, (vs.foldlM (if mx then Builtin.max2 else Builtin.min2) u).run P w = .ok v w ∧ VR I μ w z v
  | [], vs, x, z, u, hz, hx, hl, _ => by
    obtain rfl : vs = [] := List.eq_nil_of_length_eq_zero hl
    simp only [mmL, Option.some.injEq] at hz
    subst hz
    exact ⟨u, by simp, hx⟩
  | y :: r, vs, x, z, u, hz, hx, hl, hv => by
    cases vs with
    | nil => cases hl
    | cons v vs =>
      simp only [mmL] at hz
      split at hz
      case h_2 => cases hz
      rename_i q hq
      have hy := hv 0 y v rfl rfl
      have hstep : ∃ v', ((if mx then Builtin.max2 else Builtin.min2) u v).run P w = .ok v' w ∧ VR I μ w q v' := by
        unfold mm2 at hq
        split at hq
        case h_2 => cases hq
        rename_i k m k' n
        obtain rfl := Option.some.inj hq
        rw [vr_s hx, vr_s hy]
        cases mx
        · exact ⟨_, by simp [Builtin.min2], .p (.s _)⟩
        · exact ⟨_, by simp [Builtin.max2], .p (.s _)⟩
      obtain ⟨v', h1, h2⟩ := hstep
      obtain ⟨v2, h3, h4⟩ := mm_run (vs := vs) hz h2 (by simpa using hl) (fun j q v hj hv' => hv (j + 1) q v hj hv')
      exact ⟨v2, by simp only [List.foldlM_cons, Sem.run_bind, h1, Result.andThen_ok, h3], h4⟩

theorem op_minmax (hH : HR I μ w T (look c.H c.nx h)) (ho : Opds c env a I μ w) {mx : Bool} {xs : Array Operand} {ats : Array TypeId} (hr : evOp c dr env h (.minmax mx (xs.toList.map copd)) = some r) :
    DoesOp P c h a w I μ r T ⟨dst, .call { callee := .builtin (if mx then .max else .min), args := xs, argTypes := ats }, ty, pos, after, guard⟩ := by
  simp only [evOp, List.map_map] at hr
  split at hr
  case h_1 => cases hr
  rename_i x l hxl
  split at hr
  case h_2 => cases hr
  rename_i z hz
  obtain rfl := Option.some.inj hr
  obtain ⟨h1, h2⟩ := opds_map ho xs
  have hfun : (fun x => opd c env (copd x)) = opd c env ∘ copd := rfl
  rw [hfun, hxl] at h1 h2
  cases hvs : (xs.map a.eval).toList with
  | nil =>
    have : (xs.map a.eval).size = 0 := by rw [← Array.length_toList, hvs]; rfl
    rw [this] at h1; cases h1
  | cons u vs =>
    have hlen : vs.length = l.length := by
      have : (xs.map a.eval).size = vs.length + 1 := by rw [← Array.length_toList, hvs]; rfl
      rw [this] at h1; simpa using h1
    have hget : ∀ j : Nat, (xs.map a.eval)[j]? = (u :: vs)[j]? := fun j => by rw [← Array.getElem?_toList, hvs]
    obtain ⟨v, g1, g2⟩ := mm_run (P := P) hz (h2 0 x u rfl (by rw [hget]; rfl)) hlen (fun j q v hj hv => h2 (j + 1) q v hj (by rw [hget]; exact hv))
    refine does_pure hH newN_self (v := v) ?_ g2
    cases mx
    · simp only [execOp, resolve, Sem.run_bind, Sem.run_pure, Result.andThen_ok, invoke, builtin, Bool.false_eq_true, if_false, Builtin.min_, hvs]
      simp only [Bool.false_eq_true, if_false] at g1
      simp [g1]
    · simp only [execOp, resolve, Sem.run_bind, Sem.run_pure, Result.andThen_ok, invoke, builtin, if_true, Builtin.max_, hvs]
      simp only [if_true] at g1
      simp [g1]

theorem bytesL_vals : ∀ {cs : List LV} {l : List UInt8} {vs : List Value}, bytesL cs = some l → vs.length = cs.length → (∀ (j : Nat) (q : LV) (v : Value), cs[j]? = some q → vs[j]? = some v → VR I μ w q v) →
    ∃ ns : List Int, vs = ns.map (Value.int .u8) ∧ l = ns.map (fun n => UInt8.ofNat n.toNat)
  | [], l, vs, h, hl, _ => by
    obtain rfl : vs = [] := List.eq_nil_of_length_eq_zero hl
    simp only [bytesL, Option.some.injEq] at h
    exact ⟨[], rfl, by simp [← h]⟩
  | x :: r, l, vs, h, hl, hv => by
    cases vs with
    | nil => cases hl
    | cons v vs =>
      unfold bytesL at h
      split at h
      · rename_i h'; cases h'
      · rename_i n r' h'
        obtain ⟨rfl, rfl⟩ := List.cons.inj h'
        split at h
        case h_2 => cases h
        rename_i l' hl'
        obtain rfl := Option.some.inj h
        obtain ⟨ns, h1, h2⟩ := bytesL_vals (vs := vs) hl' (by simpa using hl) (fun j q v hj hv' => hv (j + 1) q v hj hv')
        refine ⟨n :: ns, ?_, ?_⟩
        · rw [vr_s (hv 0 _ v rfl rfl), h1]; rfl
        · rw [h2]; rfl
      · cases h

theorem foldl_bytes : ∀ (ns : List Int) (s : ByteArray), ns.foldl (fun r n => r.push (UInt8.ofNat n.toNat)) s = ⟨s.data ++ (ns.map (fun n => UInt8.ofNat n.toNat)).toArray⟩
  | [], s => by simp
  | n :: ns, s => by
    rw [List.foldl_cons, foldl_bytes ns]
    congr 1
    apply Array.ext'
    simp [ByteArray.push]

theorem op_convert (hH : HR I μ w T (look c.H c.nx h)) (ho : Opds c env a I μ w) (hμ : ∀ id, newN c h r.h id → μ id = none) (hT : ∀ id ∈ r.tch, T id) {src d : TypeId} {x : Operand} (hr : evOp c dr env h (cop P imT (.convert src d x)) = some r) :
    DoesOp P c h a w I μ r T ⟨dst, .convert src d x, ty, pos, after, guard⟩ := by
  have hx := ho x
  simp only [cop] at hr
  split at hr
  · rename_i k k' hs hd
    simp only [evOp] at hr
    split at hr
    case h_2 => cases hr
    rename_i k2 n hv
    obtain rfl := Option.some.inj hr
    rw [hv] at hx
    exact does_pure hH newN_self (v := .int k' (k'.wrap n)) (by simp [execOp, convert, run_underlying hs, run_underlying hd, vr_s hx, Conv.intToInt]) (.p (.s _))
  · rename_i hs hd
    simp only [evOp] at hr
    split at hr
    case h_2 => cases hr
    rename_i b hv
    obtain rfl := Option.some.inj hr
    rw [hv] at hx
    exact does_pure hH newN_self (v := .string b) (by simp [execOp, convert, run_underlying hs, run_underlying hd, vr_s hx]) (.p (.s _))
  · rename_i e hs hd
    split at hr
    case h_2 => simp [evOp] at hr
    rename_i he
    simp only [evOp] at hr
    split at hr
    case h_2 => cases hr
    rename_i b hv
    obtain rfl := Option.some.inj hr
    rw [hv] at hx
    have hcap : b.size ≤ grownCap w b.size 0 e := by unfold grownCap Question.cut; exact Nat.le_add_right _ _
    have hbs : b.data.size = b.size := rfl
    have hrun : (execOp a.eval ⟨dst, .convert src d x, ty, pos, after, guard⟩).run P w = .ok (.value (.slice (some ⟨w.heap.size, 0, none⟩) b.size (grownCap w b.size 0 e)))
        (w.drew.alloc (.cells (bytesRow b (grownCap w b.size 0 e)) e ((bytesRow b (grownCap w b.size 0 e)).size, (bytesRow b (grownCap w b.size 0 e)).size + 1))) := by
      have := run_bytes_of_string (P := P) w src d e b hs hd he
      simp only [execOp, vr_s hx, Sem.run_bind, this, Result.andThen_ok]
      rfl
    have hrow : bytesRow b (grownCap w b.size 0 e) = (b.data.map fun b => Value.int .u8 b.toNat) ++ Array.replicate (grownCap w b.size 0 e - b.size) (.int .u8 0) := rfl
    rw [hrow] at hrun
    refine does_make hH (hμ _ (by rw [newN, push_N])) w.drew (.inr rfl) _ e _ (fun k hk => ?_) (by simp) (fun j u hj hu => ?_) (fun j l u hl hu => ?_) hrun fun I' μ' w' _ hm => ?_
    · simp only [] at hk ⊢; omega
    · simp at hj
      rw [Array.getElem?_append_left (by simpa using hj), Array.getElem?_map, Option.map_eq_some_iff] at hu
      obtain ⟨q, _, rfl⟩ := hu; rfl
    · rw [List.getElem?_map, Option.map_eq_some_iff] at hl
      obtain ⟨q, hq, rfl⟩ := hl
      have hj : j < b.data.size := by simpa using (List.getElem?_eq_some_iff.1 hq).1
      rw [Array.getElem?_append_left (by simpa using hj), Array.getElem?_map, Option.map_eq_some_iff] at hu
      obtain ⟨q', hq', rfl⟩ := hu
      rw [Array.getElem?_toList] at hq
      obtain rfl : q = q' := Option.some.inj (hq.symm.trans hq')
      exact .p (.s _)
    · refine .arr _ 0 b.size 1 b.size false w.heap.size 0 _ 0 _ hm (.inr rfl) (Nat.le_refl _) hcap (by simp) ?_
      simp [hbs]; omega
  · rename_i e hs hd
    split at hr
    case h_2 => simp [evOp] at hr
    rename_i he
    simp only [evOp] at hr
    split at hr
    case h_1 => cases hr
    rename_i hns
    split at hr
    case h_2 => cases hr
    rename_i cs n hcs
    split at hr
    case isFalse => cases hr
    rename_i hcn
    split at hr
    case h_2 => cases hr
    rename_i l hl
    obtain rfl := Option.some.inj hr
    obtain ⟨vals, g1, g2, g3, g4, g5⟩ := src_run (P := P) (sz := 1) hH hcs hT hx (by omega)
    obtain ⟨ns, h1, h2⟩ := bytesL_vals hl (by omega) g3
    -- a slice
    have hsl : ∃ base len cap, a.eval x = .slice base len cap ∧ len = n ∧ (base = none → len = 0) := by
      generalize opd c env (copd x) = lv at *
      unfold slCells at hcs
      split at hcs
      · simp only [Option.some.injEq, Prod.mk.injEq] at hcs
        exact ⟨none, 0, 0, vr_s hx, hcs.2, fun _ => rfl⟩
      · exact absurd rfl (hns _)
      · simp only [Option.some.injEq, Prod.mk.injEq] at hcs
        obtain ⟨b, o, cap, he, _⟩ := hx.pp.sl_at (μ := μ)
        exact ⟨_, _, cap, he, hcs.2, fun h => by cases h⟩
      · split at hcs
        case h_2 => cases hcs
        split at hcs
        case isFalse => cases hcs
        simp only [Option.some.injEq, Prod.mk.injEq] at hcs
        obtain ⟨b, o, s, o2, cap, hm, he, _⟩ := vr_arr hx
        exact ⟨_, _, cap, he, hcs.2, fun h => by cases h⟩
      · cases hcs
    obtain ⟨base, len, cap, hev, rfl, hb0⟩ := hsl
    refine does_pure hH newN_self (v := .string ⟨l.toArray⟩) ?_ (.p (.s _))
    have hconv : (Conv.bytesToString (.slice base len cap)).run P w = .ok (.string ⟨l.toArray⟩) w := by
      cases base with
      | none =>
        have : l = [] := by
          have := hb0 rfl
          have hl0 : vals.length = 0 := by omega
          have : ns = [] := List.eq_nil_of_length_eq_zero (by rw [h1] at hl0; simpa using hl0)
          rw [h2, this]; rfl
        subst this
        simp [Conv.bytesToString]
        rfl
      | some ad =>
        have hf := g5 w rfl len (Nat.le_refl _)
        rw [hev] at hf
        simp only [Builtin.firstCells, Nat.mul_one] at hf
        rw [List.take_of_length_le (by omega), h1] at hf
        rw [run_bytesToString w ad len cap ns hf, foldl_bytes, h2]
        simp
    have := run_convert_bytes_string (P := P) w src d e base len cap hs he hd
    simp only [execOp, Sem.run_bind, hev, this, hconv, Result.andThen_ok]
    rfl
  · simp [evOp] at hr

theorem optMap_some {o : Option Operand} {n : Option Nat} (ho : Opds c env a I μ w) (h : optMap (opd c env) (o.map copd) = some n) :
    (o = none ∧ n = none) ∨ ∃ x m k, o = some x ∧ n = some m ∧ a.eval x = .int k (m : Int) := by
  cases o with
  | none => simp [optMap] at h; exact .inl ⟨rfl, h.symm⟩
  | some x =>
    simp only [Option.map_some, optMap] at h
    split at h
    case h_2 => cases h
    rename_i m hm
    obtain ⟨k, hk⟩ := natL_some hm (ho x)
    exact .inr ⟨x, m, k, rfl, (Option.some.inj h).symm, hk⟩

theorem bounds_run {isS : Bool} {len cap : Nat} {lo hi mx : Option Operand} {l m n : Option Nat} (hl : (lo = none ∧ l = none) ∨ ∃ x m k, lo = some x ∧ l = some m ∧ a.eval x = .int k (m : Int))
    (hm : (hi = none ∧ m = none) ∨ ∃ x q k, hi = some x ∧ m = some q ∧ a.eval x = .int k (q : Int)) (hn : (mx = none ∧ n = none) ∨ ∃ x q k, mx = some x ∧ n = some q ∧ a.eval x = .int k (q : Int))
    (h1 : l.getD 0 ≤ m.getD len) (h2 : m.getD len ≤ n.getD cap) (h3 : n.getD cap ≤ cap) (h4 : n.isSome → m.isSome) :
    (Instr.sliceBounds isS len cap (lo.map a.eval) (hi.map a.eval) (mx.map a.eval)).run P w = .ok (l.getD 0, m.getD len, n.getD cap) w := by
  rcases hl with ⟨rfl, rfl⟩ | ⟨xl, ml, kl, rfl, rfl, el⟩ <;> rcases hm with ⟨rfl, rfl⟩ | ⟨xm, mm, km, rfl, rfl, em⟩ <;> rcases hn with ⟨rfl, rfl⟩ | ⟨xn, mn, kn, rfl, rfl, en⟩ <;>
    simp_all [Instr.sliceBounds, Instr.sliceBound, asIntOf] <;> omega

theorem op_slice (hH : HR I μ w T (look c.H c.nx h)) (ho : Opds c env a I μ w) (hT : ∀ id ∈ r.tch, T id) {t : TypeId} {x : Operand} {lo hi mx : Option Operand} (hr : evOp c dr env h (cop P imT (.slice t x lo hi mx)) = some r) :
    DoesOp P c h a w I μ r T ⟨dst, .slice t x lo hi mx, ty, pos, after, guard⟩ := by
  have hx := ho x
  simp only [cop] at hr
  split at hr
  · rename_i hu
    split at hr
    case isTrue => simp [evOp] at hr
    rename_i hmx
    have hmx' : mx = none := by cases mx <;> simp at hmx ⊢
    subst hmx'
    simp only [evOp] at hr
    split at hr
    case h_2 => cases hr
    rename_i b l m hv hl hm
    split at hr
    case isFalse => cases hr
    rename_i hc
    obtain rfl := Option.some.inj hr
    rw [hv] at hx
    have hb := bounds_run (P := P) (w := w) (isS := false) (len := b.size) (cap := b.size) (mx := none) (n := none) (optMap_some ho hl) (optMap_some ho hm) (.inl ⟨rfl, rfl⟩) hc.1 (by simpa using hc.2) (by simp) (by simp)
    refine does_pure hH newN_self (v := .string (b.extract (l.getD 0) (m.getD b.size))) ?_ (.p (.s _))
    simp only [Option.map_none] at hb
    simp [execOp, Instr.sliceAt, Instr.slice, run_underlying hu, vr_s hx, hb]
  · rename_i e hu
    split at hr
    case h_2 => simp [evOp] at hr
    rename_i s hs
    simp only [evOp] at hr
    split at hr
    case h_2 => cases hr
    rename_i l m n hl hm hn
    split at hr
    case h_2 => cases hr
    rename_i v hsl
    obtain rfl := Option.some.inj hr
    have hrun : ∀ {base : Option Addr} {len cap : Nat}, a.eval x = .slice base len cap → l.getD 0 ≤ m.getD len → m.getD len ≤ n.getD cap → n.getD cap ≤ cap → (n.isSome → m.isSome) →
        (execOp a.eval ⟨dst, .slice t x lo hi mx, ty, pos, after, guard⟩).run P w = .ok (.value (.slice (if n.getD cap = l.getD 0 then base else base.map (·.add (l.getD 0 * s))) (m.getD len - l.getD 0) (n.getD cap - l.getD 0))) w := fun he q1 q2 q3 q4 => by
      have hb := bounds_run (P := P) (w := w) (isS := true) (optMap_some ho hl) (optMap_some ho hm) (optMap_some ho hn) q1 q2 q3 q4
      simp [execOp, Instr.sliceAt, Instr.slice, run_underlying hu, he, hb, run_sz hs]
    unfold sliceO at hsl
    split at hsl
    · rename_i hv
      split at hsl
      case isFalse => cases hsl
      rename_i hc
      obtain rfl := Option.some.inj hsl
      rw [hv] at hx
      refine does_pure hH newN_self (v := .slice none 0 0) ?_ (.p (.s _))
      have hl0 : l.getD 0 = 0 := hc.1
      have hm0 : m.getD 0 = 0 := hc.2.1
      have hn0 : n.getD 0 = 0 := hc.2.2.1
      have := hrun (vr_s hx) (by omega) (by omega) (by omega) hc.2.2.2
      rw [this, hl0, hm0, hn0]
      simp
    · rename_i cs len s' full hv
      split at hsl
      case isFalse => cases hsl
      rename_i hc
      obtain ⟨rfl, hcl⟩ := hc
      rw [hv] at hx
      obtain ⟨b, o, cap, he, hb, hat, hlen, hfull⟩ := hx.pp.sl_at (μ := μ)
      have mk : ∀ (l h k : Nat) (fl : Bool), l ≤ h → h ≤ k → h ≤ len → k ≤ cap → (fl = true → k = h) →
          VR I μ w (.p (.sl ((cs.drop (l * s')).take ((h - l) * s')) (h - l) s' fl)) (.slice (if k = l then some ⟨b, o, none⟩ else (some (⟨b, o, none⟩ : Addr)).map (·.add (l * s'))) (h - l) (k - l)) := by
        intro l h k fl h1 h2 h3 h4 h5
        by_cases hk : k = l
        · rw [if_pos hk]
          have : h - l = 0 := by omega
          rw [this, Nat.zero_mul, List.take_zero]
          exact .p (mk_sl (μ := μ) hb (fun j l hj => by simp at hj) _ _ _ _ (by omega) (fun hf => by omega))
        · rw [if_neg hk, Option.map_some, add_lit]
          refine .p (mk_sl (μ := μ) hb ?_ _ _ _ _ (by omega) (fun hf => by have := h5 hf; omega))
          rw [List.map_take, List.map_drop]
          exact (hat.drop _).take _
      cases n with
      | none =>
        simp only [] at hsl
        split at hsl
        case isFalse => cases hsl
        rename_i hq
        obtain rfl := Option.some.inj hsl
        have := hrun he hq.1 (by simpa using (by omega : m.getD len ≤ cap)) (by simp) (by simp)
        exact does_pure hH newN_self this (mk _ _ _ _ hq.1 (by simp; omega) hq.2 (by simp) (fun hf => by simp at hf ⊢; rw [hfull hf.1, hf.2]))
      | some k =>
        simp only [] at hsl
        split at hsl
        case isFalse => cases hsl
        rename_i hq
        obtain rfl := Option.some.inj hsl
        have := hrun he hq.1 (by simpa using hq.2.1) (by simp; omega) (fun _ => hq.2.2.2)
        exact does_pure hH newN_self this (mk _ _ _ _ hq.1 (by simpa using hq.2.1) (by omega) (by simp; omega) (fun hf => by simp at hf ⊢; exact hf.symm))
    · rename_i id off len s' cp ex hv
      split at hsl
      case isFalse => cases hsl
      rename_i hc
      subst hc
      rw [hv] at hx
      obtain ⟨b, o, S, o2, cap, hm', he, hoo, hlen, hex, hroom, hcp, hlcp⟩ := vr_arr hx
      have mk : ∀ (l h k cp' : Nat) (ex' : Bool), l ≤ h → h ≤ cp' + l → cp' ≤ k - l → k ≤ cap → h ≤ k → (ex' = true → k - l = cp') →
          VR I μ w (.arr id (off + l * s') (h - l) s' cp' ex') (.slice (if k = l then some ⟨b, o2, none⟩ else (some (⟨b, o2, none⟩ : Addr)).map (·.add (l * s'))) (h - l) (k - l)) := by
        intro l h k cp' ex' h1 h2 h3 h4 h6 h5
        have hmul : l * s' + (k - l) * s' ≤ cap * s' := by rw [← Nat.add_mul]; exact Nat.mul_le_mul_right _ (by omega)
        by_cases hk : k = l
        · rw [if_pos hk]
          exact .arr id _ _ _ _ _ b o S o2 _ hm' (.inl (by omega)) (by omega) h3 h5 (by omega)
        · rw [if_neg hk, Option.map_some, add_lit]
          exact .arr id _ _ _ _ _ b o S _ _ hm' (.inr (by have := hoo.resolve_left (by omega); omega)) (by omega) h3 h5 (by omega)
      cases n with
      | none =>
        simp only [] at hsl
        split at hsl
        case isFalse => cases hsl
        rename_i hq
        obtain rfl := Option.some.inj hsl
        have := hrun he hq.1 (by simpa using (by omega : m.getD len ≤ cap)) (by simp) (by simp)
        exact does_pure hH newN_self this (mk _ _ _ _ _ hq.1 (by omega) (by simp; omega) (by simp) (by simp; omega) (fun hf => by simp [hex hf]))
      | some k =>
        simp only [] at hsl
        split at hsl
        case isFalse => cases hsl
        rename_i hq
        obtain rfl := Option.some.inj hsl
        have := hrun he hq.1 (by simpa using hq.2.1) (by simp; omega) (fun _ => hq.2.2.2)
        exact does_pure hH newN_self this (mk _ _ _ _ _ hq.1 (by omega) (by simp) (by simp; omega) (by simpa using hq.2.1) (fun hf => by simp))
    · cases hsl
  · rename_i n e hu
    split at hr
    case h_2 => simp [evOp] at hr
    rename_i s hs
    simp only [evOp] at hr
    split at hr
    case h_2 => cases hr
    rename_i id off l m hv hl hm hn
    split at hr
    case h_2 => cases hr
    rename_i cs hlk
    split at hr
    case isFalse => cases hr
    rename_i hfit
    split at hr
    case h_2 => cases hr
    rename_i v hsl
    obtain rfl := Option.some.inj hr
    have hmx : mx = none := by
      rcases optMap_some ho hn with ⟨h, _⟩ | ⟨_, _, _, _, h, _⟩
      · exact h
      · cases h
    subst hmx
    rw [hv] at hx
    obtain ⟨b, o, S, hm', he⟩ := vr_ref hx
    obtain ⟨b', o', S', e', hm2, hsh, hcs, hfz, hat⟩ := hH.obj id _ (hT id (by simp)) hlk
    rw [hm'] at hm2
    obtain ⟨rfl, rfl, rfl⟩ : b = b' ∧ o = o' ∧ S = S' := by simpa using hm2
    simp only [sliceO, if_true] at hsl
    split at hsl
    case isFalse => cases hsl
    rename_i hq
    obtain rfl := Option.some.inj hsl
    have hb := bounds_run (P := P) (w := w) (isS := false) (len := n) (cap := n) (mx := none) (n := none) (optMap_some ho hl) (optMap_some ho hm) (.inl ⟨rfl, rfl⟩) hq.1 (by simpa using hq.2) (by simp) (by simp)
    simp only [Option.map_none, Option.getD_none] at hb
    have hrun : (execOp a.eval ⟨dst, .slice t x lo hi none, ty, pos, after, guard⟩).run P w = .ok (.value (.slice (some (if n = l.getD 0 then ⟨b, o + off, none⟩ else ⟨b, o + off + l.getD 0 * s, none⟩)) (m.getD n - l.getD 0) (n - l.getD 0))) w := by
      simp [execOp, Instr.sliceAt, run_underlying hu, he, Instr.sureAddr, hb, run_sz hs, add_lit]
    have hmul : l.getD 0 * s + (n - l.getD 0) * s = n * s := by rw [← Nat.add_mul]; congr 1; omega
    refine does_pure hH newN_self hrun ?_
    by_cases hk : n = l.getD 0
    · rw [if_pos hk]
      exact .arr id _ _ _ _ _ b o S _ _ hm' (.inl (by omega)) (by omega) (Nat.le_refl _) (fun _ => rfl) (by omega)
    · rw [if_neg hk]
      exact .arr id _ _ _ _ _ b o S _ _ hm' (.inr (by omega)) (by omega) (Nat.le_refl _) (fun _ => rfl) (by omega)
  · simp [evOp] at hr

theorem op_makeSlice (hH : HR I μ w T (look c.H c.nx h)) (ho : Opds c env a I μ w) (hμ : ∀ id, newN c h r.h id → μ id = none) {t : TypeId} {x y : Operand} (hr : evOp c dr env h (cop P imT (.makeSlice t x y)) = some r) :
    DoesOp P c h a w I μ r T ⟨dst, .makeSlice t x y, ty, pos, after, guard⟩ := by
  simp only [cop] at hr
  split at hr
  case h_2 => simp [evOp] at hr
  rename_i e hu
  split at hr
  case h_2 => simp [evOp] at hr
  rename_i s bytes z hs hb hz
  obtain ⟨i, zv, hi, hzv, h1, hzz⟩ := tzero_some hz
  simp only [evOp] at hr
  split at hr
  case h_2 => cases hr
  rename_i len cap hl hc
  split at hr
  case isFalse => cases hr
  rename_i hcond
  obtain ⟨hle, hby, h62, hzl⟩ := hcond
  obtain rfl := Option.some.inj hr
  obtain ⟨k1, hx⟩ := natL_some hl (ho x)
  obtain ⟨k2, hy⟩ := natL_some hc (ho y)
  obtain ⟨i', hi', hsz⟩ := tsz_info hs
  obtain rfl : i = i' := Option.some.inj (hi.symm.trans hi')
  have hbb := tby_info hi hb
  have hzs : zv.cells.size = s := by rw [hzz] at hzl; simpa using hzl
  have hb' : (i.bytes : Int) * (cap : Int) ≤ 281474976710656 := by
    have : ((i.bytes * cap : Nat) : Int) ≤ 281474976710656 := by rw [hbb, Nat.mul_comm]; omega
    rwa [Int.natCast_mul] at this
  have hrun := run_make (P := P) w t e i zv hu hi hzv k1 k2 (len : Int) (cap : Int) (by omega) (by omega) hb' (by omega)
  rw [← hx, ← hy] at hrun
  simp only [Int.toNat_natCast, hsz] at hrun
  have hmade := made_vr (I := I) (μ := μ) (w := w) h1 len (cap * s)
  rw [← hzz] at hmade
  have hms : (madeCells zv.cells (cap * s)).size = cap * s := size_madeCells _ _
  have hls : len * s ≤ cap * s := Nat.mul_le_mul_right _ hle
  refine does_make hH (hμ _ (by rw [newN, push_N])) w (.inl rfl) (madeCells zv.cells (cap * s)) e (0, 0) (by simp) (by simp [hms, hzl]; exact hls) (fun j u hj hu' => ?_) hmade.2 (by simp only [execOp, Sem.run_bind, hrun, Result.andThen_ok]; rfl) fun I' μ' w' _ hm => ?_
  · refine hmade.1 u (by rw [← Array.getElem?_toList] at hu'; exact List.mem_of_getElem? hu') (.inr fun e => ?_)
    have : (cap * s) = 0 := by rw [← hzs, e, Nat.mul_zero]
    have hlt := (Array.getElem?_eq_some_iff.1 hu').1
    rw [hms] at hlt
    omega
  · rw [hms] at hm
    exact .arr _ 0 len s cap true w.heap.size 0 _ 0 cap hm (.inr rfl) hle (Nat.le_refl _) (fun _ => rfl) (by omega)

end ops
end Go.Sx
