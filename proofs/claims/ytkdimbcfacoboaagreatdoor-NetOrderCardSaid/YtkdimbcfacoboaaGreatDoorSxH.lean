/- Single operations, one by one: slices and strings. -/
import Derived.Test.YtkdimbcfacoboaaGreatDoorSxG
namespace Go.Sx
open Go

section ops
variable {P : Program} {imT : TypeId → Bool} {c : Ctx} {dr : Bool} {env : Env} {h : Hp} {a : Act} {w : World} {I : Nat → Prop} {μ : Mu} {r : Res} {T : Nat → Prop}
variable {dst : Option Tmp} {ty : TypeId} {pos : String} {after : Array Edge} {guard : Option (Nat × Bool)}

theorem at_run {b o : Nat} {vs : List Value} (h : ∀ (j : Nat) v, vs[j]? = some v → w.cell? ⟨b, o + j, none⟩ = some v) {w' : World} (hw : w'.heap = w.heap) {n : Nat} (hn : vs.length = n) :
    (loadCells ⟨b, o, none⟩ n).run P w' = .ok vs.toArray w' := by
  subst hn
  refine run_loadCells_list (P := P) w' ⟨b, o, none⟩ vs fun j v hv => ?_
  rw [add_lit, ← h j v hv]
  simp [World.cell?, hw]

theorem take_vals {vs : List Value} {b o : Nat} (h : ∀ (j : Nat) v, vs[j]? = some v → w.cell? ⟨b, o + j, none⟩ = some v) (n : Nat) : ∀ (j : Nat) v, (vs.take n)[j]? = some v → w.cell? ⟨b, o + j, none⟩ = some v := fun j v hv => by
  rw [List.getElem?_take] at hv
  split at hv
  · exact h j v hv
  · cases hv

/-- What a slice, or a string, hands on. -/
theorem src_run {lv : LV} {v : Value} {yc : List LV} {n sz : Nat} (hH : HR I μ w T (look c.H c.nx h)) (hs : slCells c.H c.nx h lv = some (yc, n)) (hT : ∀ id ∈ ids lv, T id) (hv : VR I μ w lv v) (hn : yc.length = n * sz) :
    ∃ vals : List Value, vals.length = n * sz ∧ (∀ u ∈ vals, u.oneCell' = true) ∧ (∀ (j : Nat) l u, yc[j]? = some l → vals[j]? = some u → VR I μ w l u) ∧ (∀ w', (Builtin.lenOf v).run P w' = .ok n w') ∧
      ∀ w', w'.heap = w.heap → ∀ m, m ≤ n → (Builtin.firstCells sz m v).run P w' = .ok (vals.take (m * sz)).toArray w' := by
  unfold slCells at hs
  split at hs
  · simp only [Option.some.injEq, Prod.mk.injEq] at hs
    obtain ⟨rfl, rfl⟩ := hs
    obtain rfl := vr_s hv
    refine ⟨[], by simp, by simp, by simp, fun w' => by simp [Builtin.lenOf], fun w' _ m hm => ?_⟩
    simp [Builtin.firstCells]
  · rename_i b
    simp only [Option.some.injEq, Prod.mk.injEq] at hs
    obtain ⟨rfl, rfl⟩ := hs
    obtain rfl := vr_s hv
    refine ⟨b.data.toList.map (fun x => .int .u8 x.toNat), by simpa using hn, by simp [Value.oneCell'], fun j l u hl hu => ?_, fun w' => by simp [Builtin.lenOf], fun w' _ m hm => ?_⟩
    · rw [List.getElem?_map, Option.map_eq_some_iff] at hl hu
      obtain ⟨x, hx, rfl⟩ := hl
      obtain ⟨y, hy, rfl⟩ := hu
      obtain rfl : x = y := Option.some.inj (hx.symm.trans hy)
      exact .p (.s _)
    · have hm' : m * sz = m := by
        simp at hn
        rcases Nat.eq_zero_or_pos b.size with h0 | h0
        · have : m = 0 := by omega
          rw [this, Nat.zero_mul]
        · have hsz : b.data.size = b.size := rfl
          have : sz = 1 := Nat.eq_of_mul_eq_mul_left h0 (by omega)
          rw [this, Nat.mul_one]
      rw [hm']
      simp only [Builtin.firstCells]
      have e1 : ((b.extract 0 m).data.map fun b => Value.int .u8 b.toNat) = ((b.data.toList.map (fun x => Value.int .u8 x.toNat)).take m).toArray := by
        apply Array.ext'
        rw [Array.toList_map, ← List.map_take]
        congr 1
        rw [ByteArray.data_extract, Array.toList_extract]
        simp
      rw [e1]
      rfl
  · rename_i cs len sz' full
    simp only [Option.some.injEq, Prod.mk.injEq] at hs
    obtain ⟨rfl, rfl⟩ := hs
    obtain ⟨b, o, cap, rfl, _, hat, _⟩ := hv.pp.sl_at (μ := μ)
    obtain ⟨vs, h1, h2, h3, h4⟩ := hat.vals
    refine ⟨vs, by rw [h1, hn], h2, h4, fun w' => by simp [Builtin.lenOf], fun w' hw m hm => ?_⟩
    simp only [Builtin.firstCells]
    refine at_run (take_vals h3 _) hw ?_
    rw [List.length_take, h1, hn]
    exact Nat.min_eq_left (Nat.mul_le_mul_right _ hm)
  · rename_i id off len sz' cp ex
    split at hs
    case h_2 => cases hs
    rename_i cs hl
    split at hs
    case isFalse => cases hs
    rename_i hle
    simp only [Option.some.injEq, Prod.mk.injEq] at hs
    obtain ⟨rfl, rfl⟩ := hs
    obtain ⟨b, o, s, e, hm, _, _, _, hat⟩ := hH.obj id _ (hT id (by simp [ids])) hl
    obtain ⟨b', o', s', o2, cap, hm', rfl, hoo, hlen, _⟩ := vr_arr hv
    rw [hm] at hm'
    obtain ⟨rfl, rfl, rfl⟩ : b = b' ∧ o = o' ∧ s = s' := by simpa using hm'
    obtain ⟨vs, h1, h2, h3, h4⟩ := ((At.drop (I := I) (μ := μ) (w := w) (b := b) (o := o) (cs := cs) hat off).take (len * sz')).vals
    have hvl : vs.length = len * sz := by rw [h1, hn]
    refine ⟨vs, hvl, h2, h4, fun w' => by simp [Builtin.lenOf], fun w' hw m hm2 => ?_⟩
    simp only [Builtin.firstCells]
    rcases hoo with h0 | h0
    · obtain rfl : m = 0 := by omega
      simp [loadCells, loadCellsFrom]
    · subst h0
      refine at_run (take_vals h3 _) hw ?_
      rw [List.length_take, hvl]
      exact Nat.min_eq_left (Nat.mul_le_mul_right _ hm2)
  · cases hs

theorem zeroC_size (z : Array Value) (n : Nat) : (Builtin.zeroCells z n).size = n * z.size := by simp [Builtin.zeroCells]

/-- An append that needs new memory. -/
theorem app_grow {t u e : TypeId} {i : TypeInfo} {z : Value} {sz bytes : Nat} (ht : P.underlying t = some (.slice e)) (hu : P.underlying u = some .string ∨ ∃ e', P.underlying u = some (.slice e')) (hi : P.info? e = some i) (hz : i.zero = some z)
    (hsz : i.size = sz) (hby : i.bytes = bytes) {base : Option Addr} {sLen sCap n : Nat} {y : Value} {olds vals : List Value} (hlo : ∀ w', w'.heap = w.heap → (Builtin.firstCells sz sLen (.slice base sLen sCap)).run P w' = .ok olds.toArray w')
    (hle : ∀ w', (Builtin.lenOf y).run P w' = .ok n w') (hv : ∀ w', w'.heap = w.heap → (Builtin.firstCells sz n y).run P w' = .ok vals.toArray w') (hg : sCap < sLen + n) (hb : (sLen + n) * bytes ≤ 2 ^ 40) (h63 : sLen + n < 2 ^ 62) :
    ∃ cap', sLen + n ≤ cap' ∧ (Builtin.append_ #[t, u] ty #[.slice base sLen sCap, y]).run P w =
      .ok (.slice (some ⟨w.heap.size, 0, none⟩) (sLen + n) cap') (w.drew.alloc (.cells (olds.toArray ++ vals.toArray ++ Builtin.zeroCells z.cells (cap' - (sLen + n))) e)) := by
  subst hsz hby
  refine ⟨grownCap w (sLen + n) sCap e, ?_, ?_⟩
  · unfold grownCap Question.cut
    exact Nat.le_add_right _ _
  have hn : ¬ (sLen + n ≤ sCap) := by omega
  have h63' : ¬ (9223372036854775807 < ((sLen : Int) + (n : Int))) := by omega
  have hfit := growslice_fits (need := sLen + n) (old := sCap) (bytes := i.bytes) hg (by omega)
  have h48' : ¬ (281474976710656 < Builtin.nextslicecap (sLen + n) sCap * i.bytes) := by omega
  have h1 := hv w.drew rfl
  have h2 := hlo w.drew rfl
  have h3 := hle w
  rcases hu with hu | ⟨e', hu⟩ <;>
    (simp [Builtin.append_, run_underlying ht, run_underlying hu, sizeOf, typeInfo, zeroValue, hi, hz, h3, hn, h63', h48', Question.forced, h1, h2, newRow, grownCap]
     congr 2
     apply Array.ext'
     simp)

/-- An append that fits. -/
theorem app_fit {t u e : TypeId} {i : TypeInfo} {sz : Nat} (ht : P.underlying t = some (.slice e)) (hu : P.underlying u = some .string ∨ ∃ e', P.underlying u = some (.slice e')) (hi : P.info? e = some i)
    (hsz : i.size = sz) {b o : Nat} {sLen sCap n : Nat} {y : Value} {vals : List Value}
    (hle : ∀ w', (Builtin.lenOf y).run P w' = .ok n w') (hv : ∀ w', w'.heap = w.heap → (Builtin.firstCells sz n y).run P w' = .ok vals.toArray w') (hg : sLen + n ≤ sCap)
    (hc : ∀ j, j < vals.length → (w.cell? ⟨b, o + sLen * sz + j, none⟩).isSome = true) (hf : ∀ j, j < vals.length → w.frozen? ⟨b, o + sLen * sz + j, none⟩ = false) (h1 : ∀ v ∈ vals, v.oneCell' = true) :
    (Builtin.append_ #[t, u] ty #[.slice (some ⟨b, o, none⟩) sLen sCap, y]).run P w = .ok (.slice (some ⟨b, o, none⟩) (sLen + n) sCap) (w.setCells b (o + sLen * sz) vals) := by
  subst hsz
  have hst := run_storeCells_cells (P := P) b (o + sLen * i.size) vals 0 w (by simpa using hc) (by simpa using hf) h1
  have h4 := hv w rfl
  have h3 := hle w
  simp only [Nat.add_zero] at hst
  rcases hu with hu | ⟨e', hu⟩ <;>
    simp [Builtin.append_, run_underlying ht, run_underlying hu, sizeOf, typeInfo, hi, h3, hg, h4, add_lit, hst]

/-- Nothing is appended. -/
theorem app_none {t u e : TypeId} {i : TypeInfo} {sz : Nat} (ht : P.underlying t = some (.slice e)) (hu : P.underlying u = some .string ∨ ∃ e', P.underlying u = some (.slice e')) (hi : P.info? e = some i)
    (hsz : i.size = sz) {base : Option Addr} {sLen sCap : Nat} {y : Value} (hle : ∀ w', (Builtin.lenOf y).run P w' = .ok 0 w') (hv : ∀ w', w'.heap = w.heap → (Builtin.firstCells sz 0 y).run P w' = .ok #[] w') (hg : sLen ≤ sCap) :
    (Builtin.append_ #[t, u] ty #[.slice base sLen sCap, y]).run P w = .ok (.slice base sLen sCap) w := by
  subst hsz
  have h4 := hv w rfl
  have h3 := hle w
  rcases hu with hu | ⟨e', hu⟩ <;> cases base <;>
    simp [Builtin.append_, run_underlying ht, run_underlying hu, sizeOf, typeInfo, hi, h3, hg, h4, storeCells]

theorem tsz_info {e : TypeId} {s : Nat} (h : tsz P e = some s) : ∃ i, P.info? e = some i ∧ i.size = s := by
  unfold tsz at h
  cases hi : P.info? e with
  | none => rw [hi] at h; cases h
  | some i => rw [hi] at h; exact ⟨i, rfl, by simpa using h⟩
theorem tby_info {e : TypeId} {s : Nat} {i : TypeInfo} (hi : P.info? e = some i) (h : tby P e = some s) : i.bytes = s := by
  unfold tby at h
  rw [hi] at h
  simpa using h

/-- A part of an object is written anew. -/
theorem splice_goes {H : Heap} {nx : Nat} {h : Hp} (hH : HR I μ w T (look H nx h)) (id : Nat) (hT : T id) {cs : List LV} (hl : look H nx h id = some (.cells cs)) {b o s : Nat} (hm : μ id = some (b, o, s)) {p : Nat} {ys : List LV} {vs : List Value}
    (hvl : vs.length = ys.length) (h1 : ∀ v ∈ vs, v.oneCell' = true) (hc : ∀ (j : Nat) l v, ys[j]? = some l → vs[j]? = some v → VR I μ w l v) (hp : p + ys.length ≤ cs.length) :
    Goes I I μ μ w (w.setCells b (o + p) vs) (look H nx h) (look H nx (setObj nx h id (some (.cells (splice cs p ys))))) (fun j => j = id) (fun _ => False) := by
  obtain ⟨b', o', s', e, hm', hsh, hcs, hfz, hat⟩ := hH.obj id _ hT hl
  rw [hm] at hm'
  obtain ⟨rfl, rfl, rfl⟩ : b = b' ∧ o = o' ∧ s = s' := by simpa using hm'
  refine Goes.write hH id hT cs (splice cs p ys) hl hm p vs h1 (by omega) (by simp [splice]; omega) (fun j l hj => ?_) (fun j hj => by rw [look_set (look_some hl), if_neg hj]) (by rw [look_set (look_some hl), if_pos rfl])
  unfold splice at hj
  by_cases h2 : p ≤ j ∧ j < p + vs.length
  · left
    rw [List.append_assoc, List.getElem?_append_right (by simp; omega), List.getElem?_append_left (by simp; omega), show j - (cs.take p).length = j - p by simp; omega] at hj
    exact ⟨h2.1, h2.2, _, List.getElem?_eq_getElem (by omega), hc _ l _ hj (List.getElem?_eq_getElem (by omega))⟩
  · right
    refine ⟨h2, ?_⟩
    by_cases h4 : j < p
    · rw [List.append_assoc, List.getElem?_append_left (by simp; omega), List.getElem?_take, if_pos h4] at hj
      exact hj
    · rw [List.getElem?_append_right (by simp; omega), List.getElem?_drop] at hj
      rw [← hj]; congr 1; simp; omega

theorem op_append (hH : HR I μ w T (look c.H c.nx h)) (ho : Opds c env a I μ w) (hμ : ∀ id, newN c h r.h id → μ id = none) (hT : ∀ id ∈ r.tch, T id) {e : TypeId} {x y : Operand} {t u : TypeId} {sz bytes : Nat} {z : List PV}
    (ht : P.underlying t = some (.slice e)) (hu : P.underlying u = some .string ∨ ∃ e', P.underlying u = some (.slice e')) (hs : tsz P e = some sz) (hb : tby P e = some bytes) (hz : tzero P e = some z) (hb0 : bytes ≠ 0) (hzl : z.length = sz)
    (hr : evOp c dr env h (.app sz bytes (copd x) (copd y)) = some r) :
    DoesOp P c h a w I μ r T ⟨dst, .call { callee := .builtin .append, args := #[x, y], argTypes := #[t, u] }, ty, pos, after, guard⟩ := by
  obtain ⟨i, hi, hsz⟩ := tsz_info hs
  have hby := tby_info hi hb
  obtain ⟨i', zv, hi', hzv, _, hzz⟩ := tzero_some hz
  have hzs : zv.cells.size = sz := by rw [hzz] at hzl; simpa using hzl
  obtain rfl : i = i' := Option.some.inj (hi.symm.trans hi')
  have hx := ho x
  have hy := ho y
  have hexec : ∀ {v w'}, (Builtin.append_ #[t, u] ty #[a.eval x, a.eval y]).run P w = .ok v w' →
      (execOp a.eval ⟨dst, .call { callee := .builtin .append, args := #[x, y], argTypes := #[t, u] }, ty, pos, after, guard⟩).run P w = .ok (.value v) w' := fun hh => by
    simp [execOp, resolve, invoke, builtin, hh]
  simp only [evOp, appO] at hr
  split at hr
  case h_1 => cases hr
  rename_i yc n hyc
  split at hr
  case isTrue => cases hr
  rename_i hlen
  simp only [ne_eq, Decidable.not_not] at hlen
  split at hr
  · -- nothing comes
    rename_i hn0
    subst hn0
    have key : ∀ {base : Option Addr} {sl sc : Nat} {lv : LV}, a.eval x = .slice base sl sc → sl ≤ sc → r = ⟨lv, h, ids (opd c env (copd y)), false⟩ → VR I μ w lv (.slice base sl sc) →
        DoesOp P c h a w I μ r T ⟨dst, .call { callee := .builtin .append, args := #[x, y], argTypes := #[t, u] }, ty, pos, after, guard⟩ := fun he hle hrr hv => by
      subst hrr
      obtain ⟨vals, g1, g2, g3, g4, g5⟩ := src_run (P := P) hH hyc hT hy hlen
      refine does_pure hH newN_self (hexec (v := .slice _ _ _) (w' := w) ?_) hv
      rw [he]
      exact app_none ht hu hi hsz g4 (fun w' hw => by have := g5 w' hw 0 (Nat.le_refl _); simpa using this) hle
    split at hr
    · rename_i hv
      rw [hv] at hx
      exact key (vr_s hx) (Nat.le_refl _) (Option.some.inj hr).symm (.p (.s _))
    · rename_i cs len s' full hv
      rw [hv] at hx
      obtain ⟨b, o, cap, he, _, _, hle, _⟩ := hx.pp.sl_at (μ := μ)
      exact key he hle (Option.some.inj hr).symm (he ▸ hv ▸ hx)
    · rename_i id off len s' cp ex hv
      rw [hv] at hx
      obtain ⟨b, o, s, o', cap, hm, he, hoo, hle, _⟩ := vr_arr hx
      exact key he hle (Option.some.inj hr).symm (he ▸ hv ▸ hx)
    · cases hr
  · rename_i hn0
    -- new memory
    have grow : ∀ {base : Option Addr} {sl sc : Nat} {xc : List LV} {olds : List Value} {h2 : Hp} {tch : List Nat} {md : Bool} (T2 : Nat → Prop), a.eval x = .slice base sl sc →
        (∀ w', w'.heap = w.heap → (Builtin.firstCells sz sl (.slice base sl sc)).run P w' = .ok olds.toArray w') → olds.length = xc.length → xc.length = sl * sz → (∀ u ∈ olds, u.oneCell' = true) → (∀ (j : Nat) l u, xc[j]? = some l → olds[j]? = some u → VR I μ w l u) →
        sc < sl + n → (sl + n) * bytes ≤ 2 ^ 40 → r = ⟨.arr (c.nx + h.new.length) 0 (sl + n) sz (sl + n) false, push h2 (.cells (xc ++ yc)), tch, md⟩ → h2.new.length = h.new.length →
        (∀ id, T2 id → T id) → (Goes I I μ μ w w (look c.H c.nx h) (look c.H c.nx h2) T2 (fun _ => False)) → (∀ id ∈ ids (opd c env (copd y)), T id) →
        DoesOp P c h a w I μ r T ⟨dst, .call { callee := .builtin .append, args := #[x, y], argTypes := #[t, u] }, ty, pos, after, guard⟩ := by
      intro base sl sc xc olds h2 tch md T2 he holds hol hxl ho1 hov hg hbb hrr hh2 hT2 hgo hTy
      subst hrr
      obtain ⟨vals, g1, g2, g3, g4, g5⟩ := src_run (P := P) hH hyc hTy hy hlen
      have hlt62 : sl + n < 2 ^ 62 := by
        have : (sl + n) * 1 ≤ (sl + n) * bytes := Nat.mul_le_mul_left _ (by omega)
        omega
      obtain ⟨cap', hc1, hrun⟩ := app_grow (P := P) (ty := ty) ht hu hi hzv hsz hby holds g4 (fun w' hw => by have := g5 w' hw n (Nat.le_refl _); rwa [List.take_of_length_le (by omega)] at this) hg hbb hlt62
      rw [← he] at hrun
      -- first what is given up, then what is made
      have hgo' := hgo.widen hH hT2
      have hH2 : HR I μ w T (look c.H c.nx h2) := hgo'.hr.sub fun id ht => ⟨.inl ht, rfl⟩
      have hμ' : μ (c.nx + h2.new.length) = none := by
        rw [hh2]
        exact hμ _ ⟨Nat.le_refl _, by simp [push, hh2]⟩
      have hsize : (olds.toArray ++ vals.toArray ++ Builtin.zeroCells zv.cells (cap' - (sl + n))).size = (sl + n) * sz + (cap' - (sl + n)) * zv.cells.size := by
        simp [zeroC_size, hol, hxl, g1, Nat.add_mul]
      have hge : (xc ++ yc).length = (sl + n) * sz := by simp [hxl, hlen, Nat.add_mul]
      have hlow : ∀ (j : Nat) (l : LV) (u : Value), (xc ++ yc)[j]? = some l → (olds.toArray ++ vals.toArray ++ Builtin.zeroCells zv.cells (cap' - (sl + n)))[j]? = some u → u.oneCell' = true ∧ VR I μ w l u := by
        intro j l u hj hu
        have hjlt : j < (sl + n) * sz := by rw [← hge]; exact (List.getElem?_eq_some_iff.1 hj).1
        rw [Array.getElem?_append_left (by simp [hol, hxl, g1]; rw [← Nat.add_mul]; exact hjlt)] at hu
        by_cases h5 : j < xc.length
        · rw [List.getElem?_append_left h5] at hj
          rw [Array.getElem?_append_left (by simp; omega)] at hu
          have hu' : olds[j]? = some u := by simpa using hu
          exact ⟨ho1 u (List.mem_of_getElem? hu'), hov j l u hj hu'⟩
        · rw [List.getElem?_append_right (by omega)] at hj
          rw [Array.getElem?_append_right (by simp; omega)] at hu
          have hu' : vals[j - xc.length]? = some u := by rw [← hol]; simpa using hu
          exact ⟨g2 u (List.mem_of_getElem? hu'), g3 _ l u hj hu'⟩
      have hd := does_make (P := P) (T := T) (s := execOp a.eval ⟨dst, .call { callee := .builtin .append, args := #[x, y], argTypes := #[t, u] }, ty, pos, after, guard⟩)
        (lv := .arr (c.nx + h.new.length) 0 (sl + n) sz (sl + n) false) (H := c.H) (nx := c.nx) (h := h2) (cs := xc ++ yc) hH2 hμ' w.drew (.inr rfl) _ e (0, 0) (by simp) (by rw [hsize, hge]; omega)
        (fun j u hj hu => (hlow j _ u (List.getElem?_eq_getElem hj) hu).1) (fun j l u hj hu => (hlow j l u hj hu).2) (hexec hrun)
        (fun I' μ' w' _ hm => by
          rw [hh2] at hm
          refine .arr _ 0 (sl + n) sz (sl + n) false w.heap.size 0 _ 0 cap' hm (.inr rfl) (Nat.le_refl _) hc1 (by simp) ?_
          rw [hsize]
          rw [hzs, ← Nat.add_mul]
          have : sl + n + (cap' - (sl + n)) = cap' := by omega
          rw [this]; omega)
      obtain ⟨I', μ', w', v, q1, q2, q3⟩ := hd
      refine ⟨I', μ', w', v, q1, ?_, q3⟩
      have := hgo'.after_kill q2
      rwa [hh2] at this
    have hself : Goes I I μ μ w w (look c.H c.nx h) (look c.H c.nx h) (fun _ => False) (fun _ => False) := Goes.refl hH.lt
    split at hr
    · -- nil
      rename_i hv
      split at hr
      case isFalse => cases hr
      rename_i hbb
      rw [hv] at hx
      obtain rfl := Option.some.inj hr
      exact grow (base := none) (sl := 0) (sc := 0) (xc := []) (olds := []) (h2 := h) (fun _ => False) (vr_s hx) (fun w' _ => by simp [Builtin.firstCells]) rfl (by simp) (by simp) (by simp) (by omega) (by simpa using hbb)
        (by simp only [Nat.zero_add, List.nil_append]; rfl) rfl (fun _ h => h.elim) hself hT
    · -- immutable, full
      rename_i cs len s' full hv
      split at hr
      case isFalse => cases hr
      rename_i hcond
      obtain ⟨hf, hcl, rfl, hbb⟩ := hcond
      rw [hv] at hx
      obtain ⟨b, o, cap, he, _, hat, hle, hfull⟩ := hx.pp.sl_at (μ := μ)
      obtain ⟨vs, f1, f2, f3, f4⟩ := hat.vals
      have hcap := hfull hf
      obtain rfl := Option.some.inj hr
      refine grow (h2 := h) (fun _ => False) he (fun w' hw => ?_) f1 (by simpa using hcl) f2 f4 (by omega) hbb rfl rfl (fun _ h => h.elim) hself hT
      simp only [Builtin.firstCells]
      exact at_run f3 hw (by rw [f1]; simpa using hcl)
    · -- an object's
      rename_i id off len s' cp ex hv
      split at hr
      case h_2 => cases hr
      rename_i cs hl
      split at hr
      case isTrue => cases hr
      rename_i hcond
      simp only [ne_eq, not_or, Decidable.not_not] at hcond
      obtain ⟨rfl, hbb, hle⟩ := hcond
      rw [hv] at hx
      obtain ⟨b, o, s, o2, cap, hm, he, hoo, hlc, hfull, hroom, hcp, hlcp⟩ := vr_arr hx
      have hTid : T id := by
        refine hT id ?_
        split at hr
        · obtain rfl := Option.some.inj hr; simp
        · split at hr
          · obtain rfl := Option.some.inj hr; simp
          · split at hr
            · obtain rfl := Option.some.inj hr; simp
            · cases hr
      have hTy : ∀ i ∈ ids (opd c env (copd y)), T i := by
        intro i hi
        refine hT i ?_
        split at hr
        · obtain rfl := Option.some.inj hr; simp [hi]
        · split at hr
          · obtain rfl := Option.some.inj hr; simp [hi]
          · split at hr
            · obtain rfl := Option.some.inj hr; simp [hi]
            · cases hr
      obtain ⟨b', o', s2, e', hm', hsh, hcs, hfz, hat⟩ := hH.obj id _ hTid hl
      rw [hm] at hm'
      obtain ⟨rfl, rfl, rfl⟩ : b = b' ∧ o = o' ∧ s = s2 := by simpa using hm'
      obtain ⟨vs, f1, f2, f3, f4⟩ := ((At.drop (I := I) (μ := μ) (w := w) (b := b) (o := o) (cs := cs) hat off).take (len * s')).vals
      have hvl : vs.length = len * s' := by rw [f1]; simp; omega
      have hfirst : ∀ w', w'.heap = w.heap → (Builtin.firstCells s' len (.slice (some ⟨b, o2, none⟩) len cap)).run P w' = .ok vs.toArray w' := fun w' hw => by
        simp only [Builtin.firstCells]
        rcases hoo with h0 | h0
        · obtain rfl : len = 0 := by omega
          have : vs = [] := List.eq_nil_of_length_eq_zero (by simpa using hvl)
          simp [loadCells, loadCellsFrom, this]
        · subst h0
          exact at_run f3 hw hvl
      obtain ⟨vals, g1, g2, g3, g4, g5⟩ := src_run (P := P) hH hyc hTy hy hlen
      have g5' : ∀ w', w'.heap = w.heap → (Builtin.firstCells s' n (a.eval y)).run P w' = .ok vals.toArray w' := fun w' hw => by have := g5 w' hw n (Nat.le_refl _); rwa [List.take_of_length_le (by omega)] at this
      split at hr
      · -- full
        rename_i hf
        have hcap := hfull hf.1
        have hcap2 := hf.2
        obtain rfl := Option.some.inj hr
        exact grow (h2 := h) (fun _ => False) he hfirst f1 (by rw [← f1, hvl]) f2 f4 (by omega) (by omega) rfl rfl (fun _ h => h.elim) hself hTy
      · split at hr
        · -- the frontier
          rename_i hnf hfr
          obtain rfl := Option.some.inj hr
          have hdrop : (cs.drop off).take (len * s') = cs.drop off := List.take_of_length_le (by simp; omega)
          rw [hdrop] at f1 f4
          by_cases hfit : len + n ≤ cap
          · -- in place
            have h0 : o2 = o + off := hoo.resolve_left (by omega)
            subst h0
            have hcapsz : (len + n) * s' ≤ cap * s' := Nat.mul_le_mul_right _ hfit
            have hyl : vals.length = yc.length := by rw [g1, hlen]
            have hnn : μ (c.nx + h.new.length) = none := hμ _ ⟨Nat.le_refl _, by simp [push, setObj_len]⟩
            have hpl : o + cs.length = o + off + len * s' := by omega
            have hgr := Goes.grow (lk' := look c.H c.nx (push (setObj c.nx h id none) (.cells (cs.drop off ++ yc)))) hH id hTid (c.nx + h.new.length) hnn (fun e => by rw [e, hm] at hnn; cases hnn) cs yc hl hm off (by omega) vals hyl g2
              (by rw [hyl, hlen]; rw [Nat.add_mul] at hcapsz; omega) g3 (fun j h1 h2 => by rw [look_push, if_neg (by rw [setObj_len]; exact h2), look_set (look_some hl), if_neg h1])
              (by rw [look_push, if_neg (fun e => by rw [setObj_len] at e; rw [e, hnn] at hm; cases hm), look_set (look_some hl), if_pos rfl]) (by rw [look_push, setObj_len, if_pos rfl])
            have hrun := app_fit (P := P) (ty := ty) (t := t) (u := u) (w := w) ht hu hi hsz (b := b) (o := o + off) (sLen := len) (sCap := cap) g4 g5' hfit
              (fun j hj => by
                obtain ⟨q, hq⟩ := cell_of_shape (k := o + off + len * s' + j) hsh (by rw [g1] at hj; rw [Nat.add_mul] at hcapsz; omega)
                rw [hq]; rfl) (fun j hj => hfz _ (by rw [g1] at hj; rw [Nat.add_mul] at hcapsz; omega)) g2
            rw [← he, ← hpl] at hrun
            refine ⟨_, _, _, _, .inl (hexec hrun), (hgr.widen hH fun _ h => h ▸ hTid).congrN fun j => ?_, .arr _ 0 (len + n) s' (len + n) false b (o + off) s (o + off) cap (by simp) (.inr (by omega)) (Nat.le_refl _) hfit (by simp) (by omega)⟩
            simp [newN, push, setObj_len]; omega
          · -- new memory
            exact grow (h2 := setObj c.nx h id none) (xc := cs.drop off) (fun j => j = id) he hfirst f1 (by rw [← f1, hvl]) f2 f4 (by omega) (by omega) rfl setObj_len (fun j h => h ▸ hTid)
              (Goes.kill hH.lt id (fun j hj => by rw [look_set (look_some hl), if_neg hj]) (by rw [look_set (look_some hl), if_pos rfl])) hTy
        · split at hr
          case isFalse => cases hr
          rename_i hnf hfr hin
          obtain rfl := Option.some.inj hr
          have h0 : o2 = o + off := hoo.resolve_left (by omega)
          subst h0
          have hyl : vals.length = yc.length := by rw [g1, hlen]
          have hin1 := hin.1
          rw [Nat.add_mul] at hin1
          have hwr := splice_goes (nx := c.nx) (H := c.H) hH id hTid hl hm (p := off + len * s') (ys := yc) hyl g2 g3 (by omega)
          have hrun := app_fit (P := P) (ty := ty) (t := t) (u := u) (w := w) ht hu hi hsz (b := b) (o := o + off) (sLen := len) (sCap := cap) g4 g5' (by omega)
            (fun j hj => by
              obtain ⟨q, hq⟩ := cell_of_shape (k := o + off + len * s' + j) hsh (by rw [g1] at hj; omega)
              rw [hq]; rfl) (fun j hj => hfz _ (by rw [g1] at hj; omega)) g2
          rw [← he, Nat.add_assoc] at hrun
          refine ⟨_, _, _, _, .inl (hexec hrun), (hwr.widen hH fun _ h => h ▸ hTid).congrN fun j => ?_, .arr id off (len + n) s' cp ex b o s (o + off) cap hm (.inr rfl) (by omega) hcp hfull hroom⟩
          simp [newN, setObj_len]
    · cases hr

end ops
end Go.Sx
