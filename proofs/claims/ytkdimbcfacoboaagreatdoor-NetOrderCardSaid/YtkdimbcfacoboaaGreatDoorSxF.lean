/- Single operations, one by one: more. -/
import Derived.Test.YtkdimbcfacoboaaGreatDoorSxE
namespace Go.Sx
open Go

section ops
variable {P : Program} {imT : TypeId → Bool} {c : Ctx} {dr : Bool} {env : Env} {h : Hp} {a : Act} {w : World} {I : Nat → Prop} {μ : Mu} {r : Res} {T : Nat → Prop}
variable {dst : Option Tmp} {ty : TypeId} {pos : String} {after : Array Edge} {guard : Option (Nat × Bool)}

theorem flat_get {α : Type} (z : List α) : ∀ (n j : Nat), (List.replicate n z).flatten[j]? = if j < n * z.length then z[j % z.length]? else none
  | 0, j => by simp
  | n + 1, j => by
    rw [List.replicate_succ, List.flatten_cons]
    by_cases h : j < z.length
    · rw [List.getElem?_append_left h, if_pos (Nat.lt_of_lt_of_le h (by rw [Nat.add_mul, Nat.one_mul]; omega)), Nat.mod_eq_of_lt h]
    · rw [List.getElem?_append_right (by omega), flat_get z n]
      by_cases h2 : j - z.length < n * z.length
      · rw [if_pos h2, if_pos (by rw [Nat.add_mul, Nat.one_mul]; omega), ← Nat.mod_eq_sub_mod (by omega)]
      · rw [if_neg h2, if_neg (by rw [Nat.add_mul, Nat.one_mul]; omega)]

theorem flat_len {α : Type} (z : List α) (n : Nat) : (List.replicate n z).flatten.length = n * z.length := by simp

/-- Cells that are nought, one after another. -/
theorem made_vr {zs : Array Value} (hz : ∀ u ∈ zs.toList, u.oneCell' = true) (n m : Nat) :
    (∀ u ∈ (madeCells zs m).toList, m = 0 ∨ zs.size ≠ 0 → u.oneCell' = true) ∧
    ∀ (j : Nat) l u, ((List.replicate n (zs.toList.map PV.s)).flatten.map LV.p)[j]? = some l → (madeCells zs m)[j]? = some u → VR I μ w l u := by
  refine ⟨fun u hu hm0 => ?_, fun j l u hl hu => ?_⟩
  · simp only [madeCells, Array.toList_map, Array.toList_range, List.mem_map, List.mem_range] at hu
    obtain ⟨i, hi, rfl⟩ := hu
    have hlt : i % zs.size < zs.size := Nat.mod_lt _ (by omega)
    exact hz _ (by simp [hlt])
  · rw [List.getElem?_map, flat_get] at hl
    simp only [List.length_map, Array.length_toList] at hl
    split at hl
    · rename_i h1
      have hpos : 0 < zs.size := by
        rcases Nat.eq_zero_or_pos zs.size with h0 | h0
        · rw [h0] at h1; simp at h1
        · exact h0
      have hlt : j % zs.size < zs.size := Nat.mod_lt _ hpos
      simp only [List.getElem?_map, Array.getElem?_toList, Array.getElem?_eq_getElem hlt, Option.map_some, Option.some.injEq] at hl
      simp only [madeCells, Array.getElem?_map, Array.getElem?_range] at hu
      split at hu
      · simp only [Option.map_some, Option.some.injEq] at hu
        rw [← hl, ← hu, getElem!_pos zs _ hlt]
        exact .p (.s _)
      · cases hu
    · simp at hl

theorem op_buildSlice (hH : HR I μ w T (look c.H c.nx h)) (ho : Opds c env a I μ w) (hμ : ∀ id, newN c h r.h id → μ id = none) {t : TypeId} {len : Nat} {parts : Array (Nat × Operand)} (hr : evOp c dr env h (cop P imT (.buildSlice t len parts)) = some r) :
    DoesOp P c h a w I μ r T ⟨dst, .buildSlice t len parts, ty, pos, after, guard⟩ := by
  simp only [cop] at hr
  split at hr
  case h_2 => simp [evOp] at hr
  rename_i e hu
  split at hr
  case h_2 => simp [evOp] at hr
  rename_i s z hs hz
  split at hr
  case h_2 => simp [evOp] at hr
  rename_i l hl
  split at hr
  · rename_i hlen0
    subst hlen0
    split at hr
    case isFalse => simp [evOp] at hr
    rename_i hp0
    have hpe : parts = #[] := Array.eq_empty_of_size_eq_zero hp0
    subst hpe
    simp only [evOp, List.map_nil, fillP] at hr
    obtain rfl := Option.some.inj hr
    refine does_make hH (hμ _ (by rw [newN, push_N])) w (.inl rfl) #[] e (0, 0) (by simp) (by simp) (by simp) (by simp) (v := .slice (some ⟨w.heap.size, 0, none⟩) 0 0) ?_ fun I' μ' w' _ hm => ?_
    · simp [execOp, Instr.buildSlice, run_underlying hu, run_sz hs, Instr.fill, newRow]
      simp [Array.range_zero']
    · exact .arr _ 0 0 s 0 true w.heap.size 0 _ 0 0 hm (.inl rfl) (Nat.le_refl _) (Nat.le_refl _) (fun _ => rfl) (by simp)
  split at hr
  case isFalse => simp [evOp] at hr
  rename_i hcond
  obtain ⟨hb, hzl, hne⟩ := hcond
  obtain ⟨it, zv, hi, hzv, h1, hzz⟩ := tzero_some hz
  subst hzz
  simp only [evOp] at hr
  split at hr
  case h_2 => cases hr
  rename_i cs hcs
  obtain rfl := Option.some.inj hr
  have hsz : zv.cells.size = s := by simpa using hzl
  have hmade := made_vr (I := I) (μ := μ) (w := w) h1 len (len * s)
  have hs0 : s ≠ 0 := fun e => hne (by rw [e, Nat.mul_zero])
  obtain ⟨cells, k1, k2, k3, k4⟩ := fill_vr (cparts_parts ho hl) (cells := madeCells zv.cells (len * s)) (by simp [madeCells, hsz]) (fun u hu => hmade.1 u hu (.inr (by omega))) hmade.2 hcs
  have hrun : (execOp a.eval ⟨dst, .buildSlice t len parts, ty, pos, after, guard⟩).run P w = .ok (.value (.slice (some ⟨w.heap.size, 0, none⟩) len len)) (w.alloc (.cells cells e)) := by
    have hb' : ¬ (16777216 < len * s) := by omega
    have k1' : Instr.fill (fun i => some (i * s, s)) ((Array.range (len * s)).map (zv.cells[· % zv.cells.size]!)) (List.map (fun x => (x.fst, a.eval x.snd)) parts.toList) = some cells := k1
    simp [execOp, Instr.buildSlice, run_underlying hu, run_sz hs, hb', hne, zeroValue, typeInfo, hi, hzv, k1', newRow]
  refine does_make hH (hμ _ (by rw [newN, push_N])) w (.inl rfl) cells e (0, 0) (by simp) (by omega) (fun j u _ hu => k3 u ?_) k4 hrun fun I' μ' w' _ hm => ?_
  · rw [← Array.getElem?_toList] at hu; exact List.mem_of_getElem? hu
  · have hcl : cells.size = len * s := by
      rw [k2]
      have : ∀ (ps : List (Nat × Nat × LV)) (l l' : List LV), fillP l ps = some l' → l'.length = l.length := by
        intro ps
        induction ps with
        | nil => intro l l' h; simp [fillP] at h; rw [h]
        | cons x r ih =>
          obtain ⟨o, s, v⟩ := x
          intro l l' h
          simp only [fillP] at h
          split at h
          · split at h
            · rename_i hle
              rw [ih _ _ h]; simp; omega
            · cases h
          · cases h
      rw [this _ _ _ hcs]; simp [hsz]
    exact .arr _ 0 len s len true w.heap.size 0 cells.size 0 len hm (.inr rfl) (Nat.le_refl _) (Nat.le_refl _) (fun _ => rfl) (by omega)

theorem op_load (hH : HR I μ w T (look c.H c.nx h)) (ho : Opds c env a I μ w) (hT : ∀ id ∈ r.tch, T id) {t : TypeId} {x : Operand} (hr : evOp c dr env h (cop P imT (.load t x)) = some r) :
    DoesOp P c h a w I μ r T ⟨dst, .load t x, ty, pos, after, guard⟩ := by
  simp only [cop] at hr
  split at hr
  case h_2 => simp [evOp] at hr
  rename_i s g hs hg
  simp only [evOp] at hr
  have hx := ho x
  have key : ∀ {b o off : Nat} {cs : List LV} {v : LV}, At I μ w b o cs → rd cs off s g = some v → a.eval x = .pointer (some ⟨b, o + off, none⟩) →
      ∃ u, (execOp a.eval ⟨dst, .load t x, ty, pos, after, guard⟩).run P w = .ok (.value u) w ∧ VR I μ w v u := fun hat hv he => by
    obtain ⟨u, h1, h2⟩ := load_at (P := P) hat hv hs hg
    exact ⟨u, by simp [execOp, Instr.loadAt, Instr.sureAddr, he, h1], h2⟩
  split at hr
  · rename_i cs off hv
    rw [hv] at hx
    obtain ⟨b, o, he, _, hat⟩ := hx.pp.imm_at (μ := μ)
    split at hr
    · rename_i v hrd
      obtain rfl := Option.some.inj hr
      obtain ⟨u, h1, h2⟩ := key hat hrd he
      exact does_pure hH newN_self h1 h2
    · cases hr
  · rename_i id off hv
    rw [hv] at hx
    split at hr
    · rename_i cs hl
      split at hr
      · rename_i v hrd
        obtain rfl := Option.some.inj hr
        have hTid := hT id (by simp)
        obtain ⟨b, o, sz, e, hm, _, _, _, hat⟩ := hH.obj id _ hTid hl
        obtain ⟨b', o', s', hm', he⟩ := vr_ref hx
        rw [hm] at hm'
        obtain ⟨rfl, rfl, rfl⟩ : b = b' ∧ o = o' ∧ sz = s' := by simpa using hm'
        obtain ⟨u, h1, h2⟩ := key (off := off) hat hrd he
        exact does_pure hH newN_self h1 h2
      · cases hr
    · cases hr
  · cases hr

theorem look_set {H : Heap} {nx : Nat} {h : Hp} {id : Nat} {o : Option Obj} (hid : id < nx ∨ id - nx < h.new.length) (j : Nat) : look H nx (setObj nx h id o) j = if j = id then o else look H nx h j := by
  have hset : ∀ u, findU (setU u id o) j = if j = id then some o else findU u j := by
    intro u
    induction u with
    | nil => simp [setU, findU]
    | cons x r ih =>
      obtain ⟨k, p⟩ := x
      simp only [setU]
      by_cases h1 : id = k
      · rw [if_pos h1]
        simp only [findU]
        by_cases h2 : j = k
        · rw [if_pos h2, if_pos (by omega)]
        · rw [if_neg h2, if_neg (by omega), if_neg h2]
      · rw [if_neg h1]
        simp only [findU]
        by_cases h2 : j = k
        · rw [if_pos h2, if_neg (by omega), if_pos h2]
        · rw [if_neg h2, ih, if_neg h2]
  unfold setObj look
  by_cases h1 : id < nx
  · rw [if_pos h1]
    by_cases h2 : j < nx
    · rw [if_pos h2]
      simp only [hset]
      by_cases h3 : j = id
      · rw [if_pos h3, if_pos h3]
      · rw [if_neg h3, if_neg h3, if_pos h2]
    · rw [if_neg h2, if_neg (by omega), if_neg h2]
  · rw [if_neg h1]
    by_cases h2 : j < nx
    · rw [if_pos h2, if_neg (by omega), if_pos h2]
    · rw [if_neg h2]
      by_cases h3 : j = id
      · subst h3
        rw [if_pos rfl]
        simp [hid.resolve_left h1]
      · rw [if_neg h3, if_neg h2]
        simp only []
        rw [List.getElem?_set_ne (by omega)]

theorem look_some {H : Heap} {nx : Nat} {h : Hp} {id : Nat} {o : Obj} (hl : look H nx h id = some o) : id < nx ∨ id - nx < h.new.length := by
  unfold look at hl
  by_cases h1 : id < nx
  · exact .inl h1
  · rw [if_neg h1] at hl
    right
    rcases Nat.lt_or_ge (id - nx) h.new.length with h2 | h2
    · exact h2
    · rw [List.getElem?_eq_none h2] at hl; cases hl

theorem setObj_len {nx : Nat} {h : Hp} {id : Nat} {o : Option Obj} : (setObj nx h id o).new.length = h.new.length := by
  unfold setObj; split <;> simp

theorem op_store (hH : HR I μ w T (look c.H c.nx h)) (ho : Opds c env a I μ w) (hT : ∀ id ∈ r.tch, T id) {t : TypeId} {x y : Operand} (hr : evOp c dr env h (cop P imT (.store t x y)) = some r) :
    DoesOp P c h a w I μ r T ⟨dst, .store t x y, ty, pos, after, guard⟩ := by
  simp only [cop] at hr
  split at hr
  case h_2 => simp [evOp] at hr
  rename_i s hs
  simp only [evOp] at hr
  split at hr
  case h_2 => cases hr
  rename_i id off vs hx hy
  split at hr
  case h_2 => cases hr
  rename_i cs hl
  split at hr
  case isFalse => cases hr
  rename_i hcond
  obtain rfl := Option.some.inj hr
  have hTid := hT id (by simp)
  obtain ⟨b, o, sz, e, hm, hsh, hle, hfz, hat⟩ := hH.obj id _ hTid hl
  have hxv := ho x
  rw [hx] at hxv
  obtain ⟨b', o', s', hm', he⟩ := vr_ref hxv
  rw [hm] at hm'
  obtain ⟨rfl, rfl, rfl⟩ : b = b' ∧ o = o' ∧ sz = s' := by simpa using hm'
  obtain ⟨g1, g2, g3⟩ := (ho y).one_or vs hy
  have hwr := Goes.write (lk' := look c.H c.nx (setObj c.nx h id (some (.cells (splice cs off vs))))) hH id hTid cs (splice cs off vs) hl hm off (a.eval y).cells.toList g2 (by simp; omega) (by simp [splice]; omega) (fun j l hj => by
      unfold splice at hj
      simp only [Array.length_toList]
      by_cases h1 : off ≤ j ∧ j < off + (a.eval y).cells.size
      · left
        rw [List.append_assoc, List.getElem?_append_right (by simp; omega), List.getElem?_append_left (by simp; omega), show j - (cs.take off).length = j - off by simp; omega] at hj
        refine ⟨h1.1, h1.2, _, List.getElem?_eq_getElem (by simp; omega), g3 _ l _ hj (by rw [← Array.getElem?_toList]; exact List.getElem?_eq_getElem (by simp; omega))⟩
      · right
        refine ⟨h1, ?_⟩
        by_cases h4 : j < off
        · rw [List.append_assoc, List.getElem?_append_left (by simp; omega), List.getElem?_take, if_pos h4] at hj
          exact hj
        · rw [List.getElem?_append_right (by simp; omega), List.getElem?_drop] at hj
          rw [← hj]; congr 1; simp; omega)
    (fun j hj => by rw [look_set (look_some hl), if_neg hj]) (by rw [look_set (look_some hl), if_pos rfl])
  have hst := run_storeCells_cells (P := P) b (o + off) (a.eval y).cells.toList 0 w (fun j hj => by
      obtain ⟨u, hu⟩ := cell_of_shape (k := o + off + 0 + j) hsh (by simp at hj; omega)
      rw [hu]; rfl) (fun j hj => hfz _ (by simp at hj; omega)) g2
  have hrun : (execOp a.eval ⟨dst, .store t x y, ty, pos, after, guard⟩).run P w = .ok .skip (w.setCells b (o + off) (a.eval y).cells.toList) := by
    simp only [Nat.add_zero] at hst
    simp [execOp, Instr.storeAt, Instr.sureAddr, he, storeVar, run_sz hs, g1, hcond.1, hst]
  exact ⟨_, _, _, undef, .inr ⟨hrun, rfl⟩, (hwr.widen hH fun _ h => h ▸ hTid).congrN fun id' => ⟨fun h => by simp [newN, setObj_len] at h; omega, fun h => h.elim⟩, .p (.s _)⟩

theorem op_nilCheck (hH : HR I μ w T (look c.H c.nx h)) (ho : Opds c env a I μ w) {x : Operand} (hr : evOp c dr env h (.nilCk (copd x)) = some r) :
    DoesOp P c h a w I μ r T ⟨dst, .nilCheck x, ty, pos, after, guard⟩ := by
  have hx := ho x
  simp only [evOp] at hr
  split at hr
  · rename_i cs o hv
    obtain rfl := Option.some.inj hr
    rw [hv] at hx
    obtain ⟨b, o', he, _⟩ := hx.pp.imm_at (μ := μ)
    exact does_pure hH newN_self (v := a.eval x) (by simp [execOp, he]) hx
  · rename_i id o hv
    obtain rfl := Option.some.inj hr
    rw [hv] at hx
    obtain ⟨b', o', s', hm', he⟩ := vr_ref hx
    exact does_pure hH newN_self (v := a.eval x) (by simp [execOp, he]) hx
  · rename_i f b d hv
    obtain rfl := Option.some.inj hr
    rw [hv] at hx
    obtain ⟨fa, ca, he, _⟩ := vr_fn hx
    exact does_pure hH newN_self (v := a.eval x) (by simp [execOp, he]) hx
  · cases hr

end ops
end Go.Sx
