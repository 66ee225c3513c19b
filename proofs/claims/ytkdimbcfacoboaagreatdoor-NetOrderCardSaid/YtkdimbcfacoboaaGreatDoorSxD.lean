/- Single operations: what the value machine answers, the model does. First the small facts. -/
import Derived.Test.YtkdimbcfacoboaaGreatDoorSxC
namespace Go.Sx
open Go

section
variable {I : Nat → Prop} {μ : Mu} {w : World}

theorem VR.one_or {x : LV} {v : Value} (h : VR I μ w x v) : ∀ cs, x.cells = some cs → v.cells.size = cs.length ∧ (∀ u ∈ v.cells.toList, u.oneCell' = true) ∧
    ∀ (j : Nat) l u, cs[j]? = some l → v.cells[j]? = some u → VR I μ w l u := by
  intro cs hcs
  have single : ∀ {y : LV} {u : Value}, VR I μ w y u → u.oneCell' = true → (#[u] : Array Value).size = [y].length ∧ (∀ t ∈ (#[u] : Array Value).toList, t.oneCell' = true) ∧
      ∀ (j : Nat) l t, [y][j]? = some l → (#[u] : Array Value)[j]? = some t → VR I μ w l t := fun {y u} hy hu => by
    refine ⟨rfl, fun t ht => by simp at ht; rw [ht]; exact hu, fun j l t hj ht => ?_⟩
    cases j with
    | zero => simp at hj ht; rw [← hj, ← ht]; exact hy
    | succ j => simp at hj
  cases h with
  | junk => cases hcs
  | p hp =>
    cases hp with
    | s v =>
      simp only [LV.cells] at hcs
      split at hcs
      · rename_i h1
        obtain rfl := Option.some.inj hcs
        have hv : v.cells = #[v] := by cases v <;> first | rfl | cases h1
        rw [hv]
        exact single (.p (.s v)) h1
      · cases hcs
    | agg cs' a hl h1 h =>
      simp only [LV.cells, Option.some.injEq] at hcs
      subst hcs
      refine ⟨by simpa [Value.cells] using hl, h1, fun j l u hj hu => ?_⟩
      rw [List.getElem?_map, Option.map_eq_some_iff] at hj
      obtain ⟨x, hx, rfl⟩ := hj
      exact .p (h j x u hx hu)
    | imm cs' off b o u hb hc h1 h =>
      simp only [LV.cells, Option.some.injEq] at hcs
      subst hcs
      exact single (.p (.imm cs' off b o u hb hc h1 h)) rfl
    | sl cs' len sz full b o cap u hb hc h1 h hlen hf =>
      simp only [LV.cells, Option.some.injEq] at hcs
      subst hcs
      exact single (.p (.sl cs' len sz full b o cap u hb hc h1 h hlen hf)) rfl
  | ref id off b o s hm => simp only [LV.cells, Option.some.injEq] at hcs; subst hcs; exact single (.ref id off b o s hm) rfl
  | arr id off len sz cp ex b o s o' cap hm ho hlen hcp hf hs => simp only [LV.cells, Option.some.injEq] at hcs; subst hcs; exact single (.arr id off len sz cp ex b o s o' cap hm ho hlen hcp hf hs) rfl
  | agg cs' a hl h1 h => simp only [LV.cells, Option.some.injEq] at hcs; subst hcs; exact ⟨hl, h1, h⟩
  | tuple => cases hcs
  | fn f fs cs' fa ca hl hl' h h' => simp only [LV.cells, Option.some.injEq] at hcs; subst hcs; exact single (.fn f fs cs' fa ca hl hl' h h') rfl

theorem allP_some {cs : List LV} {ps : List PV} (h : allP cs = some ps) : cs = ps.map .p := by
  induction cs generalizing ps with
  | nil => simp [allP] at h; subst h; rfl
  | cons x r ih =>
    cases x with
    | p x =>
      simp only [allP] at h
      split at h
      · rename_i l hl
        obtain rfl := Option.some.inj h
        rw [ih hl]; rfl
      · cases h
    | _ => simp [allP] at h

theorem allP_map (ps : List PV) : allP (ps.map .p) = some ps := by
  induction ps with
  | nil => rfl
  | cons x r ih => simp [allP, ih]

theorem VR.pp {x : PV} {v : Value} (h : VR I μ w (.p x) v) : PR I w x v := by cases h; assumption

theorem mkAgg_vr {cs : List LV} {a : Array Value} (hl : a.size = cs.length) (h1 : ∀ u ∈ a.toList, u.oneCell' = true)
    (h : ∀ (j : Nat) l u, cs[j]? = some l → a[j]? = some u → VR I μ w l u) : VR I μ w (mkAgg cs) (.agg a) := by
  unfold mkAgg
  split
  · rename_i ps hps
    have := allP_some hps
    subst this
    refine .p (.agg ps a (by simpa using hl) h1 fun j l u hj hu => ?_)
    exact (h j (.p l) u (by rw [List.getElem?_map, hj]; rfl) hu).pp
  · exact .agg cs a hl h1 h

theorem ofConst_vr (v : Value) : VR I μ w (ofConst v) v := by
  cases v
  case agg cs =>
    simp only [ofConst]
    split
    · rename_i h1
      refine .p (.agg _ cs (by simp) (fun u hu => ?_) fun j l u hj hu => ?_)
      · rw [Array.all_eq_true'] at h1
        exact h1 u (Array.mem_toList_iff.1 hu)
      · rw [List.getElem?_map, Option.map_eq_some_iff] at hj
        obtain ⟨x, hx, rfl⟩ := hj
        rw [Array.getElem?_toList] at hx
        obtain rfl : x = u := Option.some.inj (hx.symm.trans hu)
        exact .s x
    · exact .junk _
  all_goals exact .p (.s _)

/-- Cells that lie in a row. -/
def At (I : Nat → Prop) (μ : Mu) (w : World) (b o : Nat) (cs : List LV) : Prop :=
  ∀ (j : Nat) l, cs[j]? = some l → ∃ u, w.cell? ⟨b, o + j, none⟩ = some u ∧ u.oneCell' = true ∧ VR I μ w l u

theorem At.vals {b o : Nat} {cs : List LV} (h : At I μ w b o cs) : ∃ vs : List Value, vs.length = cs.length ∧ (∀ v ∈ vs, v.oneCell' = true) ∧
    (∀ (j : Nat) v, vs[j]? = some v → w.cell? ⟨b, o + j, none⟩ = some v) ∧ ∀ (j : Nat) l v, cs[j]? = some l → vs[j]? = some v → VR I μ w l v := by
  induction cs generalizing o with
  | nil => exact ⟨[], rfl, by simp, by simp, by simp⟩
  | cons x r ih =>
    obtain ⟨u, h1, h2, h3⟩ := h 0 x rfl
    obtain ⟨vs, g1, g2, g3, g4⟩ := ih (o := o + 1) fun j l hj => by
      obtain ⟨u, h1, h2⟩ := h (j + 1) l hj
      exact ⟨u, by rw [show o + 1 + j = o + (j + 1) by omega]; exact h1, h2⟩
    refine ⟨u :: vs, by simp [g1], fun v hv => by
      rcases List.mem_cons.1 hv with rfl | hv
      · exact h2
      · exact g2 v hv, fun j v hj => ?_, fun j l v hj hv => ?_⟩
    · cases j with
      | zero => simp at hj; rw [← hj]; exact h1
      | succ j => rw [show o + (j + 1) = o + 1 + j by omega]; exact g3 j v hj
    · cases j with
      | zero => simp at hj hv; rw [← hj, ← hv]; exact h3
      | succ j => exact g4 j l v hj hv

theorem At.drop {b o : Nat} {cs : List LV} (h : At I μ w b o cs) (n : Nat) : At I μ w b (o + n) (cs.drop n) := fun j l hj => by
  rw [List.getElem?_drop] at hj
  obtain ⟨u, hu⟩ := h (n + j) l hj
  exact ⟨u, by rw [show o + n + j = o + (n + j) by omega]; exact hu⟩

theorem At.take {b o : Nat} {cs : List LV} (h : At I μ w b o cs) (n : Nat) : At I μ w b o (cs.take n) := fun j l hj => by
  rw [List.getElem?_take] at hj
  split at hj
  · exact h j l hj
  · cases hj

theorem PR.imm_at {cs : List PV} {off : Nat} {v : Value} (h : PR I w (.imm cs off) v) : ∃ b o, v = .pointer (some ⟨b, o + off, none⟩) ∧ I b ∧ At I μ w b o (cs.map .p) := by
  cases h with
  | imm _ _ b o u hb hc h1 h =>
    refine ⟨b, o, rfl, hb, fun j l hj => ?_⟩
    rw [List.getElem?_map, Option.map_eq_some_iff] at hj
    obtain ⟨x, hx, rfl⟩ := hj
    have hlt := (List.getElem?_eq_some_iff.1 hx).1
    exact ⟨u j, hc j hlt, h1 j hlt, .p (h j x hx)⟩

theorem PR.sl_at {cs : List PV} {len sz : Nat} {full : Bool} {v : Value} (h : PR I w (.sl cs len sz full) v) : ∃ b o cap, v = .slice (some ⟨b, o, none⟩) len cap ∧ I b ∧ At I μ w b o (cs.map .p) ∧ len ≤ cap ∧ (full = true → cap = len) := by
  cases h with
  | sl _ _ _ _ b o cap u hb hc h1 h hlen hf =>
    refine ⟨b, o, cap, rfl, hb, fun j l hj => ?_, hlen, hf⟩
    rw [List.getElem?_map, Option.map_eq_some_iff] at hj
    obtain ⟨x, hx, rfl⟩ := hj
    have hlt := (List.getElem?_eq_some_iff.1 hx).1
    exact ⟨u j, hc j hlt, h1 j hlt, .p (h j x hx)⟩

theorem mk_imm {b o : Nat} {cs : List PV} (hb : I b) (h : At I μ w b o (cs.map .p)) (off : Nat) : PR I w (.imm cs off) (.pointer (some ⟨b, o + off, none⟩)) := by
  refine .imm cs off b o (fun j => (w.cell? ⟨b, o + j, none⟩).getD undef) hb (fun j hj => ?_) (fun j hj => ?_) fun j l hj => ?_
  · obtain ⟨u, h1, _⟩ := h j (.p cs[j]) (by simp [hj])
    simp [h1]
  · obtain ⟨u, h1, h2, _⟩ := h j (.p cs[j]) (by simp [hj])
    simp [h1, h2]
  · obtain ⟨u, h1, _, h3⟩ := h j (.p l) (by simp [hj])
    simp [h1]
    exact h3.pp

theorem mk_sl {b o : Nat} {cs : List PV} (hb : I b) (h : At I μ w b o (cs.map .p)) (len sz cap : Nat) (full : Bool) (hlen : len ≤ cap) (hf : full = true → cap = len) :
    PR I w (.sl cs len sz full) (.slice (some ⟨b, o, none⟩) len cap) := by
  refine .sl cs len sz full b o cap (fun j => (w.cell? ⟨b, o + j, none⟩).getD undef) hb (fun j hj => ?_) (fun j hj => ?_) (fun j l hj => ?_) hlen hf
  · obtain ⟨u, h1, _⟩ := h j (.p cs[j]) (by simp [hj])
    simp [h1]
  · obtain ⟨u, h1, h2, _⟩ := h j (.p cs[j]) (by simp [hj])
    simp [h1, h2]
  · obtain ⟨u, h1, _, h3⟩ := h j (.p l) (by simp [hj])
    simp [h1]
    exact h3.pp

theorem add_lit (b o j : Nat) : (⟨b, o, none⟩ : Addr).add j = ⟨b, o + j, none⟩ := by
  unfold Addr.add; split <;> simp_all

variable {P : Program}

theorem run_sz {t : TypeId} {s : Nat} (h : tsz P t = some s) : (sizeOf t).run P w = .ok s w := by
  unfold tsz at h
  cases hi : P.info? t with
  | none => rw [hi] at h; cases h
  | some i => rw [hi] at h; simp at h; simp [sizeOf, typeInfo, hi, h]

theorem run_ag {t : TypeId} {g : Bool} (h : tag? P t = some g) : (isAgg t).run P w = .ok g w := by
  unfold tag? at h
  cases hu : P.underlying t with
  | none => rw [hu] at h; cases h
  | some d =>
    rw [hu] at h
    simp only [Option.map_some, Option.some.injEq] at h
    subst h
    cases d <;> simp [isAgg, run_underlying hu]

/-- What is loaded from a row of cells. -/
theorem load_at {b o off sz : Nat} {ag : Bool} {cs : List LV} (h : At I μ w b o cs) {v : LV} (hv : rd cs off sz ag = some v) {t : TypeId} (ht : tsz P t = some sz) (hg : tag? P t = some ag) :
    ∃ u, (loadVar t ⟨b, o + off, none⟩).run P w = .ok u w ∧ VR I μ w v u := by
  unfold rd at hv
  unfold loadVar
  cases ag with
  | true =>
    simp only [if_true] at hv
    split at hv
    · rename_i hle
      obtain rfl := Option.some.inj hv
      obtain ⟨vs, h1, h2, h3, h4⟩ := ((h.drop off).take sz).vals
      have hlen : vs.length = sz := by rw [h1]; simp; omega
      refine ⟨.agg vs.toArray, ?_, mkAgg_vr (by simp [h1]) (by simpa using h2) (by simpa using h4)⟩
      have hld := run_loadCells_list (P := P) w ⟨b, o + off, none⟩ vs fun j v hv => by rw [add_lit]; exact h3 j v hv
      rw [hlen] at hld
      simp [run_ag hg, run_sz ht, hld]
    · cases hv
  | false =>
    simp only [Bool.false_eq_true, if_false] at hv
    obtain ⟨u, h1, h2, h3⟩ := h off v hv
    exact ⟨u, by simp [run_ag hg, h1], h3⟩

/-- A part of an aggregate. -/
theorem part_vr {off sz : Nat} {ag : Bool} {cs : List LV} {a : Array Value} (hl : a.size = cs.length) (h1 : ∀ u ∈ a.toList, u.oneCell' = true)
    (h : ∀ (j : Nat) l u, cs[j]? = some l → a[j]? = some u → VR I μ w l u) {v : LV} (hv : rd cs off sz ag = some v) {t : TypeId} (ht : tsz P t = some sz) (hg : tag? P t = some ag) :
    ∃ u, (part t a off).run P w = .ok u w ∧ VR I μ w v u := by
  unfold rd at hv
  unfold part
  cases ag with
  | true =>
    simp only [if_true] at hv
    split at hv
    · rename_i hle
      obtain rfl := Option.some.inj hv
      refine ⟨.agg (a.extract off (off + sz)), by simp [run_ag hg, run_sz ht], mkAgg_vr (by simp; omega) (fun u hu => ?_) fun j l u hj hu => ?_⟩
      · have : u ∈ a.toList.extract off (off + sz) := by simpa using hu
        rw [List.extract_eq_take_drop] at this
        exact h1 u (List.mem_of_mem_drop (List.mem_of_mem_take this))
      · rw [List.getElem?_take] at hj
        split at hj
        · rename_i hlt
          rw [List.getElem?_drop] at hj
          rw [Array.getElem?_extract] at hu
          split at hu
          · exact h _ l u hj hu
          · cases hu
        · cases hj
    · cases hv
  | false =>
    simp only [Bool.false_eq_true, if_false] at hv
    have hlt := (List.getElem?_eq_some_iff.1 hv).1
    have hu : a[off]? = some a[off] := by simp [hl, hlt]
    exact ⟨a[off], by simp [run_ag hg, hu], h off v _ hv hu⟩

end
end Go.Sx
