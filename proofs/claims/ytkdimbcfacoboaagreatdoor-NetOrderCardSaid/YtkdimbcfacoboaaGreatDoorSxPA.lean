/- From the two halves of a drawn region's check to what its proof asks. No condition. -/
import Derived.Test.YtkdimbcfacoboaaGreatDoorSxP
namespace Go.Sx
open Go

theorem pairsD_iff (t : Tr) (m : Nat) : ∀ (l : List Tr) (k : Nat), pairsD t m k l = true ↔ ∀ i, i < l.length → (m.testBit (k + i) || apartD (l.getD i default) t) = true
  | [], k => by simp [pairsD]
  | s :: l, k => by
    simp only [pairsD, Bool.and_eq_true, pairsD_iff t m l (k + 1)]
    constructor
    · rintro ⟨h1, h2⟩ i hi
      match i with
      | 0 => simpa using h1
      | i + 1 =>
        have := h2 i (by simp at hi; omega)
        rw [show k + 1 + i = k + (i + 1) by omega] at this
        simpa using this
    · intro h
      refine ⟨by simpa using h 0 (by simp), fun i hi => ?_⟩
      have := h (i + 1) (by simp; omega)
      rw [show k + (i + 1) = k + 1 + i by omega] at this
      simpa using this

theorem getD_app (l r : List Tr) (i : Nat) (h : i < l.length) : (l ++ r).getD i default = l.getD i default := by
  simp [List.getD_eq_getElem?_getD, List.getElem?_append_left h]

theorem indepR_iff : ∀ (r seen : List Tr) (bs : List Nat), indepR seen r bs = true ↔ ∀ j, j < r.length → ∀ i, i < seen.length + j → ((bs.getD j 0).testBit i || apartD ((seen ++ r).getD i default) (r.getD j default)) = true
  | [], seen, bs => by simp [indepR]
  | t :: r, seen, bs => by
    have key : indepR seen (t :: r) bs = (pairsD t (bs.getD 0 0) 0 seen && indepR (seen ++ [t]) r bs.tail) := by cases bs <;> rfl
    rw [key, Bool.and_eq_true, pairsD_iff, indepR_iff r (seen ++ [t]) bs.tail]
    constructor
    · rintro ⟨h1, h2⟩ j hj i hi
      match j with
      | 0 =>
        have := h1 i (by simpa using hi)
        rw [Nat.zero_add] at this
        rw [getD_app _ _ _ (by simpa using hi)]
        exact this
      | j + 1 =>
        have := h2 j (by simp at hj; omega) i (by simp; omega)
        rw [List.append_assoc] at this
        have e : bs.tail.getD j 0 = bs.getD (j + 1) 0 := by cases bs <;> simp
        rw [e] at this
        exact this
    · intro h
      refine ⟨fun i hi => ?_, fun j hj i hi => ?_⟩
      · have := h 0 (by simp) i (by simpa using hi)
        rw [getD_app _ _ _ hi] at this
        rw [Nat.zero_add]
        exact this
      · have := h (j + 1) (by simp; omega) i (by simp at hi; omega)
        have e : bs.tail.getD j 0 = bs.getD (j + 1) 0 := by cases bs <;> simp
        rw [e, List.append_assoc]
        exact this

theorem quickD_mem : ∀ {tr : List Tr}, quickD tr = true → ∀ t ∈ tr, (t.md = true → t.tch = []) ∧ t.lo = t.hi
  | [], _, _, h => by cases h
  | a :: r, h, t, ht => by
    simp only [quickD, Bool.and_eq_true] at h
    obtain ⟨⟨h1, h2⟩, h3⟩ := h
    rcases List.mem_cons.1 ht with rfl | ht
    · refine ⟨fun hm => ?_, by simpa using h2⟩
      rw [hm] at h1
      simpa using h1
    · exact quickD_mem h3 t ht

theorem apartD_quick {a b : Tr} (ha : (a.md = true → a.tch = []) ∧ a.lo = a.hi) (hb : (b.md = true → b.tch = []) ∧ b.lo = b.hi) : apartD a b = true := by
  unfold apartD
  rw [Bool.and_eq_true, List.all_eq_true, List.all_eq_true]
  refine ⟨fun x hx => ?_, fun x _ => ?_⟩
  · cases h1 : a.md with
    | true => rw [ha.1 h1] at hx; cases hx
    | false =>
      cases h2 : b.md with
      | true => rw [hb.1 h2]; simp
      | false => simp
  · simp only [Bool.not_eq_true', Bool.and_eq_false_iff, decide_eq_false_iff_not]
    have := ha.2
    omega

theorem indepD_apart {tr : List Tr} {bs : List Nat} (h : indepD tr bs = true) (i j : Nat) (hij : i < j) (hj : j < tr.length) (hb : (bs.getD j 0).testBit i = false) : apartD (tr.getD i default) (tr.getD j default) = true := by
  unfold indepD at h
  split at h
  · rename_i hq
    have hm := quickD_mem hq
    have e : ∀ k, k < tr.length → tr.getD k default ∈ tr := fun k hk => by
      rw [List.getD_eq_getElem?_getD, List.getElem?_eq_getElem hk]; exact List.getElem_mem hk
    exact apartD_quick (hm _ (e i (by omega))) (hm _ (e j hj))
  · have := (indepR_iff tr [] bs).1 h j hj i (by simpa using hij)
    rw [hb] at this
    simpa using this

theorem tr_slots {c : Ctx} : ∀ {l : List IROper} {env : Env} {h : Hp} {tr : List Tr} {r : Env × Hp}, runOpsT c l env h = some (tr, r) → ∀ i, i < l.length →
    (∀ x ∈ (tr.getD i default).rds, x ∈ (l.getD i default).op.slots ++ gslot (l.getD i default).guard) ∧ (tr.getD i default).wr = (l.getD i default).dst
  | [], _, _, _, _, _, i, hi => by cases hi
  | o :: l, env, h, tr, r, hr, i, hi => by
    simp only [runOpsT] at hr
    split at hr
    · split at hr
      · split at hr
        · rename_i tr' e h' ht
          obtain ⟨rfl, rfl⟩ := by simpa using hr
          match i with
          | 0 => exact ⟨fun x hx => hx, rfl⟩
          | i + 1 => exact tr_slots ht i (by simp at hi; omega)
        · cases hr
      · cases hr
    · split at hr
      · rename_i tr' e h' ht
        obtain ⟨rfl, rfl⟩ := by simpa using hr
        match i with
        | 0 => exact ⟨fun x hx => List.mem_append.2 (.inr hx), rfl⟩
        | i + 1 => exact tr_slots ht i (by simp at hi; omega)
      · cases hr
    · cases hr

theorem indepS_apart {ops : List IROper} {bs : List Nat} (h : indepS ops bs = true) (i j : Nat) (hij : i < j) (hj : j < ops.length) (hb : (bs.getD j 0).testBit i = false) : apartS (ops.getD i default) (ops.getD j default) = true := by
  unfold indepS at h
  have h1 := List.all_eq_true.1 h j (List.mem_range.2 hj)
  have h2 := List.all_eq_true.1 h1 i (List.mem_range.2 hij)
  rw [hb] at h2
  simpa using h2

theorem apartT_of {a b : Tr} {p q : IROper} (h : apartS p q = true) (hd : apartD a b = true) (ha : (∀ x ∈ a.rds, x ∈ p.op.slots ++ gslot p.guard) ∧ a.wr = p.dst) (hb : (∀ x ∈ b.rds, x ∈ q.op.slots ++ gslot q.guard) ∧ b.wr = q.dst) : apartT a b = true := by
  unfold apartS at h
  unfold apartD at hd
  rw [Bool.and_eq_true] at h hd
  obtain ⟨h1, h2⟩ := h
  unfold apartT
  rw [Bool.and_eq_true, Bool.and_eq_true, Bool.and_eq_true]
  refine ⟨⟨⟨?_, ?_⟩, hd.1⟩, hd.2⟩
  · rw [ha.2]
    cases e : p.dst with
    | none => rfl
    | some d =>
      rw [e] at h1
      simp only [Bool.and_eq_true, Bool.not_eq_true'] at h1 ⊢
      refine ⟨?_, by rw [hb.2]; exact h1.2⟩
      cases hc : b.rds.contains d with
      | false => rfl
      | true =>
        have hm : d ∈ q.op.slots ++ gslot q.guard := hb.1 d (by simpa using hc)
        have h11 := h1.1
        rw [List.contains_eq_mem] at h11
        simp only [decide_eq_false_iff_not] at h11
        exact absurd hm h11
  · rw [hb.2]
    cases e : q.dst with
    | none => rfl
    | some d =>
      rw [e] at h2
      simp only [Bool.not_eq_true'] at h2 ⊢
      cases hc : a.rds.contains d with
      | false => rfl
      | true =>
        have hm : d ∈ p.op.slots ++ gslot p.guard := ha.1 d (by simpa using hc)
        rw [List.contains_eq_mem] at h2
        simp only [decide_eq_false_iff_not] at h2
        exact absurd hm h2
end Go.Sx
