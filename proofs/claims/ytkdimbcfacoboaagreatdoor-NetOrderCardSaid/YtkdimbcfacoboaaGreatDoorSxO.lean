/- Operations in whatever order. -/
import Derived.Test.YtkdimbcfacoboaaGreatDoorSxN
import Derived.Orders
namespace Go.Sx
open Go

/-- One operation of a run that is told. -/
def StepT (c : Ctx) (o : IROper) (e : Env) (h : Hp) (r : LV) (t : Tr) (e' : Env) (h' : Hp) : Prop :=
  (∃ x, wants e o.guard = some true ∧ evOp c true e h o.op = some x ∧ r = x.v ∧ t = ⟨x.tch, x.md, c.nx + h.new.length, c.nx + x.h.new.length, o.op.slots ++ gslot o.guard, o.dst⟩ ∧ e' = putD e o.dst x.v ∧ h' = x.h) ∨
  (wants e o.guard = some false ∧ r = .undef ∧ t = ⟨[], false, c.nx + h.new.length, c.nx + h.new.length, gslot o.guard, o.dst⟩ ∧ e' = putD e o.dst .undef ∧ h' = h)

theorem runT_seq {c : Ctx} : ∀ (irs : List IROper) (env : Env) (h : Hp) (tr : List Tr) (env' : Env) (h' : Hp), runOpsT c irs env h = some (tr, env', h') →
    ∃ (E : Nat → Env) (Hs : Nat → Hp) (R : Nat → LV), E 0 = env ∧ Hs 0 = h ∧ E irs.length = env' ∧ Hs irs.length = h' ∧ tr.length = irs.length ∧
      ∀ i (hi : i < irs.length), StepT c irs[i] (E i) (Hs i) (R i) (tr.getD i default) (E (i + 1)) (Hs (i + 1))
  | [], env, h, tr, env', h', hr => by
    simp only [runOpsT, Option.some.injEq, Prod.mk.injEq] at hr
    obtain ⟨rfl, rfl, rfl⟩ := hr
    exact ⟨fun _ => env, fun _ => h, fun _ => .junk, rfl, rfl, rfl, rfl, rfl, fun i hi => absurd hi (by simp)⟩
  | o :: irs, env, h, tr, env', h', hr => by
    have key : ∀ (e1 : Env) (h1 : Hp) (tr1 : List Tr) (t : Tr) (r : LV), runOpsT c irs e1 h1 = some (tr1, env', h') → tr = t :: tr1 → StepT c o env h r t e1 h1 →
        ∃ (E : Nat → Env) (Hs : Nat → Hp) (R : Nat → LV), E 0 = env ∧ Hs 0 = h ∧ E (o :: irs).length = env' ∧ Hs (o :: irs).length = h' ∧ tr.length = (o :: irs).length ∧
          ∀ i (hi : i < (o :: irs).length), StepT c (o :: irs)[i] (E i) (Hs i) (R i) (tr.getD i default) (E (i + 1)) (Hs (i + 1)) := by
      intro e1 h1 tr1 t r hrun htr hst
      obtain ⟨E, Hs, R, a1, a2, a3, a4, a5, a6⟩ := runT_seq irs e1 h1 tr1 env' h' hrun
      refine ⟨fun i => match i with
        | 0 => env
        | i + 1 => E i, fun i => match i with
        | 0 => h
        | i + 1 => Hs i, fun i => match i with
        | 0 => r
        | i + 1 => R i, rfl, rfl, a3, a4, by rw [htr]; simp [a5], fun i hi => ?_⟩
      subst htr
      cases i with
      | zero => simp only [List.getElem_cons_zero, List.getD_cons_zero, a1, a2]; exact hst
      | succ i => simpa using a6 i (by simpa using hi)
    simp only [runOpsT] at hr
    split at hr
    · rename_i hw
      split at hr
      case h_2 => cases hr
      rename_i x hx
      split at hr
      case h_2 => cases hr
      rename_i tr1 e2 h2 hrun
      simp only [Option.some.injEq, Prod.mk.injEq] at hr
      obtain ⟨rfl, rfl, rfl⟩ := hr
      exact key _ _ tr1 _ x.v hrun rfl (.inl ⟨x, hw, hx, rfl, rfl, rfl, rfl⟩)
    · rename_i hw
      split at hr
      case h_2 => cases hr
      rename_i tr1 e2 h2 hrun
      simp only [Option.some.injEq, Prod.mk.injEq] at hr
      obtain ⟨rfl, rfl, rfl⟩ := hr
      exact key _ _ tr1 _ .undef hrun rfl (.inr ⟨hw, rfl, rfl, rfl, rfl⟩)
    · cases hr

/-- What a slot holds when those of 'D' have come up. -/
def eD (E0 : Env) (R : Nat → LV) (tr : List Tr) (D : Nat → Bool) : Nat → Nat → LV
  | 0, t => get E0 t
  | k + 1, t => if D k = true ∧ (tr.getD k default).wr = some t then R k else eD E0 R tr D k t

/-- What an object is then. -/
def lD (H : Heap) (nx : Nat) (Hs : Nat → Hp) (tr : List Tr) (D : Nat → Bool) : Nat → Nat → Option Obj
  | 0, id => look H nx (Hs 0) id
  | k + 1, id => if D k = true ∧ (((tr.getD k default).md = true ∧ id ∈ (tr.getD k default).tch) ∨ ((tr.getD k default).lo ≤ id ∧ id < (tr.getD k default).hi)) then look H nx (Hs (k + 1)) id else lD H nx Hs tr D k id

section
variable {P : Program} {imT : TypeId → Bool} {c : Ctx} {I0 : Nat → Prop} {μ0 : Mu} {w0 : World} {nt : Nat} {ops : Array Oper}

/-- All that is known of a region and of its run in the text's order. -/
structure Reg (P : Program) (imT : TypeId → Bool) (c : Ctx) (nt : Nat) (ops : Array Oper) (E : Nat → Env) (Hs : Nat → Hp) (R : Nat → LV) (tr : List Tr) : Prop where
  sound : OSound P c.G c.O
  step : ∀ i o, ops[i]? = some o → StepT c (coper P imT nt ops o) (E i) (Hs i) (R i) (tr.getD i default) (E (i + 1)) (Hs (i + 1))
  edges : ∀ i o e, ops[i]? = some o → e ∈ o.after → Region.binds .any e = true → e.on < i
  apart : ∀ i j, i < j → j < ops.size → ((Region.before ops).getD j 0).testBit i = false → apartT (tr.getD i default) (tr.getD j default) = true

variable {E : Nat → Env} {Hs : Nat → Hp} {R : Nat → LV} {tr : List Tr}

/-- What holds when those of 'D' have come up. -/
structure DInv (c : Ctx) (I0 : Nat → Prop) (μ0 : Mu) (w0 : World) (nt : Nat) (ops : Array Oper) (E : Nat → Env) (Hs : Nat → Hp) (R : Nat → LV) (tr : List Tr) (D : Nat → Bool) (a : Act) (w : World) (I : Nat → Prop) (μ : Mu) : Prop where
  env : ∀ t, VR I μ w (eD (E 0) R tr D ops.size t) (a.tmps.getD t undef)
  size : nt ≤ a.tmps.size
  defers : a.defers = []
  goes : Goes I0 I μ0 μ w0 w c.H (lD c.H c.nx Hs tr D ops.size) (fun _ => True) (fun id => (c.nx ≤ id ∧ id < c.nx + (Hs 0).new.length) ∨ ∃ k, k < ops.size ∧ D k = true ∧ (tr.getD k default).lo ≤ id ∧ id < (tr.getD k default).hi)
  none : ∀ id, c.nx + (Hs 0).new.length ≤ id → (∀ k, k < ops.size → D k = true → ¬ ((tr.getD k default).lo ≤ id ∧ id < (tr.getD k default).hi)) → μ id = none
  glob : GOK c.G I w
  closed : ∀ j o e, D j = true → ops[j]? = some o → e ∈ o.after → Region.binds .any e = true → D e.on = true

theorem before_size (ops : Array Oper) : (Region.before ops).size = ops.size := by
  unfold Region.before
  have : ∀ (l : List Oper) (acc : Array Nat), (l.foldl (fun acc o => acc.push (o.after.foldl (fun s e => if Region.binds .any e then s ||| 2 ^ e.on ||| acc.getD e.on 0 else s) 0)) acc).size = acc.size + l.length := by
    intro l
    induction l with
    | nil => intro acc; rfl
    | cons x r ih => intro acc; rw [List.foldl_cons, ih]; simp; omega
  rw [← Array.foldl_toList, this]
  simp

/-- Who comes before comes by an edge, or before one who does. -/
theorem before_edge (ops : Array Oper) : ∀ j i, j < ops.size → ((Region.before ops).getD j 0).testBit i = true →
    ∃ o e, ops[j]? = some o ∧ e ∈ o.after ∧ Region.binds .any e = true ∧ (e.on = i ∨ (e.on < j ∧ ((Region.before ops).getD e.on 0).testBit i = true)) := by
  intro j i hj hb
  have hgen : ∀ (l : List Oper) (acc : Array Nat), (∀ k, acc.size ≤ k → k < acc.size + l.length → ∃ (pre : Array Nat), pre.size = k ∧ (∀ q, q < k → pre.getD q 0 = (l.foldl (fun acc o => acc.push (o.after.foldl (fun s e => if Region.binds .any e then s ||| 2 ^ e.on ||| acc.getD e.on 0 else s) 0)) acc).getD q 0) ∧
      ∃ o, l[k - acc.size]? = some o ∧ (l.foldl (fun acc o => acc.push (o.after.foldl (fun s e => if Region.binds .any e then s ||| 2 ^ e.on ||| acc.getD e.on 0 else s) 0)) acc).getD k 0 = o.after.foldl (fun s e => if Region.binds .any e then s ||| 2 ^ e.on ||| pre.getD e.on 0 else s) 0) ∧
      (∀ q, q < acc.size → (l.foldl (fun acc o => acc.push (o.after.foldl (fun s e => if Region.binds .any e then s ||| 2 ^ e.on ||| acc.getD e.on 0 else s) 0)) acc).getD q 0 = acc.getD q 0) := by
    intro l
    induction l with
    | nil => intro acc; exact ⟨fun k h1 h2 => absurd h2 (by simp; omega), fun q _ => rfl⟩
    | cons x r ih =>
      intro acc
      obtain ⟨g1, g2⟩ := ih (acc.push (x.after.foldl (fun s e => if Region.binds .any e then s ||| 2 ^ e.on ||| acc.getD e.on 0 else s) 0))
      simp only [List.foldl_cons]
      refine ⟨fun k h1 h2 => ?_, fun q hq => ?_⟩
      · by_cases hk : k = acc.size
        · subst hk
          refine ⟨acc, rfl, fun q hq => ?_, x, by simp, ?_⟩
          · rw [g2 q (by simp; omega)]
            simp [Array.getD_eq_getD_getElem?, Array.getElem?_push, Nat.ne_of_lt hq]
          · rw [g2 acc.size (by simp)]
            simp [Array.getD_eq_getD_getElem?]
        · obtain ⟨pre, p1, p2, o, p3, p4⟩ := g1 k (by simp; omega) (by simp at h2 ⊢; omega)
          refine ⟨pre, p1, p2, o, ?_, p4⟩
          rw [← p3]
          simp only [Array.size_push]
          rw [show k - acc.size = (k - (acc.size + 1)) + 1 by omega]
          rfl
      · rw [g2 q (by simp; omega)]
        simp [Array.getD_eq_getD_getElem?, Array.getElem?_push, Nat.ne_of_lt hq]
  have hfold : Region.before ops = ops.toList.foldl (fun acc o => acc.push (o.after.foldl (fun s e => if Region.binds .any e then s ||| 2 ^ e.on ||| acc.getD e.on 0 else s) 0)) #[] := by
    unfold Region.before
    rw [← Array.foldl_toList]
  obtain ⟨g1, _⟩ := hgen ops.toList #[]
  obtain ⟨pre, p1, p2, o, p3, p4⟩ := g1 j (by simp) (by simpa using hj)
  rw [← hfold] at p2 p4
  rw [p4] at hb
  have hsc : ∀ (l : List Edge) (s : Nat), (l.foldl (fun s e => if Region.binds .any e then s ||| 2 ^ e.on ||| pre.getD e.on 0 else s) s).testBit i = true →
      s.testBit i = true ∨ ∃ e ∈ l, Region.binds .any e = true ∧ (e.on = i ∨ (pre.getD e.on 0).testBit i = true) := by
    intro l
    induction l with
    | nil => intro s h; exact .inl h
    | cons e r ih =>
      intro s h
      rw [List.foldl_cons] at h
      rcases ih _ h with h' | ⟨e', he', hb', hh⟩
      · split at h'
        · rename_i hbind
          simp only [Nat.testBit_or, Bool.or_eq_true] at h'
          rcases h' with (h' | h') | h'
          · exact .inl h'
          · refine .inr ⟨e, List.mem_cons_self, hbind, .inl ?_⟩
            rw [Nat.testBit_two_pow] at h'
            simpa using h'
          · exact .inr ⟨e, List.mem_cons_self, hbind, .inr h'⟩
        · exact .inl h'
      · exact .inr ⟨e', List.mem_cons_of_mem _ he', hb', hh⟩
  rw [← Array.foldl_toList] at hb
  rcases hsc o.after.toList 0 hb with h' | ⟨e, he, hbind, hh⟩
  · simp at h'
  · refine ⟨o, e, by simpa using p3, Array.mem_toList_iff.1 he, hbind, ?_⟩
    rcases hh with hh | hh
    · exact .inl hh
    · have hlt : e.on < j := by
        rcases Nat.lt_or_ge e.on j with h1 | h1
        · exact h1
        · rw [Array.getD_eq_getD_getElem?, Array.getElem?_eq_none (by omega)] at hh
          simp at hh
      exact .inr ⟨hlt, by rw [← p2 e.on hlt]; exact hh⟩

/-- Who comes before one of D is in D. -/
theorem closed_before {D : Nat → Bool} (hcl : ∀ j o e, D j = true → ops[j]? = some o → e ∈ o.after → Region.binds .any e = true → D e.on = true) :
    ∀ j, j < ops.size → D j = true → ∀ i, ((Region.before ops).getD j 0).testBit i = true → D i = true := by
  intro j
  induction j using Nat.strongRecOn with
  | _ j ih =>
    intro hj hD i hb
    obtain ⟨o, e, ho, he, hbind, hh⟩ := before_edge ops j i hj hb
    have hDe := hcl j o e hD ho he hbind
    rcases hh with rfl | ⟨hlt, hb'⟩
    · exact hDe
    · exact ih e.on hlt (by omega) hDe i hb'

/-- .. likewise of one that is ready. -/
theorem ready_before {D : Nat → Bool} (hcl : ∀ j o e, D j = true → ops[j]? = some o → e ∈ o.after → Region.binds .any e = true → D e.on = true) {j : Nat} {o : Oper} (ho : ops[j]? = some o)
    (hr : ∀ e, e ∈ o.after → Region.binds .any e = true → D e.on = true) : ∀ i, ((Region.before ops).getD j 0).testBit i = true → D i = true := by
  intro i hb
  have hj : j < ops.size := (Array.getElem?_eq_some_iff.1 ho).1
  obtain ⟨o', e, ho', he, hbind, hh⟩ := before_edge ops j i hj hb
  obtain rfl : o = o' := Option.some.inj (ho.symm.trans ho')
  have hDe := hr e he hbind
  rcases hh with rfl | ⟨hlt, hb'⟩
  · exact hDe
  · exact closed_before hcl e.on (by omega) hDe i hb'

structure Facts (c : Ctx) (E : Nat → Env) (Hs : Nat → Hp) (R : Nat → LV) (tr : List Tr) (k : Nat) : Prop where
  lo : (tr.getD k default).lo = c.nx + (Hs k).new.length
  hi : (tr.getD k default).hi = c.nx + (Hs (k + 1)).new.length
  le : (Hs k).new.length ≤ (Hs (k + 1)).new.length
  frame : ∀ id, id < c.nx + (Hs k).new.length → ¬ ((tr.getD k default).md = true ∧ id ∈ (tr.getD k default).tch) → look c.H c.nx (Hs (k + 1)) id = look c.H c.nx (Hs k) id
  alive : ∀ id ∈ (tr.getD k default).tch, (look c.H c.nx (Hs k) id).isSome = true
  env : ∀ t, get (E (k + 1)) t = if (tr.getD k default).wr = some t then R k else get (E k) t
  keys : Keys c.H (Hs k) → Keys c.H (Hs (k + 1))

theorem Reg.facts (g : Reg P imT c nt ops E Hs R tr) (k : Nat) (hk : k < ops.size) : Facts c E Hs R tr k := by
  have ho : ops[k]? = some ops[k] := by simp [hk]
  rcases g.step k _ ho with ⟨x, hw, hx, hr, ht, he, hh⟩ | ⟨hw, hr, ht, he, hh⟩
  · obtain ⟨s1, s2⟩ := evOp_step hx
    refine ⟨by rw [ht], by rw [ht, hh], by rw [hh]; exact s1.len, fun id hid hn => ?_, fun id hid => ?_, fun t => ?_, fun hkk => ?_⟩
    · rw [hh]; exact s1.frame g.sound hid (by rw [ht] at hn; exact hn)
    · exact s2 rfl id (by rw [ht] at hid; exact hid)
    · rw [he, get_put, hr, ht]
    · rw [hh]; exact s1.keys g.sound hkk
  · refine ⟨by rw [ht], by rw [ht, hh], by rw [hh]; exact Nat.le_refl _, fun id hid hn => by rw [hh], fun id hid => ?_, fun t => ?_, fun hkk => by rw [hh]; exact hkk⟩
    · rw [ht] at hid; cases hid
    · rw [he, get_put, hr, ht]

theorem Facts.lt {k : Nat} (f : Facts c E Hs R tr k) {id : Nat} (hid : id ∈ (tr.getD k default).tch) : id < c.nx + (Hs k).new.length := by
  rcases Nat.lt_or_ge id (c.nx + (Hs k).new.length) with h | h
  · exact h
  · have := f.alive id hid; rw [look_new h] at this; cases this

theorem Reg.len_mono (g : Reg P imT c nt ops E Hs R tr) : ∀ k j, k ≤ j → j ≤ ops.size → (Hs k).new.length ≤ (Hs j).new.length := by
  intro k j hkj
  induction j with
  | zero => intro _; obtain rfl : k = 0 := (by omega); exact Nat.le_refl _
  | succ j ih =>
    intro hj
    by_cases e : k = j + 1
    · rw [e]; exact Nat.le_refl _
    · exact Nat.le_trans (ih (by omega) (by omega)) (g.facts j (by omega)).le

/-- What 'apartT' says. -/
theorem apartT_spec {a b : Tr} (h : apartT a b = true) : (∀ d, a.wr = some d → d ∉ b.rds ∧ b.wr ≠ some d) ∧ (∀ d, b.wr = some d → d ∉ a.rds) ∧
    (∀ x ∈ a.tch, (a.md = true ∨ b.md = true) → x ∉ b.tch) ∧ ∀ x ∈ b.tch, ¬ (a.lo ≤ x ∧ x < a.hi) := by
  unfold apartT at h
  simp only [Bool.and_eq_true] at h
  obtain ⟨⟨⟨h1, h2⟩, h3⟩, h4⟩ := h
  refine ⟨fun d hd => ?_, fun d hd => ?_, fun x hx hm hb => ?_, fun x hx hr => ?_⟩
  · rw [hd] at h1; simpa using h1
  · rw [hd] at h2; simpa using h2
  · have := List.all_eq_true.1 h3 x hx
    have hm' : (a.md || b.md) = true := by simpa using hm
    have hb' : b.tch.contains x = true := by simpa using hb
    rw [hm', hb'] at this
    cases this
  · have := List.all_eq_true.1 h4 x hx
    simp [hr.1, hr.2] at this

/-- One that may come up now sees what it sees in the text's order. -/
theorem ready_env (g : Reg P imT c nt ops E Hs R tr) {D : Nat → Bool} (hcl : ∀ j o e, D j = true → ops[j]? = some o → e ∈ o.after → Region.binds .any e = true → D e.on = true) {i : Nat} {o : Oper} (ho : ops[i]? = some o)
    (hr : ∀ e, e ∈ o.after → Region.binds .any e = true → D e.on = true) (hD : D i = false) (t : Nat) (ht : t ∈ (tr.getD i default).rds) : eD (E 0) R tr D ops.size t = get (E i) t := by
  have hi : i < ops.size := (Array.getElem?_eq_some_iff.1 ho).1
  have h1 : ∀ k, k ≤ i → eD (E 0) R tr D k t = get (E k) t := by
    intro k
    induction k with
    | zero => intro _; rfl
    | succ k ih =>
      intro hk
      rw [(g.facts k (by omega)).env t, eD]
      by_cases hw : (tr.getD k default).wr = some t
      · have hDk : D k = true := by
          cases hb : ((Region.before ops).getD i 0).testBit k with
          | true => exact ready_before hcl ho hr k hb
          | false => exact absurd ht ((apartT_spec (g.apart k i (by omega) hi hb)).1 t hw).1
        rw [if_pos ⟨hDk, hw⟩, if_pos hw]
      · rw [if_neg (fun e => hw e.2), if_neg hw]
        exact ih (by omega)
  have h2 : ∀ k, i ≤ k → k ≤ ops.size → eD (E 0) R tr D k t = get (E i) t := by
    intro k
    induction k with
    | zero => intro hk _; obtain rfl : i = 0 := (by omega); rfl
    | succ k ih =>
      intro hk hks
      by_cases e : i = k + 1
      · rw [← e]; exact h1 i (Nat.le_refl _)
      · rw [eD, if_neg, ih (by omega) (by omega)]
        rintro ⟨hDk, hw⟩
        by_cases e2 : k = i
        · subst e2; rw [hD] at hDk; cases hDk
        · cases hb : ((Region.before ops).getD k 0).testBit i with
          | true => rw [closed_before hcl k (by omega) hDk i hb] at hD; cases hD
          | false => exact (apartT_spec (g.apart i k (by omega) (by omega) hb)).2.1 t hw ht
  exact h2 ops.size (by omega) (Nat.le_refl _)

theorem ready_heap (g : Reg P imT c nt ops E Hs R tr) {D : Nat → Bool} (hcl : ∀ j o e, D j = true → ops[j]? = some o → e ∈ o.after → Region.binds .any e = true → D e.on = true) {i : Nat} {o : Oper} (ho : ops[i]? = some o)
    (hr : ∀ e, e ∈ o.after → Region.binds .any e = true → D e.on = true) (hD : D i = false) (id : Nat) (hid : id ∈ (tr.getD i default).tch) : lD c.H c.nx Hs tr D ops.size id = look c.H c.nx (Hs i) id := by
  have hi : i < ops.size := (Array.getElem?_eq_some_iff.1 ho).1
  have hidlt := (g.facts i hi).lt hid
  have h1 : ∀ k, k ≤ i → lD c.H c.nx Hs tr D k id = look c.H c.nx (Hs k) id := by
    intro k
    induction k with
    | zero => intro _; rfl
    | succ k ih =>
      intro hk
      have f := g.facts k (by omega)
      have hDk : (((tr.getD k default).md = true ∧ id ∈ (tr.getD k default).tch) ∨ ((tr.getD k default).lo ≤ id ∧ id < (tr.getD k default).hi)) → D k = true := fun hc => by
        cases hb : ((Region.before ops).getD i 0).testBit k with
        | true => exact ready_before hcl ho hr k hb
        | false =>
          have ha := apartT_spec (g.apart k i (by omega) hi hb)
          rcases hc with ⟨hm, ht⟩ | hc
          · exact absurd hid (ha.2.2.1 id ht (.inl hm))
          · exact absurd hc (ha.2.2.2 id hid)
      rw [lD]
      by_cases hc : ((tr.getD k default).md = true ∧ id ∈ (tr.getD k default).tch) ∨ ((tr.getD k default).lo ≤ id ∧ id < (tr.getD k default).hi)
      · rw [if_pos ⟨hDk hc, hc⟩]
      · rw [if_neg (fun e => hc e.2), ih (by omega)]
        rcases Nat.lt_or_ge id (c.nx + (Hs k).new.length) with h3 | h3
        · exact (f.frame id h3 fun e => hc (.inl e)).symm
        · rw [look_new h3, look_new]
          rw [f.lo, f.hi] at hc
          rcases Nat.lt_or_ge id (c.nx + (Hs (k + 1)).new.length) with h4 | h4
          · exact absurd (.inr ⟨h3, h4⟩) hc
          · exact h4
  have h2 : ∀ k, i ≤ k → k ≤ ops.size → lD c.H c.nx Hs tr D k id = look c.H c.nx (Hs i) id := by
    intro k
    induction k with
    | zero => intro hk _; obtain rfl : i = 0 := (by omega); rfl
    | succ k ih =>
      intro hk hks
      by_cases e : i = k + 1
      · rw [← e]; exact h1 i (Nat.le_refl _)
      · rw [lD, if_neg, ih (by omega) (by omega)]
        rintro ⟨hDk, hc⟩
        by_cases e2 : k = i
        · subst e2; rw [hD] at hDk; cases hDk
        · cases hb : ((Region.before ops).getD k 0).testBit i with
          | true => rw [closed_before hcl k (by omega) hDk i hb] at hD; cases hD
          | false =>
            have ha := apartT_spec (g.apart i k (by omega) (by omega) hb)
            rcases hc with ⟨hm, ht⟩ | hc
            · exact ha.2.2.1 id hid (.inr hm) ht
            · rw [(g.facts k (by omega)).lo] at hc
              have := g.len_mono i k (by omega) (by omega)
              omega
  exact h2 ops.size (by omega) (Nat.le_refl _)

/-- Behind one more. -/
theorem next_env (g : Reg P imT c nt ops E Hs R tr) {D D' : Nat → Bool} (hcl : ∀ j o e, D j = true → ops[j]? = some o → e ∈ o.after → Region.binds .any e = true → D e.on = true) {i : Nat} (hi : i < ops.size) (hD : D i = false) (hD' : ∀ k, D' k = if k = i then true else D k) (t : Nat) :
    eD (E 0) R tr D' ops.size t = if (tr.getD i default).wr = some t then R i else eD (E 0) R tr D ops.size t := by
  have h1 : ∀ k, k ≤ i → eD (E 0) R tr D' k t = eD (E 0) R tr D k t := by
    intro k
    induction k with
    | zero => intro _; rfl
    | succ k ih => intro hk; rw [eD, eD, ih (by omega), hD' k, if_neg (by omega : ¬ k = i)]
  have h2 : ∀ k, i < k → k ≤ ops.size → eD (E 0) R tr D' k t = if (tr.getD i default).wr = some t then R i else eD (E 0) R tr D k t := by
    intro k
    induction k with
    | zero => intro hk _; omega
    | succ k ih =>
      intro hk hks
      by_cases e : k = i
      · subst e
        rw [eD, h1 k (Nat.le_refl _), hD' k, if_pos rfl]
        by_cases hw : (tr.getD k default).wr = some t
        · rw [if_pos ⟨rfl, hw⟩, if_pos hw]
        · rw [if_neg (fun e => hw e.2), if_neg hw, eD, if_neg (fun e => hw e.2)]
      · rw [eD, hD' k, if_neg e, ih (by omega) (by omega), eD]
        by_cases hc : D k = true ∧ (tr.getD k default).wr = some t
        · rw [if_pos hc, if_pos hc, if_neg]
          intro hw
          cases hb : ((Region.before ops).getD k 0).testBit i with
          | true => rw [closed_before hcl k (by omega) hc.1 i hb] at hD; cases hD
          | false => exact ((apartT_spec (g.apart i k (by omega) (by omega) hb)).1 t hw).2 hc.2
        · rw [if_neg hc, if_neg hc]
  exact h2 ops.size hi (Nat.le_refl _)

theorem next_heap (g : Reg P imT c nt ops E Hs R tr) {D D' : Nat → Bool} (hcl : ∀ j o e, D j = true → ops[j]? = some o → e ∈ o.after → Region.binds .any e = true → D e.on = true) {i : Nat} (hi : i < ops.size) (hD : D i = false) (hD' : ∀ k, D' k = if k = i then true else D k) (id : Nat) :
    lD c.H c.nx Hs tr D' ops.size id = if ((tr.getD i default).md = true ∧ id ∈ (tr.getD i default).tch) ∨ ((tr.getD i default).lo ≤ id ∧ id < (tr.getD i default).hi) then look c.H c.nx (Hs (i + 1)) id else lD c.H c.nx Hs tr D ops.size id := by
  have h1 : ∀ k, k ≤ i → lD c.H c.nx Hs tr D' k id = lD c.H c.nx Hs tr D k id := by
    intro k
    induction k with
    | zero => intro _; rfl
    | succ k ih => intro hk; rw [lD, lD, ih (by omega), hD' k, if_neg (by omega : ¬ k = i)]
  have h2 : ∀ k, i < k → k ≤ ops.size → lD c.H c.nx Hs tr D' k id = if ((tr.getD i default).md = true ∧ id ∈ (tr.getD i default).tch) ∨ ((tr.getD i default).lo ≤ id ∧ id < (tr.getD i default).hi) then look c.H c.nx (Hs (i + 1)) id else lD c.H c.nx Hs tr D k id := by
    intro k
    induction k with
    | zero => intro hk _; omega
    | succ k ih =>
      intro hk hks
      by_cases e : k = i
      · subst e
        rw [lD, h1 k (Nat.le_refl _), hD' k, if_pos rfl]
        by_cases hw : ((tr.getD k default).md = true ∧ id ∈ (tr.getD k default).tch) ∨ ((tr.getD k default).lo ≤ id ∧ id < (tr.getD k default).hi)
        · rw [if_pos ⟨rfl, hw⟩, if_pos hw]
        · rw [if_neg (fun e => hw e.2), if_neg hw, lD, if_neg (fun e => hw e.2)]
      · rw [lD, hD' k, if_neg e, ih (by omega) (by omega), lD]
        by_cases hc : D k = true ∧ (((tr.getD k default).md = true ∧ id ∈ (tr.getD k default).tch) ∨ ((tr.getD k default).lo ≤ id ∧ id < (tr.getD k default).hi))
        · rw [if_pos hc, if_pos hc, if_neg]
          intro hw
          cases hb : ((Region.before ops).getD k 0).testBit i with
          | true => rw [closed_before hcl k (by omega) hc.1 i hb] at hD; cases hD
          | false =>
            have ha := apartT_spec (g.apart i k (by omega) (by omega) hb)
            have fi := g.facts i hi
            have fk := g.facts k (by omega)
            have hmono := g.len_mono (i + 1) k (by omega) (by omega)
            rcases hw with ⟨hm, ht⟩ | hw <;> rcases hc.2 with ⟨hm2, ht2⟩ | hc2
            · exact ha.2.2.1 id ht (.inl hm) ht2
            · have := fi.lt ht
              rw [fk.lo] at hc2
              have := g.len_mono i k (by omega) (by omega)
              omega
            · exact ha.2.2.2 id ht2 hw
            · rw [fi.hi] at hw; rw [fk.lo] at hc2; omega
        · rw [if_neg hc, if_neg hc]
  exact h2 ops.size hi (Nat.le_refl _)

end
end Go.Sx
