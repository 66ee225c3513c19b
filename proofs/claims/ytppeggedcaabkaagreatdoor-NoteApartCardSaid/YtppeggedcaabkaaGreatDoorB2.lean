/- What the proof of the claim leans on, part 2 of 6: the value machine, the functions as it has them, their specifications. No condition. -/
import Derived.Test.YtppeggedcaabkaaGreatDoorB1
import Derived.Orders
import Derived.LoopN
set_option linter.all false
set_option linter.unnecessarySimpa false
set_option linter.unusedSimpArgs false
set_option linter.unusedVariables false
set_option linter.constructorNameAsVariable false
section
namespace Go.Sx
open Go

/-- One operation of a run that is told. -/
def StepT (c : Ctx) (o : IROper) (e : Env) (h : Hp) (r : LV) (t : Tr) (e' : Env) (h' : Hp) : Prop :=
  (∃ x, wants e o.guard = some true ∧ evOp c true e h o.op = some x ∧ r = x.v ∧ t = ⟨x.tch, x.md, c.nx + h.new.length, c.nx + x.h.new.length, o.op.slots ++ gslot o.guard, o.dst⟩ ∧ e' = putD e o.dst x.v ∧ h' = x.h) ∨
  (wants e o.guard = some false ∧ r = .undef ∧ t = ⟨[], false, c.nx + h.new.length, c.nx + h.new.length, gslot o.guard, o.dst⟩ ∧ e' = putD e o.dst .undef ∧ h' = h)

theorem runT_seq {c : Ctx} : ∀ (irs : List IROper) (env : Env) (h : Hp) (tr : List Tr) (env' : Env) (h' : Hp), runOpsT c irs env h = some (tr, env', h') →
    ∃ (E : Nat → Env) (Hs : Nat → Hp) (R : Nat → LV), E 0 = env ∧ Hs 0 = h ∧ E irs.length = env' ∧ Hs irs.length = h' ∧ tr.length = irs.length ∧
      ∀ i (hi : i < irs.length), StepT c irs[i] (E i) (Hs i) (R i) (tr.getD i default) (E (i + 1)) (Hs (i + 1))
  | [], env, h, tr, env', h', hr => by
    simp only [runOpsT, Option.some.injEq, Prod.mk.injEq] at hr
    obtain ⟨rfl, rfl, rfl⟩ := hr
    exact ⟨fun _ => env, fun _ => h, fun _ => .junk, rfl, rfl, rfl, rfl, rfl, fun i hi => absurd hi (by simp)⟩
  | o :: irs, env, h, tr, env', h', hr => by
    have key : ∀ (e1 : Env) (h1 : Hp) (tr1 : List Tr) (t : Tr) (r : LV), runOpsT c irs e1 h1 = some (tr1, env', h') → tr = t :: tr1 → StepT c o env h r t e1 h1 →
        ∃ (E : Nat → Env) (Hs : Nat → Hp) (R : Nat → LV), E 0 = env ∧ Hs 0 = h ∧ E (o :: irs).length = env' ∧ Hs (o :: irs).length = h' ∧ tr.length = (o :: irs).length ∧
          ∀ i (hi : i < (o :: irs).length), StepT c (o :: irs)[i] (E i) (Hs i) (R i) (tr.getD i default) (E (i + 1)) (Hs (i + 1)) := by
      intro e1 h1 tr1 t r hrun htr hst
      obtain ⟨E, Hs, R, a1, a2, a3, a4, a5, a6⟩ := runT_seq irs e1 h1 tr1 env' h' hrun
      refine ⟨fun i => match i with
        | 0 => env
        | i + 1 => E i, fun i => match i with
        | 0 => h
        | i + 1 => Hs i, fun i => match i with
        | 0 => r
        | i + 1 => R i, rfl, rfl, a3, a4, by rw [htr]; simp [a5], fun i hi => ?_⟩
      subst htr
      cases i with
      | zero => simp only [List.getElem_cons_zero, List.getD_cons_zero, a1, a2]; exact hst
      | succ i => simpa using a6 i (by simpa using hi)
    simp only [runOpsT] at hr
    split at hr
    · rename_i hw
      split at hr
      case h_2 => cases hr
      rename_i x hx
      split at hr
      case h_2 => cases hr
      rename_i tr1 e2 h2 hrun
      simp only [Option.some.injEq, Prod.mk.injEq] at hr
      obtain ⟨rfl, rfl, rfl⟩ := hr
      exact key _ _ tr1 _ x.v hrun rfl (.inl ⟨x, hw, hx, rfl, rfl, rfl, rfl⟩)
    · rename_i hw
      split at hr
      case h_2 => cases hr
      rename_i tr1 e2 h2 hrun
      simp only [Option.some.injEq, Prod.mk.injEq] at hr
      obtain ⟨rfl, rfl, rfl⟩ := hr
      exact key _ _ tr1 _ .undef hrun rfl (.inr ⟨hw, rfl, rfl, rfl, rfl⟩)
    · cases hr

/-- What a slot holds when those of 'D' have come up. -/
def eD (E0 : Env) (R : Nat → LV) (tr : List Tr) (D : Nat → Bool) : Nat → Nat → LV
  | 0, t => get E0 t
  | k + 1, t => if D k = true ∧ (tr.getD k default).wr = some t then R k else eD E0 R tr D k t

/-- What an object is then. -/
def lD (H : Heap) (nx : Nat) (Hs : Nat → Hp) (tr : List Tr) (D : Nat → Bool) : Nat → Nat → Option Obj
  | 0, id => look H nx (Hs 0) id
  | k + 1, id => if D k = true ∧ (((tr.getD k default).md = true ∧ id ∈ (tr.getD k default).tch) ∨ ((tr.getD k default).lo ≤ id ∧ id < (tr.getD k default).hi)) then look H nx (Hs (k + 1)) id else lD H nx Hs tr D k id

section
variable {P : Program} {imT : An} {c : Ctx} {I0 : Nat → Prop} {μ0 : Mu} {w0 : World} {nt : Nat} {ops : Array Oper}

/-- All that is known of a region and of its run in the text's order. -/
structure Reg (P : Program) (imT : An) (c : Ctx) (nt : Nat) (ops : Array Oper) (E : Nat → Env) (Hs : Nat → Hp) (R : Nat → LV) (tr : List Tr) : Prop where
  sound : OSound P c.G c.O
  step : ∀ i o, ops[i]? = some o → StepT c (coper P imT nt ops o) (E i) (Hs i) (R i) (tr.getD i default) (E (i + 1)) (Hs (i + 1))
  edges : ∀ i o e, ops[i]? = some o → e ∈ o.after → Region.binds .any e = true → e.on < i
  apart : ∀ i j, i < j → j < ops.size → ((Region.before ops).getD j 0).testBit i = false → apartT (tr.getD i default) (tr.getD j default) = true

variable {E : Nat → Env} {Hs : Nat → Hp} {R : Nat → LV} {tr : List Tr}

/-- What holds when those of 'D' have come up. -/
structure DInv (c : Ctx) (I0 : Nat → Prop) (μ0 : Mu) (w0 : World) (nt : Nat) (ops : Array Oper) (E : Nat → Env) (Hs : Nat → Hp) (R : Nat → LV) (tr : List Tr) (D : Nat → Bool) (a : Act) (w : World) (I : Nat → Prop) (μ : Mu) : Prop where
  env : ∀ t, VR I μ w (eD (E 0) R tr D ops.size t) (a.tmps.getD t undef)
  size : nt ≤ a.tmps.size
  defers : a.defers = []
  goes : Goes I0 I μ0 μ w0 w c.H (lD c.H c.nx Hs tr D ops.size) (fun _ => True) (fun id => (c.nx ≤ id ∧ id < c.nx + (Hs 0).new.length) ∨ ∃ k, k < ops.size ∧ D k = true ∧ (tr.getD k default).lo ≤ id ∧ id < (tr.getD k default).hi)
  none : ∀ id, c.nx + (Hs 0).new.length ≤ id → (∀ k, k < ops.size → D k = true → ¬ ((tr.getD k default).lo ≤ id ∧ id < (tr.getD k default).hi)) → μ id = none
  glob : GOK c.G I w
  closed : ∀ j o e, D j = true → ops[j]? = some o → e ∈ o.after → Region.binds .any e = true → D e.on = true

theorem before_size (ops : Array Oper) : (Region.before ops).size = ops.size := by
  unfold Region.before
  have : ∀ (l : List Oper) (acc : Array Nat), (l.foldl (fun acc o => acc.push (o.after.foldl (fun s e => if Region.binds .any e then s ||| 2 ^ e.on ||| acc.getD e.on 0 else s) 0)) acc).size = acc.size + l.length := by
    intro l
    induction l with
    | nil => intro acc; rfl
    | cons x r ih => intro acc; rw [List.foldl_cons, ih]; simp; omega
  rw [← Array.foldl_toList, this]
  simp

/-- Who comes before comes by an edge, or before one who does. -/
theorem before_edge (ops : Array Oper) : ∀ j i, j < ops.size → ((Region.before ops).getD j 0).testBit i = true →
    ∃ o e, ops[j]? = some o ∧ e ∈ o.after ∧ Region.binds .any e = true ∧ (e.on = i ∨ (e.on < j ∧ ((Region.before ops).getD e.on 0).testBit i = true)) := by
  intro j i hj hb
  have hgen : ∀ (l : List Oper) (acc : Array Nat), (∀ k, acc.size ≤ k → k < acc.size + l.length → ∃ (pre : Array Nat), pre.size = k ∧ (∀ q, q < k → pre.getD q 0 = (l.foldl (fun acc o => acc.push (o.after.foldl (fun s e => if Region.binds .any e then s ||| 2 ^ e.on ||| acc.getD e.on 0 else s) 0)) acc).getD q 0) ∧
      ∃ o, l[k - acc.size]? = some o ∧ (l.foldl (fun acc o => acc.push (o.after.foldl (fun s e => if Region.binds .any e then s ||| 2 ^ e.on ||| acc.getD e.on 0 else s) 0)) acc).getD k 0 = o.after.foldl (fun s e => if Region.binds .any e then s ||| 2 ^ e.on ||| pre.getD e.on 0 else s) 0) ∧
      (∀ q, q < acc.size → (l.foldl (fun acc o => acc.push (o.after.foldl (fun s e => if Region.binds .any e then s ||| 2 ^ e.on ||| acc.getD e.on 0 else s) 0)) acc).getD q 0 = acc.getD q 0) := by
    intro l
    induction l with
    | nil => intro acc; exact ⟨fun k h1 h2 => absurd h2 (by simp; omega), fun q _ => rfl⟩
    | cons x r ih =>
      intro acc
      obtain ⟨g1, g2⟩ := ih (acc.push (x.after.foldl (fun s e => if Region.binds .any e then s ||| 2 ^ e.on ||| acc.getD e.on 0 else s) 0))
      simp only [List.foldl_cons]
      refine ⟨fun k h1 h2 => ?_, fun q hq => ?_⟩
      · by_cases hk : k = acc.size
        · subst hk
          refine ⟨acc, rfl, fun q hq => ?_, x, by simp, ?_⟩
          · rw [g2 q (by simp; omega)]
            simp [Array.getD_eq_getD_getElem?, Array.getElem?_push, Nat.ne_of_lt hq]
          · rw [g2 acc.size (by simp)]
            simp [Array.getD_eq_getD_getElem?]
        · obtain ⟨pre, p1, p2, o, p3, p4⟩ := g1 k (by simp; omega) (by simp at h2 ⊢; omega)
          refine ⟨pre, p1, p2, o, ?_, p4⟩
          rw [← p3]
          simp only [Array.size_push]
          rw [show k - acc.size = (k - (acc.size + 1)) + 1 by omega]
          rfl
      · rw [g2 q (by simp; omega)]
        simp [Array.getD_eq_getD_getElem?, Array.getElem?_push, Nat.ne_of_lt hq]
  have hfold : Region.before ops = ops.toList.foldl (fun acc o => acc.push (o.after.foldl (fun s e => if Region.binds .any e then s ||| 2 ^ e.on ||| acc.getD e.on 0 else s) 0)) #[] := by
    unfold Region.before
    rw [← Array.foldl_toList]
  obtain ⟨g1, _⟩ := hgen ops.toList #[]
  obtain ⟨pre, p1, p2, o, p3, p4⟩ := g1 j (by simp) (by simpa using hj)
  rw [← hfold] at p2 p4
  rw [p4] at hb
  have hsc : ∀ (l : List Edge) (s : Nat), (l.foldl (fun s e => if Region.binds .any e then s ||| 2 ^ e.on ||| pre.getD e.on 0 else s) s).testBit i = true →
      s.testBit i = true ∨ ∃ e ∈ l, Region.binds .any e = true ∧ (e.on = i ∨ (pre.getD e.on 0).testBit i = true) := by
    intro l
    induction l with
    | nil => intro s h; exact .inl h
    | cons e r ih =>
      intro s h
      rw [List.foldl_cons] at h
      rcases ih _ h with h' | ⟨e', he', hb', hh⟩
      · split at h'
        · rename_i hbind
          simp only [Nat.testBit_or, Bool.or_eq_true] at h'
          rcases h' with (h' | h') | h'
          · exact .inl h'
          · refine .inr ⟨e, List.mem_cons_self, hbind, .inl ?_⟩
            rw [Nat.testBit_two_pow] at h'
            simpa using h'
          · exact .inr ⟨e, List.mem_cons_self, hbind, .inr h'⟩
        · exact .inl h'
      · exact .inr ⟨e', List.mem_cons_of_mem _ he', hb', hh⟩
  rw [← Array.foldl_toList] at hb
  rcases hsc o.after.toList 0 hb with h' | ⟨e, he, hbind, hh⟩
  · simp at h'
  · refine ⟨o, e, by simpa using p3, Array.mem_toList_iff.1 he, hbind, ?_⟩
    rcases hh with hh | hh
    · exact .inl hh
    · have hlt : e.on < j := by
        rcases Nat.lt_or_ge e.on j with h1 | h1
        · exact h1
        · rw [Array.getD_eq_getD_getElem?, Array.getElem?_eq_none (by omega)] at hh
          simp at hh
      exact .inr ⟨hlt, by rw [← p2 e.on hlt]; exact hh⟩

/-- Who comes before one of D is in D. -/
theorem closed_before {D : Nat → Bool} (hcl : ∀ j o e, D j = true → ops[j]? = some o → e ∈ o.after → Region.binds .any e = true → D e.on = true) :
    ∀ j, j < ops.size → D j = true → ∀ i, ((Region.before ops).getD j 0).testBit i = true → D i = true := by
  intro j
  induction j using Nat.strongRecOn with
  | _ j ih =>
    intro hj hD i hb
    obtain ⟨o, e, ho, he, hbind, hh⟩ := before_edge ops j i hj hb
    have hDe := hcl j o e hD ho he hbind
    rcases hh with rfl | ⟨hlt, hb'⟩
    · exact hDe
    · exact ih e.on hlt (by omega) hDe i hb'

/-- .. likewise of one that is ready. -/
theorem ready_before {D : Nat → Bool} (hcl : ∀ j o e, D j = true → ops[j]? = some o → e ∈ o.after → Region.binds .any e = true → D e.on = true) {j : Nat} {o : Oper} (ho : ops[j]? = some o)
    (hr : ∀ e, e ∈ o.after → Region.binds .any e = true → D e.on = true) : ∀ i, ((Region.before ops).getD j 0).testBit i = true → D i = true := by
  intro i hb
  have hj : j < ops.size := (Array.getElem?_eq_some_iff.1 ho).1
  obtain ⟨o', e, ho', he, hbind, hh⟩ := before_edge ops j i hj hb
  obtain rfl : o = o' := Option.some.inj (ho.symm.trans ho')
  have hDe := hr e he hbind
  rcases hh with rfl | ⟨hlt, hb'⟩
  · exact hDe
  · exact closed_before hcl e.on (by omega) hDe i hb'

structure Facts (c : Ctx) (E : Nat → Env) (Hs : Nat → Hp) (R : Nat → LV) (tr : List Tr) (k : Nat) : Prop where
  lo : (tr.getD k default).lo = c.nx + (Hs k).new.length
  hi : (tr.getD k default).hi = c.nx + (Hs (k + 1)).new.length
  le : (Hs k).new.length ≤ (Hs (k + 1)).new.length
  frame : ∀ id, id < c.nx + (Hs k).new.length → ¬ ((tr.getD k default).md = true ∧ id ∈ (tr.getD k default).tch) → look c.H c.nx (Hs (k + 1)) id = look c.H c.nx (Hs k) id
  alive : ∀ id ∈ (tr.getD k default).tch, (look c.H c.nx (Hs k) id).isSome = true
  env : ∀ t, get (E (k + 1)) t = if (tr.getD k default).wr = some t then R k else get (E k) t
  keys : Keys c.H (Hs k) → Keys c.H (Hs (k + 1))

theorem Reg.facts (g : Reg P imT c nt ops E Hs R tr) (k : Nat) (hk : k < ops.size) : Facts c E Hs R tr k := by
  have ho : ops[k]? = some ops[k] := by simp [hk]
  rcases g.step k _ ho with ⟨x, hw, hx, hr, ht, he, hh⟩ | ⟨hw, hr, ht, he, hh⟩
  · obtain ⟨s1, s2⟩ := evOp_step hx
    refine ⟨by rw [ht], by rw [ht, hh], by rw [hh]; exact s1.len, fun id hid hn => ?_, fun id hid => ?_, fun t => ?_, fun hkk => ?_⟩
    · rw [hh]; exact s1.frame g.sound hid (by rw [ht] at hn; exact hn)
    · exact s2 rfl id (by rw [ht] at hid; exact hid)
    · rw [he, get_put, hr, ht]
    · rw [hh]; exact s1.keys g.sound hkk
  · refine ⟨by rw [ht], by rw [ht, hh], by rw [hh]; exact Nat.le_refl _, fun id hid hn => by rw [hh], fun id hid => ?_, fun t => ?_, fun hkk => by rw [hh]; exact hkk⟩
    · rw [ht] at hid; cases hid
    · rw [he, get_put, hr, ht]

theorem Facts.lt {k : Nat} (f : Facts c E Hs R tr k) {id : Nat} (hid : id ∈ (tr.getD k default).tch) : id < c.nx + (Hs k).new.length := by
  rcases Nat.lt_or_ge id (c.nx + (Hs k).new.length) with h | h
  · exact h
  · have := f.alive id hid; rw [look_new h] at this; cases this

theorem Reg.len_mono (g : Reg P imT c nt ops E Hs R tr) : ∀ k j, k ≤ j → j ≤ ops.size → (Hs k).new.length ≤ (Hs j).new.length := by
  intro k j hkj
  induction j with
  | zero => intro _; obtain rfl : k = 0 := (by omega); exact Nat.le_refl _
  | succ j ih =>
    intro hj
    by_cases e : k = j + 1
    · rw [e]; exact Nat.le_refl _
    · exact Nat.le_trans (ih (by omega) (by omega)) (g.facts j (by omega)).le

/-- What 'apartT' says. -/
theorem apartT_spec {a b : Tr} (h : apartT a b = true) : (∀ d, a.wr = some d → d ∉ b.rds ∧ b.wr ≠ some d) ∧ (∀ d, b.wr = some d → d ∉ a.rds) ∧
    (∀ x ∈ a.tch, (a.md = true ∨ b.md = true) → x ∉ b.tch) ∧ ∀ x ∈ b.tch, ¬ (a.lo ≤ x ∧ x < a.hi) := by
  unfold apartT at h
  simp only [Bool.and_eq_true] at h
  obtain ⟨⟨⟨h1, h2⟩, h3⟩, h4⟩ := h
  refine ⟨fun d hd => ?_, fun d hd => ?_, fun x hx hm hb => ?_, fun x hx hr => ?_⟩
  · rw [hd] at h1; simpa using h1
  · rw [hd] at h2; simpa using h2
  · have := List.all_eq_true.1 h3 x hx
    have hm' : (a.md || b.md) = true := by simpa using hm
    have hb' : b.tch.contains x = true := by simpa using hb
    rw [hm', hb'] at this
    cases this
  · have := List.all_eq_true.1 h4 x hx
    simp [hr.1, hr.2] at this

/-- One that may come up now sees what it sees in the text's order. -/
theorem ready_env (g : Reg P imT c nt ops E Hs R tr) {D : Nat → Bool} (hcl : ∀ j o e, D j = true → ops[j]? = some o → e ∈ o.after → Region.binds .any e = true → D e.on = true) {i : Nat} {o : Oper} (ho : ops[i]? = some o)
    (hr : ∀ e, e ∈ o.after → Region.binds .any e = true → D e.on = true) (hD : D i = false) (t : Nat) (ht : t ∈ (tr.getD i default).rds) : eD (E 0) R tr D ops.size t = get (E i) t := by
  have hi : i < ops.size := (Array.getElem?_eq_some_iff.1 ho).1
  have h1 : ∀ k, k ≤ i → eD (E 0) R tr D k t = get (E k) t := by
    intro k
    induction k with
    | zero => intro _; rfl
    | succ k ih =>
      intro hk
      rw [(g.facts k (by omega)).env t, eD]
      by_cases hw : (tr.getD k default).wr = some t
      · have hDk : D k = true := by
          cases hb : ((Region.before ops).getD i 0).testBit k with
          | true => exact ready_before hcl ho hr k hb
          | false => exact absurd ht ((apartT_spec (g.apart k i (by omega) hi hb)).1 t hw).1
        rw [if_pos ⟨hDk, hw⟩, if_pos hw]
      · rw [if_neg (fun e => hw e.2), if_neg hw]
        exact ih (by omega)
  have h2 : ∀ k, i ≤ k → k ≤ ops.size → eD (E 0) R tr D k t = get (E i) t := by
    intro k
    induction k with
    | zero => intro hk _; obtain rfl : i = 0 := (by omega); rfl
    | succ k ih =>
      intro hk hks
      by_cases e : i = k + 1
      · rw [← e]; exact h1 i (Nat.le_refl _)
      · rw [eD, if_neg, ih (by omega) (by omega)]
        rintro ⟨hDk, hw⟩
        by_cases e2 : k = i
        · subst e2; rw [hD] at hDk; cases hDk
        · cases hb : ((Region.before ops).getD k 0).testBit i with
          | true => rw [closed_before hcl k (by omega) hDk i hb] at hD; cases hD
          | false => exact (apartT_spec (g.apart i k (by omega) (by omega) hb)).2.1 t hw ht
  exact h2 ops.size (by omega) (Nat.le_refl _)

theorem ready_heap (g : Reg P imT c nt ops E Hs R tr) {D : Nat → Bool} (hcl : ∀ j o e, D j = true → ops[j]? = some o → e ∈ o.after → Region.binds .any e = true → D e.on = true) {i : Nat} {o : Oper} (ho : ops[i]? = some o)
    (hr : ∀ e, e ∈ o.after → Region.binds .any e = true → D e.on = true) (hD : D i = false) (id : Nat) (hid : id ∈ (tr.getD i default).tch) : lD c.H c.nx Hs tr D ops.size id = look c.H c.nx (Hs i) id := by
  have hi : i < ops.size := (Array.getElem?_eq_some_iff.1 ho).1
  have hidlt := (g.facts i hi).lt hid
  have h1 : ∀ k, k ≤ i → lD c.H c.nx Hs tr D k id = look c.H c.nx (Hs k) id := by
    intro k
    induction k with
    | zero => intro _; rfl
    | succ k ih =>
      intro hk
      have f := g.facts k (by omega)
      have hDk : (((tr.getD k default).md = true ∧ id ∈ (tr.getD k default).tch) ∨ ((tr.getD k default).lo ≤ id ∧ id < (tr.getD k default).hi)) → D k = true := fun hc => by
        cases hb : ((Region.before ops).getD i 0).testBit k with
        | true => exact ready_before hcl ho hr k hb
        | false =>
          have ha := apartT_spec (g.apart k i (by omega) hi hb)
          rcases hc with ⟨hm, ht⟩ | hc
          · exact absurd hid (ha.2.2.1 id ht (.inl hm))
          · exact absurd hc (ha.2.2.2 id hid)
      rw [lD]
      by_cases hc : ((tr.getD k default).md = true ∧ id ∈ (tr.getD k default).tch) ∨ ((tr.getD k default).lo ≤ id ∧ id < (tr.getD k default).hi)
      · rw [if_pos ⟨hDk hc, hc⟩]
      · rw [if_neg (fun e => hc e.2), ih (by omega)]
        rcases Nat.lt_or_ge id (c.nx + (Hs k).new.length) with h3 | h3
        · exact (f.frame id h3 fun e => hc (.inl e)).symm
        · rw [look_new h3, look_new]
          rw [f.lo, f.hi] at hc
          rcases Nat.lt_or_ge id (c.nx + (Hs (k + 1)).new.length) with h4 | h4
          · exact absurd (.inr ⟨h3, h4⟩) hc
          · exact h4
  have h2 : ∀ k, i ≤ k → k ≤ ops.size → lD c.H c.nx Hs tr D k id = look c.H c.nx (Hs i) id := by
    intro k
    induction k with
    | zero => intro hk _; obtain rfl : i = 0 := (by omega); rfl
    | succ k ih =>
      intro hk hks
      by_cases e : i = k + 1
      · rw [← e]; exact h1 i (Nat.le_refl _)
      · rw [lD, if_neg, ih (by omega) (by omega)]
        rintro ⟨hDk, hc⟩
        by_cases e2 : k = i
        · subst e2; rw [hD] at hDk; cases hDk
        · cases hb : ((Region.before ops).getD k 0).testBit i with
          | true => rw [closed_before hcl k (by omega) hDk i hb] at hD; cases hD
          | false =>
            have ha := apartT_spec (g.apart i k (by omega) (by omega) hb)
            rcases hc with ⟨hm, ht⟩ | hc
            · exact ha.2.2.1 id hid (.inr hm) ht
            · rw [(g.facts k (by omega)).lo] at hc
              have := g.len_mono i k (by omega) (by omega)
              omega
  exact h2 ops.size (by omega) (Nat.le_refl _)

/-- Behind one more. -/
theorem next_env (g : Reg P imT c nt ops E Hs R tr) {D D' : Nat → Bool} (hcl : ∀ j o e, D j = true → ops[j]? = some o → e ∈ o.after → Region.binds .any e = true → D e.on = true) {i : Nat} (hi : i < ops.size) (hD : D i = false) (hD' : ∀ k, D' k = if k = i then true else D k) (t : Nat) :
    eD (E 0) R tr D' ops.size t = if (tr.getD i default).wr = some t then R i else eD (E 0) R tr D ops.size t := by
  have h1 : ∀ k, k ≤ i → eD (E 0) R tr D' k t = eD (E 0) R tr D k t := by
    intro k
    induction k with
    | zero => intro _; rfl
    | succ k ih => intro hk; rw [eD, eD, ih (by omega), hD' k, if_neg (by omega : ¬ k = i)]
  have h2 : ∀ k, i < k → k ≤ ops.size → eD (E 0) R tr D' k t = if (tr.getD i default).wr = some t then R i else eD (E 0) R tr D k t := by
    intro k
    induction k with
    | zero => intro hk _; omega
    | succ k ih =>
      intro hk hks
      by_cases e : k = i
      · subst e
        rw [eD, h1 k (Nat.le_refl _), hD' k, if_pos rfl]
        by_cases hw : (tr.getD k default).wr = some t
        · rw [if_pos ⟨rfl, hw⟩, if_pos hw]
        · rw [if_neg (fun e => hw e.2), if_neg hw, eD, if_neg (fun e => hw e.2)]
      · rw [eD, hD' k, if_neg e, ih (by omega) (by omega), eD]
        by_cases hc : D k = true ∧ (tr.getD k default).wr = some t
        · rw [if_pos hc, if_pos hc, if_neg]
          intro hw
          cases hb : ((Region.before ops).getD k 0).testBit i with
          | true => rw [closed_before hcl k (by omega) hc.1 i hb] at hD; cases hD
          | false => exact ((apartT_spec (g.apart i k (by omega) (by omega) hb)).1 t hw).2 hc.2
        · rw [if_neg hc, if_neg hc]
  exact h2 ops.size hi (Nat.le_refl _)

theorem next_heap (g : Reg P imT c nt ops E Hs R tr) {D D' : Nat → Bool} (hcl : ∀ j o e, D j = true → ops[j]? = some o → e ∈ o.after → Region.binds .any e = true → D e.on = true) {i : Nat} (hi : i < ops.size) (hD : D i = false) (hD' : ∀ k, D' k = if k = i then true else D k) (id : Nat) :
    lD c.H c.nx Hs tr D' ops.size id = if ((tr.getD i default).md = true ∧ id ∈ (tr.getD i default).tch) ∨ ((tr.getD i default).lo ≤ id ∧ id < (tr.getD i default).hi) then look c.H c.nx (Hs (i + 1)) id else lD c.H c.nx Hs tr D ops.size id := by
  have h1 : ∀ k, k ≤ i → lD c.H c.nx Hs tr D' k id = lD c.H c.nx Hs tr D k id := by
    intro k
    induction k with
    | zero => intro _; rfl
    | succ k ih => intro hk; rw [lD, lD, ih (by omega), hD' k, if_neg (by omega : ¬ k = i)]
  have h2 : ∀ k, i < k → k ≤ ops.size → lD c.H c.nx Hs tr D' k id = if ((tr.getD i default).md = true ∧ id ∈ (tr.getD i default).tch) ∨ ((tr.getD i default).lo ≤ id ∧ id < (tr.getD i default).hi) then look c.H c.nx (Hs (i + 1)) id else lD c.H c.nx Hs tr D k id := by
    intro k
    induction k with
    | zero => intro hk _; omega
    | succ k ih =>
      intro hk hks
      by_cases e : k = i
      · subst e
        rw [lD, h1 k (Nat.le_refl _), hD' k, if_pos rfl]
        by_cases hw : ((tr.getD k default).md = true ∧ id ∈ (tr.getD k default).tch) ∨ ((tr.getD k default).lo ≤ id ∧ id < (tr.getD k default).hi)
        · rw [if_pos ⟨rfl, hw⟩, if_pos hw]
        · rw [if_neg (fun e => hw e.2), if_neg hw, lD, if_neg (fun e => hw e.2)]
      · rw [lD, hD' k, if_neg e, ih (by omega) (by omega), lD]
        by_cases hc : D k = true ∧ (((tr.getD k default).md = true ∧ id ∈ (tr.getD k default).tch) ∨ ((tr.getD k default).lo ≤ id ∧ id < (tr.getD k default).hi))
        · rw [if_pos hc, if_pos hc, if_neg]
          intro hw
          cases hb : ((Region.before ops).getD k 0).testBit i with
          | true => rw [closed_before hcl k (by omega) hc.1 i hb] at hD; cases hD
          | false =>
            have ha := apartT_spec (g.apart i k (by omega) (by omega) hb)
            have fi := g.facts i hi
            have fk := g.facts k (by omega)
            have hmono := g.len_mono (i + 1) k (by omega) (by omega)
            rcases hw with ⟨hm, ht⟩ | hw <;> rcases hc.2 with ⟨hm2, ht2⟩ | hc2
            · exact ha.2.2.1 id ht (.inl hm) ht2
            · have := fi.lt ht
              rw [fk.lo] at hc2
              have := g.len_mono i k (by omega) (by omega)
              omega
            · exact ha.2.2.2 id ht2 hw
            · rw [fi.hi] at hw; rw [fk.lo] at hc2; omega
        · rw [if_neg hc, if_neg hc]
  exact h2 ops.size hi (Nat.le_refl _)

end
end Go.Sx
end

section
namespace Go.Sx
open Go

theorem get_keep {live : List Nat} {env : Env} {t : Nat} : get (keep live env) t = if t ∈ live then get env t else .junk := by
  unfold keep
  induction live with
  | nil => rfl
  | cons x r ih =>
    simp only [List.map_cons, get, List.mem_cons]
    by_cases e : t = x
    · rw [if_pos e, if_pos (.inl e), e]
    · rw [if_neg e, ih]
      by_cases h : t ∈ r
      · rw [if_pos h, if_pos (.inr h)]
      · rw [if_neg h, if_neg (fun h' => h'.elim e h)]

section
variable {P : Program} {imT : An} {c : Ctx} {I0 : Nat → Prop} {μ0 : Mu} {w0 : World} {nt : Nat} {ops : Array Oper}
variable {E : Nat → Env} {Hs : Nat → Hp} {R : Nat → LV} {tr : List Tr}

theorem DInv.hr {D : Nat → Bool} {a : Act} {w : World} {I : Nat → Prop} {μ : Mu} (d : DInv c I0 μ0 w0 nt ops E Hs R tr D a w I μ) : HR I μ w (fun _ => True) (lD c.H c.nx Hs tr D ops.size) := d.goes.hr.sub fun _ _ => ⟨.inl trivial, rfl⟩

theorem draw_step (g : Reg P imT c nt ops E Hs R tr) {Q : Exit → Act → World → Prop} {D D' : Nat → Bool} {a : Act} {w : World} {I : Nat → Prop} {μ : Mu} (d : DInv c I0 μ0 w0 nt ops E Hs R tr D a w I μ) {i : Nat} {o : Oper} (ho : ops[i]? = some o)
    (hr : ∀ e, e ∈ o.after → Region.binds .any e = true → D e.on = true) (hD : D i = false) (hD' : ∀ k, D' k = if k = i then true else D k) {K : Act → World → Prop} (hK : ∀ a' w' I' μ', DInv c I0 μ0 w0 nt ops E Hs R tr D' a' w' I' μ' → K a' w') :
    wpOp P ops Q i K a w := by
  have hi : i < ops.size := (Array.getElem?_eq_some_iff.1 ho).1
  have f := g.facts i hi
  have hst := g.step i o ho
  have hclosed' : ∀ j o e, D' j = true → ops[j]? = some o → e ∈ o.after → Region.binds .any e = true → D' e.on = true := by
    intro j oj e hj hoj he hb
    rw [hD'] at hj ⊢
    by_cases e1 : e.on = i
    · rw [if_pos e1]
    · rw [if_neg e1]
      by_cases e2 : j = i
      · subst e2
        obtain rfl : o = oj := Option.some.inj (ho.symm.trans hoj)
        exact hr e he hb
      · rw [if_neg e2] at hj
        exact d.closed j oj e hj hoj he hb
  have hfree : ∀ id, c.nx + (Hs i).new.length ≤ id → id < c.nx + (Hs (i + 1)).new.length → μ id = none := fun id h1 h2 => by
    refine d.none id (Nat.le_trans (Nat.add_le_add_left (g.len_mono 0 i (by omega) (by omega)) _) h1) fun k hk hDk => ?_
    have fk := g.facts k hk
    rw [fk.lo, fk.hi]
    by_cases e : k = i
    · subst e; rw [hD] at hDk; cases hDk
    · rcases Nat.lt_or_ge k i with h3 | h3
      · have := g.len_mono (k + 1) i (by omega) (by omega); omega
      · have := g.len_mono (i + 1) k (by omega) (by omega); omega
  have hrd : ∀ t ∈ (tr.getD i default).rds, VR I μ w (get (E i) t) (a.tmps.getD t undef) := fun t ht => by
    rw [← ready_env g d.closed ho hr hD t ht]; exact d.env t
  have hkeep : EnvR I μ w (keep (tr.getD i default).rds (E i)) a := fun t => by
    rw [get_keep]
    split
    · rename_i ht; exact hrd t ht
    · exact .junk _
  -- what follows
  have fin : ∀ (I' : Nat → Prop) (μ' : Mu) (w' : World) (v : Value), (∀ t, o.dst = some t → t < nt) → (tr.getD i default).wr = o.dst → VR I' μ' w' (R i) v →
      Goes I I' μ μ' w w' (lD c.H c.nx Hs tr D ops.size) (lD c.H c.nx Hs tr D' ops.size) (fun _ => True) (fun id => c.nx + (Hs i).new.length ≤ id ∧ id < c.nx + (Hs (i + 1)).new.length) → K (a.put o.dst v) w' := by
    intro I' μ' w' v hdst hwr hv hg
    refine hK _ _ I' μ' ⟨fun t => ?_, ?_, ?_, d.goes.trans hg fun id => ?_, fun id h1 h2 => ?_, d.glob.mono hg.up (hg.imm_block d.hr), hclosed'⟩
    · rw [next_env g d.closed hi hD hD' t, hwr]
      cases hdo : o.dst with
      | none => simp only [Act.put, reduceCtorEq, if_false]; exact hg.vr d.hr (d.env t)
      | some q =>
        simp only [Act.put, Option.some.injEq]
        by_cases e : q = t
        · subst e
          rw [if_pos rfl, Array.getD_eq_getD_getElem?, Array.getElem?_setIfInBounds_self_of_lt (Nat.lt_of_lt_of_le (hdst q hdo) d.size)]
          exact hv
        · rw [if_neg e, Array.getD_eq_getD_getElem?, Array.getElem?_setIfInBounds_ne e, ← Array.getD_eq_getD_getElem?]
          exact hg.vr d.hr (d.env t)
    · cases o.dst <;> simp [Act.put, d.size]
    · cases o.dst <;> simp [Act.put, d.defers]
    · constructor
      · rintro (h | ⟨k, hk, hDk, h⟩)
        · exact .inl (.inl h)
        · rw [hD'] at hDk
          by_cases e : k = i
          · subst e; rw [f.lo, f.hi] at h; exact .inr h
          · rw [if_neg e] at hDk; exact .inl (.inr ⟨k, hk, hDk, h⟩)
      · rintro ((h | ⟨k, hk, hDk, h⟩) | h)
        · exact .inl h
        · refine .inr ⟨k, hk, ?_, h⟩
          rw [hD']; split
          · rfl
          · exact hDk
        · exact .inr ⟨i, hi, by rw [hD', if_pos rfl], by rw [f.lo, f.hi]; exact h⟩
    · rw [hg.mu id fun h => h2 i hi (by rw [hD', if_pos rfl]) (by rw [f.lo, f.hi]; exact h)]
      refine d.none id h1 fun k hk hDk => h2 k hk ?_
      rw [hD']; split
      · rfl
      · exact hDk
  unfold wpOp
  rw [ho]
  simp only []
  rcases coper_cases (P := P) (imT := imT) (nt := nt) (ops := ops) (o := o) with ⟨gd, hgd, hd, hc⟩ | hc
  · rw [hc] at hst
    rcases hst with ⟨x, hw, hx, hR, ht, he, hh⟩ | ⟨hw, hR, ht, he, hh⟩
    · simp only at hw hx ht
      have hrds : (tr.getD i default).rds = (cop P (imT.imT o.dst) o.op).slots ++ gslot gd := by rw [ht]
      have hw' : wants (keep (tr.getD i default).rds (E i)) gd = some true := by
        rw [← hw]
        cases gd with
        | none => rfl
        | some q => obtain ⟨t, b⟩ := q; simp only [wants]; rw [get_keep, if_pos (by rw [hrds]; simp [gslot])]
      have hx' : evOp c true (keep (tr.getD i default).rds (E i)) (Hs i) (cop P (imT.imT o.dst) o.op) = some x := by
        rw [← hx]
        exact evOp_congr fun t ht' => by rw [get_keep, if_pos (by rw [hrds]; exact List.mem_append_left _ ht')]
      rw [wanted_sound hkeep hgd hw', if_pos rfl]
      have htch : ∀ id, id ∈ x.tch ↔ id ∈ (tr.getD i default).tch := fun id => by rw [ht]
      have hmd : x.md = (tr.getD i default).md := by rw [ht]
      have hHT : HR I μ w (fun id => true = false ∨ id ∈ x.tch) (look c.H c.nx (Hs i)) := d.hr.sub fun id hid => ⟨trivial, by
        rcases hid with h | h
        · cases h
        · exact (ready_heap g d.closed ho hr hD id ((htch id).1 h)).symm⟩
      refine .inl (evOp_sound (dr := true) g.sound hx' hHT (fun id h1 h2 => hfree id h1 (by rw [hh]; exact h2.resolve_left (by simp))) d.glob hkeep fun I' μ' w' v hgo hv => ?_)
      refine fin I' μ' w' v hd (by rw [ht]) (by rw [hR]; exact hv) ?_
      have hgo' : Goes I I' μ μ' w w' (look c.H c.nx (Hs i)) (look c.H c.nx (Hs (i + 1))) (fun id => true = false ∨ id ∈ x.tch) (fun id => c.nx + (Hs i).new.length ≤ id ∧ id < c.nx + (Hs (i + 1)).new.length) := by rw [hh]; exact hgo
      refine hgo'.lift d.hr (fun id hid => ?_) (fun id hid => ?_) fun id h1 h2 => ?_
      · rcases hid with h | h
        · cases h
        · exact ready_heap g d.closed ho hr hD id ((htch id).1 h)
      · rw [next_heap g d.closed hi hD hD' id]
        rcases hid with (h | h) | h
        · cases h
        · by_cases hc2 : ((tr.getD i default).md = true ∧ id ∈ (tr.getD i default).tch) ∨ ((tr.getD i default).lo ≤ id ∧ id < (tr.getD i default).hi)
          · rw [if_pos hc2]
          · rw [if_neg hc2, ready_heap g d.closed ho hr hD id ((htch id).1 h)]
            exact (f.frame id (f.lt ((htch id).1 h)) fun e => hc2 (.inl e)).symm
        · rw [if_pos (.inr (by rw [f.lo, f.hi]; exact h))]
      · rw [next_heap g d.closed hi hD hD' id, if_neg]
        rintro (h | h)
        · exact h1 (.inr ((htch id).2 h.2))
        · rw [f.lo, f.hi] at h; exact h2 h
    · simp only at hw ht
      have hrds : (tr.getD i default).rds = gslot gd := by rw [ht]
      have hw' : wants (keep (tr.getD i default).rds (E i)) gd = some false := by
        rw [← hw]
        cases gd with
        | none => rfl
        | some q => obtain ⟨t, b⟩ := q; simp only [wants]; rw [get_keep, if_pos (by rw [hrds]; simp [gslot])]
      rw [wanted_sound hkeep hgd hw', if_neg (by simp)]
      refine fin I μ w undef hd (by rw [ht]) (by rw [hR]; exact .p (.s _)) ?_
      have hself : Goes I I μ μ w w (lD c.H c.nx Hs tr D ops.size) (lD c.H c.nx Hs tr D ops.size) (fun _ => False) (fun _ => False) := Goes.refl d.hr.lt
      have hsame : lD c.H c.nx Hs tr D' ops.size = lD c.H c.nx Hs tr D ops.size := funext fun id => by
        rw [next_heap g d.closed hi hD hD' id, if_neg]
        rw [ht]
        rintro (h | h)
        · exact absurd h.1 (by simp)
        · have h1 : c.nx + (Hs i).new.length ≤ id ∧ id < c.nx + (Hs i).new.length := h
          omega
      rw [hsame]
      exact (hself.widen d.hr fun _ h => h.elim).congrN fun id => by rw [hh]; exact ⟨fun h => by omega, fun h => h.elim⟩
  · rw [hc] at hst
    rcases hst with ⟨x, hw, hx, _⟩ | ⟨hw, _⟩
    · simp [evOp] at hx
    · simp [wants] at hw

theorem filter_lt {p q : Nat → Bool} : ∀ (l : List Nat), (∀ k, q k = true → p k = true) → (∃ k ∈ l, p k = true ∧ q k = false) → (l.filter q).length < (l.filter p).length
  | [], _, h => by obtain ⟨k, hk, _⟩ := h; cases hk
  | x :: r, hpq, h => by
    have hle : ∀ (l : List Nat), (l.filter q).length ≤ (l.filter p).length := by
      intro l
      induction l with
      | nil => exact Nat.le_refl _
      | cons y l ih =>
        by_cases hq : q y = true
        · rw [List.filter_cons_of_pos hq, List.filter_cons_of_pos (hpq y hq)]; simpa using ih
        · rw [List.filter_cons_of_neg hq]
          by_cases hp : p y = true
          · rw [List.filter_cons_of_pos hp]; simp; omega
          · rw [List.filter_cons_of_neg hp]; exact ih
    obtain ⟨k, hk, hp, hq⟩ := h
    rcases List.mem_cons.1 hk with rfl | hk
    · rw [List.filter_cons_of_neg (by rw [hq]; simp), List.filter_cons_of_pos hp]
      have := hle r
      simp; omega
    · have := filter_lt r hpq ⟨k, hk, hp, hq⟩
      by_cases hqx : q x = true
      · rw [List.filter_cons_of_pos hqx, List.filter_cons_of_pos (hpq x hqx)]; simp; omega
      · rw [List.filter_cons_of_neg hqx]
        by_cases hpx : p x = true
        · rw [List.filter_cons_of_pos hpx]; simp; omega
        · rw [List.filter_cons_of_neg hpx]; exact this

theorem draw_all (g : Reg P imT c nt ops E Hs R tr) (hk0 : Keys c.H (Hs 0)) (hb0 : HR I0 μ0 w0 (fun _ => True) c.H) {Q : Exit → Act → World → Prop} (hQ : ∀ a' w' I' μ', Inv c I0 μ0 w0 nt (E ops.size) (Hs ops.size) a' w' I' μ' → Q .normal a' w') :
    ∀ (fuel : Nat) (listed : Array Bool) (a : Act) (w : World) (I : Nat → Prop) (μ : Mu), listed.size = ops.size → ((List.range ops.size).filter fun k => !listed.getD k false).length ≤ fuel →
      DInv c I0 μ0 w0 nt ops E Hs R tr (fun k => listed.getD k false) a w I μ → wpAny P .any ops Q fuel listed a w := by
  have hdone : ∀ (listed : Array Bool) (a : Act) (w : World) (I : Nat → Prop) (μ : Mu), (∀ k, k < ops.size → listed.getD k false = true) → DInv c I0 μ0 w0 nt ops E Hs R tr (fun k => listed.getD k false) a w I μ → Q .normal a w := by
    intro listed a w I μ hall d
    have he : ∀ k, k ≤ ops.size → ∀ t, eD (E 0) R tr (fun k => listed.getD k false) k t = get (E k) t := by
      intro k
      induction k with
      | zero => intro _ t; rfl
      | succ k ih =>
        intro hk t
        rw [eD, (g.facts k (by omega)).env t, ih (by omega)]
        have := hall k (by omega)
        by_cases hw : (tr.getD k default).wr = some t
        · rw [if_pos ⟨this, hw⟩, if_pos hw]
        · rw [if_neg (fun e => hw e.2), if_neg hw]
    have hl : ∀ k, k ≤ ops.size → ∀ id, lD c.H c.nx Hs tr (fun k => listed.getD k false) k id = look c.H c.nx (Hs k) id := by
      intro k
      induction k with
      | zero => intro _ id; rfl
      | succ k ih =>
        intro hk id
        have f := g.facts k (by omega)
        have := hall k (by omega)
        rw [lD]
        by_cases hc : ((tr.getD k default).md = true ∧ id ∈ (tr.getD k default).tch) ∨ ((tr.getD k default).lo ≤ id ∧ id < (tr.getD k default).hi)
        · rw [if_pos ⟨this, hc⟩]
        · rw [if_neg (fun e => hc e.2), ih (by omega)]
          rcases Nat.lt_or_ge id (c.nx + (Hs k).new.length) with h3 | h3
          · exact (f.frame id h3 fun e => hc (.inl e)).symm
          · rw [look_new h3, look_new]
            rw [f.lo, f.hi] at hc
            rcases Nat.lt_or_ge id (c.nx + (Hs (k + 1)).new.length) with h4 | h4
            · exact absurd (.inr ⟨h3, h4⟩) hc
            · exact h4
    have hkeys : ∀ k, k ≤ ops.size → Keys c.H (Hs k) := by
      intro k
      induction k with
      | zero => intro _; exact hk0
      | succ k ih => intro hk; exact (g.facts k (by omega)).keys (ih (by omega))
    have hlk : lD c.H c.nx Hs tr (fun k => listed.getD k false) ops.size = look c.H c.nx (Hs ops.size) := funext fun id => hl ops.size (Nat.le_refl _) id
    have hrange : ∀ n, n ≤ ops.size → ∀ id, c.nx + (Hs 0).new.length ≤ id → id < c.nx + (Hs n).new.length → ∃ k, k < n ∧ c.nx + (Hs k).new.length ≤ id ∧ id < c.nx + (Hs (k + 1)).new.length := by
      intro n
      induction n with
      | zero => intro _ id h1 h2; omega
      | succ n ih =>
        intro hn id h1 h2
        rcases Nat.lt_or_ge id (c.nx + (Hs n).new.length) with h3 | h3
        · obtain ⟨k, hk, hh⟩ := ih (by omega) id h1 h3
          exact ⟨k, by omega, hh⟩
        · exact ⟨n, by omega, h3, h2⟩
    have hmono0 := g.len_mono 0 ops.size (by omega) (Nat.le_refl _)
    have hNiff : ∀ id, (c.nx ≤ id ∧ id < c.nx + (Hs ops.size).new.length) ↔ ((c.nx ≤ id ∧ id < c.nx + (Hs 0).new.length) ∨ ∃ k, k < ops.size ∧ listed.getD k false = true ∧ (tr.getD k default).lo ≤ id ∧ id < (tr.getD k default).hi) := by
      intro id
      constructor
      · rintro ⟨h1, h2⟩
        rcases Nat.lt_or_ge id (c.nx + (Hs 0).new.length) with h3 | h3
        · exact .inl ⟨h1, h3⟩
        · obtain ⟨k, hk, hh⟩ := hrange ops.size (Nat.le_refl _) id h3 h2
          exact .inr ⟨k, hk, hall k hk, by rw [(g.facts k hk).lo, (g.facts k hk).hi]; exact hh⟩
      · rintro (h | ⟨k, hk, _, h⟩)
        · exact ⟨h.1, by omega⟩
        · rw [(g.facts k hk).lo, (g.facts k hk).hi] at h
          have := g.len_mono (k + 1) ops.size (by omega) (Nat.le_refl _)
          exact ⟨by omega, by omega⟩
    refine hQ a w I μ ⟨fun t => ?_, d.size, d.defers, ?_, fun id hid => ?_, d.glob, hkeys ops.size (Nat.le_refl _), hb0⟩
    · rw [← he ops.size (Nat.le_refl _) t]; exact d.env t
    · have := d.goes
      rw [hlk] at this
      exact this.congrN hNiff
    · refine d.none id (by omega) fun k hk hDk h => ?_
      rw [(g.facts k hk).lo, (g.facts k hk).hi] at h
      have := g.len_mono (k + 1) ops.size (by omega) (Nat.le_refl _)
      omega
  have hready : ∀ (listed : Array Bool), listed.size = ops.size → ∀ i ∈ Region.ready .any ops listed, ∃ o, ops[i]? = some o ∧ listed.getD i false = false ∧ ∀ e, e ∈ o.after → Region.binds .any e = true → listed.getD e.on false = true := by
    intro listed hs i hi
    unfold Region.ready at hi
    rw [List.mem_filter, List.mem_range] at hi
    obtain ⟨hlt, h⟩ := hi
    rw [Bool.and_eq_true] at h
    have ho : ops[i]? = some ops[i] := by simp [hlt]
    rw [ho] at h
    simp only [Option.map_some, Option.getD_some] at h
    refine ⟨ops[i], ho, ?_, fun e he hb => ?_⟩
    · have h1 := h.1
      simp [hs, hlt] at h1 ⊢
      exact h1
    · have := Array.all_eq_true'.1 h.2 e he
      rw [hb] at this
      simpa using this
  have hnone : ∀ (listed : Array Bool), listed.size = ops.size → Region.ready .any ops listed = [] → ∀ k, k < ops.size → listed.getD k false = true := by
    intro listed hs hemp k
    induction k using Nat.strongRecOn with
    | _ k ih =>
      intro hk
      cases hl : listed.getD k false with
      | true => rfl
      | false =>
        exfalso
        have ho : ops[k]? = some ops[k] := by simp [hk]
        have hmem : k ∈ Region.ready .any ops listed := by
          unfold Region.ready
          rw [List.mem_filter, List.mem_range]
          refine ⟨hk, ?_⟩
          rw [ho, Bool.and_eq_true]
          simp only [Option.map_some, Option.getD_some]
          refine ⟨?_, ?_⟩
          · simp [hs, hk] at hl ⊢; exact hl
          · rw [Array.all_eq_true']
            intro e he
            cases hb : Region.binds .any e with
            | false => rfl
            | true =>
              have hlt := g.edges k _ e ho he hb
              simp only [Bool.not_true, Bool.false_or]
              exact ih e.on hlt (by omega)
        rw [hemp] at hmem
        cases hmem
  intro fuel
  induction fuel with
  | zero =>
    intro listed a w I μ hs hf d
    have hall : ∀ k, k < ops.size → listed.getD k false = true := fun k hk => by
      cases hl : listed.getD k false with
      | true => rfl
      | false =>
        have hmem : k ∈ (List.range ops.size).filter fun k => !listed.getD k false := by
          rw [List.mem_filter, List.mem_range]; exact ⟨hk, by simp [hl]⟩
        have := List.length_pos_of_mem hmem
        omega
    refine ⟨?_, hdone listed a w I μ hall d⟩
    cases hr : Region.ready .any ops listed with
    | nil => rfl
    | cons x r =>
      obtain ⟨o, ho, hl, _⟩ := hready listed hs x (by rw [hr]; exact List.mem_cons_self)
      have := hall x (Array.getElem?_eq_some_iff.1 ho).1
      rw [hl] at this; cases this
  | succ fuel ih =>
    intro listed a w I μ hs hf d
    refine ⟨fun h => hdone listed a w I μ (hnone listed hs h) d, fun i hi => ?_⟩
    obtain ⟨o, ho, hl, hr⟩ := hready listed hs i hi
    have hlt : i < ops.size := (Array.getElem?_eq_some_iff.1 ho).1
    have hset : ∀ k, (listed.setIfInBounds i true).getD k false = if k = i then true else listed.getD k false := fun k => by
      simp only [Array.getD_eq_getD_getElem?, Array.getElem?_setIfInBounds]
      by_cases e : k = i
      · subst e; rw [if_pos rfl, if_pos rfl, if_pos (by omega)]; rfl
      · rw [if_neg (fun h => e h.symm), if_neg e]
    refine draw_step g d ho hr hl hset fun a' w' I' μ' d' => ih _ a' w' I' μ' (by simpa using hs) ?_ d'
    have := filter_lt (p := fun k => !listed.getD k false) (q := fun k => !(listed.setIfInBounds i true).getD k false) (List.range ops.size) (fun k hk => by
        rw [hset] at hk
        split at hk
        · cases hk
        · exact hk) ⟨i, List.mem_range.2 hlt, by rw [hl]; rfl, by rw [hset, if_pos rfl]; rfl⟩
    omega

end
end Go.Sx
end

section
namespace Go.Sx
open Go

theorem pairsD_iff (t : Tr) (m : Nat) : ∀ (l : List Tr) (k : Nat), pairsD t m k l = true ↔ ∀ i, i < l.length → (m.testBit (k + i) || apartD (l.getD i default) t) = true
  | [], k => by simp [pairsD]
  | s :: l, k => by
    simp only [pairsD, Bool.and_eq_true, pairsD_iff t m l (k + 1)]
    constructor
    · rintro ⟨h1, h2⟩ i hi
      match i with
      | 0 => simpa using h1
      | i + 1 =>
        have := h2 i (by simp at hi; omega)
        rw [show k + 1 + i = k + (i + 1) by omega] at this
        simpa using this
    · intro h
      refine ⟨by simpa using h 0 (by simp), fun i hi => ?_⟩
      have := h (i + 1) (by simp; omega)
      rw [show k + (i + 1) = k + 1 + i by omega] at this
      simpa using this

theorem getD_app (l r : List Tr) (i : Nat) (h : i < l.length) : (l ++ r).getD i default = l.getD i default := by
  simp [List.getD_eq_getElem?_getD, List.getElem?_append_left h]

theorem indepR_iff : ∀ (r seen : List Tr) (bs : List Nat), indepR seen r bs = true ↔ ∀ j, j < r.length → ∀ i, i < seen.length + j → ((bs.getD j 0).testBit i || apartD ((seen ++ r).getD i default) (r.getD j default)) = true
  | [], seen, bs => by simp [indepR]
  | t :: r, seen, bs => by
    have key : indepR seen (t :: r) bs = (pairsD t (bs.getD 0 0) 0 seen && indepR (seen ++ [t]) r bs.tail) := by cases bs <;> rfl
    rw [key, Bool.and_eq_true, pairsD_iff, indepR_iff r (seen ++ [t]) bs.tail]
    constructor
    · rintro ⟨h1, h2⟩ j hj i hi
      match j with
      | 0 =>
        have := h1 i (by simpa using hi)
        rw [Nat.zero_add] at this
        rw [getD_app _ _ _ (by simpa using hi)]
        exact this
      | j + 1 =>
        have := h2 j (by simp at hj; omega) i (by simp; omega)
        rw [List.append_assoc] at this
        have e : bs.tail.getD j 0 = bs.getD (j + 1) 0 := by cases bs <;> simp
        rw [e] at this
        exact this
    · intro h
      refine ⟨fun i hi => ?_, fun j hj i hi => ?_⟩
      · have := h 0 (by simp) i (by simpa using hi)
        rw [getD_app _ _ _ hi] at this
        rw [Nat.zero_add]
        exact this
      · have := h (j + 1) (by simp; omega) i (by simp at hi; omega)
        have e : bs.tail.getD j 0 = bs.getD (j + 1) 0 := by cases bs <;> simp
        rw [e, List.append_assoc]
        exact this

theorem quickD_mem : ∀ {tr : List Tr}, quickD tr = true → ∀ t ∈ tr, (t.md = true → t.tch = []) ∧ t.lo = t.hi
  | [], _, _, h => by cases h
  | a :: r, h, t, ht => by
    simp only [quickD, Bool.and_eq_true] at h
    obtain ⟨⟨h1, h2⟩, h3⟩ := h
    rcases List.mem_cons.1 ht with rfl | ht
    · refine ⟨fun hm => ?_, by simpa using h2⟩
      rw [hm] at h1
      simpa using h1
    · exact quickD_mem h3 t ht

theorem apartD_quick {a b : Tr} (ha : (a.md = true → a.tch = []) ∧ a.lo = a.hi) (hb : (b.md = true → b.tch = []) ∧ b.lo = b.hi) : apartD a b = true := by
  unfold apartD
  rw [Bool.and_eq_true, List.all_eq_true, List.all_eq_true]
  refine ⟨fun x hx => ?_, fun x _ => ?_⟩
  · cases h1 : a.md with
    | true => rw [ha.1 h1] at hx; cases hx
    | false =>
      cases h2 : b.md with
      | true => rw [hb.1 h2]; simp
      | false => simp
  · simp only [Bool.not_eq_true', Bool.and_eq_false_iff, decide_eq_false_iff_not]
    have := ha.2
    omega

theorem indepD_apart {tr : List Tr} {bs : List Nat} (h : indepD tr bs = true) (i j : Nat) (hij : i < j) (hj : j < tr.length) (hb : (bs.getD j 0).testBit i = false) : apartD (tr.getD i default) (tr.getD j default) = true := by
  unfold indepD at h
  split at h
  · rename_i hq
    have hm := quickD_mem hq
    have e : ∀ k, k < tr.length → tr.getD k default ∈ tr := fun k hk => by
      rw [List.getD_eq_getElem?_getD, List.getElem?_eq_getElem hk]; exact List.getElem_mem hk
    exact apartD_quick (hm _ (e i (by omega))) (hm _ (e j hj))
  · have := (indepR_iff tr [] bs).1 h j hj i (by simpa using hij)
    rw [hb] at this
    simpa using this

theorem tr_slots {c : Ctx} : ∀ {l : List IROper} {env : Env} {h : Hp} {tr : List Tr} {r : Env × Hp}, runOpsT c l env h = some (tr, r) → ∀ i, i < l.length →
    (∀ x ∈ (tr.getD i default).rds, x ∈ (l.getD i default).op.slots ++ gslot (l.getD i default).guard) ∧ (tr.getD i default).wr = (l.getD i default).dst
  | [], _, _, _, _, _, i, hi => by cases hi
  | o :: l, env, h, tr, r, hr, i, hi => by
    simp only [runOpsT] at hr
    split at hr
    · split at hr
      · split at hr
        · rename_i tr' e h' ht
          obtain ⟨rfl, rfl⟩ := by simpa using hr
          match i with
          | 0 => exact ⟨fun x hx => hx, rfl⟩
          | i + 1 => exact tr_slots ht i (by simp at hi; omega)
        · cases hr
      · cases hr
    · split at hr
      · rename_i tr' e h' ht
        obtain ⟨rfl, rfl⟩ := by simpa using hr
        match i with
        | 0 => exact ⟨fun x hx => List.mem_append.2 (.inr hx), rfl⟩
        | i + 1 => exact tr_slots ht i (by simp at hi; omega)
      · cases hr
    · cases hr

theorem indepS_apart {ops : List IROper} {bs : List Nat} (h : indepS ops bs = true) (i j : Nat) (hij : i < j) (hj : j < ops.length) (hb : (bs.getD j 0).testBit i = false) : apartS (ops.getD i default) (ops.getD j default) = true := by
  unfold indepS at h
  have h1 := List.all_eq_true.1 h j (List.mem_range.2 hj)
  have h2 := List.all_eq_true.1 h1 i (List.mem_range.2 hij)
  rw [hb] at h2
  simpa using h2

theorem apartT_of {a b : Tr} {p q : IROper} (h : apartS p q = true) (hd : apartD a b = true) (ha : (∀ x ∈ a.rds, x ∈ p.op.slots ++ gslot p.guard) ∧ a.wr = p.dst) (hb : (∀ x ∈ b.rds, x ∈ q.op.slots ++ gslot q.guard) ∧ b.wr = q.dst) : apartT a b = true := by
  unfold apartS at h
  unfold apartD at hd
  rw [Bool.and_eq_true] at h hd
  obtain ⟨h1, h2⟩ := h
  unfold apartT
  rw [Bool.and_eq_true, Bool.and_eq_true, Bool.and_eq_true]
  refine ⟨⟨⟨?_, ?_⟩, hd.1⟩, hd.2⟩
  · rw [ha.2]
    cases e : p.dst with
    | none => rfl
    | some d =>
      rw [e] at h1
      simp only [Bool.and_eq_true, Bool.not_eq_true'] at h1 ⊢
      refine ⟨?_, by rw [hb.2]; exact h1.2⟩
      cases hc : b.rds.contains d with
      | false => rfl
      | true =>
        have hm : d ∈ q.op.slots ++ gslot q.guard := hb.1 d (by simpa using hc)
        have h11 := h1.1
        rw [List.contains_eq_mem] at h11
        simp only [decide_eq_false_iff_not] at h11
        exact absurd hm h11
  · rw [hb.2]
    cases e : q.dst with
    | none => rfl
    | some d =>
      rw [e] at h2
      simp only [Bool.not_eq_true'] at h2 ⊢
      cases hc : a.rds.contains d with
      | false => rfl
      | true =>
        have hm : d ∈ p.op.slots ++ gslot p.guard := ha.1 d (by simpa using hc)
        rw [List.contains_eq_mem] at h2
        simp only [decide_eq_false_iff_not] at h2
        exact absurd hm h2
end Go.Sx
end

section
namespace Go.Sx
open Go

theorem VR.agree {I : Nat → Prop} {μ μ2 : Mu} {w : World} {l : LV} {v : Value} (h : VR I μ w l v) : (∀ id ∈ ids l, μ2 id = μ id) → VR I μ2 w l v := by
  induction h with
  | junk v => exact fun _ => .junk v
  | p h => exact fun _ => .p h
  | ref id off b o s h => exact fun hid => .ref id off b o s (by rw [hid id (by simp [ids]), h])
  | arr id off len sz cp ex b o s o' cap h ho hlen hcp hf hs => exact fun hid => .arr id off len sz cp ex b o s o' cap (by rw [hid id (by simp [ids]), h]) ho hlen hcp hf hs
  | agg cs a hl h1 _ ih => exact fun hid => .agg cs a hl h1 fun j l u hj hu => ih j l u hj hu fun id h => hid id (by simp only [ids]; exact mem_idsL hj id h)
  | tuple cs a hl _ ih => exact fun hid => .tuple cs a hl fun j l u hj hu => ih j l u hj hu fun id h => hid id (by simp only [ids]; exact mem_idsL hj id h)
  | fn f fs cs fa ca hl hl' _ _ ih ih' =>
    exact fun hid => .fn f fs cs fa ca hl hl' (fun j l u hj hu => ih j l u hj hu fun id h => hid id (by simp only [ids, List.mem_append]; exact .inl (mem_idsL hj id h)))
      (fun j l u hj hu => ih' j l u hj hu fun id h => hid id (by simp only [ids, List.mem_append]; exact .inr (mem_idsL hj id h)))

theorem idsL_mem : ∀ {cs : List LV} {id : Nat}, id ∈ ids.idsL cs → ∃ (j : Nat) (l : LV), cs[j]? = some l ∧ id ∈ ids l
  | [], id, h => by simp [ids.idsL] at h
  | x :: r, id, h => by
    simp only [ids.idsL, List.mem_append] at h
    rcases h with h | h
    · exact ⟨0, x, rfl, h⟩
    · obtain ⟨j, l, h1, h2⟩ := idsL_mem h
      exact ⟨j + 1, l, h1, h2⟩

/-- What stands for something, is somewhere. -/
theorem VR.mapped {I : Nat → Prop} {μ : Mu} {w : World} {l : LV} {v : Value} (h : VR I μ w l v) : ∀ id ∈ ids l, (μ id).isSome = true := by
  induction h with
  | junk v => intro id hid; simp [ids] at hid
  | p h => intro id hid; simp [ids] at hid
  | ref id off b o s h => intro i hid; simp [ids] at hid; subst hid; rw [h]; rfl
  | arr id off len sz cp ex b o s o' cap h ho hlen hcp hf hs => intro i hid; simp [ids] at hid; subst hid; rw [h]; rfl
  | agg cs a hl h1 _ ih =>
    intro id hid
    simp only [ids] at hid
    obtain ⟨j, l, hj, hl'⟩ := idsL_mem hid
    have hlt : j < a.size := by rw [hl]; exact (List.getElem?_eq_some_iff.1 hj).1
    exact ih j l a[j] hj (by simp [hlt]) id hl'
  | tuple cs a hl _ ih =>
    intro id hid
    simp only [ids] at hid
    obtain ⟨j, l, hj, hl'⟩ := idsL_mem hid
    have hlt : j < a.size := by rw [hl]; exact (List.getElem?_eq_some_iff.1 hj).1
    exact ih j l a[j] hj (by simp [hlt]) id hl'
  | fn f fs cs fa ca hl hl' _ _ ih ih' =>
    intro id hid
    simp only [ids, List.mem_append] at hid
    rcases hid with hid | hid
    · obtain ⟨j, l, hj, hm⟩ := idsL_mem hid
      have hlt : j < fa.size := by rw [hl]; exact (List.getElem?_eq_some_iff.1 hj).1
      exact ih j l fa[j] hj (by simp [hlt]) id hm
    · obtain ⟨j, l, hj, hm⟩ := idsL_mem hid
      have hlt : j < ca.size := by rw [hl']; exact (List.getElem?_eq_some_iff.1 hj).1
      exact ih' j l ca[j] hj (by simp [hlt]) id hm

section rename
variable {I : Nat → Prop} {μ : Mu} {w : World} {nx : Nat} {seen : List Nat}

/-- The new names. -/
def renMu (μ : Mu) (nx : Nat) (seen : List Nat) : Mu := fun id => if id < nx then μ id else match seen[id - nx]? with
  | some j => μ j
  | none => none

theorem renId_mu {id j : Nat} (h : renId nx seen id = some j) : renMu μ nx seen j = μ id := by
  unfold renId at h
  split at h
  · rename_i hlt
    obtain rfl := Option.some.inj h
    simp [renMu, hlt]
  · split at h
    · rename_i k hk
      obtain rfl := Option.some.inj h
      have hget : seen[k]? = some id := by
        obtain ⟨hlt, he, _⟩ := List.idxOf?_eq_some_iff.1 hk
        rw [List.getElem?_eq_getElem hlt]
        simpa using he
      simp [renMu, show ¬ (nx + k < nx) by omega, hget]
    · cases h

theorem ren_go : ∀ {cs cs' : List LV}, ren.go nx seen cs = some cs' → cs'.length = cs.length ∧ ∀ (j : Nat) l', cs'[j]? = some l' → ∃ l, cs[j]? = some l ∧ ren nx seen l = some l'
  | [], cs', h => by simp only [ren.go, Option.some.injEq] at h; subst h; exact ⟨rfl, by simp⟩
  | x :: r, cs', h => by
    simp only [ren.go] at h
    split at h
    · rename_i y l h1 h2
      obtain rfl := Option.some.inj h
      obtain ⟨g1, g2⟩ := ren_go h2
      refine ⟨by simp [g1], fun j l' hj => ?_⟩
      cases j with
      | zero => simp at hj; subst hj; exact ⟨x, rfl, h1⟩
      | succ j => exact g2 j l' hj
    · cases h

theorem VR.ren {l : LV} {v : Value} (h : VR I μ w l v) : ∀ {l' : LV}, Sx.ren nx seen l = some l' → VR I (renMu μ nx seen) w l' v := by
  induction h with
  | junk v => intro l' h; simp only [Sx.ren, Option.some.injEq] at h; subst h; exact .junk v
  | p h => intro l' h'; simp only [Sx.ren, Option.some.injEq] at h'; subst h'; exact .p h
  | ref id off b o s h =>
    intro l' h'
    simp only [Sx.ren] at h'
    split at h'
    · rename_i j hj
      obtain rfl := Option.some.inj h'
      exact .ref j off b o s (by rw [renId_mu hj, h])
    · cases h'
  | arr id off len sz cp ex b o s o' cap h ho hlen hcp hf hs =>
    intro l' h'
    simp only [Sx.ren] at h'
    split at h'
    · rename_i j hj
      obtain rfl := Option.some.inj h'
      exact .arr j off len sz cp ex b o s o' cap (by rw [renId_mu hj, h]) ho hlen hcp hf hs
    · cases h'
  | agg cs a hl h1 _ ih =>
    intro l' h'
    simp only [Sx.ren] at h'
    split at h'
    · rename_i cs' hcs
      obtain rfl := Option.some.inj h'
      obtain ⟨g1, g2⟩ := ren_go hcs
      refine .agg cs' a (by rw [g1]; exact hl) h1 fun j l u hj hu => ?_
      obtain ⟨l0, hl0, hr⟩ := g2 j l hj
      exact ih j l0 u hl0 hu hr
    · cases h'
  | tuple cs a hl _ ih =>
    intro l' h'
    simp only [Sx.ren] at h'
    split at h'
    · rename_i cs' hcs
      obtain rfl := Option.some.inj h'
      obtain ⟨g1, g2⟩ := ren_go hcs
      refine .tuple cs' a (by rw [g1]; exact hl) fun j l u hj hu => ?_
      obtain ⟨l0, hl0, hr⟩ := g2 j l hj
      exact ih j l0 u hl0 hu hr
    · cases h'
  | fn f fs cs fa ca hl hl' _ _ ih ih' =>
    intro l' h'
    simp only [Sx.ren] at h'
    split at h'
    · rename_i x y hx hy
      obtain rfl := Option.some.inj h'
      obtain ⟨g1, g2⟩ := ren_go hx
      obtain ⟨g3, g4⟩ := ren_go hy
      refine .fn f x y fa ca (by rw [g1]; exact hl) (by rw [g3]; exact hl') (fun j l u hj hu => ?_) fun j l u hj hu => ?_
      · obtain ⟨l0, hl0, hr⟩ := g2 j l hj
        exact ih j l0 u hl0 hu hr
      · obtain ⟨l0, hl0, hr⟩ := g4 j l hj
        exact ih' j l0 u hl0 hu hr
    · cases h'

theorem OR.ren {id id' : Nat} {o : Obj} {o' : Option Obj} (h : OR I μ w id o) (hid : renMu μ nx seen id' = μ id) (hr : renO nx seen (some o) = some o') : ∃ p, o' = some p ∧ OR I (renMu μ nx seen) w id' p := by
  cases o with
  | cells cs =>
    simp only [renO] at hr
    split at hr
    · rename_i l hl
      obtain rfl := Option.some.inj hr
      obtain ⟨b, o, s, e, hm, hs, hle, hf, hc⟩ := h
      obtain ⟨g1, g2⟩ := ren_go hl
      refine ⟨_, rfl, b, o, s, e, by rw [hid, hm], hs, by rw [g1]; exact hle, hf, fun j l' hj => ?_⟩
      obtain ⟨l0, hl0, hr⟩ := g2 j l' hj
      obtain ⟨u, h1, h2, h3⟩ := hc j l0 hl0
      exact ⟨u, h1, h2, h3.ren hr⟩
    · cases hr
  | iter s q =>
    simp only [renO, Option.some.injEq] at hr
    subst hr
    obtain ⟨b, hm, hb⟩ := h
    exact ⟨_, rfl, b, by rw [hid, hm], hb⟩

theorem renU_find : ∀ {u u' : Upd}, renU nx seen u = some u' → ∀ id, (findU u' id = none ↔ findU u id = none) ∧ ∀ o', findU u' id = some o' → ∃ o, findU u id = some o ∧ renO nx seen o = some o'
  | [], u', h, id => by simp only [renU, Option.some.injEq] at h; subst h; exact ⟨Iff.rfl, by simp [findU]⟩
  | (k, o) :: r, u', h, id => by
    simp only [renU] at h
    split at h
    · rename_i p l h1 h2
      obtain rfl := Option.some.inj h
      have ih := renU_find h2 id
      simp only [findU]
      by_cases e : id = k
      · rw [if_pos e, if_pos e]
        exact ⟨by simp, fun o' ho => ⟨o, rfl, by rw [← Option.some.inj ho]; exact h1⟩⟩
      · rw [if_neg e, if_neg e]; exact ih
    · cases h

theorem renN_get {H : Heap} {h : Hp} : ∀ {l : List Nat} {n : List (Option Obj)}, renN H nx h seen l = some n → n.length = l.length ∧ ∀ (k : Nat) id, l[k]? = some id → ∃ p, n[k]? = some p ∧ renO nx seen (look H nx h id) = some p
  | [], n, h => by simp only [renN, Option.some.injEq] at h; subst h; exact ⟨rfl, by simp⟩
  | x :: r, n, h => by
    simp only [renN] at h
    split at h
    · rename_i p l h1 h2
      obtain rfl := Option.some.inj h
      obtain ⟨g1, g2⟩ := renN_get h2
      refine ⟨by simp [g1], fun k id hk => ?_⟩
      cases k with
      | zero => simp at hk; subst hk; exact ⟨p, rfl, h1⟩
      | succ k => exact g2 k id hk
    · cases h

theorem reach_nodup {lk : Nat → Option Obj} : ∀ (n : Nat) (todo seen S : List Nat), reach lk n todo seen = some S → seen.Nodup → S.Nodup
  | 0, [], seen, S, h, hs => by simp only [reach, Option.some.injEq] at h; subst h; exact hs
  | 0, _ :: _, seen, S, h, hs => by simp [reach] at h
  | n + 1, [], seen, S, h, hs => by simp only [reach, Option.some.injEq] at h; subst h; exact hs
  | n + 1, id :: todo, seen, S, h, hs => by
    simp only [reach] at h
    split at h
    · exact reach_nodup n todo seen S h hs
    · rename_i hc
      have hc' : id ∉ seen := by simpa using hc
      split at h
      · exact reach_nodup n _ _ S h (by
          rw [List.nodup_append]
          refine ⟨hs, by simp, fun a ha b hb => ?_⟩
          simp at hb; subst hb
          exact fun e => hc' (e ▸ ha))
      · exact reach_nodup n todo seen S h hs
end rename

/-- Slices are as they are from now on. -/
theorem frzL_pr {I I' : Nat → Prop} {μ : Mu} {w : World} {H : Heap} {nx : Nat} {h : Hp} (hI : ∀ b, I b → I' b) (hobj : ∀ id o, look H nx h id = some o → OR I μ w id o) :
    ∀ (n : Nat) (l : LV) (x : PV) (v : Value), frzL nx h n l = some x → VR I μ w l v → (∀ id ∈ ids l, ∀ b, blk μ id = some b → I' b) → PR I' w x v
  | 0, l, x, v, hf, _, _ => by simp [frzL] at hf
  | n + 1, .p y, x, v, hf, hv, _ => by
    simp only [frzL, Option.some.injEq] at hf
    subst hf
    exact hv.pp.mono hI fun _ _ => rfl
  | n + 1, .arr id off len sz cp ex, x, v, hf, hv, hb => by
    simp only [frzL] at hf
    split at hf
    · cases hf
    · rename_i hlt
      split at hf
      · rename_i cs hcs
        split at hf
        · rename_i hle
          split at hf
          · rename_i l hl
            obtain rfl := Option.some.inj hf
            have hlook : look H nx h id = some (.cells cs) := by unfold look; rw [if_neg hlt, hcs]
            obtain ⟨b, o, s, e, hm, _, _, _, hat⟩ := hobj id _ hlook
            obtain ⟨b', o', s', o2, cap, hm', rfl, hoo, hlc, hex, hroom, hcp, hlcp⟩ := vr_arr hv
            rw [hm] at hm'
            obtain ⟨rfl, rfl, rfl⟩ : b = b' ∧ o = o' ∧ s = s' := by simpa using hm'
            have hIb : I' b := hb id (by simp [ids]) b (by simp [blk, hm])
            have hps := allP_some hl
            have hat2 : At I μ w b (o + off) (l.map .p) := by rw [← hps]; exact (At.drop (I := I) (μ := μ) (w := w) (b := b) (o := o) (cs := cs) hat off).take (len * sz)
            refine mk_sl (μ := μ) hIb ?_ len sz cap _ hlc (fun hfl => by
              simp only [Bool.and_eq_true, beq_iff_eq] at hfl
              rw [hex hfl.1, hfl.2])
            rcases hoo with h0 | h0
            · have hl0 : l = [] := by
                have : l.length = 0 := by
                  have := congrArg List.length hps
                  simp at this
                  have hz : len = 0 := by omega
                  rw [hz] at this; simp at this; omega
                exact List.eq_nil_of_length_eq_zero this
              rw [hl0]; intro j q hj; simp at hj
            · rw [h0]
              intro j q hj
              obtain ⟨u, h1, h2, h3⟩ := hat2 j q hj
              exact ⟨u, h1, h2, h3.mono hI (fun _ _ h => h) fun _ _ => rfl⟩
          · cases hf
        · cases hf
      · cases hf
  | n + 1, .agg cs, x, v, hf, hv, hb => by
    simp only [frzL] at hf
    split at hf
    · rename_i l hl
      obtain rfl := Option.some.inj hf
      obtain ⟨ar, rfl, hsz, h1, hc⟩ := vr_agg hv
      have hgo : ∀ (cs : List LV) (l : List PV), frzL.go nx h n cs = some l → l.length = cs.length ∧ ∀ (j : Nat) y, l[j]? = some y → ∃ q, cs[j]? = some q ∧ frzL nx h n q = some y := by
        intro cs
        induction cs with
        | nil => intro l hl; simp only [frzL.go, Option.some.injEq] at hl; subst hl; exact ⟨rfl, by simp⟩
        | cons q r ih =>
          intro l hl
          simp only [frzL.go] at hl
          split at hl
          · rename_i y l' h1 h2
            obtain rfl := Option.some.inj hl
            obtain ⟨g1, g2⟩ := ih l' h2
            refine ⟨by simp [g1], fun j z hz => ?_⟩
            cases j with
            | zero => simp at hz; subst hz; exact ⟨q, rfl, h1⟩
            | succ j => exact g2 j z hz
          · cases hl
      obtain ⟨g1, g2⟩ := hgo cs l hl
      refine .agg l ar (by rw [g1]; exact hsz) h1 fun j y u hj hu => ?_
      obtain ⟨q, hq, hfq⟩ := g2 j y hj
      exact frzL_pr hI hobj n q y u hfq (hc j q u hq hu) fun id hid b hbb => hb id (by simp only [ids]; exact mem_idsL hq id hid) b hbb
    · cases hf
  | n + 1, .junk, x, v, hf, _, _ => by simp [frzL] at hf
  | n + 1, .ref id off, x, v, hf, hv, hb => by
    simp only [frzL] at hf
    split at hf
    · cases hf
    · rename_i hlt
      split at hf
      · rename_i cs hcs
        split at hf
        · rename_i l hl
          obtain rfl := Option.some.inj hf
          have hlook : look H nx h id = some (.cells cs) := by unfold look; rw [if_neg hlt, hcs]
          obtain ⟨b, o, s, e, hm, _, _, _, hat⟩ := hobj id _ hlook
          obtain ⟨b', o', s', hm', rfl⟩ := vr_ref hv
          rw [hm] at hm'
          obtain ⟨rfl, rfl, rfl⟩ : b = b' ∧ o = o' ∧ s = s' := by simpa using hm'
          refine mk_imm (μ := μ) (hb id (by simp [ids]) b (by simp [blk, hm])) (fun j q hj => ?_) off
          rw [← allP_some hl] at hj
          obtain ⟨u, h1, h2, h3⟩ := hat j q hj
          exact ⟨u, h1, h2, h3.mono hI (fun _ _ h => h) fun _ _ => rfl⟩
        · cases hf
      · cases hf
  | n + 1, .tuple .., x, v, hf, _, _ => by simp [frzL] at hf
  | n + 1, .fn .., x, v, hf, _, _ => by simp [frzL] at hf

end Go.Sx
end

section
namespace Go.Sx
open Go

section
variable {P : Program} {I0 I : Nat → Prop} {μ0 μ : Mu} {w0 w : World} {H : Heap} {nx : Nat}

theorem frz_vr {I I' : Nat → Prop} {h : Hp} (hI : ∀ b, I b → I' b) (hobj : ∀ id o, look H nx h id = some o → OR I μ w id o) {r r' : LV} {v : Value} (hf : frz nx h r = some r') (hv : VR I μ w r v) (hb : ∀ id ∈ ids r, ∀ b, blk μ id = some b → I' b) (μ' : Mu) :
    VR I' μ' w r' v ∧ ids r' = [] := by
  have hgo : ∀ (cs l : List LV), frz.go nx h cs = some l → l.length = cs.length ∧ ids.idsL l = [] ∧ ∀ (j : Nat) y, l[j]? = some y → ∃ q x, cs[j]? = some q ∧ y = .p x ∧ frzL nx h 8 q = some x := by
    intro cs
    induction cs with
    | nil => intro l hl; simp only [frz.go, Option.some.injEq] at hl; subst hl; exact ⟨rfl, rfl, by simp⟩
    | cons q r ih =>
      intro l hl
      simp only [frz.go] at hl
      split at hl
      · rename_i y l' h1 h2
        obtain rfl := Option.some.inj hl
        obtain ⟨g1, g3, g2⟩ := ih l' h2
        refine ⟨by simp [g1], by simp [ids.idsL, ids, g3], fun j z hz => ?_⟩
        cases j with
        | zero => simp at hz; subst hz; exact ⟨q, y, rfl, rfl, h1⟩
        | succ j => exact g2 j z hz
      · cases hl
  unfold frz at hf
  split at hf
  · rename_i vs
    split at hf
    · rename_i l hl
      obtain rfl := Option.some.inj hf
      obtain ⟨ar, rfl, hsz, hc⟩ := vr_tuple hv
      obtain ⟨g1, g3, g2⟩ := hgo vs l hl
      refine ⟨.tuple l ar (by rw [g1]; exact hsz) fun j y u hj hu => ?_, by simp [ids, g3]⟩
      obtain ⟨q, x, hq, rfl, hfq⟩ := g2 j y hj
      exact .p (frzL_pr hI hobj 8 q x u hfq (hc j q u hq hu) fun id hid b hbb => hb id (by simp only [ids]; exact mem_idsL hq id hid) b hbb)
    · cases hf
  · split at hf
    · rename_i x hx
      obtain rfl := Option.some.inj hf
      exact ⟨.p (frzL_pr hI hobj 8 r x v hx hv hb), rfl⟩
    · cases hf

theorem frzL_new {h : Hp} : ∀ (m : Nat) (l : LV) (x : PV), frzL nx h m l = some x → ∀ id ∈ ids l, nx ≤ id ∧ ∃ o, look H nx h id = some o
  | 0, l, x, hx, id, hid => by simp [frzL] at hx
  | m + 1, .p y, x, hx, id, hid => by simp [ids] at hid
  | m + 1, .arr i off len sz cp ex, x, hx, id, hid => by
    simp [ids] at hid
    subst hid
    simp only [frzL] at hx
    split at hx
    · cases hx
    · rename_i hlt'
      split at hx
      · rename_i cs hcs
        exact ⟨by omega, .cells cs, by unfold look; rw [if_neg hlt', hcs]⟩
      · cases hx
  | m + 1, .agg cs, x, hx, id, hid => by
    simp only [ids] at hid
    simp only [frzL] at hx
    split at hx
    · rename_i l hl
      have hgo : ∀ (cs : List LV) (l : List PV), frzL.go nx h m cs = some l → ∀ id ∈ ids.idsL cs, nx ≤ id ∧ ∃ o, look H nx h id = some o := by
        intro cs
        induction cs with
        | nil => intro l _ id hid; simp [ids.idsL] at hid
        | cons q rr ihc =>
          intro l hl id hid
          simp only [frzL.go] at hl
          split at hl
          · rename_i y l' h1 h2
            simp only [ids.idsL, List.mem_append] at hid
            rcases hid with hid | hid
            · exact frzL_new m q y h1 id hid
            · exact ihc l' h2 id hid
          · cases hl
      exact hgo cs l hl id hid
    · cases hx
  | m + 1, .junk, x, hx, id, hid => by simp [frzL] at hx
  | m + 1, .ref i off, x, hx, id, hid => by
    simp [ids] at hid
    subst hid
    simp only [frzL] at hx
    split at hx
    · cases hx
    · rename_i hlt'
      split at hx
      · rename_i cs hcs
        exact ⟨by omega, .cells cs, by unfold look; rw [if_neg hlt', hcs]⟩
      · cases hx
  | m + 1, .tuple .., x, hx, id, hid => by simp [frzL] at hx
  | m + 1, .fn .., x, hx, id, hid => by simp [frzL] at hx

theorem frz_new {h : Hp} {r r' : LV} (hf : frz nx h r = some r') : ∀ id ∈ ids r, nx ≤ id ∧ ∃ o, look H nx h id = some o := by
  intro id hid
  have hgo : ∀ (cs l : List LV), frz.go nx h cs = some l → ∀ id ∈ ids.idsL cs, nx ≤ id ∧ ∃ o, look H nx h id = some o := by
    intro cs
    induction cs with
    | nil => intro l _ id hid; simp [ids.idsL] at hid
    | cons q rr ihc =>
      intro l hl id hid
      simp only [frz.go] at hl
      split at hl
      · rename_i y l' h1 h2
        simp only [ids.idsL, List.mem_append] at hid
        rcases hid with hid | hid
        · exact frzL_new 8 q y h1 id hid
        · exact ihc l' h2 id hid
      · cases hl
  unfold frz at hf
  split at hf
  · rename_i vs
    split at hf
    · rename_i l hl
      exact hgo vs l hl id (by simpa only [ids] using hid)
    · cases hf
  · split at hf
    · rename_i x hx; exact frzL_new 8 r x hx id hid
    · cases hf

/-- What is left of a call: the machine's account, and the world's. -/
theorem tidy_sound {k k' r0 r : LV} {h : Hp} {u : Upd} {n : List (Option Obj)} (hf : tidyR H nx k r0 h = some (k', r, u, n)) (h0 : ∀ id, nx ≤ id → μ0 id = none)
    (hH0 : HR I0 μ0 w0 (fun _ => True) H) (g : Goes I0 I μ0 μ w0 w H (look H nx h) (fun _ => True) (fun id => nx ≤ id ∧ id < nx + h.new.length)) (hk : Keys H h) :
    (∀ id o, findU u id = some o → (H id).isSome = true) ∧
    ∃ I' μ', Goes I0 I' μ0 μ' w0 w H (look H nx ⟨u, n⟩) (fun _ => True) (fun id => nx ≤ id ∧ id < nx + n.length) ∧ (∀ b, I b → I' b) ∧ (∀ v, VR I μ w k v → VR I' μ' w k' v) ∧ (∀ v, VR I μ w r0 v → VR I' μ' w r v) := by
  unfold tidyR at hf
  split at hf
  · cases hf
  rename_i r1 hr1
  split at hf
  · cases hf
  rename_i seen hseen
  split at hf
  case isFalse => cases hf
  rename_i hown
  split at hf
  case h_2 => cases hf
  rename_i r2 u2 n2 hr2 hu2 hn2
  simp only [Option.some.injEq, Prod.mk.injEq] at hf
  obtain ⟨rfl, rfl, rfl, rfl⟩ := hf
  have hr : HR I μ w (fun _ => True) (look H nx h) := g.hr.sub fun _ _ => ⟨.inl trivial, rfl⟩
  have hnd : seen.Nodup := reach_nodup 1000 _ _ seen hseen (by simp)
  have hal : ∀ id ∈ seen, nx ≤ id ∧ ∃ o, look H nx h id = some o := fun id hid => by
    have := reach_alive 1000 _ _ seen hseen (by simp) id hid
    by_cases hc : id < nx
    · rw [if_pos hc] at this; cases this
    · rw [if_neg hc] at this; exact ⟨by omega, Option.isSome_iff_exists.1 this⟩
  obtain ⟨hnl, hng⟩ := renN_get hn2
  have hkeys : ∀ id o, findU u2 id = some o → (H id).isSome = true := fun id o ho => by
    obtain ⟨o', ho', _⟩ := (renU_find hu2 id).2 o ho
    exact hk id o' ho'
  -- what is immutable from now on
  obtain ⟨I', hI'⟩ : ∃ I' : Nat → Prop, I' = fun b => I b ∨ (∃ id ∈ ids r0, nx ≤ id ∧ (∃ o, look H nx h id = some o) ∧ blk μ id = some b) := ⟨_, rfl⟩
  have hII : ∀ b, I b → I' b := fun b hb => by rw [hI']; exact .inl hb
  have hval : ∀ v, VR I μ w k v → VR I' (renMu μ nx seen) w r2 v := fun v hv => (hv.ren hr2).mono hII (fun _ _ h => h) fun _ _ => rfl
  have hval2 : ∀ v, VR I μ w r0 v → VR I' (renMu μ nx seen) w r1 v := fun v hv => by
    have hfz := frz_new (H := H) hr1
    exact (frz_vr (I' := I') hII (fun id o ho => hr.obj id o trivial ho) hr1 hv (fun id hid b hb => by
      rw [hI']; exact .inr ⟨id, hid, (hfz id hid).1, (hfz id hid).2, hb⟩) _).1
  -- where each object that is left comes from
  have hfrom : ∀ id o, look H nx ⟨u2, n2⟩ id = some o → ∃ j p, look H nx h j = some p ∧ renMu μ nx seen id = μ j ∧ OR I (renMu μ nx seen) w id o ∧ (id < nx → j = id) ∧ (nx ≤ id → seen[id - nx]? = some j) := by
    intro id o ho
    by_cases hid : id < nx
    · have ho' := ho
      unfold look at ho'
      rw [if_pos hid] at ho'
      simp only [] at ho'
      have hmu : renMu μ nx seen id = μ id := by simp [renMu, hid]
      cases hfu : findU u2 id with
      | some q =>
        rw [hfu] at ho'
        simp only at ho'
        subst ho'
        obtain ⟨q', hq', hren⟩ := (renU_find hu2 id).2 _ hfu
        cases q' with
        | none => simp [renO] at hren
        | some p =>
          have hl : look H nx h id = some p := by unfold look; rw [if_pos hid, hq']
          obtain ⟨p', hp', hor⟩ := (hr.obj id p trivial hl).ren hmu hren
          obtain rfl := Option.some.inj hp'
          exact ⟨id, p, hl, hmu, hor, fun _ => rfl, fun h => absurd h (by omega)⟩
      | none =>
        rw [hfu] at ho'
        simp only at ho'
        have hnone := ((renU_find hu2 id).1).1 hfu
        have hl : look H nx h id = some o := by unfold look; rw [if_pos hid, hnone]; exact ho'
        refine ⟨id, o, hl, hmu, ?_, fun _ => rfl, fun h => absurd h (by omega)⟩
        have hor := hr.obj id o trivial hl
        have hor0 := hH0.obj id o trivial ho'
        cases o with
        | cells cs =>
          obtain ⟨b, oo, s, e, hm, hs, hle, hfz, hc⟩ := hor
          obtain ⟨_, _, _, _, _, _, _, _, hc0⟩ := hor0
          refine ⟨b, oo, s, e, by rw [hmu, hm], hs, hle, hfz, fun j l hj => ?_⟩
          obtain ⟨q, h1, h2, h3⟩ := hc j l hj
          obtain ⟨q0, _, _, h30⟩ := hc0 j l hj
          refine ⟨q, h1, h2, h3.agree fun i hi => ?_⟩
          have : i < nx := by
            rcases Nat.lt_or_ge i nx with h4 | h4
            · exact h4
            · have := h30.mapped i hi
              rw [h0 i h4] at this; cases this
          simp [renMu, this]
        | iter s q =>
          obtain ⟨b, hm, hb⟩ := hor
          exact ⟨b, by rw [hmu, hm], hb⟩
    · have ho' := ho
      unfold look at ho'
      rw [if_neg hid] at ho'
      simp only [] at ho'
      cases hs : seen[id - nx]? with
      | none =>
        have hlt' : seen.length ≤ id - nx := by
          rcases Nat.lt_or_ge (id - nx) seen.length with h1 | h1
          · rw [List.getElem?_eq_getElem h1] at hs; cases hs
          · exact h1
        rw [List.getElem?_eq_none (by omega)] at ho'
        cases ho'
      | some j =>
        obtain ⟨p, hp1, hp2⟩ := hng _ j hs
        rw [hp1] at ho'
        simp only at ho'
        subst ho'
        obtain ⟨_, q, hq⟩ := hal j (List.mem_of_getElem? hs)
        rw [hq] at hp2
        have hmu : renMu μ nx seen id = μ j := by simp [renMu, hid, hs]
        obtain ⟨p', hp', hor⟩ := (hr.obj j q trivial hq).ren hmu hp2
        obtain rfl := Option.some.inj hp'
        exact ⟨j, q, hq, hmu, hor, fun h => absurd h hid, fun _ => rfl⟩
  have hlen : ∀ id, nx + n2.length ≤ id → look H nx ⟨u2, n2⟩ id = none := fun id hid => look_new hid
  refine ⟨hkeys, I', renMu μ nx seen, ⟨fun id hn => ?_, fun id hn => h0 id hn.1, fun b hb => hII b (g.up b hb), fun b hb => ?_, g.stp, ⟨fun id o _ ho => ?_, fun id id' o o' _ _ ho ho' hne => ?_, fun id o b _ ho hb => ?_, fun b hb => ?_⟩, fun id b hn he hb => ?_,
    fun id ht => absurd trivial ht, fun id hn hl => ?_⟩, hII, hval, hval2⟩
  · by_cases hid : id < nx
    · simp only [renMu, if_pos hid]
      exact g.mu id (by omega)
    · have hge : seen.length ≤ id - nx := by omega
      simp only [renMu, if_neg hid, List.getElem?_eq_none hge]
      exact (h0 id (by omega)).symm
  · rw [hI'] at hb
    rcases hb with hb | ⟨id, hid, hge, ⟨o, ho⟩, hbk⟩
    · exact g.back b hb
    · refine .inr (g.new id b ⟨hge, ?_⟩ ⟨o, ho⟩ hbk)
      rcases look_some ho with h1 | h1 <;> omega
  · obtain ⟨j, p, _, _, hor, _⟩ := hfrom id o ho
    exact hor.mono hII (fun _ _ h => h) (fun _ _ => rfl) fun _ _ => rfl
  · obtain ⟨j, p, hj, hmu, _, hlt1, hge1⟩ := hfrom id o ho
    obtain ⟨j', p', hj', hmu', _, hlt2, hge2⟩ := hfrom id' o' ho'
    simp only [blk, hmu, hmu']
    refine hr.inj j j' p p' trivial trivial hj hj' fun e => hne ?_
    subst e
    by_cases c1 : id < nx <;> by_cases c2 : id' < nx
    · exact (hlt1 c1).symm.trans (hlt2 c2)
    · have := (hal j (List.mem_of_getElem? (hge2 (by omega)))).1
      have := hlt1 c1; omega
    · have := (hal j (List.mem_of_getElem? (hge1 (by omega)))).1
      have := hlt2 c2; omega
    · have e1 := hge1 (by omega)
      have e2 := hge2 (by omega)
      have := (List.getElem?_inj (List.getElem?_eq_some_iff.1 e1).1 hnd).1 (e1.trans e2.symm)
      omega
  · obtain ⟨j, p, hj, hmu, _, hlt1, hge1⟩ := hfrom id o ho
    simp only [blk, hmu]
    rw [hI'] at hb
    rcases hb with hb | ⟨i, hi, hge, ⟨q, hq⟩, hbk⟩
    · exact hr.imm j p b trivial hj hb
    · intro e
      have hne : j ≠ i := by
        intro e2
        subst e2
        by_cases c1 : id < nx
        · have := hlt1 c1; omega
        · have hm := List.mem_of_getElem? (hge1 (by omega))
          have := List.all_eq_true.1 hown j hi
          simp [hm] at this
      exact hr.inj j i p q trivial trivial hj hq hne (e.trans hbk.symm)
  · rw [hI'] at hb
    rcases hb with hb | ⟨id, hid, hge, ⟨o, ho⟩, hbk⟩
    · exact hr.lt b hb
    · obtain ⟨b', hb', hlt'⟩ := (hr.obj id o trivial ho).lt
      rw [hbk] at hb'
      obtain rfl := Option.some.inj hb'
      exact hlt'
  · obtain ⟨o, ho⟩ := he
    obtain ⟨j, p, hj, hmu, _, hlt1, hge1⟩ := hfrom id o ho
    simp only [blk, hmu] at hb
    have hjn := (hal j (List.mem_of_getElem? (hge1 hn.1))).1
    refine g.new j b ⟨hjn, ?_⟩ ⟨p, hj⟩ hb
    rcases look_some hj with h1 | h1 <;> omega
  · by_cases hid : id < nx
    · unfold look
      rw [if_pos hid]
      simp only []
      cases hfu : findU u2 id with
      | none => exact hl
      | some q => have := hkeys id q hfu; rw [hl] at this; cases this
    · exact hlen id (by omega)

/-- What is left of a call. -/
theorem finish_sound {own : Bool} {r0 r : LV} {h : Hp} {u : Upd} {n : List (Option Obj)} {v : Value} (hf : finish own H nx r0 h = some (r, u, n)) (h0 : ∀ id, nx ≤ id → μ0 id = none)
    (hH0 : HR I0 μ0 w0 (fun _ => True) H) (g : Goes I0 I μ0 μ w0 w H (look H nx h) (fun _ => True) (fun id => nx ≤ id ∧ id < nx + h.new.length)) (hk : Keys H h) (hv : VR I μ w r0 v) :
    (∀ id o, findU u id = some o → (H id).isSome = true) ∧
    ∃ I' μ', Goes I0 I' μ0 μ' w0 w H (look H nx ⟨u, n⟩) (fun _ => True) (fun id => nx ≤ id ∧ id < nx + n.length) ∧ VR I' μ' w r v := by
  cases own with
  | true =>
    have hf' : tidyR H nx r0 (.tuple []) h = some (r, .tuple [], u, n) := by
      simp only [finish, if_true, Bool.true_or] at hf
      simp only [tidyR, frz, frz.go, ids, ids.idsL, List.all_nil, if_true]
      split at hf
      · cases hf
      · rename_i seen hs
        split at hf
        · rename_i a b c h1 h2 h3
          simp only [Option.some.injEq, Prod.mk.injEq] at hf
          obtain ⟨rfl, rfl, rfl⟩ := hf
          simp only [h1, h2, h3]
        · cases hf
    obtain ⟨a, I', μ', b, _, c, _⟩ := tidy_sound hf' h0 hH0 g hk
    exact ⟨a, I', μ', b, c v hv⟩
  | false =>
    obtain ⟨r1, hr1⟩ : ∃ r1, frz nx h r0 = some r1 := by
      cases e : frz nx h r0 with
      | none => simp [finish, e] at hf
      | some r1 => exact ⟨r1, rfl⟩
    have hids : ids r1 = [] := (frz_vr (I := I) (I' := fun _ => True) (μ := μ) (w := w) (fun _ _ => trivial) (fun id o ho => (g.hr.sub (D' := fun _ => True) (lk' := look H nx h) fun _ _ => ⟨.inl trivial, rfl⟩).obj id o trivial ho) hr1 hv (fun _ _ _ _ => trivial) μ).2
    have hren : ∀ seen, ren nx seen r1 = some r1 := fun seen => by
      unfold frz at hr1
      split at hr1
      · split at hr1
        · rename_i l hl
          obtain rfl := Option.some.inj hr1
          have : ∀ (cs l : List LV), frz.go nx h cs = some l → ren.go nx seen l = some l := by
            intro cs
            induction cs with
            | nil => intro l hl; simp only [frz.go, Option.some.injEq] at hl; subst hl; rfl
            | cons q rr ih =>
              intro l hl
              simp only [frz.go] at hl
              split at hl
              · rename_i y l' h1 h2
                obtain rfl := Option.some.inj hl
                simp only [ren.go, ren, ih l' h2]
              · cases hl
          simp only [ren, this _ l hl]
        · cases hr1
      · split at hr1
        · obtain rfl := Option.some.inj hr1; rfl
        · cases hr1
    have hf' : tidyR H nx (.tuple []) r0 h = some (.tuple [], r, u, n) := by
      simp only [finish, Bool.false_eq_true, if_false, hr1, Bool.false_or, hids, List.nil_append] at hf
      simp only [tidyR, hr1, ids, ids.idsL, List.nil_append]
      split at hf
      · cases hf
      · rename_i seen hs
        split at hf
        · rename_i hall
          rw [if_pos hall]
          rw [hren] at hf
          split at hf
          · rename_i a b c h1 h2 h3
            simp only [Option.some.injEq, Prod.mk.injEq] at hf
            obtain ⟨rfl, rfl, rfl⟩ := hf
            obtain rfl := Option.some.inj h1
            simp only [ren, ren.go, h2, h3]
          · cases hf
        · cases hf
    obtain ⟨a, I', μ', b, _, _, c⟩ := tidy_sound hf' h0 hH0 g hk
    exact ⟨a, I', μ', b, c v hv⟩

end

/-- A tidying. -/
theorem Inv.tidy {c : Ctx} {I0 : Nat → Prop} {μ0 : Mu} {w0 : World} {nt : Nat} {env : Env} {h : Hp} {a : Act} {w : World} {I : Nat → Prop} {μ : Mu} (i : Inv c I0 μ0 w0 nt env h a w I μ)
    {keep fz : List Nat} {ks fs : List LV} {u : Upd} {n : List (Option Obj)}
    (hr : tidyR c.H c.nx (.tuple (keep.map (get env))) (.tuple (fz.map (get env))) h = some (.tuple ks, .tuple fs, u, n)) :
    ∃ I' μ', Inv c I0 μ0 w0 nt (keep.zip ks ++ fz.zip fs) ⟨u, n⟩ a w I' μ' := by
  have h0 : ∀ id, c.nx ≤ id → μ0 id = Option.none := fun id hid => by
    by_cases e : id < c.nx + h.new.length
    · exact i.goes.fresh id ⟨hid, e⟩
    · rw [← i.goes.mu id (by omega)]; exact i.none id (by omega)
  obtain ⟨hk, I', μ', g, hII, v1, v2⟩ := tidy_sound hr h0 i.base i.goes i.keys
  have hvs : ∀ (l : List Nat), VR I μ w (.tuple (l.map (get env))) (.tuple (l.map fun t => a.tmps.getD t undef).toArray) := fun l =>
    .tuple _ _ (by simp) fun j x v hj hv => by
      simp only [List.getElem?_map, Option.map_eq_some_iff, List.getElem?_toArray] at hj hv
      obtain ⟨t, ht, rfl⟩ := hj
      obtain ⟨t', ht', rfl⟩ := hv
      obtain rfl := Option.some.inj (ht.symm.trans ht')
      exact i.env t
  have hz : ∀ (l : List Nat) (xs : List LV), VR I' μ' w (.tuple xs) (.tuple (l.map fun t => a.tmps.getD t undef).toArray) → ∀ t x, (t, x) ∈ l.zip xs → VR I' μ' w x (a.tmps.getD t undef) := fun l xs hx t x hm => by
    obtain ⟨ar, e, _, hc⟩ := vr_tuple hx
    obtain rfl := Value.tuple.inj e
    obtain ⟨j, hj, e⟩ := List.mem_iff_getElem.1 hm
    rw [List.getElem_zip] at e
    obtain ⟨e1, e2⟩ := Prod.mk.inj e
    have h1 : j < l.length := by rw [List.length_zip] at hj; omega
    have h2 : j < xs.length := by rw [List.length_zip] at hj; omega
    exact hc j x _ (by rw [List.getElem?_eq_getElem h2, e2]) (by simp [h1, e1])
  have hg : ∀ (l : Env) t, get l t = .junk ∨ (t, get l t) ∈ l := by
    intro l t
    induction l with
    | nil => exact .inl rfl
    | cons p r ih =>
      obtain ⟨s, x⟩ := p
      simp only [get]
      by_cases e : t = s
      · subst e; rw [if_pos rfl]; exact .inr List.mem_cons_self
      · rw [if_neg e]; exact ih.imp (fun h => h) fun h => List.mem_cons_of_mem _ h
  refine ⟨I', μ', ⟨fun t => ?_, i.size, i.defers, g, fun id hid => ?_, i.glob.mono hII fun _ _ => rfl, hk, i.base⟩⟩
  · rcases hg (keep.zip ks ++ fz.zip fs) t with e | e
    · rw [e]; exact .junk _
    · rcases List.mem_append.1 e with e | e
      · exact hz keep ks (v1 _ (hvs keep)) _ _ e
      · exact hz fz fs (v2 _ (hvs fz)) _ _ e
  · have hid' : c.nx + n.length ≤ id := hid
    rw [g.mu id (by omega)]; exact h0 id (by omega)
end Go.Sx
end

section
namespace Go.Sx
open Go

def Ex.out : Ex → Exit
  | .goto l => .goto l
  | .normal => .normal
  | .exit id => .exit id
  | .ret => .ret

section
variable {P : Program} {imT : An} {c : Ctx} {I0 : Nat → Prop} {μ0 : Mu} {w0 : World} {nt : Nat} {res : List Nat}

theorem Inv.drew {env : Env} {h : Hp} {a : Act} {w : World} {I : Nat → Prop} {μ : Mu} (i : Inv c I0 μ0 w0 nt env h a w I μ) : Inv c I0 μ0 w0 nt env h a { w with drawn := w.drawn + 1 } I μ := by
  have g : Goes I I μ μ w { w with drawn := w.drawn + 1 } (look c.H c.nx h) (look c.H c.nx h) (fun _ => True) (fun _ => False) := (Goes.drew i.hr.lt).widen i.hr fun _ h => h.elim
  exact ⟨i.env.mono fun l v hl => g.vr i.hr hl, i.size, i.defers, i.goes.trans g fun id => by simp, i.none, i.glob.mono g.up (g.imm_block i.hr), i.keys, i.base⟩

theorem tidy_run {n : Nat} {k f : List Nat} {st st' : St} {e : Ex} (h : runC c n (.tidy k f) st = some (e, st')) : e = .normal ∧ ∀ (a : Act) (w : World) (I : Nat → Prop) (μ : Mu), Inv c I0 μ0 w0 nt st.env st.h a w I μ → ∃ I' μ', Inv c I0 μ0 w0 nt st'.env st'.h a w I' μ' := by
  simp only [runC] at h
  split at h
  case h_2 => cases h
  rename_i ks fs u m hr
  simp only [Option.some.injEq, Prod.mk.injEq] at h
  obtain ⟨rfl, rfl⟩ := h
  exact ⟨rfl, fun a w I μ i => i.tidy hr⟩

/-- What is tidied behind a text. -/
theorem thenT_run {n : Nat} {b : IRC} {l : List (Nat × List Nat)} {id : Nat} {a0 : List Nat} {st st' : St} {e : Ex} (h : runC c n (thenT b (tidyOf l id a0)) st = some (e, st')) :
    ∃ st1, runC c n b st = some (e, st1) ∧ ∀ (a : Act) (w : World) (I : Nat → Prop) (μ : Mu), Inv c I0 μ0 w0 nt st1.env st1.h a w I μ → ∃ I' μ', Inv c I0 μ0 w0 nt st'.env st'.h a w I' μ' := by
  unfold tidyOf at h
  split at h
  · simp only [thenT, runC] at h
    cases hb : runC c n b st with
    | none => rw [hb] at h; cases h
    | some y =>
      obtain ⟨e1, st1⟩ := y
      rw [hb] at h
      cases e1 with
      | normal =>
        obtain ⟨rfl, hi⟩ := tidy_run (c := c) (I0 := I0) (μ0 := μ0) (w0 := w0) (nt := nt) (n := n) (k := a0.filter fun x => !(List.contains _ x)) (f := a0.filter fun x => List.contains _ x) (st := st1) (e := e) (st' := st') h
        exact ⟨st1, rfl, hi⟩
      | exit j => simp only [Option.some.injEq, Prod.mk.injEq] at h; obtain ⟨rfl, rfl⟩ := h; exact ⟨st1, rfl, fun a w I μ i => ⟨I, μ, i⟩⟩
      | ret => simp only [Option.some.injEq, Prod.mk.injEq] at h; obtain ⟨rfl, rfl⟩ := h; exact ⟨st1, rfl, fun a w I μ i => ⟨I, μ, i⟩⟩
      | goto j => simp only [Option.some.injEq, Prod.mk.injEq] at h; obtain ⟨rfl, rfl⟩ := h; exact ⟨st1, rfl, fun a w I μ i => ⟨I, μ, i⟩⟩
  · exact ⟨st', h, fun a w I μ i => ⟨I, μ, i⟩⟩

/-- What is tidied ahead of a round. -/
theorem headT_run {n : Nat} {b : Bool} {l : List Nat} {d : IRC} {st st' : St} {e : Ex} (h : runC c n (if b then .seq (.tidy l []) d else d) st = some (e, st')) :
    ∃ st0, runC c n d st0 = some (e, st') ∧ ∀ (a : Act) (w : World) (I : Nat → Prop) (μ : Mu), Inv c I0 μ0 w0 nt st.env st.h a w I μ → ∃ I' μ', Inv c I0 μ0 w0 nt st0.env st0.h a w I' μ' := by
  cases b with
  | false => exact ⟨st, h, fun a w I μ i => ⟨I, μ, i⟩⟩
  | true =>
    simp only [if_true] at h
    rw [runC] at h
    cases hb : runC c n (.tidy l []) st with
    | none => rw [hb] at h; cases h
    | some y =>
      obtain ⟨e1, st1⟩ := y
      rw [hb] at h
      obtain ⟨rfl, hi⟩ := tidy_run (I0 := I0) (μ0 := μ0) (w0 := w0) (nt := nt) hb
      exact ⟨st1, h, hi⟩

theorem region_sound (hO : OSound P c.G c.O) (hm : P.follows .mixedOrders = true) {id : Nat} {ops : Array Oper} {draw : Bool} {x : LCtx} {after : List Nat} {n : Nat} {st st' : St} {e : Ex} {a : Act} {w : World} {I : Nat → Prop} {μ : Mu} {Q : Exit → Act → World → Prop}
    (hr : runC c n (cc P imT nt res x (.region id ops draw) after).1 st = some (e, st')) (hi : Inv c I0 μ0 w0 nt st.env st.h a w I μ) (hQ : ∀ a' w' I' μ', Inv c I0 μ0 w0 nt st'.env st'.h a' w' I' μ' → Q e.out a' w') :
    (Code.region id ops draw).wp P Q a w := by
  simp only [cc] at hr
  obtain ⟨st1, hr, hti⟩ := thenT_run (I0 := I0) (μ0 := μ0) (w0 := w0) (nt := nt) hr
  have hQ : ∀ a' w' I' μ', Inv c I0 μ0 w0 nt st1.env st1.h a' w' I' μ' → Q e.out a' w' := fun a' w' I' μ' i => by
    obtain ⟨I'', μ'', i'⟩ := hti a' w' I' μ' i
    exact hQ a' w' I'' μ'' i'
  clear hti
  split at hr
  case isTrue => simp [runC] at hr
  rename_i hedge
  cases draw with
  | false =>
    simp only [Bool.false_eq_true, if_false, runC] at hr
    split at hr
    case h_2 => cases hr
    rename_i env h hrun
    simp only [Option.some.injEq, Prod.mk.injEq] at hr
    obtain ⟨rfl, rfl⟩ := hr
    refine wp_region ?_
    rw [List.range_eq_range']
    exact seq_ops (imT := imT) hO (fun a' w' I' μ' hi' => hQ a' w' I' μ' (hi'.keep after)) ops.size 0 _ _ a w I μ (by omega) (by simpa using hrun) hi
  | true =>
    simp only [if_true, runC] at hr
    split at hr
    case h_2 => cases hr
    rename_i tr env h hrun
    split at hr
    case isFalse => cases hr
    rename_i hind
    simp only [Option.some.injEq, Prod.mk.injEq] at hr
    obtain ⟨rfl, rfl⟩ := hr
    obtain ⟨E, Hs, R, a1, a2, a3, a4, a5, a6⟩ := runT_seq _ _ _ _ _ _ hrun
    simp only [List.length_map, Array.length_toList] at a3 a4 a5 a6
    have hreg : Reg P imT c nt ops E Hs R tr := by
      refine ⟨hO, fun i o ho => ?_, fun i o e ho he hb => ?_, fun i j hij hj hb => ?_⟩
      · have hlt := (Array.getElem?_eq_some_iff.1 ho).1
        have := a6 i hlt
        simp only [List.getElem_map, Array.getElem_toList] at this
        rw [(Array.getElem?_eq_some_iff.1 ho).2] at this
        exact this
      · simp only [Bool.true_and, Bool.not_eq_true', Bool.not_eq_false, Bool.and_eq_true] at hedge
        have h1 := Array.all_eq_true'.1 hedge.1 (o, i) (by
          rw [Array.mem_zipIdx_iff_getElem?]; exact ho)
        have h2 := Array.all_eq_true'.1 h1 e he
        rw [hb] at h2
        simpa using h2
      · simp only [Bool.true_and, Bool.not_eq_true', Bool.not_eq_false, Bool.and_eq_true] at hedge
        have hget : (Region.before ops).toList.getD j 0 = (Region.before ops).getD j 0 := by
          simp [List.getD_eq_getElem?_getD, Array.getD_eq_getD_getElem?]
        have hb' : ((Region.before ops).toList.getD j 0).testBit i = false := by rw [hget]; exact hb
        have hl1 : i < (ops.toList.map (coper P imT nt ops)).length := by simp; omega
        have hl2 : j < (ops.toList.map (coper P imT nt ops)).length := by simp; omega
        exact apartT_of (indepS_apart hedge.2 i j hij hl2 hb') (indepD_apart hind i j hij (by omega) hb') (tr_slots hrun i hl1) (tr_slots hrun j hl2)
    refine wp_region_any hm ?_
    have hi' := hi.drew
    rw [← a1, ← a2] at hi'
    refine draw_all (I0 := I0) (μ0 := μ0) (w0 := w0) hreg hi'.keys hi.base (fun a' w' I' μ' hi2 => hQ a' w' I' μ' ?_) ops.size _ a _ I μ (by simp) (by
        refine Nat.le_trans (List.length_filter_le _ _) ?_
        simp) ?_
    · rw [a3, a4] at hi2
      exact hi2.keep after
    · have hfalse : (fun k => (Array.replicate ops.size false).getD k false) = fun _ => false := funext fun k => by
        simp only [Array.getD_eq_getD_getElem?, Array.getElem?_replicate]
        split <;> rfl
      rw [hfalse]
      have he : ∀ k t, eD (E 0) R tr (fun _ => false) k t = get (E 0) t := by
        intro k
        induction k with
        | zero => intro t; rfl
        | succ k ih => intro t; rw [eD, if_neg (by simp)]; exact ih t
      have hl : ∀ k id, lD c.H c.nx Hs tr (fun _ => false) k id = look c.H c.nx (Hs 0) id := by
        intro k
        induction k with
        | zero => intro t; rfl
        | succ k ih => intro t; rw [lD, if_neg (by simp)]; exact ih t
      refine ⟨fun t => by rw [he]; exact hi'.env t, hi'.size, hi'.defers, ?_, fun id h1 _ => hi'.none id h1, hi'.glob, fun j o e hj => by cases hj⟩
      have : lD c.H c.nx Hs tr (fun _ => false) ops.size = look c.H c.nx (Hs 0) := funext fun id => hl _ id
      rw [this]
      exact hi'.goes.congrN fun id => by simp


/- Labels. -/
theorem splitI_then {b : IRC} (hb : splitI b = none) (l : List (Nat × List Nat)) (id : Nat) (a : List Nat) : splitI (thenT b (tidyOf l id a)) = none := by
  unfold tidyOf
  split
  · simp [thenT, splitI, hb]
  · simpa [thenT] using hb
theorem splitI_none {P : Program} {imT : An} {nt : Nat} {res : List Nat} : ∀ (c : Code) (x : LCtx) (a : List Nat), splitI (cc P imT nt res x c a).1 = none → ∀ j, findLabel c j = none
  | .label l, x, a, h, j => by simp [cc, splitI] at h
  | .seq p q, x, a, h, j => by
    simp only [cc, splitI] at h
    split at h
    · cases h
    · rename_i h1
      split at h
      · cases h
      · rename_i h2
        simp only [findLabel, splitI_none p _ _ h1 j, splitI_none q _ _ h2 j]
  | .skip, x, a, h, j => rfl
  | .region .., x, a, h, j => rfl
  | .cond .., x, a, h, j => rfl
  | .block .., x, a, h, j => rfl
  | .loop .., x, a, h, j => rfl
  | .exit .., x, a, h, j => rfl
  | .ret, x, a, h, j => rfl
  | .rangeFunc .., x, a, h, j => rfl
  | .scope .., x, a, h, j => rfl
  | .goto .., x, a, h, j => rfl
  | .refuse .., x, a, h, j => rfl
theorem splitI_some {P : Program} {imT : An} {nt : Nat} {res : List Nat} : ∀ (c : Code) (x : LCtx) (a : List Nat) (X : IRC) (l : Nat) (lv : List Nat) (Y : IRC), splitI (cc P imT nt res x c a).1 = some (X, l, lv, Y) →
    (∃ rest, findLabel c l = some rest ∧ (cc P imT nt res x rest a).1 = Y) ∧ (splitI Y = none → ∀ j, j ≠ l → findLabel c j = none)
  | .label k, x, a, X, l, lv, Y, h => by
    simp only [cc, splitI, Option.some.injEq, Prod.mk.injEq] at h
    obtain ⟨rfl, rfl, rfl, rfl⟩ := h
    refine ⟨⟨.skip, by simp [findLabel], rfl⟩, fun _ j hj => ?_⟩
    have : ¬ (k == j) = true := by simp; exact fun e => hj e.symm
    simp [findLabel, this]
  | .seq p q, x, a, X, l, lv, Y, h => by
    simp only [cc, splitI] at h
    split at h
    · rename_i X1 l1 lv1 Y1 h1
      simp only [Option.some.injEq, Prod.mk.injEq] at h
      obtain ⟨rfl, rfl, rfl, rfl⟩ := h
      obtain ⟨⟨rest, h2, h3⟩, h4⟩ := splitI_some p _ _ _ _ _ _ h1
      refine ⟨⟨.seq rest q, by simp [findLabel, h2], by simp only [cc, h3]⟩, fun hn j hj => ?_⟩
      simp only [splitI] at hn
      split at hn
      · cases hn
      · rename_i h5
        split at hn
        · cases hn
        · rename_i h6
          simp only [findLabel, h4 h5 j hj, splitI_none q _ _ h6 j]
    · rename_i h1
      split at h
      · rename_i X1 l1 lv1 Y1 h2
        simp only [Option.some.injEq, Prod.mk.injEq] at h
        obtain ⟨rfl, rfl, rfl, rfl⟩ := h
        obtain ⟨⟨rest, h3, h4⟩, h5⟩ := splitI_some q _ _ _ _ _ _ h2
        refine ⟨⟨rest, by simp only [findLabel, splitI_none p _ _ h1, h3], h4⟩, fun hn j hj => ?_⟩
        simp only [findLabel, splitI_none p _ _ h1, h5 hn j hj]
      · cases h
  | .skip, x, a, X, l, lv, Y, h => by simp [cc, splitI] at h
  | .region id ops draw, x, a, X, l, lv, Y, h => by
    simp only [cc] at h
    rw [splitI_then (by split <;> rfl)] at h
    cases h
  | .cond .., x, a, X, l, lv, Y, h => by simp [cc, splitI] at h
  | .block .., x, a, X, l, lv, Y, h => by
    simp only [cc] at h
    rw [splitI_then rfl] at h
    cases h
  | .loop .., x, a, X, l, lv, Y, h => by simp [cc, splitI] at h
  | .exit .., x, a, X, l, lv, Y, h => by simp [cc, splitI] at h
  | .ret, x, a, X, l, lv, Y, h => by simp [cc, splitI] at h
  | .rangeFunc .., x, a, X, l, lv, Y, h => by simp [cc, splitI] at h
  | .scope c, x, a, X, l, lv, Y, h => by
    simp only [cc] at h
    split at h
    · split at h <;> simp [splitI] at h
    · simp [splitI] at h
  | .goto .., x, a, X, l, lv, Y, h => by simp [cc, splitI] at h
  | .refuse .., x, a, X, l, lv, Y, h => by simp [cc, splitI] at h
/-- A text with a label runs as what stands ahead, and then what stands behind. -/
theorem splitI_run (c : Ctx) (n : Nat) : ∀ (i X : IRC) (l : Nat) (lv : List Nat) (Y : IRC) (st : St), splitI i = some (X, l, lv, Y) → runC c n i st = match runC c n X st with
    | some (.normal, st') => runC c n Y st'
    | r => r
  | .label k lv', X, l, lv, Y, st, h => by
    simp only [splitI, Option.some.injEq, Prod.mk.injEq] at h
    obtain ⟨rfl, rfl, rfl, rfl⟩ := h
    rfl
  | .seq p q, X, l, lv, Y, st, h => by
    simp only [splitI] at h
    split at h
    · rename_i X1 l1 lv1 Y1 h1
      simp only [Option.some.injEq, Prod.mk.injEq] at h
      obtain ⟨rfl, rfl, rfl, rfl⟩ := h
      simp only [runC, splitI_run c n p _ _ _ _ st h1]
      cases runC c n X1 st with
      | none => rfl
      | some r =>
        obtain ⟨e, s⟩ := r
        cases e <;> rfl
    · split at h
      · rename_i X1 l1 lv1 Y1 h2
        simp only [Option.some.injEq, Prod.mk.injEq] at h
        obtain ⟨rfl, rfl, rfl, rfl⟩ := h
        simp only [runC]
        cases runC c n p st with
        | none => rfl
        | some r =>
          obtain ⟨e, s⟩ := r
          cases e with
          | normal => exact splitI_run c n q _ _ _ _ s h2
          | _ => rfl
      · cases h
  | .skip, _, _, _, _, _, h => by simp [splitI] at h
  | .region .., _, _, _, _, _, h => by simp [splitI] at h
  | .cond .., _, _, _, _, _, h => by simp [splitI] at h
  | .block .., _, _, _, _, _, h => by simp [splitI] at h
  | .loop .., _, _, _, _, _, h => by simp [splitI] at h
  | .exit .., _, _, _, _, _, h => by simp [splitI] at h
  | .ret, _, _, _, _, _, h => by simp [splitI] at h
  | .bad, _, _, _, _, _, h => by simp [splitI] at h
  | .goto .., _, _, _, _, _, h => by simp [splitI] at h
  | .scope .., _, _, _, _, _, h => by simp [splitI] at h
  | .tidy .., _, _, _, _, _, h => by simp [splitI] at h

/-- A text within a scope, with so many jumps. -/
def jumps (P : Program) (p : Code) (Q : Exit → Act → World → Prop) : Nat → Code → Act → World → Prop
  | 0, _, _, _ => False
  | n + 1, c, a, w => c.wp P (fun e a w => match e with
    | .goto l => (match findLabel p l with
      | some rest => jumps P p Q n rest a w
      | none => Q (.goto l) a w)
    | e => Q e a w) a w
theorem step_inScope {P : Program} {b : Frame} {a : Act} {k : List Item} {cs : List Frame} {w : World} {c : Code} : step P (lone (b.at a (.inScope c :: k)) cs w) = .next (lone (b.at a k) cs w) :=
  step_lone_go (by simp [stepG, stepG.exec, Frame.at])
theorem step_scope {P : Program} {b : Frame} {a : Act} {k : List Item} {cs : List Frame} {w : World} {c : Code} : step P (lone (b.at a (.code (.scope c) :: k)) cs w) = .next (lone (b.at a (.code c :: .inScope c :: k)) cs w) :=
  step_lone_go (by simp [stepG, stepG.exec, Frame.at])
theorem wp_scope {P : Program} {p : Code} {Q : Exit → Act → World → Prop} {a : Act} {w : World} (n : Nat) (h : jumps P p Q n p a w) : (Code.scope p).wp P Q a w := by
  intro b k cs
  have key : ∀ n c a w, jumps P p Q n c a w → ∃ e a' w', Q e a' w' ∧ Arrives P (lone (b.at a (.code c :: .inScope p :: k)) cs w) b k cs e a' w' := by
    intro n
    induction n with
    | zero => intro c a w h; exact h.elim
    | succ n ih =>
      intro c a w h
      obtain ⟨e, a₁, w₁, hq, harr⟩ := h b (.inScope p :: k) cs
      cases e with
      | normal => exact ⟨.normal, a₁, w₁, hq, Steps.trans harr (.one step_inScope)⟩
      | exit id => exact ⟨.exit id, a₁, w₁, hq, fun k' hk => harr k' (by simp [exitTo, hk])⟩
      | goto l =>
        simp only at hq
        split at hq
        · rename_i rest hl
          obtain ⟨e₂, a₂, w₂, hq₂, harr₂⟩ := ih rest a₁ w₁ hq
          exact ⟨e₂, a₂, w₂, hq₂, .of_steps (harr _ (by simp [gotoIn, hl])) harr₂⟩
        · rename_i hl
          exact ⟨.goto l, a₁, w₁, hq, fun k' hk => harr k' (by simp [gotoIn, hl, hk])⟩
      | ret => exact ⟨_, a₁, w₁, hq, harr⟩
      | panic ch => exact ⟨_, a₁, w₁, hq, harr⟩
      | outgrown => exact ⟨_, a₁, w₁, hq, harr⟩
  obtain ⟨e, a', w', hq, harr⟩ := key n p a w h
  exact ⟨e, a', w', hq, .of_steps (.one step_scope) harr⟩

/-- What the machine tells of a text, is so. -/
def CS (P : Program) (imT : An) (c : Ctx) (I0 : Nat → Prop) (μ0 : Mu) (w0 : World) (nt : Nat) (res : List Nat) (n : Nat) (code : Code) : Prop :=
  ∀ (x : LCtx) (after : List Nat) (st st' : St) (e : Ex) (a : Act) (w : World) (I : Nat → Prop) (μ : Mu) (Q : Exit → Act → World → Prop),
    runC c n (cc P imT nt res x code after).1 st = some (e, st') → Inv c I0 μ0 w0 nt st.env st.h a w I μ → (∀ a' w' I' μ', Inv c I0 μ0 w0 nt st'.env st'.h a' w' I' μ' → Q e.out a' w') → code.wp P Q a w

theorem cs_skip {n : Nat} : CS P imT c I0 μ0 w0 nt res n .skip := by
  intro x after st st' e a w I μ Q hr hi hQ
  simp only [cc, runC, Option.some.injEq, Prod.mk.injEq] at hr
  obtain ⟨rfl, rfl⟩ := hr
  exact wp_skip (hQ a w I μ hi)
theorem cs_seq {n : Nat} {p q : Code} (hp : CS P imT c I0 μ0 w0 nt res n p) (hq : CS P imT c I0 μ0 w0 nt res n q) : CS P imT c I0 μ0 w0 nt res n (.seq p q) := by
  intro x after st st' e a w I μ Q hr hi hQ
  simp only [cc, runC] at hr
  refine wp_seq ?_
  split at hr
  · rename_i st1 h1
    refine hp _ _ st st1 .normal a w I μ _ h1 hi fun a' w' I' μ' hi' => ?_
    exact hq _ _ st1 st' e a' w' I' μ' _ hr hi' hQ
  · rename_i hne
    cases hrun : runC c n (cc P imT nt res x p (cc P imT nt res x q after).2).1 st with
    | none => rw [hrun] at hr; cases hr
    | some y =>
      obtain ⟨e1, st1⟩ := y
      rw [hrun] at hr
      simp only [Option.some.injEq, Prod.mk.injEq] at hr
      obtain ⟨rfl, rfl⟩ := hr
      refine hp _ _ st st1 e1 a w I μ _ hrun hi fun a' w' I' μ' hi' => ?_
      have hn : e1 ≠ .normal := fun h => by subst h; exact hne st1 hrun
      cases e1 with
      | normal => exact absurd rfl hn
      | exit id => exact hQ a' w' I' μ' hi'
      | ret => exact hQ a' w' I' μ' hi'
      | goto l => exact hQ a' w' I' μ' hi'
theorem cs_cond {n : Nat} {o : Operand} {p q : Code} (hp : CS P imT c I0 μ0 w0 nt res n p) (hq : CS P imT c I0 μ0 w0 nt res n q) : CS P imT c I0 μ0 w0 nt res n (.cond o p q) := by
  intro x after st st' e a w I μ Q hr hi hQ
  simp only [cc, runC] at hr
  split at hr
  case h_2 => cases hr
  rename_i t ht
  have hv := hi.env.opds hi.glob o
  rw [ht] at hv
  refine wp_cond (t := t) (vr_s hv) ?_
  cases t with
  | true => simp only [if_true] at hr ⊢; exact hp _ _ st st' e a w I μ Q hr hi hQ
  | false => simp only [Bool.false_eq_true, if_false] at hr ⊢; exact hq _ _ st st' e a w I μ Q hr hi hQ
theorem cs_block {n : Nat} {id : Nat} {p : Code} (hp : CS P imT c I0 μ0 w0 nt res n p) : CS P imT c I0 μ0 w0 nt res n (.block id p) := by
  intro x after st st' e a w I μ Q hr hi hQ
  simp only [cc] at hr
  obtain ⟨stt, hr, hti⟩ := thenT_run (I0 := I0) (μ0 := μ0) (w0 := w0) (nt := nt) hr
  have hQ : ∀ a' w' I' μ', Inv c I0 μ0 w0 nt stt.env stt.h a' w' I' μ' → Q e.out a' w' := fun a' w' I' μ' i => by
    obtain ⟨I'', μ'', i'⟩ := hti a' w' I' μ' i
    exact hQ a' w' I'' μ'' i'
  clear hti
  simp only [runC] at hr
  refine wp_block ?_
  split at hr
  · rename_i j st1 h1
    refine hp _ _ st st1 (.exit j) a w I μ _ h1 hi fun a' w' I' μ' hi' => ?_
    simp only [Ex.out, Exit.inBlock]
    split at hr
    · rename_i hj
      simp only [Option.some.injEq, Prod.mk.injEq] at hr
      obtain ⟨rfl, rfl⟩ := hr
      rw [if_pos hj]
      exact hQ a' w' I' μ' hi'
    · rename_i hj
      simp only [Option.some.injEq, Prod.mk.injEq] at hr
      obtain ⟨rfl, rfl⟩ := hr
      rw [if_neg hj]
      exact hQ a' w' I' μ' hi'
  · rename_i hne
    cases hrun : runC c n (cc P imT nt res ((id, after) :: x) p after).1 st with
    | none => rw [hrun] at hr; cases hr
    | some y =>
      obtain ⟨e1, st1⟩ := y
      rw [hrun] at hr
      simp only [Option.some.injEq, Prod.mk.injEq] at hr
      obtain ⟨rfl, rfl⟩ := hr
      refine hp _ _ st st1 e1 a w I μ _ hrun hi fun a' w' I' μ' hi' => ?_
      cases e1 with
      | normal => exact hQ a' w' I' μ' hi'
      | exit j => exact absurd hrun (hne j st1)
      | ret => exact hQ a' w' I' μ' hi'
      | goto l => exact hQ a' w' I' μ' hi'
theorem cs_loop {n : Nat} {p : Code} (hp : CS P imT c I0 μ0 w0 nt res n p) : CS P imT c I0 μ0 w0 nt res n (.loop p) := by
  intro x after st st' e a w I μ Q hr hi hQ
  simp only [cc, runC] at hr
  obtain ⟨l, hl⟩ : ∃ l, l = (cc P imT nt res x p (cc P imT nt res x p []).2).2 := ⟨_, rfl⟩
  obtain ⟨l2, hl2⟩ : ∃ l2, l2 = (cc P imT nt res x p l).2 := ⟨_, rfl⟩
  rw [← hl, ← hl2] at hr
  have key : ∀ (k : Nat) (st : St) (a : Act) (w : World) (I : Nat → Prop) (μ : Mu), iter (runC c n (if imT.lp then .seq (.tidy l2 []) (cc P imT nt res x p l).1 else (cc P imT nt res x p l).1)) k st = some (e, st') → Inv c I0 μ0 w0 nt st.env st.h a w I μ → Code.rounds P p Q k a w := by
    intro k
    induction k with
    | zero => intro st a w I μ hk; simp [iter] at hk
    | succ k ih =>
      intro st a w I μ hk hi
      simp only [iter] at hk
      rw [rounds_succ]
      split at hk
      · rename_i st1 h1
        obtain ⟨st0, h1, hti⟩ := headT_run (I0 := I0) (μ0 := μ0) (w0 := w0) (nt := nt) h1
        obtain ⟨I2, μ2, hi2⟩ := hti a w I μ hi
        exact hp _ _ st0 st1 .normal a w I2 μ2 _ h1 hi2 fun a' w' I' μ' hi' => ih st1 a' w' I' μ' hk hi'
      · rename_i hne
        cases hrun : runC c n (if imT.lp then .seq (.tidy l2 []) (cc P imT nt res x p l).1 else (cc P imT nt res x p l).1) st with
        | none => rw [hrun] at hk; cases hk
        | some y =>
          obtain ⟨e1, st1⟩ := y
          rw [hrun] at hk
          simp only [Option.some.injEq, Prod.mk.injEq] at hk
          obtain ⟨rfl, rfl⟩ := hk
          obtain ⟨st0, hrun0, hti⟩ := headT_run (I0 := I0) (μ0 := μ0) (w0 := w0) (nt := nt) hrun
          obtain ⟨I2, μ2, hi2⟩ := hti a w I μ hi
          refine hp _ _ st0 st1 e1 a w I2 μ2 _ hrun0 hi2 fun a' w' I' μ' hi' => ?_
          cases e1 with
          | normal => exact absurd hrun (hne st1)
          | exit j => exact hQ a' w' I' μ' hi'
          | ret => exact hQ a' w' I' μ' hi'
          | goto l => exact hQ a' w' I' μ' hi'
  exact wp_loop_rounds n (key n st a w I μ hr hi)
theorem cs_exit {n id : Nat} : CS P imT c I0 μ0 w0 nt res n (.exit id) := by
  intro x after st st' e a w I μ Q hr hi hQ
  simp only [cc, runC, Option.some.injEq, Prod.mk.injEq] at hr
  obtain ⟨rfl, rfl⟩ := hr
  exact wp_exit (hQ a w I μ hi)
theorem cs_ret {n : Nat} : CS P imT c I0 μ0 w0 nt res n .ret := by
  intro x after st st' e a w I μ Q hr hi hQ
  simp only [cc, runC, Option.some.injEq, Prod.mk.injEq] at hr
  obtain ⟨rfl, rfl⟩ := hr
  exact wp_ret (hQ a w I μ hi)
theorem cs_label {n l : Nat} : CS P imT c I0 μ0 w0 nt res n (.label l) := by
  intro x after st st' e a w I μ Q hr hi hQ
  simp only [cc, runC, Option.some.injEq, Prod.mk.injEq] at hr
  obtain ⟨rfl, rfl⟩ := hr
  exact wp_label (hQ a w I μ hi)
theorem cs_goto {n l : Nat} : CS P imT c I0 μ0 w0 nt res n (.goto l) := by
  intro x after st st' e a w I μ Q hr hi hQ
  simp only [cc, runC, Option.some.injEq, Prod.mk.injEq] at hr
  obtain ⟨rfl, rfl⟩ := hr
  exact wp_goto (hQ a w I μ hi)
theorem cs_scope {n : Nat} {p : Code} (hp : CS P imT c I0 μ0 w0 nt res n p) (hr' : ∀ l rest, findLabel p l = some rest → CS P imT c I0 μ0 w0 nt res n rest) : CS P imT c I0 μ0 w0 nt res n (.scope p) := by
  intro x after st st' e a w I μ Q hr hi hQ
  simp only [cc] at hr
  split at hr
  case h_2 => simp [runC] at hr
  rename_i X l lv Y hs
  split at hr
  case isFalse => simp [runC] at hr
  rename_i hn
  have hn' : splitI Y = none := by simpa using hn
  obtain ⟨x', hx'⟩ : ∃ x', x' = labelOf (cc P imT nt res (labelOf (cc P imT nt res x p after).1 ++ x) p after).1 ++ x := ⟨_, rfl⟩
  rw [← hx'] at hs
  obtain ⟨⟨rest, hl, hY⟩, hne⟩ := splitI_some p x' after X l lv Y hs
  have hne := hne hn'
  have hrun := splitI_run c n _ _ _ _ _ st hs
  -- behind the label
  have key : ∀ (k : Nat) (s : St) (a : Act) (w : World) (I : Nat → Prop) (μ : Mu), iterG (runC c n Y) l k s = some (e, st') → Inv c I0 μ0 w0 nt s.env s.h a w I μ → jumps P p Q k rest a w := by
    intro k
    induction k with
    | zero => intro s a w I μ hk; simp [iterG] at hk
    | succ k ih =>
      intro s a w I μ hk hi
      simp only [iterG] at hk
      cases hY' : runC c n Y s with
      | none => rw [hY'] at hk; cases hk
      | some r =>
        obtain ⟨e1, s1⟩ := r
        rw [hY'] at hk
        refine hr' l rest hl x' after s s1 e1 a w I μ _ (by rw [hY]; exact hY') hi fun a' w' I' μ' hi' => ?_
        cases e1 with
        | goto j =>
          simp only at hk
          split at hk
          · rename_i e2
            subst e2
            simp only [Ex.out, hl]
            exact ih s1 a' w' I' μ' hk hi'
          · rename_i e2
            simp only [Option.some.injEq, Prod.mk.injEq] at hk
            obtain ⟨rfl, rfl⟩ := hk
            simp only [Ex.out, hne j e2]
            exact hQ a' w' I' μ' hi'
        | normal =>
          simp only [Option.some.injEq, Prod.mk.injEq] at hk
          obtain ⟨rfl, rfl⟩ := hk
          exact hQ a' w' I' μ' hi'
        | exit id =>
          simp only [Option.some.injEq, Prod.mk.injEq] at hk
          obtain ⟨rfl, rfl⟩ := hk
          exact hQ a' w' I' μ' hi'
        | ret =>
          simp only [Option.some.injEq, Prod.mk.injEq] at hk
          obtain ⟨rfl, rfl⟩ := hk
          exact hQ a' w' I' μ' hi'
  simp only [runC] at hr
  cases hX : runC c n X st with
  | none => rw [hX] at hr; cases hr
  | some r =>
    obtain ⟨e1, s1⟩ := r
    rw [hX] at hr hrun
    cases e1 with
    | normal =>
      simp only at hr hrun
      obtain ⟨m, hm'⟩ : ∃ m, m = n := ⟨_, rfl⟩
      have hr0 : iterG (runC c n Y) l m s1 = some (e, st') := by rw [hm']; exact hr
      cases m with
      | zero => simp [iterG] at hr0
      | succ m =>
        simp only [iterG] at hr0
        cases hY' : runC c n Y s1 with
        | none => rw [hY'] at hr0; cases hr0
        | some r =>
          obtain ⟨e2, s2⟩ := r
          rw [hY'] at hr0
          refine wp_scope (m + 1) (hp x' after st s2 e2 a w I μ _ (by rw [hrun]; exact hY') hi fun a' w' I' μ' hi' => ?_)
          cases e2 with
          | goto j =>
            simp only at hr0
            split at hr0
            · rename_i e3
              subst e3
              simp only [Ex.out, hl]
              exact key m s2 a' w' I' μ' hr0 hi'
            · rename_i e3
              simp only [Option.some.injEq, Prod.mk.injEq] at hr0
              obtain ⟨rfl, rfl⟩ := hr0
              simp only [Ex.out, hne j e3]
              exact hQ a' w' I' μ' hi'
          | normal =>
            simp only [Option.some.injEq, Prod.mk.injEq] at hr0
            obtain ⟨rfl, rfl⟩ := hr0
            exact hQ a' w' I' μ' hi'
          | exit id =>
            simp only [Option.some.injEq, Prod.mk.injEq] at hr0
            obtain ⟨rfl, rfl⟩ := hr0
            exact hQ a' w' I' μ' hi'
          | ret =>
            simp only [Option.some.injEq, Prod.mk.injEq] at hr0
            obtain ⟨rfl, rfl⟩ := hr0
            exact hQ a' w' I' μ' hi'
    | goto j =>
      simp only at hr hrun
      refine wp_scope (n + 1) (hp x' after st s1 (.goto j) a w I μ _ hrun hi fun a' w' I' μ' hi' => ?_)
      split at hr
      · rename_i e3
        subst e3
        simp only [Ex.out, hl]
        exact key n s1 a' w' I' μ' hr hi'
      · rename_i e3
        simp only [Option.some.injEq, Prod.mk.injEq] at hr
        obtain ⟨rfl, rfl⟩ := hr
        simp only [Ex.out, hne j e3]
        exact hQ a' w' I' μ' hi'
    | exit id =>
      simp only [Option.some.injEq, Prod.mk.injEq] at hr
      obtain ⟨rfl, rfl⟩ := hr
      exact wp_scope 1 (hp x' after st s1 (.exit id) a w I μ _ hrun hi fun a' w' I' μ' hi' => hQ a' w' I' μ' hi')
    | ret =>
      simp only [Option.some.injEq, Prod.mk.injEq] at hr
      obtain ⟨rfl, rfl⟩ := hr
      exact wp_scope 1 (hp x' after st s1 .ret a w I μ _ hrun hi fun a' w' I' μ' hi' => hQ a' w' I' μ' hi')
theorem cs_all (hO : OSound P c.G c.O) (hm : P.follows .mixedOrders = true) (n : Nat) : ∀ code : Code, CS P imT c I0 μ0 w0 nt res n code ∧ ∀ l rest, findLabel code l = some rest → CS P imT c I0 μ0 w0 nt res n rest := by
  intro code
  induction code with
  | skip => exact ⟨cs_skip, fun l rest h => by cases h⟩
  | region id ops draw => exact ⟨fun x after st st' e a w I μ Q hr hi hQ => region_sound hO hm hr hi hQ, fun l rest h => by cases h⟩
  | seq p q hp hq =>
    refine ⟨cs_seq hp.1 hq.1, fun l rest h => ?_⟩
    simp only [findLabel] at h
    split at h
    · rename_i r hr
      obtain rfl := Option.some.inj h
      exact cs_seq (hp.2 l r hr) hq.1
    · exact hq.2 l rest h
  | cond o p q hp hq => exact ⟨cs_cond hp.1 hq.1, fun l rest h => by cases h⟩
  | block id p hp => exact ⟨cs_block hp.1, fun l rest h => by cases h⟩
  | loop p hp => exact ⟨cs_loop hp.1, fun l rest h => by cases h⟩
  | rangeFunc f ps as p => exact ⟨fun x after st st' e a w I μ Q hr hi hQ => by simp [cc, runC] at hr, fun l rest h => by cases h⟩
  | exit id => exact ⟨cs_exit, fun l rest h => by cases h⟩
  | scope p hp => exact ⟨cs_scope hp.1 hp.2, fun l rest h => by cases h⟩
  | label k =>
    refine ⟨cs_label, fun l rest h => ?_⟩
    simp only [findLabel] at h
    split at h
    · obtain rfl := Option.some.inj h
      exact cs_skip
    · cases h
  | goto l => exact ⟨cs_goto, fun l rest h => by cases h⟩
  | ret => exact ⟨cs_ret, fun l rest h => by cases h⟩
  | refuse why => exact ⟨fun x after st st' e a w I μ Q hr hi hQ => by simp [cc, runC] at hr, fun l rest h => by cases h⟩
theorem code_sound (hO : OSound P c.G c.O) (hm : P.follows .mixedOrders = true) (n : Nat) : ∀ (code : Code) (x : LCtx) (after : List Nat) (st st' : St) (e : Ex) (a : Act) (w : World) (I : Nat → Prop) (μ : Mu) (Q : Exit → Act → World → Prop),
    runC c n (cc P imT nt res x code after).1 st = some (e, st') → Inv c I0 μ0 w0 nt st.env st.h a w I μ → (∀ a' w' I' μ', Inv c I0 μ0 w0 nt st'.env st'.h a' w' I' μ' → Q e.out a' w') → code.wp P Q a w := fun code => (cs_all hO hm n code).1

end
end Go.Sx
end

section
namespace Go.Sx
open Go

section
variable {P : Program} {I0 I : Nat → Prop} {μ0 μ : Mu} {w0 w : World} {H : Heap} {nx : Nat}

def oneV : List Value → Value
  | [x] => x
  | l => .tuple l.toArray

def resG (tmps : Array Value) : ResultVar → Sem Value
  | .tmp t => pure (tmps.getD t undef)
  | .cell q t => do loadVar t (← asAddr (tmps.getD q undef))

theorem res_run {fn : Func} {a : Act} {rs : List (Nat × Option (Nat × Bool))} {st : St} {vs : List LV} (h : resSlots P fn.results.toList = some rs) (hv : resVs H nx st rs = some vs) (henv : EnvR I μ w st.env a) (hr : HR I μ w (fun _ => True) (look H nx st.h)) :
    ∃ us : List Value, (results fn a.tmps).run P w = .ok (oneV us) w ∧ us.length = vs.length ∧ ∀ (j : Nat) l u, vs[j]? = some l → us[j]? = some u → VR I μ w l u := by
  have hl : ∀ (g : ResultVar → Sem Value), (∀ t, g (.tmp t) = pure (a.tmps.getD t undef)) → (∀ q t, g (.cell q t) = do loadVar t (← asAddr (a.tmps.getD q undef))) → ∀ (l : List ResultVar) (rs : List (Nat × Option (Nat × Bool))) (vs : List LV), resSlots P l = some rs → resVs H nx st rs = some vs →
      ∃ us : List Value, (l.mapM (m := Sem) g).run P w = .ok us w ∧ us.length = vs.length ∧ ∀ (j : Nat) l u, vs[j]? = some l → us[j]? = some u → VR I μ w l u := by
    intro g hg hg2 l
    induction l with
    | nil =>
      intro rs vs h hv
      simp only [resSlots, Option.some.injEq] at h; subst h
      simp only [resVs, Option.some.injEq] at hv; subst hv
      exact ⟨[], by simp, rfl, by simp⟩
    | cons x r ih =>
      intro rs vs h hv
      have fin : ∀ (y : Nat × Option (Nat × Bool)) (l' : List (Nat × Option (Nat × Bool))) (q : LV), rs = y :: l' → resSlots P r = some l' → (resV H nx st y = some q → ∃ u, (g x).run P w = .ok u w ∧ VR I μ w q u) → resV H nx st y = some q →
          ∃ us : List Value, ((x :: r).mapM (m := Sem) g).run P w = .ok us w ∧ us.length = vs.length ∧ ∀ (j : Nat) l u, vs[j]? = some l → us[j]? = some u → VR I μ w l u := by
        intro y l' q hrs hl' hq hy
        subst hrs
        simp only [resVs, hy] at hv
        split at hv
        · rename_i v l2 hv1 hv2
          obtain rfl := Option.some.inj hv1
          obtain rfl := Option.some.inj hv
          obtain ⟨u, h1, h2⟩ := hq hy
          obtain ⟨us, g1, g2, g3⟩ := ih l' l2 hl' hv2
          refine ⟨u :: us, by simp only [List.mapM_cons, Sem.run_bind, h1, Result.andThen_ok, g1, Sem.run_pure], by simp [g2], fun j l u' hj hu => ?_⟩
          cases j with
          | zero => simp at hj hu; rw [← hj, ← hu]; exact h2
          | succ j => exact g3 j l u' hj hu
        · cases hv
      cases x with
      | tmp t =>
        simp only [resSlots] at h
        split at h
        · rename_i l' hl'
          obtain rfl := Option.some.inj h
          exact fin (t, none) l' (get st.env t) rfl hl' (fun _ => ⟨a.tmps.getD t undef, by rw [hg]; simp, henv t⟩) rfl
        · cases h
      | cell q t =>
        simp only [resSlots] at h
        split at h
        · rename_i s gg l' hs hgg hl'
          obtain rfl := Option.some.inj h
          cases hy : resV H nx st (q, some (s, gg)) with
          | none => simp [resVs, hy] at hv
          | some y =>
            refine fin (q, some (s, gg)) l' y rfl hl' (fun hy => ?_) hy
            have hx := henv q
            have key : ∀ {b o off : Nat} {cs : List LV}, At I μ w b o cs → rd cs off s gg = some y → a.tmps.getD q undef = .pointer (some ⟨b, o + off, none⟩) → ∃ u, (g (.cell q t)).run P w = .ok u w ∧ VR I μ w y u := fun hat hv he => by
              obtain ⟨u, h1, h2⟩ := load_at (P := P) hat hv hs hgg
              refine ⟨u, ?_, h2⟩
              rw [hg2, he]
              simp only [asAddr, Sem.run_bind, Sem.run_pure, Result.andThen_ok, h1]
            simp only [resV] at hy
            split at hy
            · rename_i cs off hv'
              rw [hv'] at hx
              obtain ⟨b, o, he, _, hat⟩ := hx.pp.imm_at (μ := μ)
              exact key hat hy he
            · rename_i id off hv'
              rw [hv'] at hx
              split at hy
              · rename_i cs hlk
                obtain ⟨b, o, sz, e, hm, _, _, _, hat⟩ := hr.obj id _ trivial hlk
                obtain ⟨b', o', s', hm', he⟩ := vr_ref hx
                rw [hm] at hm'
                obtain ⟨rfl, rfl, rfl⟩ : b = b' ∧ o = o' ∧ sz = s' := by simpa using hm'
                exact key (off := off) hat hy he
              · cases hy
            · cases hy
        · cases h
  have h2 : ∀ (g : ResultVar → Sem Value), (∀ t, g (.tmp t) = pure (a.tmps.getD t undef)) → (∀ q t, g (.cell q t) = do loadVar t (← asAddr (a.tmps.getD q undef))) →
      ∃ us : List Value, (List.toArray <$> (fn.results.toList.mapM (m := Sem) g)).run P w = .ok us.toArray w ∧ us.length = vs.length ∧ ∀ (j : Nat) l u, vs[j]? = some l → us[j]? = some u → VR I μ w l u := fun g hg hg2 => by
    obtain ⟨us, q1, q2, q3⟩ := hl g hg hg2 _ rs vs h hv
    refine ⟨us, ?_, q2, q3⟩
    rw [← bind_pure_comp, Sem.run_bind, q1]
    rfl
  have e : results fn a.tmps = (do let vs ← fn.results.mapM (resG a.tmps); pure (if h : vs.size = 1 then vs[0] else .tuple vs)) := by
    unfold results
    congr 1
  rw [e, Array.mapM_eq_mapM_toList, Sem.run_bind]
  obtain ⟨us, q1, q2, q3⟩ := h2 (resG a.tmps) (fun t => rfl) (fun q t => rfl)
  refine ⟨us, ?_, q2, q3⟩
  rw [q1]
  simp only [Result.andThen_ok]
  cases us with
  | nil => rfl
  | cons x l =>
    cases l with
    | nil => rfl
    | cons y l => rfl

theorem tidy_keys {k k' r0 r : LV} {h : Hp} {u : Upd} {n : List (Option Obj)} (hf : tidyR H nx k r0 h = some (k', r, u, n)) (hk : Keys H h) : ∀ id o, findU u id = some o → (H id).isSome = true := by
  unfold tidyR at hf
  split at hf
  · cases hf
  split at hf
  · cases hf
  split at hf
  case isFalse => cases hf
  split at hf
  case h_2 => cases hf
  rename_i r2 u2 n2 hr2 hu2 hn2
  simp only [Option.some.injEq, Prod.mk.injEq] at hf
  obtain ⟨_, _, rfl, rfl⟩ := hf
  intro id o ho
  obtain ⟨o', ho', _⟩ := (renU_find hu2 id).2 o ho
  exact hk id o' ho'

theorem finish_keys {own : Bool} {r0 r : LV} {h : Hp} {u : Upd} {n : List (Option Obj)} (hf : finish own H nx r0 h = some (r, u, n)) (hk : Keys H h) : ∀ id o, findU u id = some o → (H id).isSome = true := by
  unfold finish at hf
  split at hf
  · cases hf
  split at hf
  · cases hf
  split at hf
  case isFalse => cases hf
  split at hf
  case h_2 => cases hf
  rename_i r2 u2 n2 hr2 hu2 hn2
  simp only [Option.some.injEq, Prod.mk.injEq] at hf
  obtain ⟨rfl, rfl, rfl⟩ := hf
  intro id o ho
  obtain ⟨o', ho', _⟩ := (renU_find hu2 id).2 o ho
  exact hk id o' ho'

theorem runOps_keys {c : Ctx} (hO : OSound P c.G c.O) : ∀ (l : List IROper) (env env' : Env) (h h' : Hp), runOps c l env h = some (env', h') → Keys c.H h → Keys c.H h'
  | [], env, env', h, h', hr, hk => by
    simp only [runOps, Option.some.injEq, Prod.mk.injEq] at hr
    obtain ⟨rfl, rfl⟩ := hr
    exact hk
  | o :: r, env, env', h, h', hr, hk => by
    simp only [runOps] at hr
    split at hr
    · split at hr
      · rename_i x hx
        exact runOps_keys hO r _ _ _ _ hr ((evOp_step hx).1.keys hO hk)
      · cases hr
    · exact runOps_keys hO r _ _ _ _ hr hk
    · cases hr

theorem runOpsT_keys {c : Ctx} (hO : OSound P c.G c.O) : ∀ (l : List IROper) (env env' : Env) (h h' : Hp) (tr : List Tr), runOpsT c l env h = some (tr, env', h') → Keys c.H h → Keys c.H h'
  | [], env, env', h, h', tr, hr, hk => by
    simp only [runOpsT, Option.some.injEq, Prod.mk.injEq] at hr
    obtain ⟨rfl, rfl, rfl⟩ := hr
    exact hk
  | o :: r, env, env', h, h', tr, hr, hk => by
    simp only [runOpsT] at hr
    split at hr
    · split at hr
      · rename_i x hx
        split at hr
        · rename_i tr1 e1 h1 hrun
          simp only [Option.some.injEq, Prod.mk.injEq] at hr
          obtain ⟨rfl, rfl, rfl⟩ := hr
          exact runOpsT_keys hO r _ _ _ _ _ hrun ((evOp_step hx).1.keys hO hk)
        · cases hr
      · cases hr
    · split at hr
      · rename_i tr1 e1 h1 hrun
        simp only [Option.some.injEq, Prod.mk.injEq] at hr
        obtain ⟨rfl, rfl, rfl⟩ := hr
        exact runOpsT_keys hO r _ _ _ _ _ hrun hk
      · cases hr
    · cases hr

theorem runC_keys {c : Ctx} (hO : OSound P c.G c.O) (n : Nat) : ∀ (i : IRC) (st st' : St) (e : Ex), runC c n i st = some (e, st') → Keys c.H st.h → Keys c.H st'.h
  | .skip, st, st', e, hr, hk => by
    simp only [runC, Option.some.injEq, Prod.mk.injEq] at hr
    obtain ⟨rfl, rfl⟩ := hr; exact hk
  | .region ops none live, st, st', e, hr, hk => by
    simp only [runC] at hr
    split at hr
    · rename_i env h hrun
      simp only [Option.some.injEq, Prod.mk.injEq] at hr
      obtain ⟨rfl, rfl⟩ := hr
      exact runOps_keys hO _ _ _ _ _ hrun hk
    · cases hr
  | .region ops (some b) live, st, st', e, hr, hk => by
    simp only [runC] at hr
    split at hr
    · rename_i tr env h hrun
      split at hr
      · simp only [Option.some.injEq, Prod.mk.injEq] at hr
        obtain ⟨rfl, rfl⟩ := hr
        exact runOpsT_keys hO _ _ _ _ _ _ hrun hk
      · cases hr
    · cases hr
  | .seq a b, st, st', e, hr, hk => by
    simp only [runC] at hr
    split at hr
    · rename_i st1 h1
      exact runC_keys hO n b st1 st' e hr (runC_keys hO n a st st1 .normal h1 hk)
    · exact runC_keys hO n a st st' e hr hk
  | .cond x a b, st, st', e, hr, hk => by
    simp only [runC] at hr
    split at hr
    · rename_i t ht
      cases t with
      | true => simp only [if_true] at hr; exact runC_keys hO n a st st' e hr hk
      | false => simp only [Bool.false_eq_true, if_false] at hr; exact runC_keys hO n b st st' e hr hk
    · cases hr
  | .block id a, st, st', e, hr, hk => by
    simp only [runC] at hr
    split at hr
    · rename_i j st1 h1
      have := runC_keys hO n a st st1 _ h1 hk
      split at hr <;>
        (simp only [Option.some.injEq, Prod.mk.injEq] at hr
         obtain ⟨rfl, rfl⟩ := hr
         exact this)
    · exact runC_keys hO n a st st' e hr hk
  | .loop a, st, st', e, hr, hk => by
    simp only [runC] at hr
    have : ∀ (k : Nat) (st : St), iter (runC c n a) k st = some (e, st') → Keys c.H st.h → Keys c.H st'.h := by
      intro k
      induction k with
      | zero => intro st h; simp [iter] at h
      | succ k ih =>
        intro st h hk
        simp only [iter] at h
        split at h
        · rename_i st1 h1
          exact ih st1 h (runC_keys hO n a st st1 _ h1 hk)
        · exact runC_keys hO n a st st' e h hk
    exact this n st hr hk
  | .exit id, st, st', e, hr, hk => by
    simp only [runC, Option.some.injEq, Prod.mk.injEq] at hr
    obtain ⟨rfl, rfl⟩ := hr; exact hk
  | .ret, st, st', e, hr, hk => by
    simp only [runC, Option.some.injEq, Prod.mk.injEq] at hr
    obtain ⟨rfl, rfl⟩ := hr; exact hk
  | .bad, st, st', e, hr, hk => by simp [runC] at hr
  | .label l lv, st, st', e, hr, hk => by
    simp only [runC, Option.some.injEq, Prod.mk.injEq] at hr
    obtain ⟨rfl, rfl⟩ := hr; exact hk
  | .goto l, st, st', e, hr, hk => by
    simp only [runC, Option.some.injEq, Prod.mk.injEq] at hr
    obtain ⟨rfl, rfl⟩ := hr; exact hk
  | .scope a l b, st, st', e, hr, hk => by
    simp only [runC] at hr
    have : ∀ (k : Nat) (st : St), iterG (runC c n b) l k st = some (e, st') → Keys c.H st.h → Keys c.H st'.h := by
      intro k
      induction k with
      | zero => intro st h; simp [iterG] at h
      | succ k ih =>
        intro st h hk
        simp only [iterG] at h
        split at h
        · rename_i j st1 h1
          have hk1 := runC_keys hO n b st st1 _ h1 hk
          split at h
          · exact ih st1 h hk1
          · simp only [Option.some.injEq, Prod.mk.injEq] at h
            obtain ⟨rfl, rfl⟩ := h
            exact hk1
        · exact runC_keys hO n b st st' e h hk
    split at hr
    · rename_i st1 h1
      exact this n st1 hr (runC_keys hO n a st st1 _ h1 hk)
    · rename_i j st1 h1
      have hk1 := runC_keys hO n a st st1 _ h1 hk
      split at hr
      · exact this n st1 hr hk1
      · simp only [Option.some.injEq, Prod.mk.injEq] at hr
        obtain ⟨rfl, rfl⟩ := hr
        exact hk1
    · exact runC_keys hO n a st st' e hr hk
  | .tidy keep fz, st, st', e, h, hk => by
    simp only [runC] at h
    split at h
    case h_2 => cases h
    rename_i ks fs u m hr
    simp only [Option.some.injEq, Prod.mk.injEq] at h
    obtain ⟨_, rfl⟩ := h
    exact tidy_keys hr hk

/-- One function, from those that it calls. -/
theorem runF_sound {imT : An} {f : FuncId} {fn : Func} {ir : IRF} {O : Oracle} {G : Nat → Option (List PV)} {n : Nat} {args : List LV} {r : LV} {u : Upd} {nw : List (Option Obj)} (hO : OSound P G O) (hm : P.follows .mixedOrders = true)
    (hf : P.funcs[f]? = some fn) (hc : cF P imT fn = some ir) (hn : fn.name ≠ "runtime.NumGoroutine") (hr : runF O G n ir args H nx = some (r, u, nw)) : Sim P G f args H nx r u nw := by
  unfold cF at hc
  split at hc
  case h_2 => cases hc
  rename_i c rs hb hrs
  obtain rfl := Option.some.inj hc
  unfold runF at hr
  split at hr
  case isFalse => cases hr
  rename_i hal
  simp only at hr hal
  -- the state in which it begins
  have start : ∀ (I : Nat → Prop) (μ : Mu) (w : World) (vs : Array Value), HR I μ w (fun _ => True) H → (∀ id o, H id = some o → id < nx) → (∀ id, nx ≤ id → μ id = none) → GOK G I w →
      vs.size = args.length → (∀ (j : Nat) (l : LV) (v : Value), args[j]? = some l → vs[j]? = some v → VR I μ w l v) →
      Inv ⟨O, G, H, nx⟩ I μ w fn.ntmps ((List.range (fn.params.size + fn.nfree)).zip args) ⟨[], []⟩ { tmps := vs ++ Array.replicate (fn.ntmps - vs.size) undef, defers := [] } w I μ := by
    intro I μ w vs hH hlt h0 hG hl hv
    have hlook : look H nx ⟨[], []⟩ = H := funext fun id => by
      unfold look
      by_cases hid : id < nx
      · rw [if_pos hid]; rfl
      · rw [if_neg hid]
        simp only [List.getElem?_nil]
        cases hh : H id with
        | none => rfl
        | some o => exact absurd (hlt id o hh) hid
    refine ⟨fun t => ?_, by simp; omega, rfl, ?_, fun id hid => h0 id (by simpa using hid), hG, (fun id o ho => by cases ho), hH⟩
    · have hget : ∀ (l : List LV) (k : Nat), get ((List.range' k l.length).zip l) t = if k ≤ t then (match l[t - k]? with
          | some v => v
          | none => .junk) else .junk := by
        intro l
        induction l with
        | nil => intro k; simp [get]
        | cons x r ih =>
          intro k
          simp only [List.length_cons, List.range'_succ, List.zip_cons_cons, get]
          by_cases e : t = k
          · subst e; simp
          · rw [if_neg e, ih (k + 1)]
            by_cases h1 : k ≤ t
            · rw [if_pos h1, if_pos (by omega), show t - k = (t - (k + 1)) + 1 by omega]; rfl
            · rw [if_neg h1, if_neg (by omega)]
      have hlen : fn.params.size + fn.nfree = args.length := by simpa using hal.symm
      rw [hlen, List.range_eq_range', hget args 0, if_pos (Nat.zero_le _), Nat.sub_zero]
      cases ht : args[t]? with
      | none => exact .junk _
      | some l =>
        have hlt' : t < vs.size := by rw [hl]; exact (List.getElem?_eq_some_iff.1 ht).1
        have hvt : vs[t]? = some vs[t] := by simp [hlt']
        have : (vs ++ Array.replicate (fn.ntmps - vs.size) undef).getD t undef = vs[t] := by
          rw [Array.getD_eq_getD_getElem?, Array.getElem?_append_left hlt', hvt]; rfl
        simp only [this]
        exact hv t l _ ht hvt
    · simp only [hlook]
      exact ((Goes.refl hH.lt).widen hH fun _ h => h.elim).congrN fun id => by simp
  split at hr
  · cases hr
  · cases hr
  · rename_i e st hne hne' hrun
    have hkst := runC_keys hO n _ _ st e hrun (fun id o ho => by cases ho)
    split at hr
    case h_2 => cases hr
    rename_i vl hvl
    have hfin := hr
    refine ⟨finish_keys hfin hkst, ⟨fn, hf, by rw [hb]; rfl, hn⟩, fun I μ w vs hH hlt h0 hG hl hv => ?_⟩
    refine calls_of_wp hf hb ?_
    refine code_sound (imT := imT) hO hm n c [] _ _ st e _ w I μ _ hrun (start I μ w vs hH hlt h0 hG hl hv) fun a' w' I' μ' hi => ?_
    obtain ⟨us, hrun2, hlen2, hpt⟩ := res_run (P := P) hrs hvl hi.env hi.hr
    have hval : VR I' μ' w' (oneL vl) (oneV us) := by
      cases vl with
      | nil =>
        obtain rfl : us = [] := List.eq_nil_of_length_eq_zero hlen2
        exact .tuple [] #[] rfl (by simp)
      | cons x r =>
        cases us with
        | nil => cases hlen2
        | cons y us =>
          cases r with
          | nil =>
            obtain rfl : us = [] := List.eq_nil_of_length_eq_zero (by simpa using hlen2)
            exact hpt 0 x y rfl rfl
          | cons x2 r =>
            cases us with
            | nil => simp at hlen2
            | cons y2 us => exact .tuple _ _ (by simpa using hlen2) fun j l u hj hu => hpt j l u hj (by simpa using hu)
    obtain ⟨_, I2, μ2, q1, q2⟩ := finish_sound hfin h0 hH hi.goes hkst hval
    have hpost : a'.defers = [] ∧ ∃ v, (results fn a'.tmps).run P w' = .ok v w' ∧ (∃ v_1 I'_1 μ'_1, Ending.returned v = Ending.returned v_1 ∧ Goes I I'_1 μ μ'_1 w w' H (look H nx ⟨u, nw⟩) (fun _ => True) (fun id => nx ≤ id ∧ id < nx + nw.length) ∧ VR I'_1 μ'_1 w' r v_1) :=
      ⟨hi.defers, _, hrun2, _, I2, μ2, rfl, q1, q2⟩
    cases e with
    | normal => exact hpost
    | ret => exact hpost
    | exit id => exact absurd rfl (hne id)
    | goto l => exact absurd rfl (hne' l)
  · cases hr

/-- All functions, to any depth. -/
theorem evalN_sound {an : FuncId → An} {F : FuncId → Option IRF} {G : Nat → Option (List PV)} {X : Oracle} (hm : P.follows .mixedOrders = true) (hX : OSound P G X)
    (hF : ∀ f ir, F f = some ir → ∃ fn, P.funcs[f]? = some fn ∧ cF P (an f) fn = some ir ∧ fn.name ≠ "runtime.NumGoroutine") : ∀ n, OSound P G (evalN F G X n)
  | 0 => fun f args H nx r u n h => by simp [evalN] at h
  | n + 1 => fun f args H nx r u nw h => by
    simp only [evalN] at h
    split at h
    · rename_i ir hir
      obtain ⟨fn, h1, h2, h3⟩ := hF f ir hir
      exact runF_sound (evalN_sound hm hX hF n) hm h1 h2 h3 h
    · exact hX f args H nx r u nw h

end
end Go.Sx
end

section
namespace Go.Sx
open Go

def findF : List (FuncId × IRF) → FuncId → Option IRF
  | [], _ => none
  | (g, ir) :: r, f => if f = g then some ir else findF r f

theorem findF_mem : ∀ {l : List (FuncId × IRF)} {f : FuncId} {ir : IRF}, findF l f = some ir → (f, ir) ∈ l
  | [], f, ir, h => by cases h
  | (g, i) :: r, f, ir, h => by
    simp only [findF] at h
    split at h
    · rename_i e
      obtain rfl := Option.some.inj h
      rw [e]; exact List.mem_cons_self
    · exact List.mem_cons_of_mem _ (findF_mem h)

def noG : Nat → Option (List PV) := fun _ => none
def noX : Oracle := fun _ _ _ _ => none
def noH : Heap := fun _ => none

theorem noX_sound (P : Program) (G : Nat → Option (List PV)) : OSound P G noX := fun _ _ _ _ _ _ _ h => by cases h

/-- A closed call. -/
theorem call_of_eval {P : Program} {an : FuncId → An} {L : List (FuncId × IRF)} {G : Nat → Option (List PV)} {X : Oracle} (hm : P.follows .mixedOrders = true) (hX : OSound P G X)
    (hL : ∀ p ∈ L, ∃ fn, P.funcs[p.1]? = some fn ∧ cF P (an p.1) fn = some p.2 ∧ fn.name ≠ "runtime.NumGoroutine") {n : Nat} {f : FuncId} {args : List LV} {x : PV} (h : evalN (findF L) G X n f args noH 0 = some (.p x, [], []))
    {I : Nat → Prop} {w : World} {vs : Array Value} (hI : ∀ b, I b → b < w.heap.size) (hG : GOK G I w) (hl : vs.size = args.length) (hv : ∀ (j : Nat) (l : LV) (v : Value), args[j]? = some l → vs[j]? = some v → VR I (fun _ => none) w l v) :
    Calls P f vs w (fun e w' => ∃ v I', e = .returned v ∧ (w'.os = w.os ∧ w'.tape = w.tape ∧ w'.output = w.output ∧ w.heap.size ≤ w'.heap.size ∧ ∀ k, k < w.heap.size → w'.heap[k]? = w.heap[k]?) ∧ PR I' w' x v) := by
  have hs := evalN_sound (P := P) (an := an) (F := findF L) hm hX (fun f ir hf => hL (f, ir) (findF_mem hf)) n f args noH 0 _ _ _ h
  refine (hs.call I (fun _ => none) w vs ⟨fun _ _ _ h => (by cases h), fun _ _ _ _ _ _ h => (by cases h), fun _ _ _ _ h => (by cases h), hI⟩ (fun _ _ h => (by cases h)) (fun _ _ => rfl) hG hl hv).mono ?_
  rintro e w' ⟨v, I', μ', rfl, g, hv⟩
  refine ⟨v, I', rfl, ⟨g.stp.os, g.stp.tape, g.stp.output, g.stp.size, fun k hk => g.stp.block k hk fun ⟨id, o, _, ho, _⟩ => (by cases ho)⟩, hv.pp⟩

end Go.Sx
end

section
namespace Go.Sx
open Go

/-- What 'O' answers, 'Om' answers from some number on. -/
def Up (Om : Nat → Oracle) (O : Oracle) : Prop := ∀ f a H nx r, O f a H nx = some r → ∃ m, ∀ m', m ≤ m' → Om m' f a H nx = some r

section
variable {Om : Nat → Oracle} {O : Oracle} {G : Nat → Option (List PV)} {H : Heap} {nx : Nat}

theorem callO_up (hO : Up Om O) {dr : Bool} {h : Hp} {f : FuncId} {args : List LV} {r : Res} (hr : callO ⟨O, G, H, nx⟩ dr h f args = some r) : ∃ M, ∀ m, M ≤ m → callO ⟨Om m, G, H, nx⟩ dr h f args = some r := by
  unfold callO at hr
  simp only at hr
  cases dr with
  | true =>
    simp only [if_true] at hr
    split at hr
    · rename_i S hS
      split at hr
      · rename_i hall
        split at hr
        · rename_i x u n hc
          obtain ⟨M, hM⟩ := hO _ _ _ _ _ hc
          refine ⟨M, fun m hm => ?_⟩
          unfold callO
          simp only [if_true, hS]
          rw [if_pos hall, hM m hm]
          exact hr
        · cases hr
      · cases hr
    · cases hr
  | false =>
    simp only [Bool.false_eq_true, if_false] at hr
    split at hr
    · rename_i x u n hc
      obtain ⟨M, hM⟩ := hO _ _ _ _ _ hc
      refine ⟨M, fun m hm => ?_⟩
      unfold callO
      simp only [Bool.false_eq_true, if_false]
      rw [hM m hm]
      exact hr
    · cases hr

theorem evOp_up (hO : Up Om O) {dr : Bool} {env : Env} {h : Hp} {op : IROp} {r : Res} (hr : evOp ⟨O, G, H, nx⟩ dr env h op = some r) : ∃ M, ∀ m, M ≤ m → evOp ⟨Om m, G, H, nx⟩ dr env h op = some r := by
  cases op
  case call f args => exact callO_up hO hr
  case callv x args =>
    have e : ∀ Q : Oracle, evOp ⟨Q, G, H, nx⟩ dr env h (.callv x args) = match opd ⟨O, G, H, nx⟩ env x with
      | .fn f a b => callO ⟨Q, G, H, nx⟩ dr h f (a ++ args.map (opd ⟨O, G, H, nx⟩ env) ++ b)
      | _ => none := fun Q => rfl
    rw [e] at hr
    split at hr
    · rename_i f a b hx
      obtain ⟨M, hM⟩ := callO_up hO hr
      exact ⟨M, fun m hm => by rw [e, hx]; exact hM m hm⟩
    · cases hr
  all_goals exact ⟨0, fun m _ => hr⟩

theorem runOps_up (hO : Up Om O) : ∀ {ops : List IROper} {env : Env} {h : Hp} {r : Env × Hp}, runOps ⟨O, G, H, nx⟩ ops env h = some r → ∃ M, ∀ m, M ≤ m → runOps ⟨Om m, G, H, nx⟩ ops env h = some r
  | [], env, h, r, hr => ⟨0, fun _ _ => hr⟩
  | o :: l, env, h, r, hr => by
    simp only [runOps] at hr
    split at hr
    · rename_i hw
      split at hr
      · rename_i x hx
        obtain ⟨M, hM⟩ := evOp_up hO hx
        obtain ⟨N, hN⟩ := runOps_up hO hr
        exact ⟨max M N, fun m hm => by simp only [runOps, hw, hM m (by omega), hN m (by omega)]⟩
      · cases hr
    · rename_i hw
      obtain ⟨N, hN⟩ := runOps_up hO hr
      exact ⟨N, fun m hm => by simp only [runOps, hw, hN m hm]⟩
    · cases hr

theorem runOpsT_up (hO : Up Om O) : ∀ {ops : List IROper} {env : Env} {h : Hp} {r : List Tr × Env × Hp}, runOpsT ⟨O, G, H, nx⟩ ops env h = some r → ∃ M, ∀ m, M ≤ m → runOpsT ⟨Om m, G, H, nx⟩ ops env h = some r
  | [], env, h, r, hr => ⟨0, fun _ _ => hr⟩
  | o :: l, env, h, r, hr => by
    simp only [runOpsT] at hr
    split at hr
    · rename_i hw
      split at hr
      · rename_i x hx
        split at hr
        · rename_i tr e h' ht
          obtain ⟨M, hM⟩ := evOp_up hO hx
          obtain ⟨N, hN⟩ := runOpsT_up hO ht
          exact ⟨max M N, fun m hm => by simp only [runOpsT, hw, hM m (by omega), hN m (by omega)]; exact hr⟩
        · cases hr
      · cases hr
    · rename_i hw
      split at hr
      · rename_i tr e h' ht
        obtain ⟨N, hN⟩ := runOpsT_up hO ht
        exact ⟨N, fun m hm => by simp only [runOpsT, hw, hN m hm]; exact hr⟩
      · cases hr
    · cases hr

theorem iter_up {f : St → Option (Ex × St)} {g : Nat → St → Option (Ex × St)} (hf : ∀ st r, f st = some r → ∃ M, ∀ m, M ≤ m → g m st = some r) : ∀ {k : Nat} {st : St} {r : Ex × St}, iter f k st = some r → ∃ M, ∀ m, M ≤ m → ∀ k', k ≤ k' → iter (g m) k' st = some r
  | 0, st, r, hr => by cases hr
  | k + 1, st, r, hr => by
    simp only [iter] at hr
    split at hr
    · rename_i st' h1
      obtain ⟨M, hM⟩ := hf _ _ h1
      obtain ⟨N, hN⟩ := iter_up hf hr
      refine ⟨max M N, fun m hm k' hk => ?_⟩
      obtain ⟨j, rfl⟩ : ∃ j, k' = j + 1 := ⟨k' - 1, by omega⟩
      simp only [iter, hM m (by omega)]
      exact hN m (by omega) j (by omega)
    · rename_i hne
      obtain ⟨M, hM⟩ := hf _ _ hr
      refine ⟨M, fun m hm k' hk => ?_⟩
      obtain ⟨j, rfl⟩ : ∃ j, k' = j + 1 := ⟨k' - 1, by omega⟩
      simp only [iter, hM m hm]
      split
      · rename_i st' e
        rw [hr, e] at hne
        exact absurd rfl (hne st')
      · rfl

theorem iterG_up {f : St → Option (Ex × St)} {g : Nat → St → Option (Ex × St)} {l : Nat} (hf : ∀ st r, f st = some r → ∃ M, ∀ m, M ≤ m → g m st = some r) : ∀ {k : Nat} {st : St} {r : Ex × St}, iterG f l k st = some r → ∃ M, ∀ m, M ≤ m → ∀ k', k ≤ k' → iterG (g m) l k' st = some r
  | 0, st, r, hr => by cases hr
  | k + 1, st, r, hr => by
    simp only [iterG] at hr
    split at hr
    · rename_i j st' h1
      obtain ⟨M, hM⟩ := hf _ _ h1
      split at hr
      · rename_i e
        obtain ⟨N, hN⟩ := iterG_up hf hr
        refine ⟨max M N, fun m hm k' hk => ?_⟩
        obtain ⟨q, rfl⟩ : ∃ q, k' = q + 1 := ⟨k' - 1, by omega⟩
        simp only [iterG, hM m (by omega), e, if_true]
        exact hN m (by omega) q (by omega)
      · rename_i e
        refine ⟨M, fun m hm k' hk => ?_⟩
        obtain ⟨q, rfl⟩ : ∃ q, k' = q + 1 := ⟨k' - 1, by omega⟩
        simp only [iterG, hM m hm, if_neg e]
        exact hr
    · rename_i hne
      obtain ⟨M, hM⟩ := hf _ _ hr
      refine ⟨M, fun m hm k' hk => ?_⟩
      obtain ⟨q, rfl⟩ : ∃ q, k' = q + 1 := ⟨k' - 1, by omega⟩
      simp only [iterG, hM m hm]
      split
      · rename_i j st' e
        rw [hr, e] at hne
        exact absurd rfl (hne j st')
      · rfl

theorem runC_up (hO : Up Om O) {n : Nat} : ∀ {code : IRC} {st : St} {r : Ex × St}, runC ⟨O, G, H, nx⟩ n code st = some r → ∃ M, ∀ m, M ≤ m → runC ⟨Om m, G, H, nx⟩ m code st = some r := by
  intro code
  induction code with
  | skip => intro st r hr; exact ⟨0, fun _ _ => hr⟩
  | region ops draw live =>
    intro st r hr
    cases draw with
    | none =>
      simp only [runC] at hr
      split at hr
      · rename_i env h h1
        obtain ⟨M, hM⟩ := runOps_up hO h1
        exact ⟨M, fun m hm => by simp only [runC, hM m hm]; exact hr⟩
      · cases hr
    | some before =>
      simp only [runC] at hr
      split at hr
      · rename_i tr env h h1
        obtain ⟨M, hM⟩ := runOpsT_up hO h1
        exact ⟨M, fun m hm => by simp only [runC, hM m hm]; exact hr⟩
      · cases hr
  | seq a b iha ihb =>
    intro st r hr
    simp only [runC] at hr
    split at hr
    · rename_i st' h1
      obtain ⟨M, hM⟩ := iha h1
      obtain ⟨N, hN⟩ := ihb hr
      exact ⟨max M N, fun m hm => by simp only [runC, hM m (by omega), hN m (by omega)]⟩
    · rename_i hne
      obtain ⟨M, hM⟩ := iha hr
      refine ⟨M, fun m hm => ?_⟩
      simp only [runC, hM m hm]
      split
      · rename_i st' e
        rw [hr, e] at hne
        exact absurd rfl (hne st')
      · rfl
  | cond x a b iha ihb =>
    intro st r hr
    have e : ∀ (Q : Oracle) k, runC ⟨Q, G, H, nx⟩ k (.cond x a b) st = match opd ⟨O, G, H, nx⟩ st.env x with
      | .p (.s (.bool t)) => if t then runC ⟨Q, G, H, nx⟩ k a st else runC ⟨Q, G, H, nx⟩ k b st
      | _ => none := fun Q k => rfl
    rw [e] at hr
    split at hr
    · rename_i t hx
      cases t with
      | true =>
        obtain ⟨M, hM⟩ := iha hr
        exact ⟨M, fun m hm => by rw [e, hx]; exact hM m hm⟩
      | false =>
        obtain ⟨M, hM⟩ := ihb hr
        exact ⟨M, fun m hm => by rw [e, hx]; exact hM m hm⟩
    · cases hr
  | block id a iha =>
    intro st r hr
    simp only [runC] at hr
    split at hr
    · rename_i j st' h1
      obtain ⟨M, hM⟩ := iha h1
      exact ⟨M, fun m hm => by simp only [runC, hM m hm]; exact hr⟩
    · rename_i hne
      obtain ⟨M, hM⟩ := iha hr
      refine ⟨M, fun m hm => ?_⟩
      simp only [runC, hM m hm]
      split
      · rename_i j st' e
        rw [hr, e] at hne
        exact absurd rfl (hne j st')
      · rfl
  | loop a iha =>
    intro st r hr
    simp only [runC] at hr
    obtain ⟨M, hM⟩ := iter_up (g := fun m => runC ⟨Om m, G, H, nx⟩ m a) (fun st r h => iha h) hr
    exact ⟨max M n, fun m hm => by simp only [runC]; exact hM m (by omega) m (by omega)⟩
  | exit id => intro st r hr; exact ⟨0, fun _ _ => hr⟩
  | ret => intro st r hr; exact ⟨0, fun _ _ => hr⟩
  | bad => intro st r hr; cases hr
  | label l lv => intro st r hr; exact ⟨0, fun _ _ => hr⟩
  | tidy k f => intro st r hr; exact ⟨0, fun _ _ => hr⟩
  | goto l => intro st r hr; exact ⟨0, fun _ _ => hr⟩
  | scope a l b iha ihb =>
    intro st r hr
    simp only [runC] at hr
    have hG : ∀ {s : St} {r : Ex × St}, iterG (runC ⟨O, G, H, nx⟩ n b) l n s = some r → ∃ M, ∀ m, M ≤ m → iterG (runC ⟨Om m, G, H, nx⟩ m b) l m s = some r := fun h => by
      obtain ⟨M, hM⟩ := iterG_up (g := fun m => runC ⟨Om m, G, H, nx⟩ m b) (fun st r h => ihb h) h
      exact ⟨max M n, fun m hm => hM m (by omega) m (by omega)⟩
    split at hr
    · rename_i st1 h1
      obtain ⟨M, hM⟩ := iha h1
      obtain ⟨N, hN⟩ := hG hr
      exact ⟨max M N, fun m hm => by simp only [runC, hM m (by omega)]; exact hN m (by omega)⟩
    · rename_i j st1 h1
      obtain ⟨M, hM⟩ := iha h1
      split at hr
      · rename_i e
        obtain ⟨N, hN⟩ := hG hr
        exact ⟨max M N, fun m hm => by simp only [runC, hM m (by omega), e, if_true]; exact hN m (by omega)⟩
      · rename_i e
        exact ⟨M, fun m hm => by simp only [runC, hM m hm, if_neg e]; exact hr⟩
    · rename_i h1 h2
      obtain ⟨M, hM⟩ := iha hr
      refine ⟨M, fun m hm => ?_⟩
      simp only [runC, hM m hm]
      split
      · rename_i st' e
        rw [hr, e] at h1
        exact absurd rfl (h1 st')
      · rename_i j st' e
        rw [hr, e] at h2
        exact absurd rfl (h2 j st')
      · rfl

theorem runF_up (hO : Up Om O) {n : Nat} {f : IRF} {args : List LV} {r : LV × Upd × List (Option Obj)} (hr : runF O G n f args H nx = some r) : ∃ M, ∀ m, M ≤ m → runF (Om m) G m f args H nx = some r := by
  unfold runF at hr
  split at hr
  case isFalse => cases hr
  rename_i hl
  split at hr
  · cases hr
  · cases hr
  · rename_i ex st hne hne' h1
    obtain ⟨M, hM⟩ := runC_up hO h1
    refine ⟨M, fun m hm => ?_⟩
    unfold runF
    rw [if_pos hl, hM m hm]
    split
    · rename_i j st' e
      simp only [Option.some.injEq, Prod.mk.injEq] at e
      exact absurd e.1 (by intro e'; exact hne j e')
    · rename_i j st' e
      simp only [Option.some.injEq, Prod.mk.injEq] at e
      exact absurd e.1 (by intro e'; exact hne' j e')
    · rename_i e
      simp only [Option.some.injEq, Prod.mk.injEq] at e
      rw [← e.2]; exact hr
    · rename_i e; cases e
  · cases hr
end

open Classical in
/-- What is answered from some depth on. -/
noncomputable def om (F : FuncId → Option IRF) (G : Nat → Option (List PV)) (E : Oracle) : Oracle := fun f a H nx =>
  if h : ∃ r n, ∀ m, n ≤ m → evalN F G E m f a H nx = some r then some h.choose else none

section
variable {F : FuncId → Option IRF} {G : Nat → Option (List PV)} {E : Oracle}

theorem om_up : Up (evalN F G E) (om F G E) := fun f a H nx r h => by
  unfold om at h
  split at h
  · rename_i h1
    obtain rfl := Option.some.inj h
    exact h1.choose_spec
  · cases h

theorem om_of {f : FuncId} {a : List LV} {H : Heap} {nx n : Nat} {r : LV × Upd × List (Option Obj)} (h : ∀ m, n ≤ m → evalN F G E m f a H nx = some r) : om F G E f a H nx = some r := by
  have h1 : ∃ r n, ∀ m, n ≤ m → evalN F G E m f a H nx = some r := ⟨r, n, h⟩
  unfold om
  rw [dif_pos h1]
  obtain ⟨k, hk⟩ := h1.choose_spec
  have a1 := hk (max n k) (by omega)
  have a2 := h (max n k) (by omega)
  rw [a1] at a2
  exact a2

/-- A function's answer, of its text. -/
theorem om_run {f : FuncId} {ir : IRF} (hf : F f = some ir) (n : Nat) {a : List LV} {H : Heap} {nx : Nat} {r : LV × Upd × List (Option Obj)} (h : runF (om F G E) G n ir a H nx = some r) : om F G E f a H nx = some r := by
  obtain ⟨M, hM⟩ := runF_up om_up h
  refine om_of (n := M + 1) fun m hm => ?_
  obtain ⟨k, rfl⟩ : ∃ k, m = k + 1 := ⟨m - 1, by omega⟩
  simp only [evalN, hf]
  exact hM k (by omega)

/-- An outer contract's answer. -/
theorem om_ext {f : FuncId} (hf : F f = none) {a : List LV} {H : Heap} {nx : Nat} {r : LV × Upd × List (Option Obj)} (h : E f a H nx = some r) : om F G E f a H nx = some r := by
  refine om_of (n := 1) fun m hm => ?_
  obtain ⟨k, rfl⟩ : ∃ k, m = k + 1 := ⟨m - 1, by omega⟩
  simp only [evalN, hf]
  exact h

/-- What is answered at one depth, is answered. -/
theorem om_of_eval : ∀ {n : Nat} {f : FuncId} {a : List LV} {H : Heap} {nx : Nat} {r : LV × Upd × List (Option Obj)}, evalN F G E n f a H nx = some r → om F G E f a H nx = some r
  | 0, f, a, H, nx, r, h => by cases h
  | n + 1, f, a, H, nx, r, h => by
    simp only [evalN] at h
    split at h
    · rename_i ir hf
      obtain ⟨M, hM⟩ := runF_up (Om := fun _ => om F G E) (fun f a H nx r h' => ⟨0, fun _ _ => om_of_eval h'⟩) h
      exact om_run hf M (hM M (Nat.le_refl _))
    · rename_i hf
      exact om_ext hf h

/-- What is answered, is answered at some depth. -/
theorem om_eval {f : FuncId} {a : List LV} {H : Heap} {nx : Nat} {r : LV × Upd × List (Option Obj)} (h : om F G E f a H nx = some r) : ∃ m, evalN F G E m f a H nx = some r := by
  obtain ⟨m, hm⟩ := om_up f a H nx r h
  exact ⟨m, hm m (Nat.le_refl _)⟩
end
end Go.Sx
end

section
namespace Go.Sx
open Go

noncomputable def veil {α : Type} (a : α) : α := Classical.choose (⟨a, rfl⟩ : ∃ b, b = a)
theorem veil_eq {α : Type} (a : α) : veil a = a := Classical.choose_spec (⟨a, rfl⟩ : ∃ b, b = a)

noncomputable def runOpsS : Ctx → List IROper → Env → Hp → Option (Env × Hp) := veil runOps
noncomputable def runOpsTS : Ctx → List IROper → Env → Hp → Option (List Tr × Env × Hp) := veil runOpsT
noncomputable def runCS : Ctx → Nat → IRC → St → Option (Ex × St) := veil runC
noncomputable def evOpS : Ctx → Bool → Env → Hp → IROp → Option Res := veil evOp
theorem runOpsS_eq : runOpsS = runOps := veil_eq _
theorem runOpsTS_eq : runOpsTS = runOpsT := veil_eq _
theorem runCS_eq : runCS = runC := veil_eq _

theorem runOpsS_nil (c : Ctx) (env : Env) (h : Hp) : runOpsS c [] env h = some (env, h) := by rw [runOpsS_eq]; rfl
theorem runOpsS_cons (c : Ctx) (o : IROper) (r : List IROper) (env : Env) (h : Hp) : runOpsS c (o :: r) env h = match wants env o.guard with
    | some true => match evOp c false env h o.op with
      | some x => runOpsS c r (putD env o.dst x.v) x.h
      | none => none
    | some false => runOpsS c r (putD env o.dst .undef) h
    | none => none := by rw [runOpsS_eq]; rfl
theorem runOpsTS_nil (c : Ctx) (env : Env) (h : Hp) : runOpsTS c [] env h = some ([], env, h) := by rw [runOpsTS_eq]; rfl
theorem runOpsTS_cons (c : Ctx) (o : IROper) (r : List IROper) (env : Env) (h : Hp) : runOpsTS c (o :: r) env h = match wants env o.guard with
    | some true => match evOp c true env h o.op with
      | some x => match runOpsTS c r (putD env o.dst x.v) x.h with
        | some (tr, e, h') => some (⟨x.tch, x.md, c.nx + h.new.length, c.nx + x.h.new.length, o.op.slots ++ gslot o.guard, o.dst⟩ :: tr, e, h')
        | none => none
      | none => none
    | some false => match runOpsTS c r (putD env o.dst .undef) h with
      | some (tr, e, h') => some (⟨[], false, c.nx + h.new.length, c.nx + h.new.length, gslot o.guard, o.dst⟩ :: tr, e, h')
      | none => none
    | none => none := by rw [runOpsTS_eq]; rfl

section
variable (c : Ctx) (n : Nat) (st : St)
theorem runCS_skip : runCS c n .skip st = some (.normal, st) := by rw [runCS_eq]; rfl
theorem runCS_reg (ops : List IROper) (live : List Nat) : runCS c n (.region ops none live) st = match runOpsS c ops st.env st.h with
    | some (env, h) => some (.normal, ⟨keep live env, h⟩)
    | none => none := by rw [runCS_eq, runOpsS_eq]; rfl
theorem runCS_draw (ops : List IROper) (before live : List Nat) : runCS c n (.region ops (some before) live) st = match runOpsTS c ops st.env st.h with
    | some (tr, env, h) => if indepD tr before then some (.normal, ⟨keep live env, h⟩) else none
    | none => none := by rw [runCS_eq, runOpsTS_eq]; rfl
theorem runCS_seq (a b : IRC) : runCS c n (.seq a b) st = match runCS c n a st with
    | some (.normal, st') => runCS c n b st'
    | r => r := by rw [runCS_eq]; rfl
theorem runCS_cond (x : Opd) (a b : IRC) : runCS c n (.cond x a b) st = match opd c st.env x with
    | .p (.s (.bool t)) => if t then runCS c n a st else runCS c n b st
    | _ => none := by rw [runCS_eq]; rfl
theorem runCS_block (id : Nat) (a : IRC) : runCS c n (.block id a) st = match runCS c n a st with
    | some (.exit j, st') => if j = id then some (.normal, st') else some (.exit j, st')
    | r => r := by rw [runCS_eq]; rfl
theorem runCS_loop (a : IRC) : runCS c n (.loop a) st = iter (runCS c n a) n st := by rw [runCS_eq]; rfl
theorem runCS_exit (id : Nat) : runCS c n (.exit id) st = some (.exit id, st) := by rw [runCS_eq]; rfl
theorem runCS_label (l : Nat) (lv : List Nat) : runCS c n (.label l lv) st = some (.normal, st) := by rw [runCS_eq]; rfl
theorem runCS_goto (l : Nat) : runCS c n (.goto l) st = some (.goto l, st) := by rw [runCS_eq]; rfl
theorem runCS_scope (a b : IRC) (l : Nat) : runCS c n (.scope a l b) st = match runCS c n a st with
    | some (.normal, st') => iterG (runCS c n b) l n st'
    | some (.goto j, st') => if j = l then iterG (runCS c n b) l n st' else some (.goto j, st')
    | r => r := by rw [runCS_eq]; rfl
theorem runCS_ret : runCS c n .ret st = some (.ret, st) := by rw [runCS_eq]; rfl
theorem runCS_tidy (k f : List Nat) : runCS c n (.tidy k f) st = match tidyR c.H c.nx (.tuple (k.map (get st.env))) (.tuple (f.map (get st.env))) st.h with
    | some (.tuple ks, .tuple fs, u, m) => some (.normal, ⟨k.zip ks ++ f.zip fs, ⟨u, m⟩⟩)
    | _ => none := by rw [runCS_eq]; rfl
end

theorem runF_S (O : Oracle) (G : Nat → Option (List PV)) (n : Nat) (f : IRF) (args : List LV) (H : Heap) (nx : Nat) : runF O G n f args H nx =
  if args.length = f.params.length then
    match runCS ⟨O, G, H, nx⟩ n f.body ⟨f.params.zip args, ⟨[], []⟩⟩ with
    | some (.exit _, _) => none
    | some (.goto _, _) => none
    | some (_, st) => match resVs H nx st f.results with
      | some l => finish f.own H nx (oneL l) st.h
      | none => none
    | none => none
  else none := by rw [runCS_eq]; rfl
end Go.Sx
end
