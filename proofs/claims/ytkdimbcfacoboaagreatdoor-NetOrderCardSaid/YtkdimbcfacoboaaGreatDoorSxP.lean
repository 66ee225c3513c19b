/- Regions. -/
import Derived.Test.YtkdimbcfacoboaaGreatDoorSxO
namespace Go.Sx
open Go

theorem get_keep {live : List Nat} {env : Env} {t : Nat} : get (keep live env) t = if t ∈ live then get env t else .junk := by
  unfold keep
  induction live with
  | nil => rfl
  | cons x r ih =>
    simp only [List.map_cons, get, List.mem_cons]
    by_cases e : t = x
    · rw [if_pos e, if_pos (.inl e), e]
    · rw [if_neg e, ih]
      by_cases h : t ∈ r
      · rw [if_pos h, if_pos (.inr h)]
      · rw [if_neg h, if_neg (fun h' => h'.elim e h)]

section
variable {P : Program} {imT : TypeId → Bool} {c : Ctx} {I0 : Nat → Prop} {μ0 : Mu} {w0 : World} {nt : Nat} {ops : Array Oper}
variable {E : Nat → Env} {Hs : Nat → Hp} {R : Nat → LV} {tr : List Tr}

theorem DInv.hr {D : Nat → Bool} {a : Act} {w : World} {I : Nat → Prop} {μ : Mu} (d : DInv c I0 μ0 w0 nt ops E Hs R tr D a w I μ) : HR I μ w (fun _ => True) (lD c.H c.nx Hs tr D ops.size) := d.goes.hr.sub fun _ _ => ⟨.inl trivial, rfl⟩

theorem draw_step (g : Reg P imT c nt ops E Hs R tr) {Q : Exit → Act → World → Prop} {D D' : Nat → Bool} {a : Act} {w : World} {I : Nat → Prop} {μ : Mu} (d : DInv c I0 μ0 w0 nt ops E Hs R tr D a w I μ) {i : Nat} {o : Oper} (ho : ops[i]? = some o)
    (hr : ∀ e, e ∈ o.after → Region.binds .any e = true → D e.on = true) (hD : D i = false) (hD' : ∀ k, D' k = if k = i then true else D k) {K : Act → World → Prop} (hK : ∀ a' w' I' μ', DInv c I0 μ0 w0 nt ops E Hs R tr D' a' w' I' μ' → K a' w') :
    wpOp P ops Q i K a w := by
  have hi : i < ops.size := (Array.getElem?_eq_some_iff.1 ho).1
  have f := g.facts i hi
  have hst := g.step i o ho
  have hclosed' : ∀ j o e, D' j = true → ops[j]? = some o → e ∈ o.after → Region.binds .any e = true → D' e.on = true := by
    intro j oj e hj hoj he hb
    rw [hD'] at hj ⊢
    by_cases e1 : e.on = i
    · rw [if_pos e1]
    · rw [if_neg e1]
      by_cases e2 : j = i
      · subst e2
        obtain rfl : o = oj := Option.some.inj (ho.symm.trans hoj)
        exact hr e he hb
      · rw [if_neg e2] at hj
        exact d.closed j oj e hj hoj he hb
  have hfree : ∀ id, c.nx + (Hs i).new.length ≤ id → id < c.nx + (Hs (i + 1)).new.length → μ id = none := fun id h1 h2 => by
    refine d.none id (Nat.le_trans (Nat.add_le_add_left (g.len_mono 0 i (by omega) (by omega)) _) h1) fun k hk hDk => ?_
    have fk := g.facts k hk
    rw [fk.lo, fk.hi]
    by_cases e : k = i
    · subst e; rw [hD] at hDk; cases hDk
    · rcases Nat.lt_or_ge k i with h3 | h3
      · have := g.len_mono (k + 1) i (by omega) (by omega); omega
      · have := g.len_mono (i + 1) k (by omega) (by omega); omega
  have hrd : ∀ t ∈ (tr.getD i default).rds, VR I μ w (get (E i) t) (a.tmps.getD t undef) := fun t ht => by
    rw [← ready_env g d.closed ho hr hD t ht]; exact d.env t
  have hkeep : EnvR I μ w (keep (tr.getD i default).rds (E i)) a := fun t => by
    rw [get_keep]
    split
    · rename_i ht; exact hrd t ht
    · exact .junk _
  -- what follows
  have fin : ∀ (I' : Nat → Prop) (μ' : Mu) (w' : World) (v : Value), (∀ t, o.dst = some t → t < nt) → (tr.getD i default).wr = o.dst → VR I' μ' w' (R i) v →
      Goes I I' μ μ' w w' (lD c.H c.nx Hs tr D ops.size) (lD c.H c.nx Hs tr D' ops.size) (fun _ => True) (fun id => c.nx + (Hs i).new.length ≤ id ∧ id < c.nx + (Hs (i + 1)).new.length) → K (a.put o.dst v) w' := by
    intro I' μ' w' v hdst hwr hv hg
    refine hK _ _ I' μ' ⟨fun t => ?_, ?_, ?_, d.goes.trans hg fun id => ?_, fun id h1 h2 => ?_, d.glob.mono hg.up (hg.imm_block d.hr), hclosed'⟩
    · rw [next_env g d.closed hi hD hD' t, hwr]
      cases hdo : o.dst with
      | none => simp only [Act.put, reduceCtorEq, if_false]; exact hg.vr d.hr (d.env t)
      | some q =>
        simp only [Act.put, Option.some.injEq]
        by_cases e : q = t
        · subst e
          rw [if_pos rfl, Array.getD_eq_getD_getElem?, Array.getElem?_setIfInBounds_self_of_lt (Nat.lt_of_lt_of_le (hdst q hdo) d.size)]
          exact hv
        · rw [if_neg e, Array.getD_eq_getD_getElem?, Array.getElem?_setIfInBounds_ne e, ← Array.getD_eq_getD_getElem?]
          exact hg.vr d.hr (d.env t)
    · cases o.dst <;> simp [Act.put, d.size]
    · cases o.dst <;> simp [Act.put, d.defers]
    · constructor
      · rintro (h | ⟨k, hk, hDk, h⟩)
        · exact .inl (.inl h)
        · rw [hD'] at hDk
          by_cases e : k = i
          · subst e; rw [f.lo, f.hi] at h; exact .inr h
          · rw [if_neg e] at hDk; exact .inl (.inr ⟨k, hk, hDk, h⟩)
      · rintro ((h | ⟨k, hk, hDk, h⟩) | h)
        · exact .inl h
        · refine .inr ⟨k, hk, ?_, h⟩
          rw [hD']; split
          · rfl
          · exact hDk
        · exact .inr ⟨i, hi, by rw [hD', if_pos rfl], by rw [f.lo, f.hi]; exact h⟩
    · rw [hg.mu id fun h => h2 i hi (by rw [hD', if_pos rfl]) (by rw [f.lo, f.hi]; exact h)]
      refine d.none id h1 fun k hk hDk => h2 k hk ?_
      rw [hD']; split
      · rfl
      · exact hDk
  unfold wpOp
  rw [ho]
  simp only []
  rcases coper_cases (P := P) (imT := imT) (nt := nt) (ops := ops) (o := o) with ⟨gd, hgd, hd, hc⟩ | hc
  · rw [hc] at hst
    rcases hst with ⟨x, hw, hx, hR, ht, he, hh⟩ | ⟨hw, hR, ht, he, hh⟩
    · simp only at hw hx ht
      have hrds : (tr.getD i default).rds = (cop P imT o.op).slots ++ gslot gd := by rw [ht]
      have hw' : wants (keep (tr.getD i default).rds (E i)) gd = some true := by
        rw [← hw]
        cases gd with
        | none => rfl
        | some q => obtain ⟨t, b⟩ := q; simp only [wants]; rw [get_keep, if_pos (by rw [hrds]; simp [gslot])]
      have hx' : evOp c true (keep (tr.getD i default).rds (E i)) (Hs i) (cop P imT o.op) = some x := by
        rw [← hx]
        exact evOp_congr fun t ht' => by rw [get_keep, if_pos (by rw [hrds]; exact List.mem_append_left _ ht')]
      rw [wanted_sound hkeep hgd hw', if_pos rfl]
      have htch : ∀ id, id ∈ x.tch ↔ id ∈ (tr.getD i default).tch := fun id => by rw [ht]
      have hmd : x.md = (tr.getD i default).md := by rw [ht]
      have hHT : HR I μ w (fun id => true = false ∨ id ∈ x.tch) (look c.H c.nx (Hs i)) := d.hr.sub fun id hid => ⟨trivial, by
        rcases hid with h | h
        · cases h
        · exact (ready_heap g d.closed ho hr hD id ((htch id).1 h)).symm⟩
      refine .inl (evOp_sound (dr := true) g.sound hx' hHT (fun id h1 h2 => hfree id h1 (by rw [hh]; exact h2.resolve_left (by simp))) d.glob hkeep fun I' μ' w' v hgo hv => ?_)
      refine fin I' μ' w' v hd (by rw [ht]) (by rw [hR]; exact hv) ?_
      have hgo' : Goes I I' μ μ' w w' (look c.H c.nx (Hs i)) (look c.H c.nx (Hs (i + 1))) (fun id => true = false ∨ id ∈ x.tch) (fun id => c.nx + (Hs i).new.length ≤ id ∧ id < c.nx + (Hs (i + 1)).new.length) := by rw [hh]; exact hgo
      refine hgo'.lift d.hr (fun id hid => ?_) (fun id hid => ?_) fun id h1 h2 => ?_
      · rcases hid with h | h
        · cases h
        · exact ready_heap g d.closed ho hr hD id ((htch id).1 h)
      · rw [next_heap g d.closed hi hD hD' id]
        rcases hid with (h | h) | h
        · cases h
        · by_cases hc2 : ((tr.getD i default).md = true ∧ id ∈ (tr.getD i default).tch) ∨ ((tr.getD i default).lo ≤ id ∧ id < (tr.getD i default).hi)
          · rw [if_pos hc2]
          · rw [if_neg hc2, ready_heap g d.closed ho hr hD id ((htch id).1 h)]
            exact (f.frame id (f.lt ((htch id).1 h)) fun e => hc2 (.inl e)).symm
        · rw [if_pos (.inr (by rw [f.lo, f.hi]; exact h))]
      · rw [next_heap g d.closed hi hD hD' id, if_neg]
        rintro (h | h)
        · exact h1 (.inr ((htch id).2 h.2))
        · rw [f.lo, f.hi] at h; exact h2 h
    · simp only at hw ht
      have hrds : (tr.getD i default).rds = gslot gd := by rw [ht]
      have hw' : wants (keep (tr.getD i default).rds (E i)) gd = some false := by
        rw [← hw]
        cases gd with
        | none => rfl
        | some q => obtain ⟨t, b⟩ := q; simp only [wants]; rw [get_keep, if_pos (by rw [hrds]; simp [gslot])]
      rw [wanted_sound hkeep hgd hw', if_neg (by simp)]
      refine fin I μ w undef hd (by rw [ht]) (by rw [hR]; exact .p (.s _)) ?_
      have hself : Goes I I μ μ w w (lD c.H c.nx Hs tr D ops.size) (lD c.H c.nx Hs tr D ops.size) (fun _ => False) (fun _ => False) := Goes.refl d.hr.lt
      have hsame : lD c.H c.nx Hs tr D' ops.size = lD c.H c.nx Hs tr D ops.size := funext fun id => by
        rw [next_heap g d.closed hi hD hD' id, if_neg]
        rw [ht]
        rintro (h | h)
        · exact absurd h.1 (by simp)
        · have h1 : c.nx + (Hs i).new.length ≤ id ∧ id < c.nx + (Hs i).new.length := h
          omega
      rw [hsame]
      exact (hself.widen d.hr fun _ h => h.elim).congrN fun id => by rw [hh]; exact ⟨fun h => by omega, fun h => h.elim⟩
  · rw [hc] at hst
    rcases hst with ⟨x, hw, hx, _⟩ | ⟨hw, _⟩
    · simp [evOp] at hx
    · simp [wants] at hw

theorem filter_lt {p q : Nat → Bool} : ∀ (l : List Nat), (∀ k, q k = true → p k = true) → (∃ k ∈ l, p k = true ∧ q k = false) → (l.filter q).length < (l.filter p).length
  | [], _, h => by obtain ⟨k, hk, _⟩ := h; cases hk
  | x :: r, hpq, h => by
    have hle : ∀ (l : List Nat), (l.filter q).length ≤ (l.filter p).length := by
      intro l
      induction l with
      | nil => exact Nat.le_refl _
      | cons y l ih =>
        by_cases hq : q y = true
        · rw [List.filter_cons_of_pos hq, List.filter_cons_of_pos (hpq y hq)]; simpa using ih
        · rw [List.filter_cons_of_neg hq]
          by_cases hp : p y = true
          · rw [List.filter_cons_of_pos hp]; simp; omega
          · rw [List.filter_cons_of_neg hp]; exact ih
    obtain ⟨k, hk, hp, hq⟩ := h
    rcases List.mem_cons.1 hk with rfl | hk
    · rw [List.filter_cons_of_neg (by rw [hq]; simp), List.filter_cons_of_pos hp]
      have := hle r
      simp; omega
    · have := filter_lt r hpq ⟨k, hk, hp, hq⟩
      by_cases hqx : q x = true
      · rw [List.filter_cons_of_pos hqx, List.filter_cons_of_pos (hpq x hqx)]; simp; omega
      · rw [List.filter_cons_of_neg hqx]
        by_cases hpx : p x = true
        · rw [List.filter_cons_of_pos hpx]; simp; omega
        · rw [List.filter_cons_of_neg hpx]; exact this

theorem draw_all (g : Reg P imT c nt ops E Hs R tr) (hk0 : Keys c.H (Hs 0)) {Q : Exit → Act → World → Prop} (hQ : ∀ a' w' I' μ', Inv c I0 μ0 w0 nt (E ops.size) (Hs ops.size) a' w' I' μ' → Q .normal a' w') :
    ∀ (fuel : Nat) (listed : Array Bool) (a : Act) (w : World) (I : Nat → Prop) (μ : Mu), listed.size = ops.size → ((List.range ops.size).filter fun k => !listed.getD k false).length ≤ fuel →
      DInv c I0 μ0 w0 nt ops E Hs R tr (fun k => listed.getD k false) a w I μ → wpAny P .any ops Q fuel listed a w := by
  have hdone : ∀ (listed : Array Bool) (a : Act) (w : World) (I : Nat → Prop) (μ : Mu), (∀ k, k < ops.size → listed.getD k false = true) → DInv c I0 μ0 w0 nt ops E Hs R tr (fun k => listed.getD k false) a w I μ → Q .normal a w := by
    intro listed a w I μ hall d
    have he : ∀ k, k ≤ ops.size → ∀ t, eD (E 0) R tr (fun k => listed.getD k false) k t = get (E k) t := by
      intro k
      induction k with
      | zero => intro _ t; rfl
      | succ k ih =>
        intro hk t
        rw [eD, (g.facts k (by omega)).env t, ih (by omega)]
        have := hall k (by omega)
        by_cases hw : (tr.getD k default).wr = some t
        · rw [if_pos ⟨this, hw⟩, if_pos hw]
        · rw [if_neg (fun e => hw e.2), if_neg hw]
    have hl : ∀ k, k ≤ ops.size → ∀ id, lD c.H c.nx Hs tr (fun k => listed.getD k false) k id = look c.H c.nx (Hs k) id := by
      intro k
      induction k with
      | zero => intro _ id; rfl
      | succ k ih =>
        intro hk id
        have f := g.facts k (by omega)
        have := hall k (by omega)
        rw [lD]
        by_cases hc : ((tr.getD k default).md = true ∧ id ∈ (tr.getD k default).tch) ∨ ((tr.getD k default).lo ≤ id ∧ id < (tr.getD k default).hi)
        · rw [if_pos ⟨this, hc⟩]
        · rw [if_neg (fun e => hc e.2), ih (by omega)]
          rcases Nat.lt_or_ge id (c.nx + (Hs k).new.length) with h3 | h3
          · exact (f.frame id h3 fun e => hc (.inl e)).symm
          · rw [look_new h3, look_new]
            rw [f.lo, f.hi] at hc
            rcases Nat.lt_or_ge id (c.nx + (Hs (k + 1)).new.length) with h4 | h4
            · exact absurd (.inr ⟨h3, h4⟩) hc
            · exact h4
    have hkeys : ∀ k, k ≤ ops.size → Keys c.H (Hs k) := by
      intro k
      induction k with
      | zero => intro _; exact hk0
      | succ k ih => intro hk; exact (g.facts k (by omega)).keys (ih (by omega))
    have hlk : lD c.H c.nx Hs tr (fun k => listed.getD k false) ops.size = look c.H c.nx (Hs ops.size) := funext fun id => hl ops.size (Nat.le_refl _) id
    have hrange : ∀ n, n ≤ ops.size → ∀ id, c.nx + (Hs 0).new.length ≤ id → id < c.nx + (Hs n).new.length → ∃ k, k < n ∧ c.nx + (Hs k).new.length ≤ id ∧ id < c.nx + (Hs (k + 1)).new.length := by
      intro n
      induction n with
      | zero => intro _ id h1 h2; omega
      | succ n ih =>
        intro hn id h1 h2
        rcases Nat.lt_or_ge id (c.nx + (Hs n).new.length) with h3 | h3
        · obtain ⟨k, hk, hh⟩ := ih (by omega) id h1 h3
          exact ⟨k, by omega, hh⟩
        · exact ⟨n, by omega, h3, h2⟩
    have hmono0 := g.len_mono 0 ops.size (by omega) (Nat.le_refl _)
    have hNiff : ∀ id, (c.nx ≤ id ∧ id < c.nx + (Hs ops.size).new.length) ↔ ((c.nx ≤ id ∧ id < c.nx + (Hs 0).new.length) ∨ ∃ k, k < ops.size ∧ listed.getD k false = true ∧ (tr.getD k default).lo ≤ id ∧ id < (tr.getD k default).hi) := by
      intro id
      constructor
      · rintro ⟨h1, h2⟩
        rcases Nat.lt_or_ge id (c.nx + (Hs 0).new.length) with h3 | h3
        · exact .inl ⟨h1, h3⟩
        · obtain ⟨k, hk, hh⟩ := hrange ops.size (Nat.le_refl _) id h3 h2
          exact .inr ⟨k, hk, hall k hk, by rw [(g.facts k hk).lo, (g.facts k hk).hi]; exact hh⟩
      · rintro (h | ⟨k, hk, _, h⟩)
        · exact ⟨h.1, by omega⟩
        · rw [(g.facts k hk).lo, (g.facts k hk).hi] at h
          have := g.len_mono (k + 1) ops.size (by omega) (Nat.le_refl _)
          exact ⟨by omega, by omega⟩
    refine hQ a w I μ ⟨fun t => ?_, d.size, d.defers, ?_, fun id hid => ?_, d.glob, hkeys ops.size (Nat.le_refl _)⟩
    · rw [← he ops.size (Nat.le_refl _) t]; exact d.env t
    · have := d.goes
      rw [hlk] at this
      exact this.congrN hNiff
    · refine d.none id (by omega) fun k hk hDk h => ?_
      rw [(g.facts k hk).lo, (g.facts k hk).hi] at h
      have := g.len_mono (k + 1) ops.size (by omega) (Nat.le_refl _)
      omega
  have hready : ∀ (listed : Array Bool), listed.size = ops.size → ∀ i ∈ Region.ready .any ops listed, ∃ o, ops[i]? = some o ∧ listed.getD i false = false ∧ ∀ e, e ∈ o.after → Region.binds .any e = true → listed.getD e.on false = true := by
    intro listed hs i hi
    unfold Region.ready at hi
    rw [List.mem_filter, List.mem_range] at hi
    obtain ⟨hlt, h⟩ := hi
    rw [Bool.and_eq_true] at h
    have ho : ops[i]? = some ops[i] := by simp [hlt]
    rw [ho] at h
    simp only [Option.map_some, Option.getD_some] at h
    refine ⟨ops[i], ho, ?_, fun e he hb => ?_⟩
    · have h1 := h.1
      simp [hs, hlt] at h1 ⊢
      exact h1
    · have := Array.all_eq_true'.1 h.2 e he
      rw [hb] at this
      simpa using this
  have hnone : ∀ (listed : Array Bool), listed.size = ops.size → Region.ready .any ops listed = [] → ∀ k, k < ops.size → listed.getD k false = true := by
    intro listed hs hemp k
    induction k using Nat.strongRecOn with
    | _ k ih =>
      intro hk
      cases hl : listed.getD k false with
      | true => rfl
      | false =>
        exfalso
        have ho : ops[k]? = some ops[k] := by simp [hk]
        have hmem : k ∈ Region.ready .any ops listed := by
          unfold Region.ready
          rw [List.mem_filter, List.mem_range]
          refine ⟨hk, ?_⟩
          rw [ho, Bool.and_eq_true]
          simp only [Option.map_some, Option.getD_some]
          refine ⟨?_, ?_⟩
          · simp [hs, hk] at hl ⊢; exact hl
          · rw [Array.all_eq_true']
            intro e he
            cases hb : Region.binds .any e with
            | false => rfl
            | true =>
              have hlt := g.edges k _ e ho he hb
              simp only [Bool.not_true, Bool.false_or]
              exact ih e.on hlt (by omega)
        rw [hemp] at hmem
        cases hmem
  intro fuel
  induction fuel with
  | zero =>
    intro listed a w I μ hs hf d
    have hall : ∀ k, k < ops.size → listed.getD k false = true := fun k hk => by
      cases hl : listed.getD k false with
      | true => rfl
      | false =>
        have hmem : k ∈ (List.range ops.size).filter fun k => !listed.getD k false := by
          rw [List.mem_filter, List.mem_range]; exact ⟨hk, by simp [hl]⟩
        have := List.length_pos_of_mem hmem
        omega
    refine ⟨?_, hdone listed a w I μ hall d⟩
    cases hr : Region.ready .any ops listed with
    | nil => rfl
    | cons x r =>
      obtain ⟨o, ho, hl, _⟩ := hready listed hs x (by rw [hr]; exact List.mem_cons_self)
      have := hall x (Array.getElem?_eq_some_iff.1 ho).1
      rw [hl] at this; cases this
  | succ fuel ih =>
    intro listed a w I μ hs hf d
    refine ⟨fun h => hdone listed a w I μ (hnone listed hs h) d, fun i hi => ?_⟩
    obtain ⟨o, ho, hl, hr⟩ := hready listed hs i hi
    have hlt : i < ops.size := (Array.getElem?_eq_some_iff.1 ho).1
    have hset : ∀ k, (listed.setIfInBounds i true).getD k false = if k = i then true else listed.getD k false := fun k => by
      simp only [Array.getD_eq_getD_getElem?, Array.getElem?_setIfInBounds]
      by_cases e : k = i
      · subst e; rw [if_pos rfl, if_pos rfl, if_pos (by omega)]; rfl
      · rw [if_neg (fun h => e h.symm), if_neg e]
    refine draw_step g d ho hr hl hset fun a' w' I' μ' d' => ih _ a' w' I' μ' (by simpa using hs) ?_ d'
    have := filter_lt (p := fun k => !listed.getD k false) (q := fun k => !(listed.setIfInBounds i true).getD k false) (List.range ops.size) (fun k hk => by
        rw [hset] at hk
        split at hk
        · cases hk
        · exact hk) ⟨i, List.mem_range.2 hlt, by rw [hl]; rfl, by rw [hset, if_pos rfl]; rfl⟩
    omega

end
end Go.Sx
