/- Functions: what the value machine answers, a call does. -/
import Derived.Test.YtkdimbcfacoboaaGreatDoorSxR
namespace Go.Sx
open Go

section
variable {P : Program} {I0 I : Nat → Prop} {μ0 μ : Mu} {w0 w : World} {H : Heap} {nx : Nat}

theorem frz_vr {I I' : Nat → Prop} {h : Hp} (hI : ∀ b, I b → I' b) (hobj : ∀ id o, look H nx h id = some o → OR I μ w id o) {r r' : LV} {v : Value} (hf : frz nx h r = some r') (hv : VR I μ w r v) (hb : ∀ id ∈ ids r, ∀ b, blk μ id = some b → I' b) (μ' : Mu) :
    VR I' μ' w r' v ∧ ids r' = [] := by
  have hgo : ∀ (cs l : List LV), frz.go nx h cs = some l → l.length = cs.length ∧ ids.idsL l = [] ∧ ∀ (j : Nat) y, l[j]? = some y → ∃ q x, cs[j]? = some q ∧ y = .p x ∧ frzL nx h 8 q = some x := by
    intro cs
    induction cs with
    | nil => intro l hl; simp only [frz.go, Option.some.injEq] at hl; subst hl; exact ⟨rfl, rfl, by simp⟩
    | cons q r ih =>
      intro l hl
      simp only [frz.go] at hl
      split at hl
      · rename_i y l' h1 h2
        obtain rfl := Option.some.inj hl
        obtain ⟨g1, g3, g2⟩ := ih l' h2
        refine ⟨by simp [g1], by simp [ids.idsL, ids, g3], fun j z hz => ?_⟩
        cases j with
        | zero => simp at hz; subst hz; exact ⟨q, y, rfl, rfl, h1⟩
        | succ j => exact g2 j z hz
      · cases hl
  unfold frz at hf
  split at hf
  · rename_i vs
    split at hf
    · rename_i l hl
      obtain rfl := Option.some.inj hf
      obtain ⟨ar, rfl, hsz, hc⟩ := vr_tuple hv
      obtain ⟨g1, g3, g2⟩ := hgo vs l hl
      refine ⟨.tuple l ar (by rw [g1]; exact hsz) fun j y u hj hu => ?_, by simp [ids, g3]⟩
      obtain ⟨q, x, hq, rfl, hfq⟩ := g2 j y hj
      exact .p (frzL_pr hI hobj 8 q x u hfq (hc j q u hq hu) fun id hid b hbb => hb id (by simp only [ids]; exact mem_idsL hq id hid) b hbb)
    · cases hf
  · split at hf
    · rename_i x hx
      obtain rfl := Option.some.inj hf
      exact ⟨.p (frzL_pr hI hobj 8 r x v hx hv hb), rfl⟩
    · cases hf

theorem frzL_new {h : Hp} : ∀ (m : Nat) (l : LV) (x : PV), frzL nx h m l = some x → ∀ id ∈ ids l, nx ≤ id ∧ ∃ o, look H nx h id = some o
  | 0, l, x, hx, id, hid => by simp [frzL] at hx
  | m + 1, .p y, x, hx, id, hid => by simp [ids] at hid
  | m + 1, .arr i off len sz cp ex, x, hx, id, hid => by
    simp [ids] at hid
    subst hid
    simp only [frzL] at hx
    split at hx
    · cases hx
    · rename_i hlt'
      split at hx
      · rename_i cs hcs
        exact ⟨by omega, .cells cs, by unfold look; rw [if_neg hlt', hcs]⟩
      · cases hx
  | m + 1, .agg cs, x, hx, id, hid => by
    simp only [ids] at hid
    simp only [frzL] at hx
    split at hx
    · rename_i l hl
      have hgo : ∀ (cs : List LV) (l : List PV), frzL.go nx h m cs = some l → ∀ id ∈ ids.idsL cs, nx ≤ id ∧ ∃ o, look H nx h id = some o := by
        intro cs
        induction cs with
        | nil => intro l _ id hid; simp [ids.idsL] at hid
        | cons q rr ihc =>
          intro l hl id hid
          simp only [frzL.go] at hl
          split at hl
          · rename_i y l' h1 h2
            simp only [ids.idsL, List.mem_append] at hid
            rcases hid with hid | hid
            · exact frzL_new m q y h1 id hid
            · exact ihc l' h2 id hid
          · cases hl
      exact hgo cs l hl id hid
    · cases hx
  | m + 1, .junk, x, hx, id, hid => by simp [frzL] at hx
  | m + 1, .ref .., x, hx, id, hid => by simp [frzL] at hx
  | m + 1, .tuple .., x, hx, id, hid => by simp [frzL] at hx
  | m + 1, .fn .., x, hx, id, hid => by simp [frzL] at hx

theorem frz_new {h : Hp} {r r' : LV} (hf : frz nx h r = some r') : ∀ id ∈ ids r, nx ≤ id ∧ ∃ o, look H nx h id = some o := by
  intro id hid
  have hgo : ∀ (cs l : List LV), frz.go nx h cs = some l → ∀ id ∈ ids.idsL cs, nx ≤ id ∧ ∃ o, look H nx h id = some o := by
    intro cs
    induction cs with
    | nil => intro l _ id hid; simp [ids.idsL] at hid
    | cons q rr ihc =>
      intro l hl id hid
      simp only [frz.go] at hl
      split at hl
      · rename_i y l' h1 h2
        simp only [ids.idsL, List.mem_append] at hid
        rcases hid with hid | hid
        · exact frzL_new 8 q y h1 id hid
        · exact ihc l' h2 id hid
      · cases hl
  unfold frz at hf
  split at hf
  · rename_i vs
    split at hf
    · rename_i l hl
      exact hgo vs l hl id (by simpa only [ids] using hid)
    · cases hf
  · split at hf
    · rename_i x hx; exact frzL_new 8 r x hx id hid
    · cases hf

/-- What is left of a call: the machine's account, and the world's. -/
theorem finish_sound {own : Bool} {r0 r : LV} {h : Hp} {u : Upd} {n : List (Option Obj)} {v : Value} (hf : finish own H nx r0 h = some (r, u, n)) (h0 : ∀ id, nx ≤ id → μ0 id = none)
    (hH0 : HR I0 μ0 w0 (fun _ => True) H) (g : Goes I0 I μ0 μ w0 w H (look H nx h) (fun _ => True) (fun id => nx ≤ id ∧ id < nx + h.new.length)) (hk : Keys H h) (hv : VR I μ w r0 v) :
    (∀ id o, findU u id = some o → (H id).isSome = true) ∧
    ∃ I' μ', Goes I0 I' μ0 μ' w0 w H (look H nx ⟨u, n⟩) (fun _ => True) (fun id => nx ≤ id ∧ id < nx + n.length) ∧ VR I' μ' w r v := by
  unfold finish at hf
  split at hf
  · cases hf
  rename_i r1 hr1
  split at hf
  · cases hf
  rename_i seen hseen
  split at hf
  case isFalse => cases hf
  rename_i hown
  split at hf
  case h_2 => cases hf
  rename_i r2 u2 n2 hr2 hu2 hn2
  simp only [Option.some.injEq, Prod.mk.injEq] at hf
  obtain ⟨rfl, rfl, rfl⟩ := hf
  have hr : HR I μ w (fun _ => True) (look H nx h) := g.hr.sub fun _ _ => ⟨.inl trivial, rfl⟩
  have hnd : seen.Nodup := reach_nodup 1000 _ _ seen hseen (by simp)
  have hal : ∀ id ∈ seen, nx ≤ id ∧ ∃ o, look H nx h id = some o := fun id hid => by
    have := reach_alive 1000 _ _ seen hseen (by simp) id hid
    by_cases hc : id < nx
    · rw [if_pos hc] at this; cases this
    · rw [if_neg hc] at this; exact ⟨by omega, Option.isSome_iff_exists.1 this⟩
  obtain ⟨hnl, hng⟩ := renN_get hn2
  have hkeys : ∀ id o, findU u2 id = some o → (H id).isSome = true := fun id o ho => by
    obtain ⟨o', ho', _⟩ := (renU_find hu2 id).2 o ho
    exact hk id o' ho'
  -- what is immutable from now on
  obtain ⟨I', hI'⟩ : ∃ I' : Nat → Prop, I' = fun b => I b ∨ (own = false ∧ ∃ id ∈ ids r0, nx ≤ id ∧ (∃ o, look H nx h id = some o) ∧ blk μ id = some b) := ⟨_, rfl⟩
  have hII : ∀ b, I b → I' b := fun b hb => by rw [hI']; exact .inl hb
  have hval : VR I' (renMu μ nx seen) w r2 v := by
    cases own with
    | true =>
      simp only [if_true, Option.some.injEq] at hr1
      subst hr1
      exact (hv.ren hr2).mono hII (fun _ _ h => h) fun _ _ => rfl
    | false =>
      simp only [Bool.false_eq_true, if_false] at hr1
      have hfz := frz_new (H := H) hr1
      obtain ⟨q1, q2⟩ := frz_vr (I' := I') hII (fun id o ho => hr.obj id o trivial ho) hr1 hv (fun id hid b hb => by
        rw [hI']; exact .inr ⟨rfl, id, hid, (hfz id hid).1, (hfz id hid).2, hb⟩) μ
      exact q1.ren hr2
  -- where each object that is left comes from
  have hfrom : ∀ id o, look H nx ⟨u2, n2⟩ id = some o → ∃ j p, look H nx h j = some p ∧ renMu μ nx seen id = μ j ∧ OR I (renMu μ nx seen) w id o ∧ (id < nx → j = id) ∧ (nx ≤ id → seen[id - nx]? = some j) := by
    intro id o ho
    by_cases hid : id < nx
    · have ho' := ho
      unfold look at ho'
      rw [if_pos hid] at ho'
      simp only [] at ho'
      have hmu : renMu μ nx seen id = μ id := by simp [renMu, hid]
      cases hfu : findU u2 id with
      | some q =>
        rw [hfu] at ho'
        simp only at ho'
        subst ho'
        obtain ⟨q', hq', hren⟩ := (renU_find hu2 id).2 _ hfu
        cases q' with
        | none => simp [renO] at hren
        | some p =>
          have hl : look H nx h id = some p := by unfold look; rw [if_pos hid, hq']
          obtain ⟨p', hp', hor⟩ := (hr.obj id p trivial hl).ren hmu hren
          obtain rfl := Option.some.inj hp'
          exact ⟨id, p, hl, hmu, hor, fun _ => rfl, fun h => absurd h (by omega)⟩
      | none =>
        rw [hfu] at ho'
        simp only at ho'
        have hnone := ((renU_find hu2 id).1).1 hfu
        have hl : look H nx h id = some o := by unfold look; rw [if_pos hid, hnone]; exact ho'
        refine ⟨id, o, hl, hmu, ?_, fun _ => rfl, fun h => absurd h (by omega)⟩
        have hor := hr.obj id o trivial hl
        have hor0 := hH0.obj id o trivial ho'
        cases o with
        | cells cs =>
          obtain ⟨b, oo, s, e, hm, hs, hle, hfz, hc⟩ := hor
          obtain ⟨_, _, _, _, _, _, _, _, hc0⟩ := hor0
          refine ⟨b, oo, s, e, by rw [hmu, hm], hs, hle, hfz, fun j l hj => ?_⟩
          obtain ⟨q, h1, h2, h3⟩ := hc j l hj
          obtain ⟨q0, _, _, h30⟩ := hc0 j l hj
          refine ⟨q, h1, h2, h3.agree fun i hi => ?_⟩
          have : i < nx := by
            rcases Nat.lt_or_ge i nx with h4 | h4
            · exact h4
            · have := h30.mapped i hi
              rw [h0 i h4] at this; cases this
          simp [renMu, this]
        | iter s q =>
          obtain ⟨b, hm, hb⟩ := hor
          exact ⟨b, by rw [hmu, hm], hb⟩
    · have ho' := ho
      unfold look at ho'
      rw [if_neg hid] at ho'
      simp only [] at ho'
      cases hs : seen[id - nx]? with
      | none =>
        have hlt' : seen.length ≤ id - nx := by
          rcases Nat.lt_or_ge (id - nx) seen.length with h1 | h1
          · rw [List.getElem?_eq_getElem h1] at hs; cases hs
          · exact h1
        rw [List.getElem?_eq_none (by omega)] at ho'
        cases ho'
      | some j =>
        obtain ⟨p, hp1, hp2⟩ := hng _ j hs
        rw [hp1] at ho'
        simp only at ho'
        subst ho'
        obtain ⟨_, q, hq⟩ := hal j (List.mem_of_getElem? hs)
        rw [hq] at hp2
        have hmu : renMu μ nx seen id = μ j := by simp [renMu, hid, hs]
        obtain ⟨p', hp', hor⟩ := (hr.obj j q trivial hq).ren hmu hp2
        obtain rfl := Option.some.inj hp'
        exact ⟨j, q, hq, hmu, hor, fun h => absurd h hid, fun _ => rfl⟩
  have hlen : ∀ id, nx + n2.length ≤ id → look H nx ⟨u2, n2⟩ id = none := fun id hid => look_new hid
  refine ⟨hkeys, I', renMu μ nx seen, ⟨fun id hn => ?_, fun id hn => h0 id hn.1, fun b hb => hII b (g.up b hb), fun b hb => ?_, g.stp, ⟨fun id o _ ho => ?_, fun id id' o o' _ _ ho ho' hne => ?_, fun id o b _ ho hb => ?_, fun b hb => ?_⟩, fun id b hn he hb => ?_,
    fun id ht => absurd trivial ht, fun id hn hl => ?_⟩, hval⟩
  · by_cases hid : id < nx
    · simp only [renMu, if_pos hid]
      exact g.mu id (by omega)
    · have hge : seen.length ≤ id - nx := by omega
      simp only [renMu, if_neg hid, List.getElem?_eq_none hge]
      exact (h0 id (by omega)).symm
  · rw [hI'] at hb
    rcases hb with hb | ⟨_, id, hid, hge, ⟨o, ho⟩, hbk⟩
    · exact g.back b hb
    · refine .inr (g.new id b ⟨hge, ?_⟩ ⟨o, ho⟩ hbk)
      rcases look_some ho with h1 | h1 <;> omega
  · obtain ⟨j, p, _, _, hor, _⟩ := hfrom id o ho
    exact hor.mono hII (fun _ _ h => h) (fun _ _ => rfl) fun _ _ => rfl
  · obtain ⟨j, p, hj, hmu, _, hlt1, hge1⟩ := hfrom id o ho
    obtain ⟨j', p', hj', hmu', _, hlt2, hge2⟩ := hfrom id' o' ho'
    simp only [blk, hmu, hmu']
    refine hr.inj j j' p p' trivial trivial hj hj' fun e => hne ?_
    subst e
    by_cases c1 : id < nx <;> by_cases c2 : id' < nx
    · exact (hlt1 c1).symm.trans (hlt2 c2)
    · have := (hal j (List.mem_of_getElem? (hge2 (by omega)))).1
      have := hlt1 c1; omega
    · have := (hal j (List.mem_of_getElem? (hge1 (by omega)))).1
      have := hlt2 c2; omega
    · have e1 := hge1 (by omega)
      have e2 := hge2 (by omega)
      have := (List.getElem?_inj (List.getElem?_eq_some_iff.1 e1).1 hnd).1 (e1.trans e2.symm)
      omega
  · obtain ⟨j, p, hj, hmu, _, hlt1, hge1⟩ := hfrom id o ho
    simp only [blk, hmu]
    rw [hI'] at hb
    rcases hb with hb | ⟨hof, i, hi, hge, ⟨q, hq⟩, hbk⟩
    · exact hr.imm j p b trivial hj hb
    · intro e
      have hne : j ≠ i := by
        intro e2
        subst e2
        by_cases c1 : id < nx
        · have := hlt1 c1; omega
        · have hm := List.mem_of_getElem? (hge1 (by omega))
          rw [hof] at hown
          simp only [Bool.false_or] at hown
          have := List.all_eq_true.1 hown j hi
          simp [hm] at this
      exact hr.inj j i p q trivial trivial hj hq hne (e.trans hbk.symm)
  · rw [hI'] at hb
    rcases hb with hb | ⟨_, id, hid, hge, ⟨o, ho⟩, hbk⟩
    · exact hr.lt b hb
    · obtain ⟨b', hb', hlt'⟩ := (hr.obj id o trivial ho).lt
      rw [hbk] at hb'
      obtain rfl := Option.some.inj hb'
      exact hlt'
  · obtain ⟨o, ho⟩ := he
    obtain ⟨j, p, hj, hmu, _, hlt1, hge1⟩ := hfrom id o ho
    simp only [blk, hmu] at hb
    have hjn := (hal j (List.mem_of_getElem? (hge1 hn.1))).1
    refine g.new j b ⟨hjn, ?_⟩ ⟨p, hj⟩ hb
    rcases look_some hj with h1 | h1 <;> omega
  · by_cases hid : id < nx
    · unfold look
      rw [if_pos hid]
      simp only []
      cases hfu : findU u2 id with
      | none => exact hl
      | some q => have := hkeys id q hfu; rw [hl] at this; cases this
    · exact hlen id (by omega)

def oneV : List Value → Value
  | [x] => x
  | l => .tuple l.toArray

def resG (tmps : Array Value) : ResultVar → Sem Value
  | .tmp t => pure (tmps.getD t undef)
  | .cell q t => do loadVar t (← asAddr (tmps.getD q undef))

theorem res_run {fn : Func} {a : Act} {rs : List (Nat × Option (Nat × Bool))} {st : St} {vs : List LV} (h : resSlots P fn.results.toList = some rs) (hv : resVs H nx st rs = some vs) (henv : EnvR I μ w st.env a) (hr : HR I μ w (fun _ => True) (look H nx st.h)) :
    ∃ us : List Value, (results fn a.tmps).run P w = .ok (oneV us) w ∧ us.length = vs.length ∧ ∀ (j : Nat) l u, vs[j]? = some l → us[j]? = some u → VR I μ w l u := by
  have hl : ∀ (g : ResultVar → Sem Value), (∀ t, g (.tmp t) = pure (a.tmps.getD t undef)) → (∀ q t, g (.cell q t) = do loadVar t (← asAddr (a.tmps.getD q undef))) → ∀ (l : List ResultVar) (rs : List (Nat × Option (Nat × Bool))) (vs : List LV), resSlots P l = some rs → resVs H nx st rs = some vs →
      ∃ us : List Value, (l.mapM (m := Sem) g).run P w = .ok us w ∧ us.length = vs.length ∧ ∀ (j : Nat) l u, vs[j]? = some l → us[j]? = some u → VR I μ w l u := by
    intro g hg hg2 l
    induction l with
    | nil =>
      intro rs vs h hv
      simp only [resSlots, Option.some.injEq] at h; subst h
      simp only [resVs, Option.some.injEq] at hv; subst hv
      exact ⟨[], by simp, rfl, by simp⟩
    | cons x r ih =>
      intro rs vs h hv
      have fin : ∀ (y : Nat × Option (Nat × Bool)) (l' : List (Nat × Option (Nat × Bool))) (q : LV), rs = y :: l' → resSlots P r = some l' → (resV H nx st y = some q → ∃ u, (g x).run P w = .ok u w ∧ VR I μ w q u) → resV H nx st y = some q →
          ∃ us : List Value, ((x :: r).mapM (m := Sem) g).run P w = .ok us w ∧ us.length = vs.length ∧ ∀ (j : Nat) l u, vs[j]? = some l → us[j]? = some u → VR I μ w l u := by
        intro y l' q hrs hl' hq hy
        subst hrs
        simp only [resVs, hy] at hv
        split at hv
        · rename_i v l2 hv1 hv2
          obtain rfl := Option.some.inj hv1
          obtain rfl := Option.some.inj hv
          obtain ⟨u, h1, h2⟩ := hq hy
          obtain ⟨us, g1, g2, g3⟩ := ih l' l2 hl' hv2
          refine ⟨u :: us, by simp only [List.mapM_cons, Sem.run_bind, h1, Result.andThen_ok, g1, Sem.run_pure], by simp [g2], fun j l u' hj hu => ?_⟩
          cases j with
          | zero => simp at hj hu; rw [← hj, ← hu]; exact h2
          | succ j => exact g3 j l u' hj hu
        · cases hv
      cases x with
      | tmp t =>
        simp only [resSlots] at h
        split at h
        · rename_i l' hl'
          obtain rfl := Option.some.inj h
          exact fin (t, none) l' (get st.env t) rfl hl' (fun _ => ⟨a.tmps.getD t undef, by rw [hg]; simp, henv t⟩) rfl
        · cases h
      | cell q t =>
        simp only [resSlots] at h
        split at h
        · rename_i s gg l' hs hgg hl'
          obtain rfl := Option.some.inj h
          cases hy : resV H nx st (q, some (s, gg)) with
          | none => simp [resVs, hy] at hv
          | some y =>
            refine fin (q, some (s, gg)) l' y rfl hl' (fun hy => ?_) hy
            have hx := henv q
            have key : ∀ {b o off : Nat} {cs : List LV}, At I μ w b o cs → rd cs off s gg = some y → a.tmps.getD q undef = .pointer (some ⟨b, o + off, none⟩) → ∃ u, (g (.cell q t)).run P w = .ok u w ∧ VR I μ w y u := fun hat hv he => by
              obtain ⟨u, h1, h2⟩ := load_at (P := P) hat hv hs hgg
              refine ⟨u, ?_, h2⟩
              rw [hg2, he]
              simp only [asAddr, Sem.run_bind, Sem.run_pure, Result.andThen_ok, h1]
            simp only [resV] at hy
            split at hy
            · rename_i cs off hv'
              rw [hv'] at hx
              obtain ⟨b, o, he, _, hat⟩ := hx.pp.imm_at (μ := μ)
              exact key hat hy he
            · rename_i id off hv'
              rw [hv'] at hx
              split at hy
              · rename_i cs hlk
                obtain ⟨b, o, sz, e, hm, _, _, _, hat⟩ := hr.obj id _ trivial hlk
                obtain ⟨b', o', s', hm', he⟩ := vr_ref hx
                rw [hm] at hm'
                obtain ⟨rfl, rfl, rfl⟩ : b = b' ∧ o = o' ∧ sz = s' := by simpa using hm'
                exact key (off := off) hat hy he
              · cases hy
            · cases hy
        · cases h
  have h2 : ∀ (g : ResultVar → Sem Value), (∀ t, g (.tmp t) = pure (a.tmps.getD t undef)) → (∀ q t, g (.cell q t) = do loadVar t (← asAddr (a.tmps.getD q undef))) →
      ∃ us : List Value, (List.toArray <$> (fn.results.toList.mapM (m := Sem) g)).run P w = .ok us.toArray w ∧ us.length = vs.length ∧ ∀ (j : Nat) l u, vs[j]? = some l → us[j]? = some u → VR I μ w l u := fun g hg hg2 => by
    obtain ⟨us, q1, q2, q3⟩ := hl g hg hg2 _ rs vs h hv
    refine ⟨us, ?_, q2, q3⟩
    rw [← bind_pure_comp, Sem.run_bind, q1]
    rfl
  have e : results fn a.tmps = (do let vs ← fn.results.mapM (resG a.tmps); pure (if h : vs.size = 1 then vs[0] else .tuple vs)) := by
    unfold results
    congr 1
  rw [e, Array.mapM_eq_mapM_toList, Sem.run_bind]
  obtain ⟨us, q1, q2, q3⟩ := h2 (resG a.tmps) (fun t => rfl) (fun q t => rfl)
  refine ⟨us, ?_, q2, q3⟩
  rw [q1]
  simp only [Result.andThen_ok]
  cases us with
  | nil => rfl
  | cons x l =>
    cases l with
    | nil => rfl
    | cons y l => rfl

theorem finish_keys {own : Bool} {r0 r : LV} {h : Hp} {u : Upd} {n : List (Option Obj)} (hf : finish own H nx r0 h = some (r, u, n)) (hk : Keys H h) : ∀ id o, findU u id = some o → (H id).isSome = true := by
  unfold finish at hf
  split at hf
  · cases hf
  split at hf
  · cases hf
  split at hf
  case isFalse => cases hf
  split at hf
  case h_2 => cases hf
  rename_i r2 u2 n2 hr2 hu2 hn2
  simp only [Option.some.injEq, Prod.mk.injEq] at hf
  obtain ⟨rfl, rfl, rfl⟩ := hf
  intro id o ho
  obtain ⟨o', ho', _⟩ := (renU_find hu2 id).2 o ho
  exact hk id o' ho'

theorem runOps_keys {c : Ctx} (hO : OSound P c.G c.O) : ∀ (l : List IROper) (env env' : Env) (h h' : Hp), runOps c l env h = some (env', h') → Keys c.H h → Keys c.H h'
  | [], env, env', h, h', hr, hk => by
    simp only [runOps, Option.some.injEq, Prod.mk.injEq] at hr
    obtain ⟨rfl, rfl⟩ := hr
    exact hk
  | o :: r, env, env', h, h', hr, hk => by
    simp only [runOps] at hr
    split at hr
    · split at hr
      · rename_i x hx
        exact runOps_keys hO r _ _ _ _ hr ((evOp_step hx).1.keys hO hk)
      · cases hr
    · exact runOps_keys hO r _ _ _ _ hr hk
    · cases hr

theorem runOpsT_keys {c : Ctx} (hO : OSound P c.G c.O) : ∀ (l : List IROper) (env env' : Env) (h h' : Hp) (tr : List Tr), runOpsT c l env h = some (tr, env', h') → Keys c.H h → Keys c.H h'
  | [], env, env', h, h', tr, hr, hk => by
    simp only [runOpsT, Option.some.injEq, Prod.mk.injEq] at hr
    obtain ⟨rfl, rfl, rfl⟩ := hr
    exact hk
  | o :: r, env, env', h, h', tr, hr, hk => by
    simp only [runOpsT] at hr
    split at hr
    · split at hr
      · rename_i x hx
        split at hr
        · rename_i tr1 e1 h1 hrun
          simp only [Option.some.injEq, Prod.mk.injEq] at hr
          obtain ⟨rfl, rfl, rfl⟩ := hr
          exact runOpsT_keys hO r _ _ _ _ _ hrun ((evOp_step hx).1.keys hO hk)
        · cases hr
      · cases hr
    · split at hr
      · rename_i tr1 e1 h1 hrun
        simp only [Option.some.injEq, Prod.mk.injEq] at hr
        obtain ⟨rfl, rfl, rfl⟩ := hr
        exact runOpsT_keys hO r _ _ _ _ _ hrun hk
      · cases hr
    · cases hr

theorem runC_keys {c : Ctx} (hO : OSound P c.G c.O) (n : Nat) : ∀ (i : IRC) (st st' : St) (e : Ex), runC c n i st = some (e, st') → Keys c.H st.h → Keys c.H st'.h
  | .skip, st, st', e, hr, hk => by
    simp only [runC, Option.some.injEq, Prod.mk.injEq] at hr
    obtain ⟨rfl, rfl⟩ := hr; exact hk
  | .region ops none live, st, st', e, hr, hk => by
    simp only [runC] at hr
    split at hr
    · rename_i env h hrun
      simp only [Option.some.injEq, Prod.mk.injEq] at hr
      obtain ⟨rfl, rfl⟩ := hr
      exact runOps_keys hO _ _ _ _ _ hrun hk
    · cases hr
  | .region ops (some b) live, st, st', e, hr, hk => by
    simp only [runC] at hr
    split at hr
    · rename_i tr env h hrun
      split at hr
      · simp only [Option.some.injEq, Prod.mk.injEq] at hr
        obtain ⟨rfl, rfl⟩ := hr
        exact runOpsT_keys hO _ _ _ _ _ _ hrun hk
      · cases hr
    · cases hr
  | .seq a b, st, st', e, hr, hk => by
    simp only [runC] at hr
    split at hr
    · rename_i st1 h1
      exact runC_keys hO n b st1 st' e hr (runC_keys hO n a st st1 .normal h1 hk)
    · exact runC_keys hO n a st st' e hr hk
  | .cond x a b, st, st', e, hr, hk => by
    simp only [runC] at hr
    split at hr
    · rename_i t ht
      cases t with
      | true => simp only [if_true] at hr; exact runC_keys hO n a st st' e hr hk
      | false => simp only [Bool.false_eq_true, if_false] at hr; exact runC_keys hO n b st st' e hr hk
    · cases hr
  | .block id a, st, st', e, hr, hk => by
    simp only [runC] at hr
    split at hr
    · rename_i j st1 h1
      have := runC_keys hO n a st st1 _ h1 hk
      split at hr <;>
        (simp only [Option.some.injEq, Prod.mk.injEq] at hr
         obtain ⟨rfl, rfl⟩ := hr
         exact this)
    · exact runC_keys hO n a st st' e hr hk
  | .loop a, st, st', e, hr, hk => by
    simp only [runC] at hr
    have : ∀ (k : Nat) (st : St), iter (runC c n a) k st = some (e, st') → Keys c.H st.h → Keys c.H st'.h := by
      intro k
      induction k with
      | zero => intro st h; simp [iter] at h
      | succ k ih =>
        intro st h hk
        simp only [iter] at h
        split at h
        · rename_i st1 h1
          exact ih st1 h (runC_keys hO n a st st1 _ h1 hk)
        · exact runC_keys hO n a st st' e h hk
    exact this n st hr hk
  | .exit id, st, st', e, hr, hk => by
    simp only [runC, Option.some.injEq, Prod.mk.injEq] at hr
    obtain ⟨rfl, rfl⟩ := hr; exact hk
  | .ret, st, st', e, hr, hk => by
    simp only [runC, Option.some.injEq, Prod.mk.injEq] at hr
    obtain ⟨rfl, rfl⟩ := hr; exact hk
  | .bad, st, st', e, hr, hk => by simp [runC] at hr

/-- One function, from those that it calls. -/
theorem runF_sound {imT : TypeId → Bool} {own : Bool} {f : FuncId} {fn : Func} {ir : IRF} {O : Oracle} {G : Nat → Option (List PV)} {n : Nat} {args : List LV} {r : LV} {u : Upd} {nw : List (Option Obj)} (hO : OSound P G O) (hm : P.follows .mixedOrders = true)
    (hf : P.funcs[f]? = some fn) (hc : cF P imT own fn = some ir) (hn : fn.name ≠ "runtime.NumGoroutine") (hr : runF O G n ir args H nx = some (r, u, nw)) : Sim P G f args H nx r u nw := by
  unfold cF at hc
  split at hc
  case h_2 => cases hc
  rename_i c rs hb hrs
  obtain rfl := Option.some.inj hc
  unfold runF at hr
  split at hr
  case isFalse => cases hr
  rename_i hal
  simp only at hr hal
  -- the state in which it begins
  have start : ∀ (I : Nat → Prop) (μ : Mu) (w : World) (vs : Array Value), HR I μ w (fun _ => True) H → (∀ id o, H id = some o → id < nx) → (∀ id, nx ≤ id → μ id = none) → GOK G I w →
      vs.size = args.length → (∀ (j : Nat) (l : LV) (v : Value), args[j]? = some l → vs[j]? = some v → VR I μ w l v) →
      Inv ⟨O, G, H, nx⟩ I μ w fn.ntmps ((List.range (fn.params.size + fn.nfree)).zip args) ⟨[], []⟩ { tmps := vs ++ Array.replicate (fn.ntmps - vs.size) undef, defers := [] } w I μ := by
    intro I μ w vs hH hlt h0 hG hl hv
    have hlook : look H nx ⟨[], []⟩ = H := funext fun id => by
      unfold look
      by_cases hid : id < nx
      · rw [if_pos hid]; rfl
      · rw [if_neg hid]
        simp only [List.getElem?_nil]
        cases hh : H id with
        | none => rfl
        | some o => exact absurd (hlt id o hh) hid
    refine ⟨fun t => ?_, by simp; omega, rfl, ?_, fun id hid => h0 id (by simpa using hid), hG, fun id o ho => by cases ho⟩
    · have hget : ∀ (l : List LV) (k : Nat), get ((List.range' k l.length).zip l) t = if k ≤ t then (match l[t - k]? with
          | some v => v
          | none => .junk) else .junk := by
        intro l
        induction l with
        | nil => intro k; simp [get]
        | cons x r ih =>
          intro k
          simp only [List.length_cons, List.range'_succ, List.zip_cons_cons, get]
          by_cases e : t = k
          · subst e; simp
          · rw [if_neg e, ih (k + 1)]
            by_cases h1 : k ≤ t
            · rw [if_pos h1, if_pos (by omega), show t - k = (t - (k + 1)) + 1 by omega]; rfl
            · rw [if_neg h1, if_neg (by omega)]
      have hlen : fn.params.size + fn.nfree = args.length := by simpa using hal.symm
      rw [hlen, List.range_eq_range', hget args 0, if_pos (Nat.zero_le _), Nat.sub_zero]
      cases ht : args[t]? with
      | none => exact .junk _
      | some l =>
        have hlt' : t < vs.size := by rw [hl]; exact (List.getElem?_eq_some_iff.1 ht).1
        have hvt : vs[t]? = some vs[t] := by simp [hlt']
        have : (vs ++ Array.replicate (fn.ntmps - vs.size) undef).getD t undef = vs[t] := by
          rw [Array.getD_eq_getD_getElem?, Array.getElem?_append_left hlt', hvt]; rfl
        simp only [this]
        exact hv t l _ ht hvt
    · simp only [hlook]
      exact ((Goes.refl hH.lt).widen hH fun _ h => h.elim).congrN fun id => by simp
  split at hr
  · cases hr
  · rename_i e st hne hrun
    have hkst := runC_keys hO n _ _ st e hrun (fun id o ho => by cases ho)
    split at hr
    case h_2 => cases hr
    rename_i vl hvl
    have hfin := hr
    refine ⟨finish_keys hfin hkst, ⟨fn, hf, by rw [hb]; rfl, hn⟩, fun I μ w vs hH hlt h0 hG hl hv => ?_⟩
    refine calls_of_wp hf hb ?_
    refine code_sound (imT := imT) hO hm n c [] _ _ st e _ w I μ _ hrun (start I μ w vs hH hlt h0 hG hl hv) fun a' w' I' μ' hi => ?_
    obtain ⟨us, hrun2, hlen2, hpt⟩ := res_run (P := P) hrs hvl hi.env hi.hr
    have hval : VR I' μ' w' (oneL vl) (oneV us) := by
      cases vl with
      | nil =>
        obtain rfl : us = [] := List.eq_nil_of_length_eq_zero hlen2
        exact .tuple [] #[] rfl (by simp)
      | cons x r =>
        cases us with
        | nil => cases hlen2
        | cons y us =>
          cases r with
          | nil =>
            obtain rfl : us = [] := List.eq_nil_of_length_eq_zero (by simpa using hlen2)
            exact hpt 0 x y rfl rfl
          | cons x2 r =>
            cases us with
            | nil => simp at hlen2
            | cons y2 us => exact .tuple _ _ (by simpa using hlen2) fun j l u hj hu => hpt j l u hj (by simpa using hu)
    obtain ⟨_, I2, μ2, q1, q2⟩ := finish_sound hfin h0 hH hi.goes hkst hval
    have hpost : a'.defers = [] ∧ ∃ v, (results fn a'.tmps).run P w' = .ok v w' ∧ (∃ v_1 I'_1 μ'_1, Ending.returned v = Ending.returned v_1 ∧ Goes I I'_1 μ μ'_1 w w' H (look H nx ⟨u, nw⟩) (fun _ => True) (fun id => nx ≤ id ∧ id < nx + nw.length) ∧ VR I'_1 μ'_1 w' r v_1) :=
      ⟨hi.defers, _, hrun2, _, I2, μ2, rfl, q1, q2⟩
    cases e with
    | normal => exact hpost
    | ret => exact hpost
    | exit id => exact absurd rfl (hne id)
  · cases hr

/-- All functions, to any depth. -/
theorem evalN_sound {imT : TypeId → Bool} {ow : FuncId → Bool} {F : FuncId → Option IRF} {G : Nat → Option (List PV)} {X : Oracle} (hm : P.follows .mixedOrders = true) (hX : OSound P G X)
    (hF : ∀ f ir, F f = some ir → ∃ fn, P.funcs[f]? = some fn ∧ cF P imT (ow f) fn = some ir ∧ fn.name ≠ "runtime.NumGoroutine") : ∀ n, OSound P G (evalN F G X n)
  | 0 => fun f args H nx r u n h => by simp [evalN] at h
  | n + 1 => fun f args H nx r u nw h => by
    simp only [evalN] at h
    split at h
    · rename_i ir hir
      obtain ⟨fn, h1, h2, h3⟩ := hF f ir hir
      exact runF_sound (evalN_sound hm hX hF n) hm h1 h2 h3 h
    · exact hX f args H nx r u nw h

end
end Go.Sx
