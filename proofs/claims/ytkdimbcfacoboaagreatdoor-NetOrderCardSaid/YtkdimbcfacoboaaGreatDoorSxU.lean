/- Calls without a bound on their depth: what is answered from some depth on, is answered. No condition. -/
import Derived.Test.YtkdimbcfacoboaaGreatDoorSxT
namespace Go.Sx
open Go

/-- What 'O' answers, 'Om' answers from some number on. -/
def Up (Om : Nat → Oracle) (O : Oracle) : Prop := ∀ f a H nx r, O f a H nx = some r → ∃ m, ∀ m', m ≤ m' → Om m' f a H nx = some r

section
variable {Om : Nat → Oracle} {O : Oracle} {G : Nat → Option (List PV)} {H : Heap} {nx : Nat}

theorem callO_up (hO : Up Om O) {dr : Bool} {h : Hp} {f : FuncId} {args : List LV} {r : Res} (hr : callO ⟨O, G, H, nx⟩ dr h f args = some r) : ∃ M, ∀ m, M ≤ m → callO ⟨Om m, G, H, nx⟩ dr h f args = some r := by
  unfold callO at hr
  simp only at hr
  cases dr with
  | true =>
    simp only [if_true] at hr
    split at hr
    · rename_i S hS
      split at hr
      · rename_i hall
        split at hr
        · rename_i x u n hc
          obtain ⟨M, hM⟩ := hO _ _ _ _ _ hc
          refine ⟨M, fun m hm => ?_⟩
          unfold callO
          simp only [if_true, hS]
          rw [if_pos hall, hM m hm]
          exact hr
        · cases hr
      · cases hr
    · cases hr
  | false =>
    simp only [Bool.false_eq_true, if_false] at hr
    split at hr
    · rename_i x u n hc
      obtain ⟨M, hM⟩ := hO _ _ _ _ _ hc
      refine ⟨M, fun m hm => ?_⟩
      unfold callO
      simp only [Bool.false_eq_true, if_false]
      rw [hM m hm]
      exact hr
    · cases hr

theorem evOp_up (hO : Up Om O) {dr : Bool} {env : Env} {h : Hp} {op : IROp} {r : Res} (hr : evOp ⟨O, G, H, nx⟩ dr env h op = some r) : ∃ M, ∀ m, M ≤ m → evOp ⟨Om m, G, H, nx⟩ dr env h op = some r := by
  cases op
  case call f args => exact callO_up hO hr
  case callv x args =>
    have e : ∀ Q : Oracle, evOp ⟨Q, G, H, nx⟩ dr env h (.callv x args) = match opd ⟨O, G, H, nx⟩ env x with
      | .fn f a b => callO ⟨Q, G, H, nx⟩ dr h f (a ++ args.map (opd ⟨O, G, H, nx⟩ env) ++ b)
      | _ => none := fun Q => rfl
    rw [e] at hr
    split at hr
    · rename_i f a b hx
      obtain ⟨M, hM⟩ := callO_up hO hr
      exact ⟨M, fun m hm => by rw [e, hx]; exact hM m hm⟩
    · cases hr
  all_goals exact ⟨0, fun m _ => hr⟩

theorem runOps_up (hO : Up Om O) : ∀ {ops : List IROper} {env : Env} {h : Hp} {r : Env × Hp}, runOps ⟨O, G, H, nx⟩ ops env h = some r → ∃ M, ∀ m, M ≤ m → runOps ⟨Om m, G, H, nx⟩ ops env h = some r
  | [], env, h, r, hr => ⟨0, fun _ _ => hr⟩
  | o :: l, env, h, r, hr => by
    simp only [runOps] at hr
    split at hr
    · rename_i hw
      split at hr
      · rename_i x hx
        obtain ⟨M, hM⟩ := evOp_up hO hx
        obtain ⟨N, hN⟩ := runOps_up hO hr
        exact ⟨max M N, fun m hm => by simp only [runOps, hw, hM m (by omega), hN m (by omega)]⟩
      · cases hr
    · rename_i hw
      obtain ⟨N, hN⟩ := runOps_up hO hr
      exact ⟨N, fun m hm => by simp only [runOps, hw, hN m hm]⟩
    · cases hr

theorem runOpsT_up (hO : Up Om O) : ∀ {ops : List IROper} {env : Env} {h : Hp} {r : List Tr × Env × Hp}, runOpsT ⟨O, G, H, nx⟩ ops env h = some r → ∃ M, ∀ m, M ≤ m → runOpsT ⟨Om m, G, H, nx⟩ ops env h = some r
  | [], env, h, r, hr => ⟨0, fun _ _ => hr⟩
  | o :: l, env, h, r, hr => by
    simp only [runOpsT] at hr
    split at hr
    · rename_i hw
      split at hr
      · rename_i x hx
        split at hr
        · rename_i tr e h' ht
          obtain ⟨M, hM⟩ := evOp_up hO hx
          obtain ⟨N, hN⟩ := runOpsT_up hO ht
          exact ⟨max M N, fun m hm => by simp only [runOpsT, hw, hM m (by omega), hN m (by omega)]; exact hr⟩
        · cases hr
      · cases hr
    · rename_i hw
      split at hr
      · rename_i tr e h' ht
        obtain ⟨N, hN⟩ := runOpsT_up hO ht
        exact ⟨N, fun m hm => by simp only [runOpsT, hw, hN m hm]; exact hr⟩
      · cases hr
    · cases hr

theorem iter_up {f : St → Option (Ex × St)} {g : Nat → St → Option (Ex × St)} (hf : ∀ st r, f st = some r → ∃ M, ∀ m, M ≤ m → g m st = some r) : ∀ {k : Nat} {st : St} {r : Ex × St}, iter f k st = some r → ∃ M, ∀ m, M ≤ m → ∀ k', k ≤ k' → iter (g m) k' st = some r
  | 0, st, r, hr => by cases hr
  | k + 1, st, r, hr => by
    simp only [iter] at hr
    split at hr
    · rename_i st' h1
      obtain ⟨M, hM⟩ := hf _ _ h1
      obtain ⟨N, hN⟩ := iter_up hf hr
      refine ⟨max M N, fun m hm k' hk => ?_⟩
      obtain ⟨j, rfl⟩ : ∃ j, k' = j + 1 := ⟨k' - 1, by omega⟩
      simp only [iter, hM m (by omega)]
      exact hN m (by omega) j (by omega)
    · rename_i hne
      obtain ⟨M, hM⟩ := hf _ _ hr
      refine ⟨M, fun m hm k' hk => ?_⟩
      obtain ⟨j, rfl⟩ : ∃ j, k' = j + 1 := ⟨k' - 1, by omega⟩
      simp only [iter, hM m hm]
      split
      · rename_i st' e
        rw [hr, e] at hne
        exact absurd rfl (hne st')
      · rfl

theorem runC_up (hO : Up Om O) {n : Nat} : ∀ {code : IRC} {st : St} {r : Ex × St}, runC ⟨O, G, H, nx⟩ n code st = some r → ∃ M, ∀ m, M ≤ m → runC ⟨Om m, G, H, nx⟩ m code st = some r := by
  intro code
  induction code with
  | skip => intro st r hr; exact ⟨0, fun _ _ => hr⟩
  | region ops draw live =>
    intro st r hr
    cases draw with
    | none =>
      simp only [runC] at hr
      split at hr
      · rename_i env h h1
        obtain ⟨M, hM⟩ := runOps_up hO h1
        exact ⟨M, fun m hm => by simp only [runC, hM m hm]; exact hr⟩
      · cases hr
    | some before =>
      simp only [runC] at hr
      split at hr
      · rename_i tr env h h1
        obtain ⟨M, hM⟩ := runOpsT_up hO h1
        exact ⟨M, fun m hm => by simp only [runC, hM m hm]; exact hr⟩
      · cases hr
  | seq a b iha ihb =>
    intro st r hr
    simp only [runC] at hr
    split at hr
    · rename_i st' h1
      obtain ⟨M, hM⟩ := iha h1
      obtain ⟨N, hN⟩ := ihb hr
      exact ⟨max M N, fun m hm => by simp only [runC, hM m (by omega), hN m (by omega)]⟩
    · rename_i hne
      obtain ⟨M, hM⟩ := iha hr
      refine ⟨M, fun m hm => ?_⟩
      simp only [runC, hM m hm]
      split
      · rename_i st' e
        rw [hr, e] at hne
        exact absurd rfl (hne st')
      · rfl
  | cond x a b iha ihb =>
    intro st r hr
    have e : ∀ (Q : Oracle) k, runC ⟨Q, G, H, nx⟩ k (.cond x a b) st = match opd ⟨O, G, H, nx⟩ st.env x with
      | .p (.s (.bool t)) => if t then runC ⟨Q, G, H, nx⟩ k a st else runC ⟨Q, G, H, nx⟩ k b st
      | _ => none := fun Q k => rfl
    rw [e] at hr
    split at hr
    · rename_i t hx
      cases t with
      | true =>
        obtain ⟨M, hM⟩ := iha hr
        exact ⟨M, fun m hm => by rw [e, hx]; exact hM m hm⟩
      | false =>
        obtain ⟨M, hM⟩ := ihb hr
        exact ⟨M, fun m hm => by rw [e, hx]; exact hM m hm⟩
    · cases hr
  | block id a iha =>
    intro st r hr
    simp only [runC] at hr
    split at hr
    · rename_i j st' h1
      obtain ⟨M, hM⟩ := iha h1
      exact ⟨M, fun m hm => by simp only [runC, hM m hm]; exact hr⟩
    · rename_i hne
      obtain ⟨M, hM⟩ := iha hr
      refine ⟨M, fun m hm => ?_⟩
      simp only [runC, hM m hm]
      split
      · rename_i j st' e
        rw [hr, e] at hne
        exact absurd rfl (hne j st')
      · rfl
  | loop a iha =>
    intro st r hr
    simp only [runC] at hr
    obtain ⟨M, hM⟩ := iter_up (g := fun m => runC ⟨Om m, G, H, nx⟩ m a) (fun st r h => iha h) hr
    exact ⟨max M n, fun m hm => by simp only [runC]; exact hM m (by omega) m (by omega)⟩
  | exit id => intro st r hr; exact ⟨0, fun _ _ => hr⟩
  | ret => intro st r hr; exact ⟨0, fun _ _ => hr⟩
  | bad => intro st r hr; cases hr

theorem runF_up (hO : Up Om O) {n : Nat} {f : IRF} {args : List LV} {r : LV × Upd × List (Option Obj)} (hr : runF O G n f args H nx = some r) : ∃ M, ∀ m, M ≤ m → runF (Om m) G m f args H nx = some r := by
  unfold runF at hr
  split at hr
  case isFalse => cases hr
  rename_i hl
  split at hr
  · cases hr
  · rename_i ex st hne h1
    obtain ⟨M, hM⟩ := runC_up hO h1
    refine ⟨M, fun m hm => ?_⟩
    unfold runF
    rw [if_pos hl, hM m hm]
    split
    · rename_i j st' e
      simp only [Option.some.injEq, Prod.mk.injEq] at e
      exact absurd e.1 (by intro e'; exact hne j e')
    · rename_i e
      simp only [Option.some.injEq, Prod.mk.injEq] at e
      rw [← e.2]; exact hr
    · rename_i e; cases e
  · cases hr
end

open Classical in
/-- What is answered from some depth on. -/
noncomputable def om (F : FuncId → Option IRF) (G : Nat → Option (List PV)) (E : Oracle) : Oracle := fun f a H nx =>
  if h : ∃ r n, ∀ m, n ≤ m → evalN F G E m f a H nx = some r then some h.choose else none

section
variable {F : FuncId → Option IRF} {G : Nat → Option (List PV)} {E : Oracle}

theorem om_up : Up (evalN F G E) (om F G E) := fun f a H nx r h => by
  unfold om at h
  split at h
  · rename_i h1
    obtain rfl := Option.some.inj h
    exact h1.choose_spec
  · cases h

theorem om_of {f : FuncId} {a : List LV} {H : Heap} {nx n : Nat} {r : LV × Upd × List (Option Obj)} (h : ∀ m, n ≤ m → evalN F G E m f a H nx = some r) : om F G E f a H nx = some r := by
  have h1 : ∃ r n, ∀ m, n ≤ m → evalN F G E m f a H nx = some r := ⟨r, n, h⟩
  unfold om
  rw [dif_pos h1]
  obtain ⟨k, hk⟩ := h1.choose_spec
  have a1 := hk (max n k) (by omega)
  have a2 := h (max n k) (by omega)
  rw [a1] at a2
  exact a2

/-- A function's answer, of its text. -/
theorem om_run {f : FuncId} {ir : IRF} (hf : F f = some ir) (n : Nat) {a : List LV} {H : Heap} {nx : Nat} {r : LV × Upd × List (Option Obj)} (h : runF (om F G E) G n ir a H nx = some r) : om F G E f a H nx = some r := by
  obtain ⟨M, hM⟩ := runF_up om_up h
  refine om_of (n := M + 1) fun m hm => ?_
  obtain ⟨k, rfl⟩ : ∃ k, m = k + 1 := ⟨m - 1, by omega⟩
  simp only [evalN, hf]
  exact hM k (by omega)

/-- An outer contract's answer. -/
theorem om_ext {f : FuncId} (hf : F f = none) {a : List LV} {H : Heap} {nx : Nat} {r : LV × Upd × List (Option Obj)} (h : E f a H nx = some r) : om F G E f a H nx = some r := by
  refine om_of (n := 1) fun m hm => ?_
  obtain ⟨k, rfl⟩ : ∃ k, m = k + 1 := ⟨m - 1, by omega⟩
  simp only [evalN, hf]
  exact h

/-- What is answered at one depth, is answered. -/
theorem om_of_eval : ∀ {n : Nat} {f : FuncId} {a : List LV} {H : Heap} {nx : Nat} {r : LV × Upd × List (Option Obj)}, evalN F G E n f a H nx = some r → om F G E f a H nx = some r
  | 0, f, a, H, nx, r, h => by cases h
  | n + 1, f, a, H, nx, r, h => by
    simp only [evalN] at h
    split at h
    · rename_i ir hf
      obtain ⟨M, hM⟩ := runF_up (Om := fun _ => om F G E) (fun f a H nx r h' => ⟨0, fun _ _ => om_of_eval h'⟩) h
      exact om_run hf M (hM M (Nat.le_refl _))
    · rename_i hf
      exact om_ext hf h

/-- What is answered, is answered at some depth. -/
theorem om_eval {f : FuncId} {a : List LV} {H : Heap} {nx : Nat} {r : LV × Upd × List (Option Obj)} (h : om F G E f a H nx = some r) : ∃ m, evalN F G E m f a H nx = some r := by
  obtain ⟨m, hm⟩ := om_up f a H nx r h
  exact ⟨m, hm m (Nat.le_refl _)⟩
end
end Go.Sx
