/- Operations in their order. -/
import Derived.Test.YtkdimbcfacoboaaGreatDoorSxK
namespace Go.Sx
open Go

section
variable {I I' : Nat → Prop} {μ μ' : Mu} {w w' : World} {lk lk' : Nat → Option Obj} {T N : Nat → Prop}

/-- From what an operation did to what it touched, to the whole. -/
theorem Goes.lift (g : Goes I I' μ μ' w w' lk lk' T N) {lk0 lk0' : Nat → Option Obj} (h : HR I μ w (fun _ => True) lk0) (hT : ∀ id, T id → lk0 id = lk id) (h1 : ∀ id, T id ∨ N id → lk0' id = lk' id) (h2 : ∀ id, ¬ T id → ¬ N id → lk0' id = lk0 id) :
    Goes I I' μ μ' w w' lk0 lk0' (fun _ => True) N := by
  have hown : ∀ b, Own μ T lk b → Own μ (fun _ => True) lk0 b := fun b ⟨id, o, ht, hl, hb⟩ => ⟨id, o, trivial, by rw [hT id ht]; exact hl, hb⟩
  refine ⟨g.mu, g.fresh, g.up, fun b hb => (g.back b hb).imp (fun h => h) (Or.imp (fun h => h) (hown b)), g.stp.mono hown, ?_, fun id b hn he hb => ?_, fun id ht => absurd trivial ht, fun id hn hl => ?_⟩
  · exact (g.frame h (fun id ht => ⟨trivial, hT id ht⟩) h1 h2)
  · obtain ⟨o, ho⟩ := he
    exact (g.new id b hn ⟨o, by rw [← h1 id (.inr hn)]; exact ho⟩ hb).imp (fun h => h) (hown b)
  · by_cases ht : T id
    · rw [h1 id (.inl ht)]
      exact g.alive id hn (by rw [← hT id ht]; exact hl)
    · rw [h2 id ht hn]; exact hl
end

/-- What holds between two operations. -/
structure Inv (c : Ctx) (I0 : Nat → Prop) (μ0 : Mu) (w0 : World) (nt : Nat) (env : Env) (h : Hp) (a : Act) (w : World) (I : Nat → Prop) (μ : Mu) : Prop where
  env : EnvR I μ w env a
  size : nt ≤ a.tmps.size
  defers : a.defers = []
  goes : Goes I0 I μ0 μ w0 w c.H (look c.H c.nx h) (fun _ => True) (fun id => c.nx ≤ id ∧ id < c.nx + h.new.length)
  none : ∀ id, c.nx + h.new.length ≤ id → μ id = none
  glob : GOK c.G I w
  keys : ∀ id o, findU h.upd id = some o → (c.H id).isSome = true

theorem GOK.mono {G : Nat → Option (List PV)} {I I' : Nat → Prop} {w w' : World} (h : GOK G I w) (hI : ∀ b, I b → I' b) (hw : ∀ b, I b → w'.heap[b]? = w.heap[b]?) : GOK G I' w' := fun n cs hn => (h n cs hn).mono hI hw

theorem findU_setU {u : Upd} {id : Nat} {o : Option Obj} (j : Nat) : findU (setU u id o) j = if j = id then some o else findU u j := by
  induction u with
  | nil => simp [setU, findU]
  | cons x r ih =>
    obtain ⟨k, p⟩ := x
    simp only [setU]
    by_cases h1 : id = k
    · rw [if_pos h1]
      simp only [findU]
      by_cases h2 : j = k
      · rw [if_pos h2, if_pos (by omega)]
      · rw [if_neg h2, if_neg (by omega), if_neg h2]
    · rw [if_neg h1]
      simp only [findU]
      by_cases h2 : j = k
      · rw [if_pos h2, if_neg (by omega), if_pos h2]
      · rw [if_neg h2, ih, if_neg h2]

def Keys (H : Heap) (h : Hp) : Prop := ∀ id o, findU h.upd id = some o → (H id).isSome = true

theorem keys_set {H : Heap} {nx : Nat} {h : Hp} (hk : Keys H h) {id : Nat} {x : Option Obj} (hl : (look H nx h id).isSome = true) : Keys H (setObj nx h id x) := by
  intro j o hj
  unfold setObj at hj
  split at hj
  · rename_i hlt
    rw [findU_setU] at hj
    split at hj
    · rename_i e
      subst e
      unfold look at hl
      rw [if_pos hlt] at hl
      split at hl
      · rename_i o' ho'; exact hk _ _ ho'
      · exact hl
    · exact hk j o hj
  · exact hk j o hj

theorem keys_setAll {H : Heap} {nx : Nat} {h : Hp} (hk : Keys H h) : ∀ (u : Upd), (∀ id o, findU u id = some o → (look H nx h id).isSome = true) → Keys H (setAll nx h u)
  | [], _ => hk
  | (id, o) :: r, hu => by
    have hfirst := hu id o (by simp [findU])
    -- the later ones that are under another name
    have : ∀ (r : Upd), (∀ i, (∃ p, (i, p) ∈ r) → (look H nx h i).isSome = true) → Keys H (setAll nx h r) := by
      intro r
      induction r with
      | nil => exact fun _ => hk
      | cons x r ih =>
        obtain ⟨i, p⟩ := x
        intro hr
        have h1 := ih fun j ⟨q, hq⟩ => hr j ⟨q, List.mem_cons_of_mem _ hq⟩
        intro j q hj
        rw [setAll] at hj
        unfold setObj at hj
        split at hj
        · rename_i hlt
          rw [findU_setU] at hj
          split at hj
          · rename_i e
            subst e
            have hl := hr _ ⟨p, List.mem_cons_self⟩
            unfold look at hl
            rw [if_pos hlt] at hl
            split at hl
            · rename_i o' ho'; exact hk _ _ ho'
            · exact hl
          · exact h1 j q hj
        · exact h1 j q hj
    refine this ((id, o) :: r) fun i ⟨p, hp⟩ => ?_
    have hex : ∀ (l : Upd), (i, p) ∈ l → ∃ q, findU l i = some q := by
      intro l
      induction l with
      | nil => intro h; cases h
      | cons x l ih =>
        obtain ⟨k, q⟩ := x
        intro hm
        simp only [findU]
        by_cases e : i = k
        · rw [if_pos e]; exact ⟨_, rfl⟩
        · rw [if_neg e]
          rcases List.mem_cons.1 hm with h' | h'
          · cases h'; exact absurd rfl e
          · exact ih h'
    obtain ⟨q, hq⟩ := hex _ hp
    exact hu i q hq

end Go.Sx
