/- The functions of a list; what an answer at some depth is worth. -/
import Derived.Test.YtkdimbcfacoboaaGreatDoorSxS
namespace Go.Sx
open Go

def findF : List (FuncId × IRF) → FuncId → Option IRF
  | [], _ => none
  | (g, ir) :: r, f => if f = g then some ir else findF r f

theorem findF_mem : ∀ {l : List (FuncId × IRF)} {f : FuncId} {ir : IRF}, findF l f = some ir → (f, ir) ∈ l
  | [], f, ir, h => by cases h
  | (g, i) :: r, f, ir, h => by
    simp only [findF] at h
    split at h
    · rename_i e
      obtain rfl := Option.some.inj h
      rw [e]; exact List.mem_cons_self
    · exact List.mem_cons_of_mem _ (findF_mem h)

def noG : Nat → Option (List PV) := fun _ => none
def noX : Oracle := fun _ _ _ _ => none
def noH : Heap := fun _ => none

theorem noX_sound (P : Program) (G : Nat → Option (List PV)) : OSound P G noX := fun _ _ _ _ _ _ _ h => by cases h

/-- A closed call. -/
theorem call_of_eval {P : Program} {imT : TypeId → Bool} {ow : FuncId → Bool} {L : List (FuncId × IRF)} {G : Nat → Option (List PV)} {X : Oracle} (hm : P.follows .mixedOrders = true) (hX : OSound P G X)
    (hL : ∀ p ∈ L, ∃ fn, P.funcs[p.1]? = some fn ∧ cF P imT (ow p.1) fn = some p.2 ∧ fn.name ≠ "runtime.NumGoroutine") {n : Nat} {f : FuncId} {args : List LV} {x : PV} (h : evalN (findF L) G X n f args noH 0 = some (.p x, [], []))
    {I : Nat → Prop} {w : World} {vs : Array Value} (hI : ∀ b, I b → b < w.heap.size) (hG : GOK G I w) (hl : vs.size = args.length) (hv : ∀ (j : Nat) (l : LV) (v : Value), args[j]? = some l → vs[j]? = some v → VR I (fun _ => none) w l v) :
    Calls P f vs w (fun e w' => ∃ v I', e = .returned v ∧ (w'.os = w.os ∧ w'.tape = w.tape ∧ w'.output = w.output ∧ w.heap.size ≤ w'.heap.size ∧ ∀ k, k < w.heap.size → w'.heap[k]? = w.heap[k]?) ∧ PR I' w' x v) := by
  have hs := evalN_sound (P := P) (imT := imT) (ow := ow) (F := findF L) hm hX (fun f ir hf => hL (f, ir) (findF_mem hf)) n f args noH 0 _ _ _ h
  refine (hs.call I (fun _ => none) w vs ⟨fun _ _ _ h => (by cases h), fun _ _ _ _ _ _ h => (by cases h), fun _ _ _ _ h => (by cases h), hI⟩ (fun _ _ h => (by cases h)) (fun _ _ => rfl) hG hl hv).mono ?_
  rintro e w' ⟨v, I', μ', rfl, g, hv⟩
  refine ⟨v, I', rfl, ⟨g.stp.os, g.stp.tape, g.stp.output, g.stp.size, fun k hk => g.stp.block k hk fun ⟨id, o, _, ho, _⟩ => (by cases ho)⟩, hv.pp⟩

end Go.Sx
