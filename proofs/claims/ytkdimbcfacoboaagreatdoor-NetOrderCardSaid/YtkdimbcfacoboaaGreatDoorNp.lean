/- A slice of numbers that comes in, as the value machine has it. No condition. -/
import Derived.Test.YtkdimbcfacoboaaGreatDoorIrA
import Derived.ProofKit
import Derived.OpenShut
import Derived.Below
namespace Go.Proofs.YtkdimbcfacoboaaGreatDoor
open Go Go.Sx Go.ChangeShapes Go.WideShapes
set_option linter.unusedVariables false

theorem has_lt {P : Program} {w : World} {r : Reach} {base : Nat} {a : Addr} {e : TypeId} {n : Nat} (h : w.has P r base a e n) : a.spot = none ∧ a.block < w.heap.size := by
  obtain ⟨_, h1, row, cells, h2, _⟩ := h
  refine ⟨h1, ?_⟩
  unfold World.shape? at h2
  cases hb : w.heap[a.block]? with
  | none => rw [hb] at h2; cases h2
  | some o => exact (Array.getElem?_eq_some_iff.1 hb).1

theorem sl_open {H : Type} {enc : TypeId × Value → H} {P : Program} {W : World} {base : Nat} {spare : Nat → Bool} {held : Bool} {t e : TypeId} {k : IntKind} {v : Value} {d : DataW H} {p : List MemPlace} (ht : P.underlying t = some (.slice e)) (he : P.underlying e = some (.int k)) (hc : P.cellsOf e = 1)
    (hval : Value.okWide P W .any base t v) (h : DataW.Trod enc P W 0 spare held t v d p) :
    v = .slice none 0 0 ∨ ∃ (zs : List Int), (∀ n ∈ zs, (Lit.int k n).wf = true) ∧ zs.length < 2 ^ 63 ∧ PR (fun b => b < W.heap.size) W (.sl (zs.map fun n => .s (.int k n)) zs.length 1 false) v := by
  obtain ⟨a0, len, cap, rfl⟩ := okWide_slice ht hval
  obtain ⟨fuel, hf⟩ := h
  rcases open_ints ht he hc hf with ⟨hcs, hx⟩ | ⟨a, len', cap', zs, hcs, _, hl, hm, hz, hx, hcell, hwz⟩
  · simp [Value.cells] at hcs
    obtain ⟨rfl, rfl, rfl⟩ := hcs
    exact .inl rfl
  · simp [Value.cells] at hcs
    obtain ⟨rfl, rfl, rfl⟩ := hcs
    right
    have hh : a.spot = none ∧ a.block < W.heap.size := by
      simp only [Value.okWide, ht, Cell.okWide, Cell.ok] at hval
      exact has_lt hval.2.2
    obtain ⟨b, off, spot⟩ := a
    obtain ⟨rfl, hb⟩ := hh
    have hlz : len ≤ zs.length := by rw [hz]; split <;> omega
    have hcell' : ∀ j, j < zs.length → W.cell? ⟨b, off + j, none⟩ = some (.int k (zs.getD j 0)) := fun j hj => by rw [← add_plain]; exact hcell j hj
    have hm62 : cap < 2 ^ 63 := by unfold maxLen at hm; omega
    refine ⟨zs.take len, fun n hn => hwz n (List.mem_of_mem_take hn), by simp; omega, ?_⟩
    have hlen : (zs.take len).length = len := by simp; omega
    rw [hlen]
    refine .sl _ len 1 false b off cap (fun j => .int k (zs.getD j 0)) hb ?_ ?_ ?_ hl (fun h => by cases h)
    · intro j hj
      rw [List.length_map, hlen] at hj
      exact hcell' j (by omega)
    · intro j hj; rfl
    · intro j l hj
      rw [List.getElem?_map, Option.map_eq_some_iff] at hj
      obtain ⟨n, h1, rfl⟩ := hj
      rw [List.getElem?_take] at h1
      split at h1
      · have : zs.getD j 0 = n := by rw [List.getD, h1]; rfl
        rw [this]
        exact .s _
      · cases h1
end Go.Proofs.YtkdimbcfacoboaaGreatDoor

