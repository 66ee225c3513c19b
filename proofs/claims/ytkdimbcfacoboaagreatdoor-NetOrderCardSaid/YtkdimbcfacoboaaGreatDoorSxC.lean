/- What the value machine's values mean in a world; how that lasts while the world goes on. -/
import Derived.Test.YtkdimbcfacoboaaGreatDoorSxB
import Derived.Laws.IdiomCopy
import Derived.Laws.Append
import Derived.Below
namespace Go.Sx
open Go

/-- Where what may still be written lies: the block, the first cell, how many cells the block has. -/
abbrev Mu := Nat → Option (Nat × Nat × Nat)

def blk (μ : Mu) (id : Nat) : Option Nat := (μ id).map (·.1)

inductive PR (I : Nat → Prop) (w : World) : PV → Value → Prop
  | s (v : Value) : PR I w (.s v) v
  | agg (cs : List PV) (a : Array Value) (hl : a.size = cs.length) (h1 : ∀ u ∈ a.toList, u.oneCell' = true)
      (h : ∀ (j : Nat) (l : PV) (u : Value), cs[j]? = some l → a[j]? = some u → PR I w l u) : PR I w (.agg cs) (.agg a)
  | imm (cs : List PV) (off b o : Nat) (u : Nat → Value) (hb : I b) (hc : ∀ j, j < cs.length → w.cell? ⟨b, o + j, none⟩ = some (u j))
      (h1 : ∀ j, j < cs.length → (u j).oneCell' = true) (h : ∀ (j : Nat) (l : PV), cs[j]? = some l → PR I w l (u j)) : PR I w (.imm cs off) (.pointer (some ⟨b, o + off, none⟩))
  | sl (cs : List PV) (len sz : Nat) (full : Bool) (b o cap : Nat) (u : Nat → Value) (hb : I b) (hc : ∀ j, j < cs.length → w.cell? ⟨b, o + j, none⟩ = some (u j))
      (h1 : ∀ j, j < cs.length → (u j).oneCell' = true) (h : ∀ (j : Nat) (l : PV), cs[j]? = some l → PR I w l (u j)) (hlen : len ≤ cap) (hf : full = true → cap = len) :
      PR I w (.sl cs len sz full) (.slice (some ⟨b, o, none⟩) len cap)

theorem PR.mono {I I' : Nat → Prop} {w w' : World} (hI : ∀ b, I b → I' b) (hw : ∀ b, I b → w'.heap[b]? = w.heap[b]?) {x : PV} {v : Value} (h : PR I w x v) : PR I' w' x v := by
  induction h with
  | s v => exact .s v
  | agg cs a hl h1 _ ih => exact .agg cs a hl h1 ih
  | imm cs off b o u hb hc h1 _ ih => exact .imm cs off b o u (hI _ hb) (fun j hj => by rw [← hc j hj]; exact World.cell?_of_block (a := ⟨b, o + j, none⟩) (hw b hb)) h1 ih
  | sl cs len sz full b o cap u hb hc h1 _ hlen hf ih =>
    exact .sl cs len sz full b o cap u (hI _ hb) (fun j hj => by rw [← hc j hj]; exact World.cell?_of_block (a := ⟨b, o + j, none⟩) (hw b hb)) h1 ih hlen hf

inductive VR (I : Nat → Prop) (μ : Mu) (w : World) : LV → Value → Prop
  | junk (v : Value) : VR I μ w .junk v
  | p {x : PV} {v : Value} (h : PR I w x v) : VR I μ w (.p x) v
  | ref (id off b o s : Nat) (h : μ id = some (b, o, s)) : VR I μ w (.ref id off) (.pointer (some ⟨b, o + off, none⟩))
  | arr (id off len sz cp : Nat) (ex : Bool) (b o s o' cap : Nat) (h : μ id = some (b, o, s)) (ho : cap = 0 ∨ o' = o + off) (hlen : len ≤ cp) (hcp : cp ≤ cap) (hf : ex = true → cap = cp)
      (hs : o + off + cap * sz ≤ s) : VR I μ w (.arr id off len sz cp ex) (.slice (some ⟨b, o', none⟩) len cap)
  | agg (cs : List LV) (a : Array Value) (hl : a.size = cs.length) (h1 : ∀ u ∈ a.toList, u.oneCell' = true)
      (h : ∀ (j : Nat) (l : LV) (u : Value), cs[j]? = some l → a[j]? = some u → VR I μ w l u) : VR I μ w (.agg cs) (.agg a)
  | tuple (cs : List LV) (a : Array Value) (hl : a.size = cs.length) (h : ∀ (j : Nat) (l : LV) (u : Value), cs[j]? = some l → a[j]? = some u → VR I μ w l u) : VR I μ w (.tuple cs) (.tuple a)
  | fn (f : FuncId) (fs cs : List LV) (fa ca : Array Value) (hl : fa.size = fs.length) (hl' : ca.size = cs.length)
      (h : ∀ (j : Nat) (l : LV) (u : Value), fs[j]? = some l → fa[j]? = some u → VR I μ w l u) (h' : ∀ (j : Nat) (l : LV) (u : Value), cs[j]? = some l → ca[j]? = some u → VR I μ w l u) :
      VR I μ w (.fn f fs cs) (.func (.func f) fa ca)

/-- How the world goes on: what may be written is written, new blocks come, nothing else turns. -/
structure Stp (own : Nat → Prop) (w w' : World) : Prop where
  os : w'.os = w.os
  tape : w'.tape = w.tape
  output : w'.output = w.output
  size : w.heap.size ≤ w'.heap.size
  block : ∀ k, k < w.heap.size → ¬ own k → w'.heap[k]? = w.heap[k]?

theorem Stp.refl (own : Nat → Prop) (w : World) : Stp own w w := ⟨rfl, rfl, rfl, Nat.le_refl _, fun _ _ _ => rfl⟩
theorem Stp.trans {own own' : Nat → Prop} {a b c : World} (h : Stp own a b) (k : Stp own' b c) (ho : ∀ x, x < a.heap.size → own' x → own x) : Stp own a c :=
  ⟨k.os.trans h.os, k.tape.trans h.tape, k.output.trans h.output, Nat.le_trans h.size k.size,
   fun x hx hn => (k.block x (Nat.lt_of_lt_of_le hx h.size) (fun e => hn (ho x hx e))).trans (h.block x hx hn)⟩
theorem Stp.mono {own own' : Nat → Prop} {a b : World} (h : Stp own a b) (ho : ∀ x, own x → own' x) : Stp own' a b :=
  ⟨h.os, h.tape, h.output, h.size, fun x hx hn => h.block x hx (fun e => hn (ho x e))⟩
theorem Stp.drew (own : Nat → Prop) (w : World) : Stp own w w.drew := ⟨rfl, rfl, rfl, Nat.le_refl _, fun _ _ _ => rfl⟩
theorem Stp.alloc (own : Nat → Prop) (w : World) (o : Go.Obj) : Stp own w (w.alloc o) := ⟨rfl, rfl, rfl, by simp, fun k hk _ => Go.RowKit.Below.heap_alloc _ _ _ hk⟩

theorem VR.mono {I I' : Nat → Prop} {μ μ' : Mu} {w w' : World} (hI : ∀ b, I b → I' b) (hμ : ∀ id x, μ id = some x → μ' id = some x)
    (hw : ∀ b, I b → w'.heap[b]? = w.heap[b]?) {x : LV} {v : Value} (h : VR I μ w x v) : VR I' μ' w' x v := by
  induction h with
  | junk v => exact .junk v
  | p h => exact .p (h.mono hI hw)
  | ref id off b o s h => exact .ref id off b o s (hμ _ _ h)
  | arr id off len sz cp ex b o s o' cap h ho hlen hcp hf hs => exact .arr id off len sz cp ex b o s o' cap (hμ _ _ h) ho hlen hcp hf hs
  | agg cs a hl h1 _ ih => exact .agg cs a hl h1 ih
  | tuple cs a hl _ ih => exact .tuple cs a hl ih
  | fn f fs cs fa ca hl hl' _ _ ih ih' => exact .fn f fs cs fa ca hl hl' ih ih'

/-- What an object is in a world. -/
def OR (I : Nat → Prop) (μ : Mu) (w : World) (id : Nat) : Obj → Prop
  | .cells cs => ∃ b o s e, μ id = some (b, o, s) ∧ w.shape? b = some (e, s) ∧ o + cs.length ≤ s ∧ (∀ k, k < s → w.frozen? ⟨b, k, none⟩ = false) ∧
      ∀ j l, cs[j]? = some l → ∃ u, w.cell? ⟨b, o + j, none⟩ = some u ∧ u.oneCell' = true ∧ VR I μ w l u
  | .iter s q => ∃ b, μ id = some (b, 0, 0) ∧ w.heap[b]? = some (.stringIter s q)

theorem shape_lt {w : World} {b : Nat} {x : TypeId × Nat} (h : w.shape? b = some x) : b < w.heap.size := by
  unfold World.shape? at h
  rcases Nat.lt_or_ge b w.heap.size with h' | h'
  · exact h'
  · rw [Array.getElem?_eq_none h'] at h; cases h

theorem shape_of_block {w w' : World} {b : Nat} (h : w'.heap[b]? = w.heap[b]?) : w'.shape? b = w.shape? b := by simp [World.shape?, h]

theorem cell_of_shape {w : World} {b s k : Nat} {e : TypeId} (h : w.shape? b = some (e, s)) (hk : k < s) : ∃ u, w.cell? ⟨b, k, none⟩ = some u := by
  unfold World.shape? at h
  unfold World.cell?
  cases hq : w.heap[b]? with
  | none => rw [hq] at h; cases h
  | some x =>
    rw [hq] at h
    cases x <;> simp at h
    rename_i c e' fz
    obtain ⟨rfl, rfl⟩ := h
    exact ⟨c[k], by simp [hk]⟩

theorem OR.lt {I : Nat → Prop} {μ : Mu} {w : World} {id : Nat} {o : Obj} (h : OR I μ w id o) : ∃ b, blk μ id = some b ∧ b < w.heap.size := by
  cases o with
  | cells cs =>
    obtain ⟨b, o, s, e, hm, hs, _⟩ := h
    exact ⟨b, by simp [blk, hm], shape_lt hs⟩
  | iter s q =>
    obtain ⟨b, hm, hb⟩ := h
    exact ⟨b, by simp [blk, hm], (Array.getElem?_eq_some_iff.1 hb).1⟩

theorem OR.mono {I I' : Nat → Prop} {μ μ' : Mu} {w w' : World} {id : Nat} (hI : ∀ b, I b → I' b) (hμ : ∀ id x, μ id = some x → μ' id = some x)
    (hw : ∀ b, I b → w'.heap[b]? = w.heap[b]?) (hb : ∀ b, blk μ id = some b → w'.heap[b]? = w.heap[b]?) {o : Obj} (h : OR I μ w id o) : OR I' μ' w' id o := by
  cases o with
  | cells cs =>
    obtain ⟨b, o, s, e, hm, hs, hl, hf, hc⟩ := h
    have hbb := hb b (by simp [blk, hm])
    refine ⟨b, o, s, e, hμ _ _ hm, by rw [shape_of_block hbb]; exact hs, hl, fun k hk => ?_, fun j l hj => ?_⟩
    · rw [World.frozen?_of_block (a := ⟨b, k, none⟩) hbb]; exact hf k hk
    · obtain ⟨u, h1, h2, h3⟩ := hc j l hj
      exact ⟨u, by rw [World.cell?_of_block (a := ⟨b, o + j, none⟩) hbb]; exact h1, h2, h3.mono hI hμ hw⟩
  | iter s q =>
    obtain ⟨b, hm, hq⟩ := h
    exact ⟨b, hμ _ _ hm, by rw [hb b (by simp [blk, hm])]; exact hq⟩

/-- What a heap of objects is in a world. -/
structure HR (I : Nat → Prop) (μ : Mu) (w : World) (D : Nat → Prop) (lk : Nat → Option Obj) : Prop where
  obj : ∀ id o, D id → lk id = some o → OR I μ w id o
  inj : ∀ id id' o o', D id → D id' → lk id = some o → lk id' = some o' → id ≠ id' → blk μ id ≠ blk μ id'
  imm : ∀ id o b, D id → lk id = some o → I b → blk μ id ≠ some b
  lt : ∀ b, I b → b < w.heap.size

theorem HR.sub {I : Nat → Prop} {μ : Mu} {w : World} {D D' : Nat → Prop} {lk lk' : Nat → Option Obj} (h : HR I μ w D lk) (hd : ∀ id, D' id → D id ∧ lk' id = lk id) : HR I μ w D' lk' where
  obj id o hD hl := h.obj id o (hd id hD).1 ((hd id hD).2 ▸ hl)
  inj id id' o o' hD hD' hl hl' := h.inj id id' o o' (hd id hD).1 (hd id' hD').1 ((hd id hD).2 ▸ hl) ((hd id' hD').2 ▸ hl')
  imm id o b hD hl := h.imm id o b (hd id hD).1 ((hd id hD).2 ▸ hl)
  lt := h.lt

/-- The blocks of the objects of a heap. -/
def Own (μ : Mu) (T : Nat → Prop) (lk : Nat → Option Obj) (b : Nat) : Prop := ∃ id o, T id ∧ lk id = some o ∧ blk μ id = some b

/-- From a heap to a later one, by what touches 'T' alone and makes 'N'. -/
structure Goes (I I' : Nat → Prop) (μ μ' : Mu) (w w' : World) (lk lk' : Nat → Option Obj) (T N : Nat → Prop) : Prop where
  mu : ∀ id, ¬ N id → μ' id = μ id
  fresh : ∀ id, N id → μ id = none
  up : ∀ b, I b → I' b
  back : ∀ b, I' b → I b ∨ w.heap.size ≤ b ∨ Own μ T lk b
  stp : Stp (Own μ T lk) w w'
  hr : HR I' μ' w' (fun id => T id ∨ N id) lk'
  new : ∀ id b, N id → (∃ o, lk' id = some o) → blk μ' id = some b → w.heap.size ≤ b ∨ Own μ T lk b
  same : ∀ id, ¬ T id → ¬ N id → lk' id = lk id
  alive : ∀ id, ¬ N id → lk id = none → lk' id = none

section
variable {I I' : Nat → Prop} {μ μ' : Mu} {w w' : World} {lk lk' : Nat → Option Obj} {T N : Nat → Prop}

theorem Goes.mu_mono (g : Goes I I' μ μ' w w' lk lk' T N) : ∀ id x, μ id = some x → μ' id = some x := fun id x h => by
  by_cases hn : N id
  · rw [g.fresh id hn] at h; cases h
  · rw [g.mu id hn]; exact h

/-- The immutable blocks don't turn. -/
theorem Goes.imm_block (g : Goes I I' μ μ' w w' lk lk' T N) (h : HR I μ w T lk) : ∀ b, I b → w'.heap[b]? = w.heap[b]? := fun b hb =>
  g.stp.block b (h.lt b hb) fun ⟨id, o, ht, hl, hbk⟩ => h.imm id o b ht hl hb hbk

theorem Goes.vr (g : Goes I I' μ μ' w w' lk lk' T N) (h : HR I μ w T lk) {x : LV} {v : Value} (hv : VR I μ w x v) : VR I' μ' w' x v :=
  hv.mono g.up g.mu_mono (g.imm_block h)

/-- The frame: what was not touched is as it was. -/
theorem Goes.frame (g : Goes I I' μ μ' w w' lk lk' T N) {lk0 lk0' : Nat → Option Obj} {D : Nat → Prop} (h : HR I μ w D lk0) (hT : ∀ id, T id → D id ∧ lk0 id = lk id)
    (h1 : ∀ id, T id ∨ N id → lk0' id = lk' id) (h2 : ∀ id, ¬ T id → ¬ N id → lk0' id = lk0 id) : HR I' μ' w' (fun id => D id ∨ N id) lk0' := by
  have hTr : HR I μ w T lk := h.sub fun id ht => ⟨(hT id ht).1, (hT id ht).2.symm⟩
  have him := g.imm_block hTr
  -- an object that was not touched
  have hout : ∀ id o, D id → ¬ T id → lk0 id = some o → ∃ b, blk μ id = some b ∧ b < w.heap.size ∧ ¬ Own μ T lk b := by
    intro id o hD ht hl
    obtain ⟨b, hb, hlt⟩ := (h.obj id o hD hl).lt
    refine ⟨b, hb, hlt, fun ⟨id', o', ht', hl', hb'⟩ => ?_⟩
    exact h.inj id id' o o' hD (hT id' ht').1 hl ((hT id' ht').2.trans hl') (fun e => ht (e ▸ ht')) (hb.trans hb'.symm)
  -- one that was, or is new
  have hin : ∀ id o b, (T id ∨ N id) → lk' id = some o → blk μ' id = some b → w.heap.size ≤ b ∨ Own μ T lk b := by
    intro id o b htn hl' hb
    by_cases hn : N id
    · exact g.new id b hn ⟨o, hl'⟩ hb
    · have ht : T id := htn.resolve_right hn
      rw [blk, g.mu id hn] at hb
      cases hlk : lk id with
      | none => rw [g.alive id hn hlk] at hl'; cases hl'
      | some o => exact .inr ⟨id, o, ht, hlk, hb⟩
  have hold : ∀ id, ¬ N id → blk μ' id = blk μ id := fun id hn => by rw [blk, g.mu id hn, blk]
  have hDN : ∀ id o, (D id ∨ N id) → ¬ (T id ∨ N id) → lk0' id = some o → D id ∧ ¬ T id ∧ ¬ N id ∧ lk0 id = some o := fun id o hd hn hl =>
    ⟨hd.resolve_right fun e => hn (.inr e), fun e => hn (.inl e), fun e => hn (.inr e), by rw [← h2 id (fun e => hn (.inl e)) (fun e => hn (.inr e))]; exact hl⟩
  refine ⟨fun id o hd hl => ?_, fun id id' o o' hd hd' hl hl' hne => ?_, fun id o b hd hl hb => ?_, g.hr.lt⟩
  · by_cases htn : T id ∨ N id
    · exact g.hr.obj id o htn (by rw [← h1 id htn]; exact hl)
    · obtain ⟨hD, ht, hn, hl0⟩ := hDN id o hd htn hl
      obtain ⟨b, hb, hlt, hno⟩ := hout id o hD ht hl0
      exact (h.obj id o hD hl0).mono g.up g.mu_mono him fun b' hb' => by
        obtain rfl : b = b' := Option.some.inj (hb.symm.trans hb')
        exact g.stp.block b hlt hno
  · by_cases htn : T id ∨ N id <;> by_cases htn' : T id' ∨ N id'
    · exact g.hr.inj id id' o o' htn htn' (by rw [← h1 id htn]; exact hl) (by rw [← h1 id' htn']; exact hl') hne
    · obtain ⟨hD, ht, hn, hl0⟩ := hDN id' o' hd' htn' hl'
      obtain ⟨b, hb, hlt, hno⟩ := hout id' o' hD ht hl0
      intro e
      rw [hold id' hn, hb] at e
      rcases hin id o b htn (by rw [← h1 id htn]; exact hl) e with h' | h'
      · omega
      · exact hno h'
    · obtain ⟨hD, ht, hn, hl0⟩ := hDN id o hd htn hl
      obtain ⟨b, hb, hlt, hno⟩ := hout id o hD ht hl0
      intro e
      rw [hold id hn, hb] at e
      rcases hin id' o' b htn' (by rw [← h1 id' htn']; exact hl') e.symm with h' | h'
      · omega
      · exact hno h'
    · obtain ⟨hD, ht, hn, hl0⟩ := hDN id o hd htn hl
      obtain ⟨hD', ht', hn', hl0'⟩ := hDN id' o' hd' htn' hl'
      rw [hold id hn, hold id' hn']
      exact h.inj id id' o o' hD hD' hl0 hl0' hne
  · by_cases htn : T id ∨ N id
    · exact g.hr.imm id o b htn (by rw [← h1 id htn]; exact hl) hb
    · obtain ⟨hD, ht, hn, hl0⟩ := hDN id o hd htn hl
      obtain ⟨b0, hb0, hlt, hno⟩ := hout id o hD ht hl0
      intro e
      rw [hold id hn, hb0] at e
      obtain rfl := Option.some.inj e
      rcases g.back _ hb with h' | h' | h'
      · exact h.imm id o _ hD hl0 h' hb0
      · omega
      · exact hno h'

/-- The same, seen from a greater part of the heap. -/
theorem Goes.widen (g : Goes I I' μ μ' w w' lk lk' T N) {D : Nat → Prop} (h : HR I μ w D lk) (hT : ∀ id, T id → D id) : Goes I I' μ μ' w w' lk lk' D N where
  mu := g.mu
  fresh := g.fresh
  up := g.up
  back b hb := (g.back b hb).imp (fun h => h) (Or.imp (fun h => h) fun ⟨id, o, ht, r⟩ => ⟨id, o, hT id ht, r⟩)
  stp := g.stp.mono fun _ ⟨id, o, ht, r⟩ => ⟨id, o, hT id ht, r⟩
  hr := g.frame h (fun id ht => ⟨hT id ht, rfl⟩) (fun _ _ => rfl) (fun id h1 h2 => g.same id h1 h2)
  new id b hn he hb := (g.new id b hn he hb).imp (fun h => h) fun ⟨id, o, ht, r⟩ => ⟨id, o, hT id ht, r⟩
  same id h1 h2 := g.same id (fun e => h1 (hT id e)) h2
  alive := g.alive

theorem Own.of_goes (g : Goes I I' μ μ' w w' lk lk' (fun _ => True) N) {b : Nat} (h : Own μ' (fun _ => True) lk' b) : w.heap.size ≤ b ∨ Own μ (fun _ => True) lk b := by
  obtain ⟨id, o, _, hl, hb⟩ := h
  by_cases hn : N id
  · exact g.new id b hn ⟨o, hl⟩ hb
  · rw [blk, g.mu id hn] at hb
    cases hlk : lk id with
    | none => rw [g.alive id hn hlk] at hl; cases hl
    | some o => exact .inr ⟨id, o, trivial, hlk, hb⟩

/-- One step behind another. -/
theorem Goes.trans (g : Goes I I' μ μ' w w' lk lk' (fun _ => True) N) {I2 : Nat → Prop} {μ2 : Mu} {w2 : World} {lk2 : Nat → Option Obj} {N2 N3 : Nat → Prop}
    (k : Goes I' I2 μ' μ2 w' w2 lk' lk2 (fun _ => True) N2) (h3 : ∀ id, N3 id ↔ N id ∨ N2 id) : Goes I I2 μ μ2 w w2 lk lk2 (fun _ => True) N3 where
  mu id hn := by
    rw [h3] at hn
    rw [k.mu id fun e => hn (.inr e), g.mu id fun e => hn (.inl e)]
  fresh id hn := by
    by_cases h1 : N id
    · exact g.fresh id h1
    · have := k.fresh id (((h3 id).1 hn).resolve_left h1)
      rwa [g.mu id h1] at this
  up b hb := k.up b (g.up b hb)
  back b hb := by
    rcases k.back b hb with h | h | h
    · exact g.back b h
    · exact .inr (.inl (Nat.le_trans g.stp.size h))
    · exact .inr (Own.of_goes g h)
  stp := g.stp.trans k.stp fun x hx h => (Own.of_goes g h).resolve_left (by omega)
  hr := k.hr.sub fun id _ => ⟨.inl trivial, rfl⟩
  new id b hn he hb := by
    by_cases h2 : N2 id
    · rcases k.new id b h2 he hb with h | h
      · exact .inl (Nat.le_trans g.stp.size h)
      · exact Own.of_goes g h
    · have h1 := ((h3 id).1 hn).resolve_right h2
      rw [blk, k.mu id h2] at hb
      refine g.new id b h1 ?_ hb
      cases hlk : lk' id with
      | none => obtain ⟨o, ho⟩ := he; rw [k.alive id h2 hlk] at ho; cases ho
      | some o => exact ⟨o, rfl⟩
  same id h := absurd trivial h
  alive id hn hl := by
    rw [h3] at hn
    exact k.alive id (fun e => hn (.inr e)) (g.alive id (fun e => hn (.inl e)) hl)

/-- Nothing turns. -/
theorem Goes.refl (hlt : ∀ b, I b → b < w.heap.size) : Goes I I μ μ w w lk lk (fun _ => False) (fun _ => False) where
  mu _ _ := rfl
  fresh _ h := h.elim
  up _ h := h
  back _ h := .inl h
  stp := .refl _ _
  hr := ⟨fun _ _ h => (h.elim id id).elim, fun _ _ _ _ h => (h.elim id id).elim, fun _ _ _ h => (h.elim id id).elim, hlt⟩
  new _ _ h := h.elim
  same _ _ _ := rfl
  alive _ _ h := h

/-- A draw, and a new block that nobody writes. -/
theorem Goes.imm (hlt : ∀ b, I b → b < w.heap.size) (o : Go.Obj) : Goes I (fun b => I b ∨ b = w.heap.size) μ μ w (w.alloc o) lk lk (fun _ => False) (fun _ => False) where
  mu _ _ := rfl
  fresh _ h := h.elim
  up _ h := .inl h
  back b h := h.imp (fun h => h) fun e => .inl (Nat.le_of_eq e.symm)
  stp := .alloc _ _ _
  hr := ⟨fun _ _ h => (h.elim id id).elim, fun _ _ _ _ h => (h.elim id id).elim, fun _ _ _ h => (h.elim id id).elim, fun b hb => by
    rw [World.size_alloc]
    rcases hb with hb | hb
    · exact Nat.lt_succ_of_lt (hlt b hb)
    · omega⟩
  new _ _ h := h.elim
  same _ _ _ := rfl
  alive _ _ h := h

/-- A draw. -/
theorem Goes.drew (hlt : ∀ b, I b → b < w.heap.size) : Goes I I μ μ w w.drew lk lk (fun _ => False) (fun _ => False) where
  mu _ _ := rfl
  fresh _ h := h.elim
  up _ h := h
  back _ h := .inl h
  stp := .drew _ _
  hr := ⟨fun _ _ h => (h.elim id id).elim, fun _ _ _ _ h => (h.elim id id).elim, fun _ _ _ h => (h.elim id id).elim, hlt⟩
  new _ _ h := h.elim
  same _ _ _ := rfl
  alive _ _ h := h

/-- A new object. -/
theorem Goes.make (hlt : ∀ b, I b → b < w.heap.size) (id : Nat) (hid : μ id = none) (c : Array Value) (e : TypeId) (fz : Nat × Nat) (hfz : ∀ k, k < c.size → ¬ (fz.1 ≤ k ∧ k < fz.2))
    (cs : List LV) (hl : cs.length ≤ c.size) (h1 : ∀ (j : Nat) u, j < cs.length → c[j]? = some u → u.oneCell' = true) (hc : ∀ (j : Nat) l u, cs[j]? = some l → c[j]? = some u → VR I μ w l u)
    (hsame : ∀ j, j ≠ id → lk' j = lk j) (hnew : lk' id = some (.cells cs)) :
    Goes I I μ (fun j => if j = id then some (w.heap.size, 0, c.size) else μ j) w (w.alloc (.cells c e fz)) lk lk' (fun _ => False) (fun j => j = id) := by
  have hmono : ∀ j x, μ j = some x → (if j = id then some (w.heap.size, 0, c.size) else μ j) = some x := fun j x h => by
    by_cases e : j = id
    · rw [e, hid] at h; cases h
    · rw [if_neg e]; exact h
  have hblk : (w.alloc (.cells c e fz)).heap[w.heap.size]? = some (.cells c e fz) := by
    show (w.heap.push (.cells c e fz))[w.heap.size]? = _
    simp
  have hcell : ∀ k, (w.alloc (.cells c e fz)).cell? ⟨w.heap.size, k, none⟩ = c[k]? := fun k => by
    simp only [World.cell?, hblk]
    rfl
  refine ⟨fun j hn => if_neg hn, fun j hj => hj ▸ hid, fun _ h => h, fun _ h => .inl h, .alloc _ _ _, ⟨?_, ?_, ?_, fun b hb => ?_⟩, fun j b hj _ hb => ?_, fun j _ hn => hsame j hn, fun j hn hl => by rw [hsame j hn]; exact hl⟩
  · rintro j o (h | rfl) hl'
    · exact h.elim
    · rw [hnew] at hl'
      obtain rfl := Option.some.inj hl'
      refine ⟨w.heap.size, 0, c.size, e, by simp, by simp only [World.shape?, hblk], by omega, fun k hk => ?_, fun j l hj => ?_⟩
      · have := hfz k hk
        simp only [World.frozen?, hblk]
        simp only [Bool.and_eq_false_iff, decide_eq_false_iff_not]
        omega
      · have hlt' : j < c.size := Nat.lt_of_lt_of_le (List.getElem?_eq_some_iff.1 hj).1 hl
        refine ⟨c[j], by rw [Nat.zero_add, hcell]; simp [hlt'], h1 j _ (List.getElem?_eq_some_iff.1 hj).1 (by simp [hlt']), ?_⟩
        exact (hc j l c[j] hj (by simp [hlt'])).mono (fun _ h => h) hmono fun b hb => Go.RowKit.Below.heap_alloc _ _ _ (hlt b hb)
  · rintro j j' o o' (h | rfl) (h' | rfl) _ _ hne
    · exact h.elim
    · exact h.elim
    · exact h'.elim
    · exact absurd rfl hne
  · rintro j o b (h | rfl) _ hb
    · exact h.elim
    · simp only [blk, if_true, Option.map_some, ne_eq, Option.some.injEq]
      have := hlt b hb
      omega
  · rw [World.size_alloc]; exact Nat.lt_succ_of_lt (hlt b hb)
  · obtain rfl := hj
    simp only [blk, if_true, Option.map_some, Option.some.injEq] at hb
    exact .inl (by omega)

/-- A new object of another kind. -/
theorem Goes.makeO (hlt : ∀ b, I b → b < w.heap.size) (id : Nat) (hid : μ id = none) (ho : Go.Obj) (o : Obj) (hsame : ∀ j, j ≠ id → lk' j = lk j) (hnew : lk' id = some o)
    (hor : OR I (fun j => if j = id then some (w.heap.size, 0, 0) else μ j) (w.alloc ho) id o) :
    Goes I I μ (fun j => if j = id then some (w.heap.size, 0, 0) else μ j) w (w.alloc ho) lk lk' (fun _ => False) (fun j => j = id) := by
  refine ⟨fun j hn => if_neg hn, fun j hj => hj ▸ hid, fun _ h => h, fun _ h => .inl h, .alloc _ _ _, ⟨?_, ?_, ?_, fun b hb => ?_⟩, fun j b hj _ hb => ?_, fun j _ hn => hsame j hn, fun j hn hl => by rw [hsame j hn]; exact hl⟩
  · rintro j p (h | rfl) hl'
    · exact h.elim
    · rw [hnew] at hl'
      obtain rfl := Option.some.inj hl'
      exact hor
  · rintro j j' o o' (h | rfl) (h' | rfl) _ _ hne
    · exact h.elim
    · exact h.elim
    · exact h'.elim
    · exact absurd rfl hne
  · rintro j o b (h | rfl) _ hb
    · exact h.elim
    · simp only [blk, if_true, Option.map_some, ne_eq, Option.some.injEq]
      have := hlt b hb
      omega
  · rw [World.size_alloc]; exact Nat.lt_succ_of_lt (hlt b hb)
  · obtain rfl := hj
    simp only [blk, if_true, Option.map_some, Option.some.injEq] at hb
    exact .inl (by omega)

/-- The world with one block put anew. -/
def putB (w : World) (b : Nat) (o : Go.Obj) : World := { w with heap := w.heap.setIfInBounds b o }

theorem putB_other (w : World) (b k : Nat) (o : Go.Obj) (h : k ≠ b) : (putB w b o).heap[k]? = w.heap[k]? := by
  simp only [putB, Array.getElem?_setIfInBounds]
  rw [if_neg (fun e => h e.symm)]

theorem putB_self (w : World) (b : Nat) (o : Go.Obj) (h : b < w.heap.size) : (putB w b o).heap[b]? = some o := by
  simp [putB, h]

/-- An object of another kind is put anew. -/
theorem Goes.writeO (h : HR I μ w T lk) (id : Nat) (hT : T id) {o o' : Obj} (hl : lk id = some o) {b q s : Nat} (hm : μ id = some (b, q, s)) (ho : Go.Obj)
    (hsame : ∀ j, j ≠ id → lk' j = lk j) (hnew : lk' id = some o') (hor : (∀ {l v}, VR I μ w l v → VR I μ (putB w b ho) l v) → OR I μ (putB w b ho) id o') :
    Goes I I μ μ w (putB w b ho) lk lk' (fun j => j = id) (fun _ => False) := by
  have hbI : ∀ x, I x → x ≠ b := fun x hx e => h.imm id _ x hT hl hx (by simp [blk, hm, e])
  refine ⟨fun _ _ => rfl, fun _ h => h.elim, fun _ h => h, fun _ h => .inl h, ⟨rfl, rfl, rfl, by simp [putB], fun k hk hn => putB_other _ _ _ _ fun e => hn ⟨id, _, rfl, hl, by simp [blk, hm, e]⟩⟩,
    ⟨?_, ?_, ?_, fun x hx => ?_⟩, fun _ _ h => h.elim, fun j hj _ => hsame j hj, fun j _ hj => ?_⟩
  · rintro j ob (rfl | hj) hob
    · rw [hnew] at hob
      obtain rfl := Option.some.inj hob
      exact hor fun hv => hv.mono (fun _ h => h) (fun _ _ h => h) fun x hx => putB_other _ _ _ _ (hbI x hx)
    · exact hj.elim
  · rintro j j' ob ob' (rfl | hj) (rfl | hj') _ _ hne
    · exact absurd rfl hne
    · exact hj'.elim
    · exact hj.elim
    · exact hj.elim
  · rintro j ob x (rfl | hj) _ hx
    · exact h.imm j _ x hT hl hx
    · exact hj.elim
  · have := h.lt x hx
    simpa [putB] using this
  · by_cases e : j = id
    · rw [e, hl] at hj; cases hj
    · rw [hsame j e]; exact hj

/-- An object is given up. -/
theorem Goes.kill (hlt : ∀ b, I b → b < w.heap.size) (id : Nat) (hsame : ∀ j, j ≠ id → lk' j = lk j) (hnew : lk' id = none) : Goes I I μ μ w w lk lk' (fun j => j = id) (fun _ => False) where
  mu _ _ := rfl
  fresh _ h := h.elim
  up _ h := h
  back _ h := .inl h
  stp := .refl _ _
  hr := ⟨fun j o hj hl => by rcases hj with rfl | hj; · rw [hnew] at hl; cases hl
                             · exact hj.elim,
         fun j j' o o' hj _ hl => by rcases hj with rfl | hj; · rw [hnew] at hl; cases hl
                                     · exact hj.elim,
         fun j o b hj hl => by rcases hj with rfl | hj; · rw [hnew] at hl; cases hl
                               · exact hj.elim, hlt⟩
  new _ _ h := h.elim
  same j hj _ := hsame j hj
  alive j _ hl := by
    by_cases e : j = id
    · rw [e]; exact hnew
    · rw [hsame j e]; exact hl

theorem setCells_other (b : Nat) (k : Nat) (hk : k ≠ b) : ∀ (vs : List Value) (o : Nat) (w : World), (w.setCells b o vs).heap[k]? = w.heap[k]?
  | [], _, _ => rfl
  | v :: r, o, w => by rw [World.setCells, setCells_other b k hk r]; exact Go.RowKit.Below.heap_setCell _ _ _ _ hk

theorem setCells_stp (b : Nat) {own : Nat → Prop} (ho : own b) : ∀ (vs : List Value) (o : Nat) (w : World), Stp own w (w.setCells b o vs)
  | [], _, w => .refl _ _
  | v :: r, o, w => by
    have h1 : Stp own w (w.setCell ⟨b, o, none⟩ v) := ⟨rfl, rfl, rfl, by simp, fun k _ hn => Go.RowKit.Below.heap_setCell _ _ _ _ fun e => hn (e ▸ ho)⟩
    exact h1.trans (setCells_stp b ho r (o + 1) _) fun _ _ h => h

theorem setCell_shape (w : World) (a : Addr) (v : Value) (b : Nat) : (w.setCell a v).shape? b = w.shape? b := by
  unfold World.shape? World.setCell
  simp only [Array.getElem?_modify]
  by_cases h : a.block = b
  · rw [if_pos h]
    cases w.heap[b]? with
    | none => rfl
    | some x =>
      cases x with
      | cells c e fz =>
        simp only [Option.map_some]
        by_cases hs : a.spot.isSome = true
        · rw [if_pos hs]
        · rw [if_neg hs, Array.size_setIfInBounds]
      | _ => rfl
  · rw [if_neg h]

theorem setCells_shape (b b' : Nat) : ∀ (vs : List Value) (o : Nat) (w : World), (w.setCells b o vs).shape? b' = w.shape? b'
  | [], _, _ => rfl
  | v :: r, o, w => by rw [World.setCells, setCells_shape b b' r, setCell_shape]

/-- A block's cells behind a store. -/
theorem setCells_cell {w : World} {b o s : Nat} {e : TypeId} (hs : w.shape? b = some (e, s)) (vs : List Value) (hl : o + vs.length ≤ s) (k : Nat) :
    (w.setCells b o vs).cell? ⟨b, k, none⟩ = if o ≤ k ∧ k < o + vs.length then vs[k - o]? else w.cell? ⟨b, k, none⟩ := by
  split
  · rename_i h
    have := World.cell?_setCells_in b vs o w (fun j hj => by
      obtain ⟨u, hu⟩ := cell_of_shape (k := o + j) hs (by omega)
      rw [hu]; rfl) (k - o) (by omega)
    rw [show o + (k - o) = k by omega] at this
    rw [this, List.getElem?_eq_getElem]
  · rename_i h
    exact World.cell?_setCells_out b vs o w ⟨b, k, none⟩ fun _ _ => by simp only; omega

/-- A store into an object. -/
theorem Goes.write (h : HR I μ w T lk) (id : Nat) (hT : T id) (cs cs' : List LV) (hl : lk id = some (.cells cs)) {b o s : Nat} (hm : μ id = some (b, o, s)) (p : Nat) (vs : List Value)
    (h1 : ∀ v ∈ vs, v.oneCell' = true) (hps : o + p + vs.length ≤ s) (hlen : o + cs'.length ≤ s)
    (hc : ∀ (j : Nat) l, cs'[j]? = some l → (p ≤ j ∧ j < p + vs.length ∧ ∃ v, vs[j - p]? = some v ∧ VR I μ w l v) ∨ (¬ (p ≤ j ∧ j < p + vs.length) ∧ cs[j]? = some l))
    (hsame : ∀ j, j ≠ id → lk' j = lk j) (hnew : lk' id = some (.cells cs')) :
    Goes I I μ μ w (w.setCells b (o + p) vs) lk lk' (fun j => j = id) (fun _ => False) := by
  obtain ⟨b', o', s', e, hm', hs, hle, hf, hcs⟩ := h.obj id _ hT hl
  rw [hm] at hm'
  obtain ⟨rfl, rfl, rfl⟩ : b = b' ∧ o = o' ∧ s = s' := by simpa using hm'
  have hbI : ∀ x, I x → x ≠ b := fun x hx e => h.imm id _ x hT hl hx (by simp [blk, hm, e])
  have hmono : ∀ {l v}, VR I μ w l v → VR I μ (w.setCells b (o + p) vs) l v := fun hv => hv.mono (fun _ h => h) (fun _ _ h => h) fun x hx => setCells_other b x (hbI x hx) vs _ w
  refine ⟨fun _ _ => rfl, fun _ h => h.elim, fun _ h => h, fun _ h => .inl h, setCells_stp b ⟨id, _, rfl, hl, by simp [blk, hm]⟩ vs _ w, ⟨?_, ?_, ?_, fun x hx => ?_⟩, fun _ _ h => h.elim, fun j hj _ => hsame j hj, fun j _ hj => ?_⟩
  · rintro j ob (rfl | hj) hob
    · rw [hnew] at hob
      obtain rfl := Option.some.inj hob
      refine ⟨b, o, s, e, hm, by rw [setCells_shape]; exact hs, hlen, fun k hk => by rw [World.frozen?_setCells]; exact hf k hk, fun i l hi => ?_⟩
      rw [setCells_cell hs vs hps]
      rcases hc i l hi with ⟨h2, h3, v, hv, hr⟩ | ⟨h2, h3⟩
      · refine ⟨v, ?_, h1 v (List.mem_of_getElem? hv), hmono hr⟩
        rw [if_pos (by omega), show o + i - (o + p) = i - p by omega, hv]
      · obtain ⟨u, hu1, hu2, hu3⟩ := hcs i l h3
        exact ⟨u, by rw [if_neg (by omega)]; exact hu1, hu2, hmono hu3⟩
    · exact hj.elim
  · rintro j j' ob ob' (rfl | hj) (rfl | hj') _ _ hne
    · exact absurd rfl hne
    · exact hj'.elim
    · exact hj.elim
    · exact hj.elim
  · rintro j ob x (rfl | hj) _ hx
    · exact h.imm j _ x hT hl hx
    · exact hj.elim
  · exact Nat.lt_of_lt_of_le (h.lt x hx) (setCells_stp (own := fun _ => True) b trivial vs _ w).size
  · by_cases e : j = id
    · rw [e, hl] at hj; cases hj
    · rw [hsame j e]; exact hj

/-- An append in place: the row goes on under a new name. -/
theorem Goes.grow (h : HR I μ w T lk) (id : Nat) (hT : T id) (n : Nat) (hn : μ n = none) (hni : n ≠ id) (cs ys : List LV) (hl : lk id = some (.cells cs)) {b o s : Nat} (hm : μ id = some (b, o, s)) (p : Nat) (hp : p ≤ cs.length) (vs : List Value)
    (hvl : vs.length = ys.length) (h1 : ∀ v ∈ vs, v.oneCell' = true) (hps : o + cs.length + vs.length ≤ s)
    (hc : ∀ (j : Nat) l v, ys[j]? = some l → vs[j]? = some v → VR I μ w l v)
    (hsame : ∀ j, j ≠ id → j ≠ n → lk' j = lk j) (hold : lk' id = none) (hnew : lk' n = some (.cells (cs.drop p ++ ys))) :
    Goes I I μ (fun j => if j = n then some (b, o + p, s) else μ j) w (w.setCells b (o + cs.length) vs) lk lk' (fun j => j = id) (fun j => j = n) := by
  obtain ⟨b', o', s', e, hm', hs, hle, hf, hcs⟩ := h.obj id _ hT hl
  rw [hm] at hm'
  obtain ⟨rfl, rfl, rfl⟩ : b = b' ∧ o = o' ∧ s = s' := by simpa using hm'
  have hbI : ∀ x, I x → x ≠ b := fun x hx e => h.imm id _ x hT hl hx (by simp [blk, hm, e])
  have hmm : ∀ j x, μ j = some x → (if j = n then some (b, o + p, s) else μ j) = some x := fun j x h => by
    by_cases e : j = n
    · rw [e, hn] at h; cases h
    · rw [if_neg e]; exact h
  have hmono : ∀ {l v}, VR I μ w l v → VR I (fun j => if j = n then some (b, o + p, s) else μ j) (w.setCells b (o + cs.length) vs) l v :=
    fun hv => hv.mono (fun _ h => h) hmm fun x hx => setCells_other b x (hbI x hx) vs _ w
  refine ⟨fun j hj => if_neg hj, fun j hj => hj ▸ hn, fun _ h => h, fun _ h => .inl h, setCells_stp b ⟨id, _, rfl, hl, by simp [blk, hm]⟩ vs _ w, ⟨?_, ?_, ?_, fun x hx => ?_⟩, fun j x hj _ hx => ?_, fun j hj hj' => hsame j hj hj', fun j hj' hj => ?_⟩
  · rintro j ob (rfl | rfl) hob
    · rw [hold] at hob; cases hob
    · rw [hnew] at hob
      obtain rfl := Option.some.inj hob
      refine ⟨b, o + p, s, e, by simp, by rw [setCells_shape]; exact hs, by simp; omega, fun k hk => by rw [World.frozen?_setCells]; exact hf k hk, fun i l hi => ?_⟩
      rw [setCells_cell hs vs hps]
      by_cases hi2 : i < cs.length - p
      · rw [List.getElem?_append_left (by simpa using hi2), List.getElem?_drop] at hi
        obtain ⟨u, hu1, hu2, hu3⟩ := hcs _ l hi
        exact ⟨u, by rw [if_neg (by omega), ← hu1]; congr 2; omega, hu2, hmono hu3⟩
      · rw [List.getElem?_append_right (by simp; omega), List.length_drop] at hi
        have hlt := (List.getElem?_eq_some_iff.1 hi).1
        have hv : vs[i - (cs.length - p)]? = some vs[i - (cs.length - p)] := List.getElem?_eq_getElem (by omega)
        refine ⟨_, ?_, h1 _ (List.mem_of_getElem? hv), hmono (hc _ l _ hi hv)⟩
        rw [if_pos (by omega), show o + p + i - (o + cs.length) = i - (cs.length - p) by omega]
        exact hv
  · rintro j j' ob ob' (rfl | rfl) (rfl | rfl) hob hob' hne
    · exact absurd rfl hne
    · rw [hold] at hob; cases hob
    · rw [hold] at hob'; cases hob'
    · exact absurd rfl hne
  · rintro j ob x (rfl | rfl) hob hx
    · rw [hold] at hob; cases hob
    · simp only [blk, if_true, Option.map_some, ne_eq, Option.some.injEq]
      exact fun e => hbI x hx e.symm
  · exact Nat.lt_of_lt_of_le (h.lt x hx) (setCells_stp (own := fun _ => True) b trivial vs _ w).size
  · obtain rfl := hj
    simp only [blk, if_true, Option.map_some, Option.some.injEq] at hx
    exact .inr ⟨id, _, rfl, hl, by simp [blk, hm, hx]⟩
  · by_cases e : j = id
    · rw [e]; exact hold
    · rw [hsame j e hj']; exact hj

end

end Go.Sx
