/- Single operations, one by one. -/
import Derived.Test.YtkdimbcfacoboaaGreatDoorSxD
import Derived.Laws.Tables
import Derived.Laws.Slices
import Derived.Laws.MakeOwn
import Derived.Laws.BytesString
namespace Go.Sx
open Go

/-- An operation that is no call does what the value machine says. -/
def Does (P : Program) (s : Sem Next) (w : World) (I : Nat → Prop) (μ : Mu) (lk lk' : Nat → Option Obj) (T N : Nat → Prop) (lv : LV) : Prop :=
  ∃ I' μ' w' v, (s.run P w = .ok (.value v) w' ∨ (s.run P w = .ok .skip w' ∧ v = undef)) ∧ Goes I I' μ μ' w w' lk lk' T N ∧ VR I' μ' w' lv v

section
variable {P : Program} {w : World} {I : Nat → Prop} {μ : Mu} {lk lk' : Nat → Option Obj} {T N : Nat → Prop} {lv : LV} {s : Sem Next}

theorem Goes.congrN {I I' : Nat → Prop} {μ μ' : Mu} {w w' : World} {lk lk' : Nat → Option Obj} {T N N' : Nat → Prop} (g : Goes I I' μ μ' w w' lk lk' T N) (h : ∀ id, N' id ↔ N id) : Goes I I' μ μ' w w' lk lk' T N' := by
  obtain rfl : N' = N := funext fun id => propext (h id)
  exact g

theorem does_pure {v : Value} (h : HR I μ w T lk) (hN : ∀ id, ¬ N id) (hr : s.run P w = .ok (.value v) w) (hv : VR I μ w lv v) : Does P s w I μ lk lk T N lv :=
  ⟨I, μ, w, v, .inl hr, ((Goes.refl h.lt).widen h fun _ h => h.elim).congrN fun id => ⟨fun h => hN id h, fun h => h.elim⟩, hv⟩

theorem look_push {H : Heap} {nx : Nat} {h : Hp} {o : Obj} (id : Nat) : look H nx (push h o) id = if id = nx + h.new.length then some o else look H nx h id := by
  unfold look push
  by_cases h1 : id < nx
  · rw [if_pos h1, if_neg (by omega), if_pos h1]
  · rw [if_neg h1, if_neg h1]
    by_cases h2 : id = nx + h.new.length
    · subst h2; simp
    · rw [if_neg h2]
      by_cases h3 : id - nx < h.new.length
      · simp only [List.getElem?_append_left h3]
      · rw [List.getElem?_append_right (by omega), List.getElem?_eq_none (by simp; omega), List.getElem?_eq_none (by omega)]

theorem look_new {H : Heap} {nx : Nat} {h : Hp} {id : Nat} (hid : nx + h.new.length ≤ id) : look H nx h id = none := by
  unfold look
  rw [if_neg (by omega), List.getElem?_eq_none (by omega)]

theorem push_N {nx : Nat} {h : Hp} {o : Obj} (id : Nat) : (nx + h.new.length ≤ id ∧ id < nx + (push h o).new.length) ↔ id = nx + h.new.length := by
  simp [push]; omega

theorem Goes.of_drew {I I' : Nat → Prop} {μ μ' : Mu} {w w' : World} {lk lk' : Nat → Option Obj} {T N : Nat → Prop} (g : Goes I I' μ μ' w.drew w' lk lk' T N) : Goes I I' μ μ' w w' lk lk' T N :=
  ⟨g.mu, g.fresh, g.up, g.back, ⟨g.stp.os, g.stp.tape, g.stp.output, g.stp.size, g.stp.block⟩, g.hr, g.new, g.same, g.alive⟩

/-- What is given up first. -/
theorem Goes.after_kill {I I' : Nat → Prop} {μ μ' : Mu} {w w' : World} {lk lk2 lk' : Nat → Option Obj} {T N : Nat → Prop} (g1 : Goes I I μ μ w w lk lk2 T (fun _ => False)) (g2 : Goes I I' μ μ' w w' lk2 lk' T N) :
    Goes I I' μ μ' w w' lk lk' T N := by
  have hown : ∀ b, Own μ T lk2 b → Own μ T lk b := fun b ⟨id, o, ht, hl, hb⟩ => by
    cases hlk : lk id with
    | none => rw [g1.alive id (fun h => h) hlk] at hl; cases hl
    | some o' => exact ⟨id, o', ht, hlk, hb⟩
  exact ⟨g2.mu, g2.fresh, g2.up, fun b hb => (g2.back b hb).imp (fun h => h) (Or.imp (fun h => h) (hown b)), g2.stp.mono hown, g2.hr,
    fun id b hn he hb => (g2.new id b hn he hb).imp (fun h => h) (hown b), fun id h1 h2 => (g2.same id h1 h2).trans (g1.same id h1 (fun h => h)), fun id hn hl => g2.alive id hn (g1.alive id (fun h => h) hl)⟩

/-- A new object. -/
theorem does_make {H : Heap} {nx : Nat} {h : Hp} {cs : List LV} (hH : HR I μ w T (look H nx h)) (hμ : μ (nx + h.new.length) = none) (w1 : World) (hw1 : w1 = w ∨ w1 = w.drew) {v : Value} (c : Array Value) (e : TypeId) (fz : Nat × Nat)
    (hfz : ∀ k, k < c.size → ¬ (fz.1 ≤ k ∧ k < fz.2)) (hl : cs.length ≤ c.size) (h1 : ∀ (j : Nat) u, j < cs.length → c[j]? = some u → u.oneCell' = true) (hc : ∀ (j : Nat) l u, cs[j]? = some l → c[j]? = some u → VR I μ w l u)
    (hr : s.run P w = .ok (.value v) (w1.alloc (.cells c e fz)))
    (hv : ∀ I' μ' w', (∀ id x, μ id = some x → μ' id = some x) → μ' (nx + h.new.length) = some (w.heap.size, 0, c.size) → VR I' μ' w' lv v) :
    Does P s w I μ (look H nx h) (look H nx (push h (.cells cs))) T (fun id => nx + h.new.length ≤ id ∧ id < nx + (push h (.cells cs)).new.length) lv := by
  have hsz : w1.heap.size = w.heap.size := by rcases hw1 with rfl | rfl <;> rfl
  have hvr : ∀ {l u}, VR I μ w l u → VR I μ w1 l u := fun hx => hx.mono (fun _ h => h) (fun _ _ h => h) fun b _ => by rcases hw1 with rfl | rfl <;> rfl
  have g := Goes.make (w := w1) (I := I) (μ := μ) (lk := look H nx h) (lk' := look H nx (push h (.cells cs))) (by rw [hsz]; exact hH.lt) (nx + h.new.length) hμ c e fz hfz cs hl h1 (fun j l u a b => hvr (hc j l u a b))
    (fun j hj => by rw [look_push, if_neg hj]) (by rw [look_push, if_pos rfl])
  have g' : Goes I I μ (fun j => if j = nx + h.new.length then some (w1.heap.size, 0, c.size) else μ j) w (w1.alloc (.cells c e fz)) (look H nx h) (look H nx (push h (.cells cs))) (fun _ => False) (fun j => j = nx + h.new.length) := by
    rcases hw1 with rfl | rfl
    · exact g
    · exact g.of_drew
  exact ⟨_, _, _, v, .inl hr, (g'.widen hH fun _ h => h.elim).congrN push_N, hv _ _ _ g'.mu_mono (by simp [hsz])⟩

/-- A new block that nobody writes. -/
theorem does_imm (hH : HR I μ w T lk) (hN : ∀ id, ¬ N id) {cs : List PV} (c : Array Value) (e : TypeId) (hl : cs.length = c.size) (h1 : ∀ (j : Nat) u, c[j]? = some u → u.oneCell' = true)
    (hc : ∀ (j : Nat) l u, cs[j]? = some l → c[j]? = some u → PR I w l u) (hr : s.run P w = .ok (.value (.pointer (some ⟨w.heap.size, 0, none⟩))) (w.alloc (.cells c e))) :
    Does P s w I μ lk lk T N (.p (.imm cs 0)) := by
  have g := Goes.imm (w := w) (I := I) (μ := μ) (lk := lk) hH.lt (.cells c e)
  refine ⟨_, _, _, _, .inl hr, (g.widen hH fun _ h => h.elim).congrN fun id => ⟨fun h => hN id h, fun h => h.elim⟩, .p ?_⟩
  refine mk_imm (μ := μ) (o := 0) (.inr rfl) (fun j l hj => ?_) 0
  rw [List.getElem?_map, Option.map_eq_some_iff] at hj
  obtain ⟨x, hx, rfl⟩ := hj
  have hlt : j < c.size := by rw [← hl]; exact (List.getElem?_eq_some_iff.1 hx).1
  have hu : c[j]? = some c[j] := by simp [hlt]
  refine ⟨c[j], ?_, h1 j _ hu, .p ((hc j x _ hx hu).mono (fun _ h => .inl h) fun b hb => Go.RowKit.Below.heap_alloc _ _ _ (hH.lt b hb))⟩
  rw [Nat.zero_add, World.cell?_alloc_new, hu]

end

section ops
variable {P : Program} {imT : TypeId → Bool} {c : Ctx} {dr : Bool} {env : Env} {h : Hp} {a : Act} {w : World} {I : Nat → Prop} {μ : Mu} {r : Res} {T : Nat → Prop}

abbrev newN (c : Ctx) (h h' : Hp) : Nat → Prop := fun id => c.nx + h.new.length ≤ id ∧ id < c.nx + h'.new.length

theorem newN_self {c : Ctx} {h : Hp} (id : Nat) : ¬ newN c h h id := fun ⟨a, b⟩ => by omega

/-- What stands for an operand, stands for it. -/
def Opds (c : Ctx) (env : Env) (a : Act) (I : Nat → Prop) (μ : Mu) (w : World) : Prop := ∀ x : Operand, VR I μ w (opd c env (copd x)) (a.eval x)

abbrev DoesOp (P : Program) (c : Ctx) (h : Hp) (a : Act) (w : World) (I : Nat → Prop) (μ : Mu) (r : Res) (T : Nat → Prop) (o : Oper) : Prop :=
  Does P (execOp a.eval o) w I μ (look c.H c.nx h) (look c.H c.nx r.h) T (newN c h r.h) r.v

variable {dst : Option Tmp} {ty : TypeId} {pos : String} {after : Array Edge} {guard : Option (Nat × Bool)}

theorem op_move (hH : HR I μ w T (look c.H c.nx h)) (ho : Opds c env a I μ w) {x : Operand} (hr : evOp c dr env h (.mv (copd x)) = some r) :
    DoesOp P c h a w I μ r T ⟨dst, .move x, ty, pos, after, guard⟩ ∧ DoesOp P c h a w I μ r T ⟨dst, .assign x, ty, pos, after, guard⟩ := by
  simp only [evOp, Option.some.injEq] at hr
  subst hr
  exact ⟨does_pure hH newN_self rfl (ho x), does_pure hH newN_self rfl (ho x)⟩

theorem vr_ref {id off : Nat} {v : Value} (h : VR I μ w (.ref id off) v) : ∃ b o s, μ id = some (b, o, s) ∧ v = .pointer (some ⟨b, o + off, none⟩) := by
  cases h with
  | ref _ _ b o s h => exact ⟨b, o, s, h, rfl⟩
theorem vr_arr {id off len sz cp : Nat} {ex : Bool} {v : Value} (h : VR I μ w (.arr id off len sz cp ex) v) : ∃ b o s o' cap, μ id = some (b, o, s) ∧ v = .slice (some ⟨b, o', none⟩) len cap ∧
    (cap = 0 ∨ o' = o + off) ∧ len ≤ cap ∧ (ex = true → cap = cp) ∧ o + off + cap * sz ≤ s ∧ cp ≤ cap ∧ len ≤ cp := by
  cases h with
  | arr _ _ _ _ _ _ b o s o' cap h ho hlen hcp hf hs => exact ⟨b, o, s, o', cap, h, rfl, ho, by omega, hf, hs, hcp, hlen⟩
theorem vr_agg {cs : List LV} {v : Value} (h : VR I μ w (.agg cs) v) : ∃ a, v = .agg a ∧ a.size = cs.length ∧ (∀ u ∈ a.toList, u.oneCell' = true) ∧ ∀ (j : Nat) (l : LV) (u : Value), cs[j]? = some l → a[j]? = some u → VR I μ w l u := by
  cases h with
  | agg _ a hl h1 h => exact ⟨a, rfl, hl, h1, h⟩
theorem vr_pagg {cs : List PV} {v : Value} (h : VR I μ w (.p (.agg cs)) v) : ∃ a, v = .agg a ∧ a.size = (cs.map LV.p).length ∧ (∀ u ∈ a.toList, u.oneCell' = true) ∧ ∀ (j : Nat) (l : LV) (u : Value), (cs.map LV.p)[j]? = some l → a[j]? = some u → VR I μ w l u := by
  cases h.pp with
  | agg _ a hl h1 hh =>
    refine ⟨a, rfl, by simpa using hl, h1, fun j l u hj hu => ?_⟩
    rw [List.getElem?_map, Option.map_eq_some_iff] at hj
    obtain ⟨x, hx, rfl⟩ := hj
    exact .p (hh j x u hx hu)
theorem vr_tuple {cs : List LV} {v : Value} (h : VR I μ w (.tuple cs) v) : ∃ a, v = .tuple a ∧ a.size = cs.length ∧ ∀ (j : Nat) (l : LV) (u : Value), cs[j]? = some l → a[j]? = some u → VR I μ w l u := by
  cases h with
  | tuple _ a hl h => exact ⟨a, rfl, hl, h⟩
theorem vr_fn {f : FuncId} {fs cs : List LV} {v : Value} (h : VR I μ w (.fn f fs cs) v) : ∃ fa ca, v = .func (.func f) fa ca ∧ fa.size = fs.length ∧ ca.size = cs.length ∧
    (∀ (j : Nat) (l : LV) (u : Value), fs[j]? = some l → fa[j]? = some u → VR I μ w l u) ∧ ∀ (j : Nat) (l : LV) (u : Value), cs[j]? = some l → ca[j]? = some u → VR I μ w l u := by
  cases h with
  | fn _ _ _ fa ca hl hl' h h' => exact ⟨fa, ca, rfl, hl, hl', h, h'⟩
theorem vr_bool {t : Bool} {v : Value} (h : VR I μ w (.p (.s (.bool t))) v) : v = .bool t := by cases h.pp; rfl
theorem vr_s {x v : Value} (h : VR I μ w (.p (.s x)) v) : v = x := by cases h.pp; rfl

theorem op_pick (hH : HR I μ w T (look c.H c.nx h)) (ho : Opds c env a I μ w) {b x y : Operand} (hr : evOp c dr env h (.pick (copd b) (copd x) (copd y)) = some r) :
    DoesOp P c h a w I μ r T ⟨dst, .pick b x y, ty, pos, after, guard⟩ := by
  simp only [evOp] at hr
  split at hr
  · rename_i t ht
    obtain rfl := Option.some.inj hr
    have hb := ho b
    rw [ht] at hb
    have hb' := vr_bool hb
    refine does_pure hH newN_self (v := if t then a.eval x else a.eval y) (by simp [execOp, hb', asBool]) ?_
    cases t
    · exact ho y
    · exact ho x
  · cases hr

theorem tzero_some {t : TypeId} {z : List PV} (hz : tzero P t = some z) : ∃ i v, P.info? t = some i ∧ i.zero = some v ∧ (∀ u ∈ v.cells.toList, u.oneCell' = true) ∧ z = v.cells.toList.map .s := by
  unfold tzero at hz
  split at hz
  · rename_i i hi
    split at hz
    · rename_i v hv
      split at hz
      · rename_i h1
        rw [Array.all_eq_true'] at h1
        exact ⟨i, v, hi, hv, fun u hu => h1 u (Array.mem_toList_iff.1 hu), (Option.some.inj hz).symm⟩
      · cases hz
    · cases hz
  · cases hz

theorem op_alloc (hH : HR I μ w T (look c.H c.nx h)) (hμ : ∀ id, newN c h r.h id → μ id = none) {t : TypeId} (hr : evOp c dr env h (cop P imT (.alloc t)) = some r) :
    DoesOp P c h a w I μ r T ⟨dst, .alloc t, ty, pos, after, guard⟩ := by
  simp only [cop] at hr
  split at hr
  · rename_i z hz
    obtain ⟨i, v, hi, hv, h1, rfl⟩ := tzero_some hz
    have hrun : (execOp a.eval ⟨dst, .alloc t, ty, pos, after, guard⟩).run P w = .ok (.value (.pointer (some ⟨w.heap.size, 0, none⟩))) (w.alloc (.cells v.cells t)) := by
      simp [execOp, Instr.alloc, zeroValue, typeInfo, hi, hv, newVar, newRow]
    simp only [evOp] at hr
    split at hr
    · obtain rfl := Option.some.inj hr
      refine does_imm hH newN_self v.cells t (by simp) (fun j u hu => h1 u ?_) (fun j l u hl hu => ?_) hrun
      · rw [← Array.getElem?_toList] at hu; exact List.mem_of_getElem? hu
      · rw [List.getElem?_map, Option.map_eq_some_iff] at hl
        obtain ⟨x, hx, rfl⟩ := hl
        rw [Array.getElem?_toList] at hx
        obtain rfl : x = u := Option.some.inj (hx.symm.trans hu)
        exact .s x
    · obtain rfl := Option.some.inj hr
      refine does_make hH (hμ _ (by rw [newN, push_N])) w (.inl rfl) v.cells t (0, 0) (by simp) (by simp) (fun j u _ hu => h1 u ?_) (fun j l u hl hu => ?_) hrun fun I' μ' w' _ hm => ?_
      · rw [← Array.getElem?_toList] at hu; exact List.mem_of_getElem? hu
      · simp only [List.map_map, List.getElem?_map, Option.map_eq_some_iff] at hl
        obtain ⟨x, hx, rfl⟩ := hl
        rw [Array.getElem?_toList] at hx
        obtain rfl : x = u := Option.some.inj (hx.symm.trans hu)
        exact .p (.s x)
      · exact .ref _ 0 w.heap.size 0 v.cells.size hm
  · simp [evOp] at hr

theorem op_box (hH : HR I μ w T (look c.H c.nx h)) (ho : Opds c env a I μ w) (hμ : ∀ id, newN c h r.h id → μ id = none) {t : TypeId} {x : Operand} (hr : evOp c dr env h (cop P imT (.box t x)) = some r) :
    DoesOp P c h a w I μ r T ⟨dst, .box t x, ty, pos, after, guard⟩ := by
  simp only [cop, evOp] at hr
  split at hr
  · rename_i cs hcs
    obtain ⟨hl, h1, hc⟩ := (ho x).one_or cs hcs
    have hrun : (execOp a.eval ⟨dst, .box t x, ty, pos, after, guard⟩).run P w = .ok (.value (.pointer (some ⟨w.heap.size, 0, none⟩))) (w.alloc (.cells (a.eval x).cells t)) := by
      simp [execOp, Instr.box, newVar, newRow]
    have hmem : ∀ (j : Nat) u, (a.eval x).cells[j]? = some u → u.oneCell' = true := fun j u hu => h1 u (by rw [← Array.getElem?_toList] at hu; exact List.mem_of_getElem? hu)
    split at hr
    · split at hr
      · rename_i ps hps
        obtain rfl := Option.some.inj hr
        have := allP_some hps
        subst this
        refine does_imm hH newN_self (a.eval x).cells t (by simpa using hl.symm) hmem (fun j l u hl hu => ?_) hrun
        exact (hc j (.p l) u (by rw [List.getElem?_map, hl]; rfl) hu).pp
      · cases hr
    · obtain rfl := Option.some.inj hr
      exact does_make hH (hμ _ (by rw [newN, push_N])) w (.inl rfl) (a.eval x).cells t (0, 0) (by simp) (by omega) (fun j u _ hu => hmem j u hu) hc hrun fun I' μ' w' _ hm => .ref _ 0 w.heap.size 0 _ hm
  · cases hr

/-- The cells of an aggregate, one part after another. -/
theorem foldl_set (xs : List Value) (off : Nat) : ∀ (k : Nat) (cs : Array Value), ((xs.zipIdx k).foldl (fun cs (c, j) => cs.setIfInBounds (off + j) c) cs).size = cs.size ∧
    ∀ i, ((xs.zipIdx k).foldl (fun cs (c, j) => cs.setIfInBounds (off + j) c) cs)[i]? = if off + k ≤ i ∧ i < off + k + xs.length ∧ i < cs.size then xs[i - (off + k)]? else cs[i]? := by
  induction xs with
  | nil => intro k cs; exact ⟨rfl, fun i => by rw [if_neg (by simp; omega)]; rfl⟩
  | cons x r ih =>
    intro k cs
    simp only [List.zipIdx_cons, List.foldl_cons]
    obtain ⟨h1, h2⟩ := ih (k + 1) (cs.setIfInBounds (off + k) x)
    refine ⟨by rw [h1]; simp, fun i => ?_⟩
    rw [h2, Array.size_setIfInBounds, Array.getElem?_setIfInBounds]
    by_cases e : i = off + k
    · subst e
      rw [if_neg (by omega), if_pos rfl]
      by_cases hs : off + k < cs.size
      · rw [if_pos hs, if_pos (by simp; omega)]; simp
      · rw [if_neg hs, if_neg (by omega), Array.getElem?_eq_none (by omega)]
    · rw [if_neg (c := off + k = i) (fun h => e h.symm)]
      by_cases h3 : off + (k + 1) ≤ i ∧ i < off + (k + 1) + r.length ∧ i < cs.size
      · rw [if_pos h3, if_pos (by simp; omega), show i - (off + k) = (i - (off + (k + 1))) + 1 by omega]; rfl
      · rw [if_neg h3, if_neg (by simp at h3 ⊢; omega)]

inductive Parts (I : Nat → Prop) (μ : Mu) (w : World) (place : Nat → Option (Nat × Nat)) : List (Nat × Value) → List (Nat × Nat × LV) → Prop
  | nil : Parts I μ w place [] []
  | cons {i : Nat} {v : Value} {o s : Nat} {l : LV} {r : List (Nat × Value)} {r' : List (Nat × Nat × LV)} (h1 : place i = some (o, s)) (h2 : VR I μ w l v) (h3 : Parts I μ w place r r') : Parts I μ w place ((i, v) :: r) ((o, s, l) :: r')

theorem fill_vr {place : Nat → Option (Nat × Nat)} {parts : List (Nat × Value)} {lparts : List (Nat × Nat × LV)} (hp : Parts I μ w place parts lparts) :
    ∀ {cells : Array Value} {lc lc' : List LV}, cells.size = lc.length → (∀ u ∈ cells.toList, u.oneCell' = true) → (∀ (j : Nat) l u, lc[j]? = some l → cells[j]? = some u → VR I μ w l u) →
      fillP lc lparts = some lc' → ∃ cells', Instr.fill place cells parts = some cells' ∧ cells'.size = lc'.length ∧ (∀ u ∈ cells'.toList, u.oneCell' = true) ∧ ∀ (j : Nat) l u, lc'[j]? = some l → cells'[j]? = some u → VR I μ w l u := by
  induction hp with
  | nil => intro cells lc lc' hs h1 hc hf; simp only [fillP, Option.some.injEq] at hf; subst hf; exact ⟨cells, rfl, hs, h1, hc⟩
  | @cons i v o s l r r' hpl hv _ ih =>
    intro cells lc lc' hs h1 hc hf
    simp only [fillP] at hf
    split at hf
    · rename_i vs hvs
      split at hf
      · rename_i hle
        obtain ⟨g1, g2, g3⟩ := hv.one_or vs hvs
        obtain ⟨f1, f2⟩ := foldl_set v.cells.toList o 0 cells
        have e1 : v.cells.zipIdx.foldl (fun cs (x : Value × Nat) => cs.setIfInBounds (o + x.2) x.1) cells = (v.cells.toList.zipIdx 0).foldl (fun cs (c, j) => cs.setIfInBounds (o + j) c) cells := by
          rw [← Array.foldl_toList, Array.toList_zipIdx]
        obtain ⟨F, hF⟩ : ∃ F, F = (v.cells.toList.zipIdx 0).foldl (fun cs (c, j) => cs.setIfInBounds (o + j) c) cells := ⟨_, rfl⟩
        rw [← hF] at f1 f2 e1
        have hsz : F.size = (lc.take o ++ vs ++ lc.drop (o + s)).length := by
          rw [f1, hs]; simp; omega
        have hget : ∀ (j : Nat) (l : LV) (u : Value), (lc.take o ++ vs ++ lc.drop (o + s))[j]? = some l → F[j]? = some u → u.oneCell' = true ∧ VR I μ w l u := by
          intro j l u hj hu
          rw [f2] at hu
          simp only [Nat.add_zero, Array.length_toList] at hu
          by_cases h3 : o ≤ j ∧ j < o + v.cells.size
          · rw [if_pos ⟨h3.1, h3.2, by omega⟩] at hu
            have hu' : v.cells[j - o]? = some u := by rw [← Array.getElem?_toList]; exact hu
            rw [List.append_assoc, List.getElem?_append_right (by simp; omega), List.getElem?_append_left (by simp; omega)] at hj
            rw [show j - (lc.take o).length = j - o by simp; omega] at hj
            exact ⟨g2 u (List.mem_of_getElem? hu), g3 _ l u hj hu'⟩
          · rw [if_neg (fun e => h3 ⟨e.1, e.2.1⟩)] at hu
            have hone : u.oneCell' = true := h1 u (by rw [← Array.getElem?_toList] at hu; exact List.mem_of_getElem? hu)
            refine ⟨hone, hc j l u ?_ hu⟩
            by_cases h4 : j < o
            · rw [List.append_assoc, List.getElem?_append_left (by simp; omega), List.getElem?_take, if_pos h4] at hj
              exact hj
            · rw [List.getElem?_append_right (by simp; omega), List.getElem?_drop] at hj
              rw [← hj]; congr 1; simp; omega
        obtain ⟨cells', k1, k2, k3, k4⟩ := ih (cells := F) hsz (fun u hu => by
            obtain ⟨j, hj⟩ := List.getElem?_of_mem hu
            rw [Array.getElem?_toList] at hj
            have hlt : j < (lc.take o ++ vs ++ lc.drop (o + s)).length := by rw [← hsz]; exact (Array.getElem?_eq_some_iff.1 hj).1
            exact (hget j _ u (List.getElem?_eq_getElem hlt) hj).1) (fun j l u hj hu => (hget j l u hj hu).2) hf
        refine ⟨cells', ?_, k2, k3, k4⟩
        simp only [Instr.fill, hpl]
        rw [if_neg (by simp; omega), ← k1, ← e1]
      · cases hf
    · cases hf

theorem cparts_parts {c : Ctx} {env : Env} {a : Act} (ho : Opds c env a I μ w) {place : Nat → Option (Nat × Nat)} : ∀ {ps : List (Nat × Operand)} {l : List (Nat × Nat × Opd)}, cparts place ps = some l →
    Parts I μ w place (ps.map fun (i, x) => (i, a.eval x)) (l.map fun (o, s, x) => (o, s, opd c env x))
  | [], l, hl => by simp only [cparts, Option.some.injEq] at hl; subst hl; exact .nil
  | (i, x) :: r, l, hl => by
    simp only [cparts] at hl
    split at hl
    · rename_i o s l' h1 h2
      obtain rfl := Option.some.inj hl
      exact .cons h1 (ho x) (cparts_parts ho h2)
    · cases hl

theorem op_build (hH : HR I μ w T (look c.H c.nx h)) (ho : Opds c env a I μ w) {t : TypeId} {parts : Array (Nat × Operand)} (hr : evOp c dr env h (cop P imT (.build t parts)) = some r) :
    DoesOp P c h a w I μ r T ⟨dst, .build t parts, ty, pos, after, guard⟩ := by
  have key : ∀ (z : List PV) (l : List (Nat × Nat × Opd)) (place : Nat → Option (Nat × Nat)) (it : TypeInfo) (zv : Value), P.info? t = some it → it.zero = some zv → (∀ u ∈ zv.cells.toList, u.oneCell' = true) → z = zv.cells.toList.map .s →
      cparts place parts.toList = some l → (∀ cells, Instr.fill place zv.cells (parts.toList.map fun (i, x) => (i, a.eval x)) = some cells → P.built t (parts.toList.map fun (i, x) => (i, a.eval x)) = some cells) →
      evOp c dr env h (.build z l) = some r → DoesOp P c h a w I μ r T ⟨dst, .build t parts, ty, pos, after, guard⟩ := by
    intro z l place it zv hi hz h1 hzz hl hb hr
    subst hzz
    simp only [evOp] at hr
    split at hr
    · rename_i cs hcs
      obtain rfl := Option.some.inj hr
      obtain ⟨cells, k1, k2, k3, k4⟩ := fill_vr (cparts_parts ho hl) (cells := zv.cells) (by simp) h1 (fun j l u hl hu => by
        simp only [List.map_map, List.getElem?_map, Option.map_eq_some_iff] at hl
        obtain ⟨x, hx, rfl⟩ := hl
        rw [Array.getElem?_toList] at hx
        obtain rfl : x = u := Option.some.inj (hx.symm.trans hu)
        exact .p (.s x)) hcs
      have hrun := run_build (P := P) w t (parts.map fun (i, x) => (i, a.eval x)) cells (by rw [Array.toList_map]; exact hb cells k1)
      exact does_pure hH newN_self (v := .agg cells) (by simp [execOp, hrun]) (mkAgg_vr k2 k3 k4)
    · cases hr
  simp only [cop] at hr
  split at hr
  · rename_i fs z hu hz
    obtain ⟨it, zv, hi, hzv, h1, hzz⟩ := tzero_some hz
    split at hr
    · rename_i places hpl
      split at hr
      · rename_i l hl
        exact key z l _ it zv hi hzv h1 hzz hl (fun cells hf => by simp only [Program.built, hi, hu, hzv, hpl]; exact hf) hr
      · simp [evOp] at hr
    · simp [evOp] at hr
  · rename_i n e z hu hz
    obtain ⟨it, zv, hi, hzv, h1, hzz⟩ := tzero_some hz
    split at hr
    · rename_i ie hie
      split at hr
      · rename_i l hl
        exact key z l _ it zv hi hzv h1 hzz hl (fun cells hf => by simp only [Program.built, hi, hu, hzv, hie]; exact hf) hr
      · simp [evOp] at hr
    · simp [evOp] at hr
  · simp [evOp] at hr

end ops
end Go.Sx
