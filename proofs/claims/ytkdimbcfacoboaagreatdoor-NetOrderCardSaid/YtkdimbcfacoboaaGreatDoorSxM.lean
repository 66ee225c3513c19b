/- What an operation leaves alone, by its text. -/
import Derived.Test.YtkdimbcfacoboaaGreatDoorSxL
namespace Go.Sx
open Go

/-- How the heap has turned. -/
inductive HpStep (c : Ctx) (dr : Bool) (h : Hp) (r : Res) : Prop
  | same (h1 : r.h = h)
  | push (o : Obj) (h1 : r.h = push h o)
  | set (id : Nat) (x : Option Obj) (h1 : r.h = setObj c.nx h id x) (hl : (look c.H c.nx h id).isSome = true) (ht : id ∈ r.tch) (hm : r.md = true)
  | kp (id : Nat) (o : Obj) (h1 : r.h = Sx.push (setObj c.nx h id none) o) (hl : (look c.H c.nx h id).isSome = true) (ht : id ∈ r.tch) (hm : r.md = true)
  | call (H' : Heap) (f : FuncId) (args : List LV) (rv : LV) (u : Upd) (n : List (Option Obj)) (hc : c.O f args H' (c.nx + h.new.length) = some (rv, u, n)) (hH : ∀ id, H' id = none ∨ H' id = look c.H c.nx h id)
      (hS : dr = true → ∀ id, (H' id).isSome = true → id ∈ r.tch) (h1 : r.h = { setAll c.nx h u with new := (setAll c.nx h u).new ++ n }) (hm : r.md = true)

def TchOk (c : Ctx) (dr : Bool) (h : Hp) (r : Res) : Prop := dr = true → ∀ id ∈ r.tch, (look c.H c.nx h id).isSome = true

theorem slCells_tch {H : Heap} {nx : Nat} {h : Hp} {v : LV} {x : List LV × Nat} (hs : slCells H nx h v = some x) : ∀ id ∈ ids v, (look H nx h id).isSome = true := by
  unfold slCells at hs
  split at hs
  · intro id hid; simp [ids] at hid
  · intro id hid; simp [ids] at hid
  · intro id hid; simp [ids] at hid
  · intro id hid
    simp [ids] at hid
    subst hid
    split at hs
    · rename_i cs hl; rw [hl]; rfl
    · cases hs
  · cases hs

theorem reach_alive {lk : Nat → Option Obj} : ∀ (n : Nat) (todo seen S : List Nat), reach lk n todo seen = some S → (∀ id ∈ seen, (lk id).isSome = true) → ∀ id ∈ S, (lk id).isSome = true
  | 0, [], seen, S, h, hs => by simp only [reach, Option.some.injEq] at h; subst h; exact hs
  | 0, _ :: _, seen, S, h, hs => by simp [reach] at h
  | n + 1, [], seen, S, h, hs => by simp only [reach, Option.some.injEq] at h; subst h; exact hs
  | n + 1, id :: todo, seen, S, h, hs => by
    simp only [reach] at h
    split at h
    · exact reach_alive n todo seen S h hs
    · split at h
      · rename_i o ho
        exact reach_alive n _ _ S h fun i hi => by
          rcases List.mem_append.1 hi with h' | h'
          · exact hs i h'
          · simp at h'; subst h'; rw [ho]; rfl
      · exact reach_alive n todo seen S h hs

theorem callO_step {c : Ctx} {dr : Bool} {h : Hp} {f : FuncId} {args : List LV} {r : Res} (hr : callO c dr h f args = some r) : HpStep c dr h r ∧ TchOk c dr h r := by
  unfold callO at hr
  split at hr
  · rename_i hdr
    split at hr
    case h_2 => cases hr
    rename_i S hS
    split at hr
    case isFalse => cases hr
    split at hr
    case h_2 => cases hr
    rename_i rv u n hcall
    obtain rfl := Option.some.inj hr
    refine ⟨.call _ f args rv u n hcall (fun id => ?_) (fun _ id hid => ?_) rfl rfl, fun _ id hid => reach_alive 1000 _ _ S hS (by simp) id hid⟩
    · by_cases hm : id ∈ S
      · exact .inr (by simp [hm])
      · exact .inl (by simp [hm])
    · by_cases hm : id ∈ S
      · exact hm
      · simp [hm] at hid
  · rename_i hdr
    split at hr
    case h_2 => cases hr
    rename_i rv u n hcall
    obtain rfl := Option.some.inj hr
    exact ⟨.call _ f args rv u n hcall (fun id => .inr rfl) (fun h => absurd h hdr) rfl rfl, fun h => absurd h hdr⟩

theorem appO_step {c : Ctx} {dr : Bool} {h : Hp} {sz bytes : Nat} {x y : LV} {r : Res} (hr : appO c h sz bytes x y = some r) : HpStep c dr h r ∧ TchOk c dr h r := by
  unfold appO at hr
  split at hr
  case h_1 => cases hr
  rename_i yc n hy
  have hyt := slCells_tch hy
  split at hr
  case isTrue => cases hr
  split at hr
  · split at hr
    all_goals first
      | (cases hr; done)
      | (obtain rfl := Option.some.inj hr; exact ⟨.same rfl, fun _ => hyt⟩)
  · split at hr
    · split at hr
      · obtain rfl := Option.some.inj hr; exact ⟨.push _ rfl, fun _ => hyt⟩
      · cases hr
    · split at hr
      · obtain rfl := Option.some.inj hr; exact ⟨.push _ rfl, fun _ => hyt⟩
      · cases hr
    · rename_i id off len s' cp ex
      split at hr
      case h_2 => cases hr
      rename_i cs hl
      have hal : (look c.H c.nx h id).isSome = true := by rw [hl]; rfl
      have hall : ∀ i ∈ id :: ids y, (look c.H c.nx h i).isSome = true := fun i hi => by
        rcases List.mem_cons.1 hi with rfl | hi
        · exact hal
        · exact hyt i hi
      split at hr
      · cases hr
      · split at hr
        · obtain rfl := Option.some.inj hr; exact ⟨.push _ rfl, fun _ => hall⟩
        · split at hr
          · obtain rfl := Option.some.inj hr; exact ⟨.kp id _ rfl hal (by simp) rfl, fun _ => hall⟩
          · split at hr
            · obtain rfl := Option.some.inj hr; exact ⟨.set id _ rfl hal (by simp) rfl, fun _ => hall⟩
            · cases hr
    · cases hr

theorem evOp_step {c : Ctx} {dr : Bool} {env : Env} {h : Hp} {op : IROp} {r : Res} (hr : evOp c dr env h op = some r) : HpStep c dr h r ∧ TchOk c dr h r := by
  have nt : ∀ {v : LV} {h' : Hp} {md : Bool}, TchOk c dr h ⟨v, h', [], md⟩ := fun {v h' md} _ id hid => by cases hid
  cases op
  case app sz b x y => exact appO_step hr
  case call f args => exact callO_step hr
  case callv x args =>
    simp only [evOp] at hr
    split at hr
    · exact callO_step hr
    · cases hr
  case load sz ag x =>
    simp only [evOp] at hr
    split at hr
    · split at hr
      · obtain rfl := Option.some.inj hr; exact ⟨.same rfl, nt⟩
      · cases hr
    · split at hr
      · rename_i cs hl
        split at hr
        · obtain rfl := Option.some.inj hr
          exact ⟨.same rfl, fun _ id hid => by simp at hid; subst hid; rw [hl]; rfl⟩
        · cases hr
      · cases hr
    · cases hr
  case store sz x y =>
    simp only [evOp] at hr
    split at hr
    · split at hr
      · rename_i cs hl
        split at hr
        · obtain rfl := Option.some.inj hr
          exact ⟨.set _ _ rfl (by rw [hl]; rfl) (by simp) rfl, fun _ id hid => by simp at hid; subst hid; rw [hl]; rfl⟩
        · cases hr
      · cases hr
    · cases hr
  case b2s x =>
    simp only [evOp] at hr
    split at hr
    · cases hr
    · split at hr
      · rename_i cs n hs
        split at hr
        · split at hr
          · obtain rfl := Option.some.inj hr
            exact ⟨.same rfl, fun _ => slCells_tch hs⟩
          · cases hr
        · cases hr
      · cases hr
  case copy sz x y =>
    simp only [evOp] at hr
    split at hr
    · split at hr
      · rename_i cs yc n hl hy
        split at hr
        · obtain rfl := Option.some.inj hr
          refine ⟨.set _ _ rfl (by rw [hl]; rfl) (by simp) rfl, fun _ id hid => ?_⟩
          rcases List.mem_cons.1 hid with rfl | hid
          · rw [hl]; rfl
          · exact slCells_tch hy id hid
        · cases hr
      · cases hr
    · cases hr
  case clr sz z x =>
    simp only [evOp] at hr
    split at hr
    · obtain rfl := Option.some.inj hr
      exact ⟨.same rfl, nt⟩
    · split at hr
      · obtain rfl := Option.some.inj hr
        exact ⟨.same rfl, nt⟩
      · split at hr
        · rename_i cs hl
          split at hr
          · obtain rfl := Option.some.inj hr
            exact ⟨.set _ _ rfl (by rw [hl]; rfl) (by simp) rfl, fun _ id hid => by simp at hid; subst hid; rw [hl]; rfl⟩
          · cases hr
        · cases hr
    · cases hr
  case slArr n sz x lo hi mx =>
    simp only [evOp] at hr
    split at hr
    · split at hr
      · rename_i cs hl
        split at hr
        · split at hr
          · obtain rfl := Option.some.inj hr
            exact ⟨.same rfl, fun _ id hid => by simp at hid; subst hid; rw [hl]; rfl⟩
          · cases hr
        · cases hr
      · cases hr
    · cases hr
  case nxt x =>
    simp only [evOp] at hr
    split at hr
    · split at hr
      · rename_i b q hl
        split at hr
        · obtain rfl := Option.some.inj hr
          exact ⟨.set _ _ rfl (by rw [hl]; rfl) (by simp) rfl, fun _ id hid => by simp at hid; subst hid; rw [hl]; rfl⟩
        · obtain rfl := Option.some.inj hr
          exact ⟨.same rfl, fun _ id hid => by simp at hid; subst hid; rw [hl]; rfl⟩
      · cases hr
    · cases hr
  all_goals
    simp only [evOp] at hr
    repeat' split at hr
    all_goals first
      | (cases hr; done)
      | (obtain rfl := Option.some.inj hr; exact ⟨.same rfl, nt⟩)
      | (obtain rfl := Option.some.inj hr; exact ⟨.push _ rfl, nt⟩)

theorem HpStep.len {c : Ctx} {dr : Bool} {h : Hp} {r : Res} (s : HpStep c dr h r) : h.new.length ≤ r.h.new.length := by
  cases s with
  | same h1 => rw [h1]; exact Nat.le_refl _
  | push o h1 => rw [h1]; simp [Sx.push]
  | set id x h1 => rw [h1, setObj_len]; exact Nat.le_refl _
  | kp id o h1 => rw [h1]; simp [Sx.push, setObj_len]
  | call H' f args rv u n hc hH hS h1 => rw [h1]; simp only [List.length_append, setAll_len]; omega

theorem HpStep.keys {P : Program} {c : Ctx} {dr : Bool} {h : Hp} {r : Res} (s : HpStep c dr h r) (hO : OSound P c.G c.O) (hk : Keys c.H h) : Keys c.H r.h := by
  cases s with
  | same h1 => rw [h1]; exact hk
  | push o h1 => rw [h1]; exact hk
  | set id x h1 hl => rw [h1]; exact keys_set hk hl
  | kp id o h1 hl => rw [h1]; exact keys_set (x := none) hk hl
  | call H' f args rv u n hc hH hS h1 =>
    rw [h1]
    refine keys_setAll hk u fun id o ho => ?_
    have := (hO _ _ _ _ _ _ _ hc).keys id o ho
    rcases hH id with h2 | h2
    · rw [h2] at this; cases this
    · rw [← h2]; exact this

theorem HpStep.frame {P : Program} {c : Ctx} {h : Hp} {r : Res} (s : HpStep c true h r) (hO : OSound P c.G c.O) {id : Nat} (hid : id < c.nx + h.new.length) (hn : ¬ (r.md = true ∧ id ∈ r.tch)) : look c.H c.nx r.h id = look c.H c.nx h id := by
  cases s with
  | same h1 => rw [h1]
  | push o h1 => rw [h1, look_push, if_neg (by omega)]
  | set i x h1 hl ht hm =>
    obtain ⟨o, ho⟩ := Option.isSome_iff_exists.1 hl
    rw [h1, look_set (look_some ho), if_neg (fun (e : id = i) => hn ⟨hm, e ▸ ht⟩)]
  | kp i o h1 hl ht hm =>
    obtain ⟨o', ho⟩ := Option.isSome_iff_exists.1 hl
    rw [h1, look_push, if_neg (by rw [setObj_len]; omega), look_set (look_some ho), if_neg (fun (e : id = i) => hn ⟨hm, e ▸ ht⟩)]
  | call H' f args rv u n hc hH hS h1 hm =>
    have hs := hO _ _ _ _ _ _ _ hc
    have hlt : ∀ i, (H' i).isSome = true → i < c.nx + h.new.length := fun i hi => by
      rcases hH i with h2 | h2
      · rw [h2] at hi; cases hi
      · rcases Nat.lt_or_ge i (c.nx + h.new.length) with h3 | h3
        · exact h3
        · rw [h2, look_new h3] at hi; cases hi
    rw [h1, look_call fun i o ho => hlt i (hs.keys i o ho)]
    conv => lhs; unfold look
    rw [if_pos hid]
    cases hf : findU u id with
    | none => rfl
    | some o => exact absurd ⟨hm, hS rfl id (hs.keys id o hf)⟩ hn

/-- An operation looks at its slots alone. -/
theorem opd_congr {c : Ctx} {e1 e2 : Env} {x : Opd} (h : ∀ t ∈ x.slots, get e1 t = get e2 t) : opd c e1 x = opd c e2 x := by
  cases x with
  | t s => exact h s (by simp [Opd.slots])
  | c v => rfl
  | g n => rfl

theorem opds_congr {c : Ctx} {e1 e2 : Env} {xs : List Opd} (h : ∀ t ∈ xs.flatMap Opd.slots, get e1 t = get e2 t) : xs.map (opd c e1) = xs.map (opd c e2) :=
  List.map_congr_left fun x hx => opd_congr fun t ht => h t (List.mem_flatMap.2 ⟨x, hx, ht⟩)

theorem optMap_congr {c : Ctx} {e1 e2 : Env} {x : Option Opd} (h : ∀ t ∈ oslots x, get e1 t = get e2 t) : optMap (opd c e1) x = optMap (opd c e2) x := by
  cases x with
  | none => rfl
  | some x => simp only [optMap, opd_congr (c := c) (x := x) h]

theorem parts_congr {c : Ctx} {e1 e2 : Env} {ps : List (Nat × Nat × Opd)} (h : ∀ t ∈ ps.flatMap (fun (_, _, x) => x.slots), get e1 t = get e2 t) :
    (ps.map fun (o, s, x) => (o, s, opd c e1 x)) = ps.map fun (o, s, x) => (o, s, opd c e2 x) :=
  List.map_congr_left fun ⟨o, s, x⟩ hx => by
    simp only [opd_congr (c := c) (x := x) fun t ht => h t (List.mem_flatMap.2 ⟨(o, s, x), hx, ht⟩)]

theorem evOp_congr {c : Ctx} {dr : Bool} {e1 e2 : Env} {h : Hp} {op : IROp} (he : ∀ t ∈ op.slots, get e1 t = get e2 t) : evOp c dr e1 h op = evOp c dr e2 h op := by
  have s1 : ∀ x : Opd, (∀ t ∈ x.slots, t ∈ op.slots) → opd c e1 x = opd c e2 x := fun x hx => opd_congr fun t ht => he t (hx t ht)
  have s2 : ∀ x : Option Opd, (∀ t ∈ oslots x, t ∈ op.slots) → optMap (opd c e1) x = optMap (opd c e2) x := fun x hx => optMap_congr fun t ht => he t (hx t ht)
  have s3 : ∀ xs : List Opd, (∀ t ∈ xs.flatMap Opd.slots, t ∈ op.slots) → xs.map (opd c e1) = xs.map (opd c e2) := fun xs hx => opds_congr fun t ht => he t (hx t ht)
  have s4 : ∀ ps : List (Nat × Nat × Opd), (∀ t ∈ ps.flatMap (fun (_, _, x) => x.slots), t ∈ op.slots) → (ps.map fun (o, s, x) => (o, s, opd c e1 x)) = ps.map fun (o, s, x) => (o, s, opd c e2 x) := fun ps hx => parts_congr fun t ht => he t (hx t ht)
  cases op
  case mv x => simp only [evOp, s1 x (fun t h => by simpa [IROp.slots] using h)]
  case pick a b d => simp only [evOp, s1 a (fun t h => by simp [IROp.slots, h]), s1 b (fun t h => by simp [IROp.slots, h]), s1 d (fun t h => by simp [IROp.slots, h])]
  case build z ps => simp only [evOp, s4 ps (fun t h => by simpa [IROp.slots] using h)]
  case mkSl n s z ps => simp only [evOp, s4 ps (fun t h => by simpa [IROp.slots] using h)]
  case store s x y => simp only [evOp, s1 x (fun t h => by simp [IROp.slots, h]), s1 y (fun t h => by simp [IROp.slots, h])]
  case bin b x y => simp only [evOp, s1 x (fun t h => by simp [IROp.slots, h]), s1 y (fun t h => by simp [IROp.slots, h])]
  case eq n k x y => simp only [evOp, s1 x (fun t h => by simp [IROp.slots, h]), s1 y (fun t h => by simp [IROp.slots, h])]
  case idxASl s x y => simp only [evOp, s1 x (fun t h => by simp [IROp.slots, h]), s1 y (fun t h => by simp [IROp.slots, h])]
  case idxAArr n s x y => simp only [evOp, s1 x (fun t h => by simp [IROp.slots, h]), s1 y (fun t h => by simp [IROp.slots, h])]
  case idxStr x y => simp only [evOp, s1 x (fun t h => by simp [IROp.slots, h]), s1 y (fun t h => by simp [IROp.slots, h])]
  case idxArr n s g x y => simp only [evOp, s1 x (fun t h => by simp [IROp.slots, h]), s1 y (fun t h => by simp [IROp.slots, h])]
  case app s b x y => simp only [evOp, s1 x (fun t h => by simp [IROp.slots, h]), s1 y (fun t h => by simp [IROp.slots, h])]
  case copy s x y => simp only [evOp, s1 x (fun t h => by simp [IROp.slots, h]), s1 y (fun t h => by simp [IROp.slots, h])]
  case mkSlice s b z x y => simp only [evOp, s1 x (fun t h => by simp [IROp.slots, h]), s1 y (fun t h => by simp [IROp.slots, h])]
  case slStr x a b => simp only [evOp, s1 x (fun t h => by simp [IROp.slots, h]), s2 a (fun t h => by simp [IROp.slots, h]), s2 b (fun t h => by simp [IROp.slots, h])]
  case slSl s x a b d => simp only [evOp, s1 x (fun t h => by simp [IROp.slots, h]), s2 a (fun t h => by simp [IROp.slots, h]), s2 b (fun t h => by simp [IROp.slots, h]), s2 d (fun t h => by simp [IROp.slots, h])]
  case slArr n s x a b d => simp only [evOp, s1 x (fun t h => by simp [IROp.slots, h]), s2 a (fun t h => by simp [IROp.slots, h]), s2 b (fun t h => by simp [IROp.slots, h]), s2 d (fun t h => by simp [IROp.slots, h])]
  case minmax m xs => simp only [evOp, s3 xs (fun t h => by simpa [IROp.slots] using h)]
  case call f xs => simp only [evOp, s3 xs (fun t h => by simpa [IROp.slots] using h)]
  case callv x xs => simp only [evOp, s1 x (fun t h => by simp [IROp.slots, h]), s3 xs (fun t h => by simp only [IROp.slots, List.mem_append]; exact .inr h)]
  case mkFn f a b => simp only [evOp, s3 a (fun t h => by simp only [IROp.slots, List.mem_append]; exact .inl h), s3 b (fun t h => by simp only [IROp.slots, List.mem_append]; exact .inr h)]
  case clr s z x => simp only [evOp, s1 x (fun t h => by simpa [IROp.slots] using h)]
  case ext x i => simp only [evOp, s1 x (fun t h => by simpa [IROp.slots] using h)]
  case alloc => rfl
  case bad => rfl
  all_goals
    rename_i x
    first
      | simp only [evOp, s1 x (fun t h => by simpa [IROp.slots] using h)]
      | skip

end Go.Sx
