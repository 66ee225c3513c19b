/- Calls. -/
import Derived.Test.YtkdimbcfacoboaaGreatDoorSxI
namespace Go.Sx
open Go

/-- What package-level variables hold that nobody writes. -/
def GOK (G : Nat → Option (List PV)) (I : Nat → Prop) (w : World) : Prop := ∀ n cs, G n = some cs → PR I w (.imm cs 0) (.pointer (some ⟨n, 0, none⟩))

/-- A call does what an answer of the value machine says. -/
structure Sim (P : Program) (G : Nat → Option (List PV)) (f : FuncId) (args : List LV) (H : Heap) (nx : Nat) (r : LV) (u : Upd) (n : List (Option Obj)) : Prop where
  keys : ∀ id o, findU u id = some o → (H id).isSome = true
  body : ∃ fn, P.funcs[f]? = some fn ∧ fn.body.isSome = true ∧ fn.name ≠ "runtime.NumGoroutine"
  call : ∀ (I : Nat → Prop) (μ : Mu) (w : World) (vs : Array Value), HR I μ w (fun _ => True) H → (∀ id o, H id = some o → id < nx) → (∀ id, nx ≤ id → μ id = none) → GOK G I w →
    vs.size = args.length → (∀ (j : Nat) (l : LV) (v : Value), args[j]? = some l → vs[j]? = some v → VR I μ w l v) →
    Calls P f vs w (fun e w' => ∃ v I' μ', e = .returned v ∧ Goes I I' μ μ' w w' H (look H nx ⟨u, n⟩) (fun _ => True) (fun id => nx ≤ id ∧ id < nx + n.length) ∧ VR I' μ' w' r v)

def OSound (P : Program) (G : Nat → Option (List PV)) (O : Oracle) : Prop := ∀ f args H nx r u n, O f args H nx = some (r, u, n) → Sim P G f args H nx r u n

theorem setAll_len {nx : Nat} {h : Hp} : ∀ (u : Upd), (setAll nx h u).new.length = h.new.length
  | [] => rfl
  | (id, o) :: r => by rw [setAll, setObj_len, setAll_len r]

theorem look_setAll {H : Heap} {nx : Nat} {h : Hp} : ∀ (u : Upd), (∀ id o, findU u id = some o → id < nx + h.new.length) → ∀ j, look H nx (setAll nx h u) j = match findU u j with
    | some o => o
    | none => look H nx h j
  | [], _, j => rfl
  | (id, o) :: r, hu, j => by
    have hr : ∀ i p, findU r i = some p → i < nx + h.new.length := fun i p hi => by
      by_cases e : i = id
      · exact hu i o (by simp [findU, e])
      · exact hu i p (by simp only [findU]; rw [if_neg e]; exact hi)
    have hid := hu id o (by simp [findU])
    rw [setAll, look_set (by rw [setAll_len]; omega), look_setAll r hr]
    simp only [findU]
    by_cases e : j = id
    · rw [if_pos e, if_pos e]
    · rw [if_neg e, if_neg e]

theorem look_call {H : Heap} {nx : Nat} {h : Hp} {u : Upd} {n : List (Option Obj)} (hu : ∀ id o, findU u id = some o → id < nx + h.new.length) (j : Nat) :
    look H nx { setAll nx h u with new := (setAll nx h u).new ++ n } j = look (look H nx h) (nx + h.new.length) ⟨u, n⟩ j := by
  have h1 := look_setAll (H := H) u hu j
  by_cases hj : j < nx + h.new.length
  · have e1 : look H nx { setAll nx h u with new := (setAll nx h u).new ++ n } j = look H nx (setAll nx h u) j := by
      unfold look
      by_cases h2 : j < nx
      · rw [if_pos h2, if_pos h2]
      · rw [if_neg h2, if_neg h2]
        simp only []
        rw [List.getElem?_append_left (by rw [setAll_len]; omega)]
    rw [e1, h1]
    conv => rhs; unfold look
    rw [if_pos hj]
    rfl
  · unfold look
    rw [if_neg (by omega), if_neg hj]
    simp only []
    rw [List.getElem?_append_right (by rw [setAll_len]; omega), setAll_len, show j - nx - h.new.length = j - (nx + h.new.length) by omega]

def cutMu (μ : Mu) (n : Nat) : Mu := fun id => if id < n then μ id else none

theorem VR.cut {I : Nat → Prop} {μ : Mu} {w : World} {n : Nat} {l : LV} {v : Value} (h : VR I μ w l v) : (∀ id ∈ ids l, id < n) → VR I (cutMu μ n) w l v := by
  have hidsL : ∀ (cs : List LV) (j : Nat) (l : LV), cs[j]? = some l → ∀ id ∈ ids l, id ∈ ids.idsL cs := by
    intro cs
    induction cs with
    | nil => intro j l hj; simp at hj
    | cons x r ih =>
      intro j l hj id hid
      simp only [ids.idsL, List.mem_append]
      cases j with
      | zero => simp at hj; subst hj; exact .inl hid
      | succ j => exact .inr (ih j l (by simpa using hj) id hid)
  induction h with
  | junk v => exact fun _ => .junk v
  | p h => exact fun _ => .p h
  | ref id off b o s h => exact fun hid => .ref id off b o s (by simp [cutMu, hid id (by simp [ids]), h])
  | arr id off len sz cp ex b o s o' cap h ho hlen hcp hf hs => exact fun hid => .arr id off len sz cp ex b o s o' cap (by simp [cutMu, hid id (by simp [ids]), h]) ho hlen hcp hf hs
  | agg cs a hl h1 _ ih => exact fun hid => .agg cs a hl h1 fun j l u hj hu => ih j l u hj hu fun id h => hid id (by simp only [ids]; exact hidsL cs j l hj id h)
  | tuple cs a hl _ ih => exact fun hid => .tuple cs a hl fun j l u hj hu => ih j l u hj hu fun id h => hid id (by simp only [ids]; exact hidsL cs j l hj id h)
  | fn f fs cs fa ca hl hl' _ _ ih ih' =>
    exact fun hid => .fn f fs cs fa ca hl hl' (fun j l u hj hu => ih j l u hj hu fun id h => hid id (by simp only [ids, List.mem_append]; exact .inl (hidsL fs j l hj id h)))
      (fun j l u hj hu => ih' j l u hj hu fun id h => hid id (by simp only [ids, List.mem_append]; exact .inr (hidsL cs j l hj id h)))

theorem mem_idsL {cs : List LV} {j : Nat} {l : LV} (hj : cs[j]? = some l) : ∀ id ∈ ids l, id ∈ ids.idsL cs := by
  induction cs generalizing j with
  | nil => simp at hj
  | cons x r ih =>
    intro id hid
    simp only [ids.idsL, List.mem_append]
    cases j with
    | zero => simp at hj; subst hj; exact .inl hid
    | succ j => exact .inr (ih (j := j) (by simpa using hj) id hid)

/-- From what a callee did to what its caller sees. -/
theorem call_goes {I I' : Nat → Prop} {μ μ' : Mu} {w w' : World} {c : Ctx} {h : Hp} {H' : Heap} {u : Upd} {n : List (Option Obj)} {T : Nat → Prop}
    (hT : ∀ id, T id → H' id = look c.H c.nx h id) (hT' : ∀ id, ¬ T id → H' id = none) (hk : ∀ id o, findU u id = some o → (H' id).isSome = true)
    (hμ : ∀ id, c.nx + h.new.length ≤ id → id < c.nx + h.new.length + n.length → μ id = none)
    (g : Goes I I' (cutMu μ (c.nx + h.new.length)) μ' w w' H' (look H' (c.nx + h.new.length) ⟨u, n⟩) (fun _ => True) (fun id => c.nx + h.new.length ≤ id ∧ id < c.nx + h.new.length + n.length)) :
    ∃ μ'', Goes I I' μ μ'' w w' (look c.H c.nx h) (look c.H c.nx { setAll c.nx h u with new := (setAll c.nx h u).new ++ n }) T (newN c h { setAll c.nx h u with new := (setAll c.nx h u).new ++ n }) ∧
      ∀ l v, VR I' μ' w' l v → VR I' μ'' w' l v := by
  obtain ⟨n0, hn0⟩ : ∃ n0, n0 = c.nx + h.new.length := ⟨_, rfl⟩
  have hlive : ∀ id o, H' id = some o → T id ∧ look c.H c.nx h id = some o := fun id o ho => by
    by_cases ht : T id
    · exact ⟨ht, by rw [← hT id ht]; exact ho⟩
    · rw [hT' id ht] at ho; cases ho
  have hlt : ∀ id o, H' id = some o → id < n0 := fun id o ho => by
    rcases Nat.lt_or_ge id n0 with h1 | h1
    · exact h1
    · have := (hlive id o ho).2; rw [look_new (by omega)] at this; cases this
  have hu : ∀ id o, findU u id = some o → id < c.nx + h.new.length := fun id o ho => by
    obtain ⟨x, hx⟩ := Option.isSome_iff_exists.1 (hk id o ho)
    rw [← hn0]; exact hlt id x hx
  rw [← hn0] at g hμ
  have hlook : ∀ j, look c.H c.nx { setAll c.nx h u with new := (setAll c.nx h u).new ++ n } j = look (look c.H c.nx h) n0 ⟨u, n⟩ j := fun j => by rw [hn0]; exact look_call hu j
  have hN : ∀ id, newN c h { setAll c.nx h u with new := (setAll c.nx h u).new ++ n } id ↔ (n0 ≤ id ∧ id < n0 + n.length) := fun id => by
    simp only [newN, List.length_append, setAll_len]; omega
  -- what both see
  have hsame : ∀ j, (T j ∨ n0 ≤ j) → look (look c.H c.nx h) n0 ⟨u, n⟩ j = look H' n0 ⟨u, n⟩ j := fun j hj => by
    unfold look
    by_cases h1 : j < n0
    · rw [if_pos h1, if_pos h1]
      have := hT j (hj.resolve_right (by omega))
      rw [this]; rfl
    · rw [if_neg h1, if_neg h1]
  have hoff : ∀ j, ¬ T j → j < n0 → look (look c.H c.nx h) n0 ⟨u, n⟩ j = look c.H c.nx h j := fun j hj h1 => by
    conv => lhs; unfold look
    rw [if_pos h1]
    cases hf : findU u j with
    | none => rfl
    | some o =>
      have := hk j o hf
      rw [hT' j hj] at this
      cases this
  have hmu' : ∀ id, n0 + n.length ≤ id → μ' id = none := fun id hid => by
    rw [g.mu id (by omega)]; simp only [cutMu]; rw [if_neg (by omega)]
  have hmu0 : ∀ id, id < n0 → μ' id = μ id := fun id hid => by
    rw [g.mu id (by omega)]; simp only [cutMu]; rw [if_pos hid]
  have hsub : ∀ id x, μ' id = some x → (if id < n0 + n.length then μ' id else μ id) = some x := fun id x hx => by
    rcases Nat.lt_or_ge id (n0 + n.length) with h1 | h1
    · rw [if_pos h1]; exact hx
    · rw [hmu' id h1] at hx; cases hx
  have hown : ∀ b, Own (cutMu μ n0) (fun _ => True) H' b → Own μ T (look c.H c.nx h) b := fun b ⟨id, o, _, ho, hb⟩ => by
    obtain ⟨h1, h2⟩ := hlive id o ho
    refine ⟨id, o, h1, h2, ?_⟩
    simp only [blk, cutMu, if_pos (hlt id o ho)] at hb
    exact hb
  have hblk : ∀ id, id < n0 + n.length → blk (fun id => if id < n0 + n.length then μ' id else μ id) id = blk μ' id := fun id hid => by simp [blk, hid]
  have hTlt : ∀ id o, (T id ∨ (n0 ≤ id ∧ id < n0 + n.length)) → look H' n0 ⟨u, n⟩ id = some o → id < n0 + n.length := fun id o _ ho => by
    rcases look_some ho with h1 | h1
    · omega
    · simp only [] at h1; omega
  refine ⟨fun id => if id < n0 + n.length then μ' id else μ id, Goes.congrN ⟨fun id hn => ?_, fun id hn => hμ id hn.1 hn.2, g.up, fun b hb => (g.back b hb).imp (fun h => h) (Or.imp (fun h => h) (hown b)), g.stp.mono hown, ?_,
    fun id b hn he hb => ?_, fun id ht hn => ?_, fun id hn hl => ?_⟩ hN, fun l v hv => hv.mono (fun _ h => h) hsub fun _ _ => rfl⟩
  · rcases Nat.lt_or_ge id (n0 + n.length) with h1 | h1
    · rw [if_pos h1]; exact hmu0 id (by omega)
    · rw [if_neg (by omega)]
  · have hlk : ∀ id, (T id ∨ (n0 ≤ id ∧ id < n0 + n.length)) → look c.H c.nx { setAll c.nx h u with new := (setAll c.nx h u).new ++ n } id = look H' n0 ⟨u, n⟩ id := fun id hd => by
      rw [hlook, hsame id (hd.imp (fun h => h) (fun h => h.1))]
    refine ⟨fun id o hd ho => ?_, fun id id' o o' hd hd' ho ho' hne => ?_, fun id o b hd ho hb => ?_, g.hr.lt⟩
    · rw [hlk id hd] at ho
      exact (g.hr.obj id o (.inl trivial) ho).mono (fun _ h => h) hsub (fun _ _ => rfl) (fun _ _ => rfl)
    · rw [hlk id hd] at ho
      rw [hlk id' hd'] at ho'
      rw [hblk id (hTlt id o hd ho), hblk id' (hTlt id' o' hd' ho')]
      exact g.hr.inj id id' o o' (.inl trivial) (.inl trivial) ho ho' hne
    · rw [hlk id hd] at ho
      rw [hblk id (hTlt id o hd ho)]
      exact g.hr.imm id o b (.inl trivial) ho hb
  · rw [hblk id hn.2] at hb
    obtain ⟨o, ho⟩ := he
    rw [hlook, hsame id (.inr hn.1)] at ho
    exact (g.new id b hn ⟨o, ho⟩ hb).imp (fun h => h) (hown b)
  · rw [hlook]
    rcases Nat.lt_or_ge id n0 with h1 | h1
    · exact hoff id ht h1
    · rw [look_new (show c.nx + h.new.length ≤ id by omega)]
      exact look_new (show n0 + n.length ≤ id by omega)
  · rw [hlook]
    rcases Nat.lt_or_ge id n0 with h1 | h1
    · by_cases ht : T id
      · rw [hsame id (.inl ht)]
        exact g.alive id (by omega) (by rw [hT id ht]; exact hl)
      · rw [hoff id ht h1]; exact hl
    · exact look_new (show n0 + n.length ≤ id by omega)

/-- A call of the value machine's. -/
theorem callO_sound {P : Program} {I : Nat → Prop} {μ : Mu} {w : World} {c : Ctx} {dr : Bool} {h : Hp} {r : Res} {f : FuncId} {args : List LV} {vs : Array Value} (hO : OSound P c.G c.O) (hr : callO c dr h f args = some r)
    (hH : HR I μ w (fun id => dr = false ∨ id ∈ r.tch) (look c.H c.nx h)) (hμ : ∀ id, c.nx + h.new.length ≤ id → (dr = false ∨ id < c.nx + r.h.new.length) → μ id = none) (hG : GOK c.G I w)
    (hl : vs.size = args.length) (hv : ∀ (j : Nat) (l : LV) (v : Value), args[j]? = some l → vs[j]? = some v → VR I μ w l v) :
    Calls P f vs w (fun e w' => ∃ v I' μ', e = .returned v ∧ Goes I I' μ μ' w w' (look c.H c.nx h) (look c.H c.nx r.h) (fun id => dr = false ∨ id ∈ r.tch) (newN c h r.h) ∧ VR I' μ' w' r.v v) := by
  unfold callO at hr
  have hmono : ∀ n, ∀ id x, cutMu μ n id = some x → μ id = some x := fun n id x hx => by
    simp only [cutMu] at hx
    split at hx
    · exact hx
    · cases hx
  split at hr
  · rename_i hdr
    split at hr
    case h_2 => cases hr
    rename_i S hS
    split at hr
    case isFalse => cases hr
    rename_i hall
    split at hr
    case h_2 => cases hr
    rename_i rv u n hcall
    obtain rfl := Option.some.inj hr
    have hs := hO _ _ _ _ _ _ _ hcall
    rw [List.all_append, Bool.and_eq_true] at hall
    have hargs : ∀ id ∈ ids.idsL args, id < c.nx + h.new.length := fun id hid => by
      have := List.all_eq_true.1 hall.1 id hid; simpa using this
    have hobjs : ∀ id ∈ S, ∀ o, look c.H c.nx h id = some o → ∀ i ∈ o.ids, i < c.nx + h.new.length := fun id hid o ho i hi => by
      have := List.all_eq_true.1 hall.2 i (List.mem_flatMap.2 ⟨id, hid, by rw [ho]; exact hi⟩); simpa using this
    have hHS : HR I (cutMu μ (c.nx + h.new.length)) w (fun _ => True) (fun id => if S.contains id then look c.H c.nx h id else none) := by
      have hin : ∀ id o, (if S.contains id then look c.H c.nx h id else none) = some o → id ∈ S ∧ look c.H c.nx h id = some o ∧ id < c.nx + h.new.length := fun id o ho => by
        split at ho
        · rename_i hc
          refine ⟨by simpa using hc, ho, ?_⟩
          rcases Nat.lt_or_ge id (c.nx + h.new.length) with h1 | h1
          · exact h1
          · rw [look_new h1] at ho; cases ho
        · cases ho
      have hb : ∀ id, id < c.nx + h.new.length → blk (cutMu μ (c.nx + h.new.length)) id = blk μ id := fun id hid => by simp [blk, cutMu, hid]
      refine ⟨fun id o _ ho => ?_, fun id id' o o' _ _ ho ho' hne => ?_, fun id o b _ ho hb' => ?_, hH.lt⟩
      · obtain ⟨h1, h2, h3⟩ := hin id o ho
        have hor := hH.obj id o (.inr h1) h2
        cases o with
        | cells cs =>
          obtain ⟨b, o, s, e, hm, hsh, hle, hf, hc⟩ := hor
          refine ⟨b, o, s, e, by simp only [cutMu]; rw [if_pos h3]; exact hm, hsh, hle, hf, fun j l hj => ?_⟩
          obtain ⟨u, g1, g2, g3⟩ := hc j l hj
          exact ⟨u, g1, g2, g3.cut fun i hi => hobjs id h1 _ h2 i (mem_idsL hj i hi)⟩
        | iter s q =>
          obtain ⟨b, hm, hb⟩ := hor
          exact ⟨b, by simp only [cutMu]; rw [if_pos h3]; exact hm, hb⟩
      · obtain ⟨h1, h2, h3⟩ := hin id o ho
        obtain ⟨h1', h2', h3'⟩ := hin id' o' ho'
        rw [hb id h3, hb id' h3']
        exact hH.inj id id' o o' (.inr h1) (.inr h1') h2 h2' hne
      · obtain ⟨h1, h2, h3⟩ := hin id o ho
        rw [hb id h3]
        exact hH.imm id o b (.inr h1) h2 hb'
    refine (hs.call I (cutMu μ (c.nx + h.new.length)) w vs hHS (fun id o ho => ?_) (fun id hid => by simp only [cutMu]; rw [if_neg (by omega)]) hG hl fun j l v hj hv' => (hv j l v hj hv').cut fun i hi => hargs i (mem_idsL hj i hi)).mono ?_
    · split at ho
      · rcases Nat.lt_or_ge id (c.nx + h.new.length) with h1 | h1
        · exact h1
        · rw [look_new h1] at ho; cases ho
      · cases ho
    · rintro e w' ⟨v, I', μ', rfl, hg, hvr⟩
      obtain ⟨μ'', g1, g2⟩ := call_goes (T := fun id => dr = false ∨ id ∈ S) (c := c) (h := h) (fun id ht => by
          have hm : id ∈ S := by simpa [hdr] using ht
          simp [hm]) (fun id ht => by
          have hm : ¬ id ∈ S := by simpa [hdr] using ht
          simp [hm]) hs.keys (fun id h1 h2 => hμ id h1 (.inr (by simp only [List.length_append, setAll_len]; omega))) hg
      exact ⟨v, I', μ'', rfl, g1, g2 _ _ hvr⟩
  · rename_i hdr
    have hdr' : dr = false := by simpa using hdr
    split at hr
    case h_2 => cases hr
    rename_i rv u n hcall
    obtain rfl := Option.some.inj hr
    have hs := hO _ _ _ _ _ _ _ hcall
    have hmu : cutMu μ (c.nx + h.new.length) = μ := funext fun id => by
      simp only [cutMu]
      split
      · rfl
      · exact (hμ id (by omega) (.inl hdr')).symm
    have hHS : HR I μ w (fun _ => True) (look c.H c.nx h) := hH.sub fun id _ => ⟨.inl hdr', rfl⟩
    refine (hs.call I μ w vs hHS (fun id o ho => ?_) (fun id hid => hμ id hid (.inl hdr')) hG hl hv).mono ?_
    · rcases Nat.lt_or_ge id (c.nx + h.new.length) with h1 | h1
      · exact h1
      · rw [look_new h1] at ho; cases ho
    · rintro e w' ⟨v, I', μ', rfl, hg, hvr⟩
      obtain ⟨μ'', g1, g2⟩ := call_goes (T := fun id => dr = false ∨ id ∈ ([] : List Nat)) (c := c) (h := h) (H' := look c.H c.nx h) (fun id _ => rfl) (fun id ht => absurd (.inl hdr') ht) hs.keys
        (fun id h1 _ => hμ id h1 (.inl hdr')) (by rw [hmu]; exact hg)
      exact ⟨v, I', μ'', rfl, g1, g2 _ _ hvr⟩

end Go.Sx
