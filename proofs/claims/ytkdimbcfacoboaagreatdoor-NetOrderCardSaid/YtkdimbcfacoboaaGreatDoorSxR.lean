/- What a call leaves. -/
import Derived.Test.YtkdimbcfacoboaaGreatDoorSxQ
namespace Go.Sx
open Go

theorem VR.agree {I : Nat → Prop} {μ μ2 : Mu} {w : World} {l : LV} {v : Value} (h : VR I μ w l v) : (∀ id ∈ ids l, μ2 id = μ id) → VR I μ2 w l v := by
  induction h with
  | junk v => exact fun _ => .junk v
  | p h => exact fun _ => .p h
  | ref id off b o s h => exact fun hid => .ref id off b o s (by rw [hid id (by simp [ids]), h])
  | arr id off len sz cp ex b o s o' cap h ho hlen hcp hf hs => exact fun hid => .arr id off len sz cp ex b o s o' cap (by rw [hid id (by simp [ids]), h]) ho hlen hcp hf hs
  | agg cs a hl h1 _ ih => exact fun hid => .agg cs a hl h1 fun j l u hj hu => ih j l u hj hu fun id h => hid id (by simp only [ids]; exact mem_idsL hj id h)
  | tuple cs a hl _ ih => exact fun hid => .tuple cs a hl fun j l u hj hu => ih j l u hj hu fun id h => hid id (by simp only [ids]; exact mem_idsL hj id h)
  | fn f fs cs fa ca hl hl' _ _ ih ih' =>
    exact fun hid => .fn f fs cs fa ca hl hl' (fun j l u hj hu => ih j l u hj hu fun id h => hid id (by simp only [ids, List.mem_append]; exact .inl (mem_idsL hj id h)))
      (fun j l u hj hu => ih' j l u hj hu fun id h => hid id (by simp only [ids, List.mem_append]; exact .inr (mem_idsL hj id h)))

theorem idsL_mem : ∀ {cs : List LV} {id : Nat}, id ∈ ids.idsL cs → ∃ (j : Nat) (l : LV), cs[j]? = some l ∧ id ∈ ids l
  | [], id, h => by simp [ids.idsL] at h
  | x :: r, id, h => by
    simp only [ids.idsL, List.mem_append] at h
    rcases h with h | h
    · exact ⟨0, x, rfl, h⟩
    · obtain ⟨j, l, h1, h2⟩ := idsL_mem h
      exact ⟨j + 1, l, h1, h2⟩

/-- What stands for something, is somewhere. -/
theorem VR.mapped {I : Nat → Prop} {μ : Mu} {w : World} {l : LV} {v : Value} (h : VR I μ w l v) : ∀ id ∈ ids l, (μ id).isSome = true := by
  induction h with
  | junk v => intro id hid; simp [ids] at hid
  | p h => intro id hid; simp [ids] at hid
  | ref id off b o s h => intro i hid; simp [ids] at hid; subst hid; rw [h]; rfl
  | arr id off len sz cp ex b o s o' cap h ho hlen hcp hf hs => intro i hid; simp [ids] at hid; subst hid; rw [h]; rfl
  | agg cs a hl h1 _ ih =>
    intro id hid
    simp only [ids] at hid
    obtain ⟨j, l, hj, hl'⟩ := idsL_mem hid
    have hlt : j < a.size := by rw [hl]; exact (List.getElem?_eq_some_iff.1 hj).1
    exact ih j l a[j] hj (by simp [hlt]) id hl'
  | tuple cs a hl _ ih =>
    intro id hid
    simp only [ids] at hid
    obtain ⟨j, l, hj, hl'⟩ := idsL_mem hid
    have hlt : j < a.size := by rw [hl]; exact (List.getElem?_eq_some_iff.1 hj).1
    exact ih j l a[j] hj (by simp [hlt]) id hl'
  | fn f fs cs fa ca hl hl' _ _ ih ih' =>
    intro id hid
    simp only [ids, List.mem_append] at hid
    rcases hid with hid | hid
    · obtain ⟨j, l, hj, hm⟩ := idsL_mem hid
      have hlt : j < fa.size := by rw [hl]; exact (List.getElem?_eq_some_iff.1 hj).1
      exact ih j l fa[j] hj (by simp [hlt]) id hm
    · obtain ⟨j, l, hj, hm⟩ := idsL_mem hid
      have hlt : j < ca.size := by rw [hl']; exact (List.getElem?_eq_some_iff.1 hj).1
      exact ih' j l ca[j] hj (by simp [hlt]) id hm

section rename
variable {I : Nat → Prop} {μ : Mu} {w : World} {nx : Nat} {seen : List Nat}

/-- The new names. -/
def renMu (μ : Mu) (nx : Nat) (seen : List Nat) : Mu := fun id => if id < nx then μ id else match seen[id - nx]? with
  | some j => μ j
  | none => none

theorem renId_mu {id j : Nat} (h : renId nx seen id = some j) : renMu μ nx seen j = μ id := by
  unfold renId at h
  split at h
  · rename_i hlt
    obtain rfl := Option.some.inj h
    simp [renMu, hlt]
  · split at h
    · rename_i k hk
      obtain rfl := Option.some.inj h
      have hget : seen[k]? = some id := by
        obtain ⟨hlt, he, _⟩ := List.idxOf?_eq_some_iff.1 hk
        rw [List.getElem?_eq_getElem hlt]
        simpa using he
      simp [renMu, show ¬ (nx + k < nx) by omega, hget]
    · cases h

theorem ren_go : ∀ {cs cs' : List LV}, ren.go nx seen cs = some cs' → cs'.length = cs.length ∧ ∀ (j : Nat) l', cs'[j]? = some l' → ∃ l, cs[j]? = some l ∧ ren nx seen l = some l'
  | [], cs', h => by simp only [ren.go, Option.some.injEq] at h; subst h; exact ⟨rfl, by simp⟩
  | x :: r, cs', h => by
    simp only [ren.go] at h
    split at h
    · rename_i y l h1 h2
      obtain rfl := Option.some.inj h
      obtain ⟨g1, g2⟩ := ren_go h2
      refine ⟨by simp [g1], fun j l' hj => ?_⟩
      cases j with
      | zero => simp at hj; subst hj; exact ⟨x, rfl, h1⟩
      | succ j => exact g2 j l' hj
    · cases h

theorem VR.ren {l : LV} {v : Value} (h : VR I μ w l v) : ∀ {l' : LV}, Sx.ren nx seen l = some l' → VR I (renMu μ nx seen) w l' v := by
  induction h with
  | junk v => intro l' h; simp only [Sx.ren, Option.some.injEq] at h; subst h; exact .junk v
  | p h => intro l' h'; simp only [Sx.ren, Option.some.injEq] at h'; subst h'; exact .p h
  | ref id off b o s h =>
    intro l' h'
    simp only [Sx.ren] at h'
    split at h'
    · rename_i j hj
      obtain rfl := Option.some.inj h'
      exact .ref j off b o s (by rw [renId_mu hj, h])
    · cases h'
  | arr id off len sz cp ex b o s o' cap h ho hlen hcp hf hs =>
    intro l' h'
    simp only [Sx.ren] at h'
    split at h'
    · rename_i j hj
      obtain rfl := Option.some.inj h'
      exact .arr j off len sz cp ex b o s o' cap (by rw [renId_mu hj, h]) ho hlen hcp hf hs
    · cases h'
  | agg cs a hl h1 _ ih =>
    intro l' h'
    simp only [Sx.ren] at h'
    split at h'
    · rename_i cs' hcs
      obtain rfl := Option.some.inj h'
      obtain ⟨g1, g2⟩ := ren_go hcs
      refine .agg cs' a (by rw [g1]; exact hl) h1 fun j l u hj hu => ?_
      obtain ⟨l0, hl0, hr⟩ := g2 j l hj
      exact ih j l0 u hl0 hu hr
    · cases h'
  | tuple cs a hl _ ih =>
    intro l' h'
    simp only [Sx.ren] at h'
    split at h'
    · rename_i cs' hcs
      obtain rfl := Option.some.inj h'
      obtain ⟨g1, g2⟩ := ren_go hcs
      refine .tuple cs' a (by rw [g1]; exact hl) fun j l u hj hu => ?_
      obtain ⟨l0, hl0, hr⟩ := g2 j l hj
      exact ih j l0 u hl0 hu hr
    · cases h'
  | fn f fs cs fa ca hl hl' _ _ ih ih' =>
    intro l' h'
    simp only [Sx.ren] at h'
    split at h'
    · rename_i x y hx hy
      obtain rfl := Option.some.inj h'
      obtain ⟨g1, g2⟩ := ren_go hx
      obtain ⟨g3, g4⟩ := ren_go hy
      refine .fn f x y fa ca (by rw [g1]; exact hl) (by rw [g3]; exact hl') (fun j l u hj hu => ?_) fun j l u hj hu => ?_
      · obtain ⟨l0, hl0, hr⟩ := g2 j l hj
        exact ih j l0 u hl0 hu hr
      · obtain ⟨l0, hl0, hr⟩ := g4 j l hj
        exact ih' j l0 u hl0 hu hr
    · cases h'

theorem OR.ren {id id' : Nat} {o : Obj} {o' : Option Obj} (h : OR I μ w id o) (hid : renMu μ nx seen id' = μ id) (hr : renO nx seen (some o) = some o') : ∃ p, o' = some p ∧ OR I (renMu μ nx seen) w id' p := by
  cases o with
  | cells cs =>
    simp only [renO] at hr
    split at hr
    · rename_i l hl
      obtain rfl := Option.some.inj hr
      obtain ⟨b, o, s, e, hm, hs, hle, hf, hc⟩ := h
      obtain ⟨g1, g2⟩ := ren_go hl
      refine ⟨_, rfl, b, o, s, e, by rw [hid, hm], hs, by rw [g1]; exact hle, hf, fun j l' hj => ?_⟩
      obtain ⟨l0, hl0, hr⟩ := g2 j l' hj
      obtain ⟨u, h1, h2, h3⟩ := hc j l0 hl0
      exact ⟨u, h1, h2, h3.ren hr⟩
    · cases hr
  | iter s q =>
    simp only [renO, Option.some.injEq] at hr
    subst hr
    obtain ⟨b, hm, hb⟩ := h
    exact ⟨_, rfl, b, by rw [hid, hm], hb⟩

theorem renU_find : ∀ {u u' : Upd}, renU nx seen u = some u' → ∀ id, (findU u' id = none ↔ findU u id = none) ∧ ∀ o', findU u' id = some o' → ∃ o, findU u id = some o ∧ renO nx seen o = some o'
  | [], u', h, id => by simp only [renU, Option.some.injEq] at h; subst h; exact ⟨Iff.rfl, by simp [findU]⟩
  | (k, o) :: r, u', h, id => by
    simp only [renU] at h
    split at h
    · rename_i p l h1 h2
      obtain rfl := Option.some.inj h
      have ih := renU_find h2 id
      simp only [findU]
      by_cases e : id = k
      · rw [if_pos e, if_pos e]
        exact ⟨by simp, fun o' ho => ⟨o, rfl, by rw [← Option.some.inj ho]; exact h1⟩⟩
      · rw [if_neg e, if_neg e]; exact ih
    · cases h

theorem renN_get {H : Heap} {h : Hp} : ∀ {l : List Nat} {n : List (Option Obj)}, renN H nx h seen l = some n → n.length = l.length ∧ ∀ (k : Nat) id, l[k]? = some id → ∃ p, n[k]? = some p ∧ renO nx seen (look H nx h id) = some p
  | [], n, h => by simp only [renN, Option.some.injEq] at h; subst h; exact ⟨rfl, by simp⟩
  | x :: r, n, h => by
    simp only [renN] at h
    split at h
    · rename_i p l h1 h2
      obtain rfl := Option.some.inj h
      obtain ⟨g1, g2⟩ := renN_get h2
      refine ⟨by simp [g1], fun k id hk => ?_⟩
      cases k with
      | zero => simp at hk; subst hk; exact ⟨p, rfl, h1⟩
      | succ k => exact g2 k id hk
    · cases h

theorem reach_nodup {lk : Nat → Option Obj} : ∀ (n : Nat) (todo seen S : List Nat), reach lk n todo seen = some S → seen.Nodup → S.Nodup
  | 0, [], seen, S, h, hs => by simp only [reach, Option.some.injEq] at h; subst h; exact hs
  | 0, _ :: _, seen, S, h, hs => by simp [reach] at h
  | n + 1, [], seen, S, h, hs => by simp only [reach, Option.some.injEq] at h; subst h; exact hs
  | n + 1, id :: todo, seen, S, h, hs => by
    simp only [reach] at h
    split at h
    · exact reach_nodup n todo seen S h hs
    · rename_i hc
      have hc' : id ∉ seen := by simpa using hc
      split at h
      · exact reach_nodup n _ _ S h (by
          rw [List.nodup_append]
          refine ⟨hs, by simp, fun a ha b hb => ?_⟩
          simp at hb; subst hb
          exact fun e => hc' (e ▸ ha))
      · exact reach_nodup n todo seen S h hs
end rename

/-- Slices are as they are from now on. -/
theorem frzL_pr {I I' : Nat → Prop} {μ : Mu} {w : World} {H : Heap} {nx : Nat} {h : Hp} (hI : ∀ b, I b → I' b) (hobj : ∀ id o, look H nx h id = some o → OR I μ w id o) :
    ∀ (n : Nat) (l : LV) (x : PV) (v : Value), frzL nx h n l = some x → VR I μ w l v → (∀ id ∈ ids l, ∀ b, blk μ id = some b → I' b) → PR I' w x v
  | 0, l, x, v, hf, _, _ => by simp [frzL] at hf
  | n + 1, .p y, x, v, hf, hv, _ => by
    simp only [frzL, Option.some.injEq] at hf
    subst hf
    exact hv.pp.mono hI fun _ _ => rfl
  | n + 1, .arr id off len sz cp ex, x, v, hf, hv, hb => by
    simp only [frzL] at hf
    split at hf
    · cases hf
    · rename_i hlt
      split at hf
      · rename_i cs hcs
        split at hf
        · rename_i hle
          split at hf
          · rename_i l hl
            obtain rfl := Option.some.inj hf
            have hlook : look H nx h id = some (.cells cs) := by unfold look; rw [if_neg hlt, hcs]
            obtain ⟨b, o, s, e, hm, _, _, _, hat⟩ := hobj id _ hlook
            obtain ⟨b', o', s', o2, cap, hm', rfl, hoo, hlc, hex, hroom, hcp, hlcp⟩ := vr_arr hv
            rw [hm] at hm'
            obtain ⟨rfl, rfl, rfl⟩ : b = b' ∧ o = o' ∧ s = s' := by simpa using hm'
            have hIb : I' b := hb id (by simp [ids]) b (by simp [blk, hm])
            have hps := allP_some hl
            have hat2 : At I μ w b (o + off) (l.map .p) := by rw [← hps]; exact (At.drop (I := I) (μ := μ) (w := w) (b := b) (o := o) (cs := cs) hat off).take (len * sz)
            refine mk_sl (μ := μ) hIb ?_ len sz cap _ hlc (fun hfl => by
              simp only [Bool.and_eq_true, beq_iff_eq] at hfl
              rw [hex hfl.1, hfl.2])
            rcases hoo with h0 | h0
            · have hl0 : l = [] := by
                have : l.length = 0 := by
                  have := congrArg List.length hps
                  simp at this
                  have hz : len = 0 := by omega
                  rw [hz] at this; simp at this; omega
                exact List.eq_nil_of_length_eq_zero this
              rw [hl0]; intro j q hj; simp at hj
            · rw [h0]
              intro j q hj
              obtain ⟨u, h1, h2, h3⟩ := hat2 j q hj
              exact ⟨u, h1, h2, h3.mono hI (fun _ _ h => h) fun _ _ => rfl⟩
          · cases hf
        · cases hf
      · cases hf
  | n + 1, .agg cs, x, v, hf, hv, hb => by
    simp only [frzL] at hf
    split at hf
    · rename_i l hl
      obtain rfl := Option.some.inj hf
      obtain ⟨ar, rfl, hsz, h1, hc⟩ := vr_agg hv
      have hgo : ∀ (cs : List LV) (l : List PV), frzL.go nx h n cs = some l → l.length = cs.length ∧ ∀ (j : Nat) y, l[j]? = some y → ∃ q, cs[j]? = some q ∧ frzL nx h n q = some y := by
        intro cs
        induction cs with
        | nil => intro l hl; simp only [frzL.go, Option.some.injEq] at hl; subst hl; exact ⟨rfl, by simp⟩
        | cons q r ih =>
          intro l hl
          simp only [frzL.go] at hl
          split at hl
          · rename_i y l' h1 h2
            obtain rfl := Option.some.inj hl
            obtain ⟨g1, g2⟩ := ih l' h2
            refine ⟨by simp [g1], fun j z hz => ?_⟩
            cases j with
            | zero => simp at hz; subst hz; exact ⟨q, rfl, h1⟩
            | succ j => exact g2 j z hz
          · cases hl
      obtain ⟨g1, g2⟩ := hgo cs l hl
      refine .agg l ar (by rw [g1]; exact hsz) h1 fun j y u hj hu => ?_
      obtain ⟨q, hq, hfq⟩ := g2 j y hj
      exact frzL_pr hI hobj n q y u hfq (hc j q u hq hu) fun id hid b hbb => hb id (by simp only [ids]; exact mem_idsL hq id hid) b hbb
    · cases hf
  | n + 1, .junk, x, v, hf, _, _ => by simp [frzL] at hf
  | n + 1, .ref .., x, v, hf, _, _ => by simp [frzL] at hf
  | n + 1, .tuple .., x, v, hf, _, _ => by simp [frzL] at hf
  | n + 1, .fn .., x, v, hf, _, _ => by simp [frzL] at hf

end Go.Sx
