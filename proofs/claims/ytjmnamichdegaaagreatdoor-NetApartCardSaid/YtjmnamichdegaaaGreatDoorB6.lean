/- What the proof of the claim leans on, part 6 of 6: the value machine, the functions as it has them, their specifications. No condition. -/
import Derived.Test.YtjmnamichdegaaaGreatDoorB5
import Derived.KernelRfl
import Derived.ProofKit
import Derived.OpenShut
import Derived.Below
import Derived.Deep.Slices
import Derived.ChangeArms
section
namespace Go.Proofs.YtjmnamichdegaaaGreatDoor
open Go Go.Sx
set_option linter.unusedSimpArgs false
set_option linter.unusedVariables false

section same
variable {H : Heap} {nx : Nat} {F G : List UInt8} {x y : LV}
theorem same_eq {n : Nat} (g1 : Bs H nx x F) (g2 : Bs H nx y G) (h62 : F.length < 2 ^ 62) {j : Nat} {a b : UInt8} (ha : F[j]? = some a) (hb : G[j]? = some b) (e : a = b) :
    runCS ⟨Ω, noG, H, nx⟩ n ir25_0 ⟨[(0, x), (1, y), (12, .int .i64 F.length), (13, .int .i64 j)], ⟨[], []⟩⟩ =
      some (.normal, ⟨[(0, x), (1, y), (12, .int .i64 F.length), (13, .int .i64 (j + 1 : Nat))], ⟨[], []⟩⟩) := by
  obtain ⟨hlt, _⟩ := List.getElem?_eq_some_iff.1 ha
  obtain ⟨hlt2, _⟩ := List.getElem?_eq_some_iff.1 hb
  have h8 : ¬ (F.length : Int) ≤ j := by omega
  have hw : IntKind.i64.wrap ((j : Int) + 1) = (j : Int) + 1 := wrap_i64 _ (by omega) (by omega)
  have hba := byt_get ha
  have hbb := byt_get hb
  subst e
  cases g1 with
  | nil => simp at ha
  | sl _ fl =>
    cases g2 with
    | nil => simp at hb
    | sl _ fl => simp [ir25_0, ssB, List.idxOf?_cons, Go.Sx.LV.undef, Go.undef, Go.Sx.callO, Go.Sx.splice, Go.Sx.finish, Go.Sx.look, Go.Sx.push, Go.Sx.setObj, Go.Sx.setU, Go.Sx.setAll, Go.Sx.appO, Go.Sx.leI_eq, ltF, h8, hw, hlt, hlt2, hba, hbb, bytP_map]
    | arr _ G' id off cp ex h1 h2 h3 h4 =>
      have hb2 := byt_get (sub_get h4 hb)
      simp [ir25_0, ssB, List.idxOf?_cons, Go.Sx.LV.undef, Go.undef, Go.Sx.callO, Go.Sx.splice, Go.Sx.finish, Go.Sx.look, Go.Sx.push, Go.Sx.setObj, Go.Sx.setU, Go.Sx.setAll, Go.Sx.appO, Go.Sx.leI_eq, ltF, h8, hw, hlt, hlt2, hba, hb2, bytP_map, h1, h2]
  | arr _ F' id' off' cp' ex' k1 k2 k3 k4 =>
    have ha2 := byt_get (sub_get k4 ha)
    cases g2 with
    | nil => simp at hb
    | sl _ fl => simp [ir25_0, ssB, List.idxOf?_cons, Go.Sx.LV.undef, Go.undef, Go.Sx.callO, Go.Sx.splice, Go.Sx.finish, Go.Sx.look, Go.Sx.push, Go.Sx.setObj, Go.Sx.setU, Go.Sx.setAll, Go.Sx.appO, Go.Sx.leI_eq, ltF, h8, hw, hlt, hlt2, ha2, hbb, bytP_map, k1, k2]
    | arr _ G' id off cp ex h1 h2 h3 h4 =>
      have hb2 := byt_get (sub_get h4 hb)
      simp [ir25_0, ssB, List.idxOf?_cons, Go.Sx.LV.undef, Go.undef, Go.Sx.callO, Go.Sx.splice, Go.Sx.finish, Go.Sx.look, Go.Sx.push, Go.Sx.setObj, Go.Sx.setU, Go.Sx.setAll, Go.Sx.appO, Go.Sx.leI_eq, ltF, h8, hw, hlt, hlt2, ha2, hb2, bytP_map, h1, h2, k1, k2]
theorem same_ne {n : Nat} (g1 : Bs H nx x F) (g2 : Bs H nx y G) {j : Nat} {a b : UInt8} (ha : F[j]? = some a) (hb : G[j]? = some b) (e : a ≠ b) :
    runCS ⟨Ω, noG, H, nx⟩ n ir25_0 ⟨[(0, x), (1, y), (12, .int .i64 F.length), (13, .int .i64 j)], ⟨[], []⟩⟩ =
      some (.ret, ⟨[(4, .bool false)], ⟨[], []⟩⟩) := by
  obtain ⟨hlt, _⟩ := List.getElem?_eq_some_iff.1 ha
  obtain ⟨hlt2, _⟩ := List.getElem?_eq_some_iff.1 hb
  have h8 : ¬ (F.length : Int) ≤ j := by omega
  have hba := byt_get ha
  have hbb := byt_get hb
  have e' : ¬ a.toNat = b.toNat := fun h => e (UInt8.toNat_inj.1 h)
  have e2 : ¬ (a.toNat : Int) = b.toNat := fun h => e' (by omega)
  cases g1 with
  | nil => simp at ha
  | sl _ fl =>
    cases g2 with
    | nil => simp at hb
    | sl _ fl => simp [ir25_0, ssB, List.idxOf?_cons, Go.Sx.LV.undef, Go.undef, Go.Sx.callO, Go.Sx.splice, Go.Sx.finish, Go.Sx.look, Go.Sx.push, Go.Sx.setObj, Go.Sx.setU, Go.Sx.setAll, Go.Sx.appO, Go.Sx.leI_eq, ltF, h8, hlt, hlt2, hba, hbb, bytP_map, e', e2]
    | arr _ G' id off cp ex h1 h2 h3 h4 =>
      have hb2 := byt_get (sub_get h4 hb)
      simp [ir25_0, ssB, List.idxOf?_cons, Go.Sx.LV.undef, Go.undef, Go.Sx.callO, Go.Sx.splice, Go.Sx.finish, Go.Sx.look, Go.Sx.push, Go.Sx.setObj, Go.Sx.setU, Go.Sx.setAll, Go.Sx.appO, Go.Sx.leI_eq, ltF, h8, hlt, hlt2, hba, hb2, bytP_map, h1, h2, e', e2]
  | arr _ F' id' off' cp' ex' k1 k2 k3 k4 =>
    have ha2 := byt_get (sub_get k4 ha)
    cases g2 with
    | nil => simp at hb
    | sl _ fl => simp [ir25_0, ssB, List.idxOf?_cons, Go.Sx.LV.undef, Go.undef, Go.Sx.callO, Go.Sx.splice, Go.Sx.finish, Go.Sx.look, Go.Sx.push, Go.Sx.setObj, Go.Sx.setU, Go.Sx.setAll, Go.Sx.appO, Go.Sx.leI_eq, ltF, h8, hlt, hlt2, ha2, hbb, bytP_map, k1, k2, e', e2]
    | arr _ G' id off cp ex h1 h2 h3 h4 =>
      have hb2 := byt_get (sub_get h4 hb)
      simp [ir25_0, ssB, List.idxOf?_cons, Go.Sx.LV.undef, Go.undef, Go.Sx.callO, Go.Sx.splice, Go.Sx.finish, Go.Sx.look, Go.Sx.push, Go.Sx.setObj, Go.Sx.setU, Go.Sx.setAll, Go.Sx.appO, Go.Sx.leI_eq, ltF, h8, hlt, hlt2, ha2, hb2, bytP_map, h1, h2, k1, k2, e', e2]
theorem same_out {n len : Nat} : runCS ⟨Ω, noG, H, nx⟩ n ir25_0 ⟨[(0, x), (1, y), (12, .int .i64 len), (13, .int .i64 len)], ⟨[], []⟩⟩ =
    some (.exit 0, ⟨[(0, x), (1, y), (12, .int .i64 len), (13, .int .i64 len), (14, .bool false)], ⟨[], []⟩⟩) := by
  simp [ir25_0, ssB, List.idxOf?_cons, Go.Sx.LV.undef, Go.undef, Go.Sx.callO, Go.Sx.splice, Go.Sx.finish, Go.Sx.look, Go.Sx.push, Go.Sx.setObj, Go.Sx.setU, Go.Sx.setAll, Go.Sx.appO, Go.Sx.leI_eq, ltF]
theorem same_all {n : Nat} (g1 : Bs H nx x F) (g2 : Bs H nx y G) (hl : F.length = G.length) (h62 : F.length < 2 ^ 62) : ∀ (k q j : Nat), j + k = F.length → k < q →
    iter (runCS ⟨Ω, noG, H, nx⟩ n ir25_0) q ⟨[(0, x), (1, y), (12, .int .i64 F.length), (13, .int .i64 j)], ⟨[], []⟩⟩ =
      if F.drop j = G.drop j then some (.exit 0, ⟨[(0, x), (1, y), (12, .int .i64 F.length), (13, .int .i64 F.length), (14, .bool false)], ⟨[], []⟩⟩) else some (.ret, ⟨[(4, .bool false)], ⟨[], []⟩⟩) := by
  intro k
  induction k with
  | zero =>
    intro q j hj hq
    obtain ⟨q, rfl⟩ : ∃ r, q = r + 1 := ⟨q - 1, by omega⟩
    obtain rfl : j = F.length := by omega
    rw [iter_out same_out (by simp), if_pos (by rw [List.drop_length, hl, List.drop_length])]
  | succ k ih =>
    intro q j hj hq
    obtain ⟨q, rfl⟩ : ∃ r, q = r + 1 := ⟨q - 1, by omega⟩
    have h1 : j < F.length := by omega
    have h2 : j < G.length := by omega
    have hiff : (F.drop j = G.drop j) ↔ (F[j] = G[j] ∧ F.drop (j + 1) = G.drop (j + 1)) := by rw [List.drop_eq_getElem_cons h1, List.drop_eq_getElem_cons h2, List.cons.injEq]
    by_cases e : F[j] = G[j]
    · rw [iter_step (same_eq g1 g2 h62 (List.getElem?_eq_getElem h1) (List.getElem?_eq_getElem h2) e), ih q (j + 1) (by omega) (by omega)]
      simp only [hiff, e, true_and]
    · rw [iter_out (same_ne g1 g2 (List.getElem?_eq_getElem h1) (List.getElem?_eq_getElem h2) e) (by simp), if_neg (fun h => e (hiff.1 h).1)]
theorem rsame_ (g1 : Bs H nx x F) (g2 : Bs H nx y G) (h62 : F.length < 2 ^ 62) : Ω 25 [x, y] H nx = some (.bool (decide (F = G)), [], []) := by
  refine om_run (ir := ir25) (by kernel_rfl) (F.length + 1) ?_
  by_cases hl : F.length = G.length
  · have hs := same_all (n := F.length + 1) g1 g2 hl h62 F.length (F.length + 1) 0 (by omega) (by omega)
    simp only [Int.natCast_zero, Int.ofNat_zero, List.drop_zero] at hs
    have hb : ((F.length : Int) != (G.length : Int)) = false := by simp [hl]
    have hb0 : F = [] → (G.length : Int) = 0 := fun e => by subst e; simp at hl; omega
    obtain ⟨D, hD⟩ : ∃ D, decide (F = G) = D := ⟨_, rfl⟩
    have hs2 : iter (runCS ⟨Ω, noG, H, nx⟩ (F.length + 1) ir25_0) (F.length + 1) ⟨[(0, x), (1, y), (12, .int .i64 F.length), (13, .int .i64 0)], ⟨[], []⟩⟩ =
        if D = true then some (.exit 0, ⟨[(0, x), (1, y), (12, .int .i64 F.length), (13, .int .i64 F.length), (14, .bool false)], ⟨[], []⟩⟩) else some (.ret, ⟨[(4, .bool false)], ⟨[], []⟩⟩) := by
      rw [hs, ← hD]
      by_cases e : F = G
      · rw [if_pos e]; simp [e]
      · rw [if_neg e]; simp [e]
    rw [hD]
    clear hs hD
    cases g1 with
    | nil =>
      have hb1 := hb0 rfl
      clear hb hb0
      simp only [List.length_nil, Int.natCast_zero, Int.ofNat_zero] at hs2
      cases g2 <;> cases D <;> simp [ir25, ssB, List.idxOf?_cons, Go.Sx.LV.undef, Go.undef, Go.Sx.callO, Go.Sx.splice, Go.Sx.finish, Go.Sx.look, Go.Sx.push, Go.Sx.setObj, Go.Sx.setU, Go.Sx.setAll, Go.Sx.appO, Go.Sx.leI_eq, ltF, hs2, hb1]
    | sl _ fl =>
      clear hb0
      cases g2 with
      | nil =>
        obtain rfl : F = [] := List.eq_nil_of_length_eq_zero hl
        simp only [List.length_nil, Int.natCast_zero, Int.ofNat_zero] at hs2
        cases D <;> simp [ir25, ssB, List.idxOf?_cons, Go.Sx.LV.undef, Go.undef, Go.Sx.callO, Go.Sx.splice, Go.Sx.finish, Go.Sx.look, Go.Sx.push, Go.Sx.setObj, Go.Sx.setU, Go.Sx.setAll, Go.Sx.appO, Go.Sx.leI_eq, ltF, hs2]
      | _ => cases D <;> simp [ir25, ssB, List.idxOf?_cons, Go.Sx.LV.undef, Go.undef, Go.Sx.callO, Go.Sx.splice, Go.Sx.finish, Go.Sx.look, Go.Sx.push, Go.Sx.setObj, Go.Sx.setU, Go.Sx.setAll, Go.Sx.appO, Go.Sx.leI_eq, ltF, hs2, hb]
    | arr _ F' id' off' cp' ex' k1 k2 k3 k4 =>
      clear hb0
      cases g2 with
      | nil =>
        obtain rfl : F = [] := List.eq_nil_of_length_eq_zero hl
        simp only [List.length_nil, Int.natCast_zero, Int.ofNat_zero] at hs2
        cases D <;> simp [ir25, ssB, List.idxOf?_cons, Go.Sx.LV.undef, Go.undef, Go.Sx.callO, Go.Sx.splice, Go.Sx.finish, Go.Sx.look, Go.Sx.push, Go.Sx.setObj, Go.Sx.setU, Go.Sx.setAll, Go.Sx.appO, Go.Sx.leI_eq, ltF, hs2]
      | _ => cases D <;> simp [ir25, ssB, List.idxOf?_cons, Go.Sx.LV.undef, Go.undef, Go.Sx.callO, Go.Sx.splice, Go.Sx.finish, Go.Sx.look, Go.Sx.push, Go.Sx.setObj, Go.Sx.setU, Go.Sx.setAll, Go.Sx.appO, Go.Sx.leI_eq, ltF, hs2, hb]
  · have e : ¬ F = G := fun e => hl (by rw [e])
    have hb : ((F.length : Int) != (G.length : Int)) = true := by simp; omega
    have e' : decide (F = G) = false := by simpa using e
    rw [e']
    have hl' : ¬ (F.length : Int) = G.length := by omega
    cases g1 with
    | nil =>
      simp only [List.length_nil, Int.natCast_zero, Int.ofNat_zero] at hl'
      cases g2 <;> simp [ir25, ssB, List.idxOf?_cons, Go.Sx.LV.undef, Go.undef, Go.Sx.callO, Go.Sx.splice, Go.Sx.finish, Go.Sx.look, Go.Sx.push, Go.Sx.setObj, Go.Sx.setU, Go.Sx.setAll, Go.Sx.appO, Go.Sx.leI_eq, ltF, hl'] <;> simp at hl
    | sl _ fl =>
      cases g2 with
      | nil =>
        have hF : ¬ F = [] := fun e => hl (by rw [e])
        simp [ir25, ssB, List.idxOf?_cons, Go.Sx.LV.undef, Go.undef, Go.Sx.callO, Go.Sx.splice, Go.Sx.finish, Go.Sx.look, Go.Sx.push, Go.Sx.setObj, Go.Sx.setU, Go.Sx.setAll, Go.Sx.appO, Go.Sx.leI_eq, ltF, hF]
      | _ => simp [ir25, ssB, List.idxOf?_cons, Go.Sx.LV.undef, Go.undef, Go.Sx.callO, Go.Sx.splice, Go.Sx.finish, Go.Sx.look, Go.Sx.push, Go.Sx.setObj, Go.Sx.setU, Go.Sx.setAll, Go.Sx.appO, Go.Sx.leI_eq, ltF, hb, hl', hl]
    | arr _ F' id' off' cp' ex' k1 k2 k3 k4 =>
      cases g2 with
      | nil =>
        have hF : ¬ F = [] := fun e => hl (by rw [e])
        simp [ir25, ssB, List.idxOf?_cons, Go.Sx.LV.undef, Go.undef, Go.Sx.callO, Go.Sx.splice, Go.Sx.finish, Go.Sx.look, Go.Sx.push, Go.Sx.setObj, Go.Sx.setU, Go.Sx.setAll, Go.Sx.appO, Go.Sx.leI_eq, ltF, hF]
      | _ => simp [ir25, ssB, List.idxOf?_cons, Go.Sx.LV.undef, Go.undef, Go.Sx.callO, Go.Sx.splice, Go.Sx.finish, Go.Sx.look, Go.Sx.push, Go.Sx.setObj, Go.Sx.setU, Go.Sx.setAll, Go.Sx.appO, Go.Sx.leI_eq, ltF, hb, hl', hl]
end same
end Go.Proofs.YtjmnamichdegaaaGreatDoor
end

section
namespace Go.Proofs.YtjmnamichdegaaaGreatDoor
open Go Go.Sx
set_option linter.unusedSimpArgs false
set_option linter.unusedVariables false

section act
variable {H : Heap} {nx nid xid room N : Nat} {X Y : LV} {l m : List Fr} {fs : List Fm} {f t no i at' b : Int} {nr : Bool}
theorem do_all (d : Nat) (v : UInt8) (hno : 0 ≤ no ∧ no < 2 ^ 64) (g : JJ H nx nid xid room X l Y m fs N) (hN : N < 99) : ∃ fs', JDid (actP d f t no i at' v.toNat nr) H nx nid xid room X l Y m N fs' := by
  have h8 : d % 8 < 8 := Nat.mod_lt _ (by omega)
  by_cases h2 : d % 8 < 2
  · exact do_end g hN ⟨[], []⟩ fun i' E => do_7s d h2 hno g hN i' E
  · obtain h | h | h | h | h | h : d % 8 = 2 ∨ d % 8 = 3 ∨ d % 8 = 4 ∨ d % 8 = 5 ∨ d % 8 = 6 ∨ d % 8 = 7 := by omega
    · exact do_end g hN ⟨[], []⟩ fun i' E => do_2 d h hno g hN i' E
    · exact do_end g hN ⟨[], []⟩ fun i' E => do_3 d h g hN i' E
    · exact do_end g hN ⟨[], []⟩ fun i' E => do_4 d h g hN i' E
    · exact do_end g hN ⟨[], []⟩ fun i' E => do_5 d h g hN i' E
    · exact do_end g hN ⟨[], []⟩ fun i' E => do_6 d h g hN i' E v
    · exact do_end g hN ⟨[], []⟩ fun i' E => do_7 d h g hN i' E
end act

section like
variable {H : Heap} {nx nid xid room N : Nat} {X Y : LV} {l m : List Fr} {fs : List Fm}
theorem Wh.bs {H : Heap} {nx : Nat} {x : LV} {F : List UInt8} (g : Wh H nx x F) : Bs H nx x F := by
  rcases g with rfl | ⟨id, cp, ex, rfl, h1, h2⟩
  · exact .sl F false
  · exact Bs.whole h1 h2
theorem sp3 (a b c x y z : LV) : splice [a, b, c] 0 [x, y, z] = [x, y, z] := rfl
theorem like_step {n : Nat} {h : Hp} (hu : h.upd = []) (g : JJ H nx nid xid room X l Y m fs N) (hN : N ≤ 200) (j K : Nat) (hK : K = fs.length) (hj : j < K) :
    ∃ h', runCS ⟨Ω, noG, H, nx⟩ n ir8_0 ⟨[(0, .ref nid 0), (1, .ref xid 0), (27, Y), (28, .int .i64 K), (29, .int .i64 j)], h⟩ =
      some (.normal, ⟨[(0, .ref nid 0), (1, .ref xid 0), (27, Y), (28, .int .i64 K), (29, .int .i64 (j + 1 : Nat))], h'⟩) ∧ h'.upd = [] := by
  subst hK
  obtain ⟨A', F, t, B', rfl, hjA⟩ := fs_split fs j ⟨by omega, by omega⟩
  obtain rfl : j = A'.length := by omega
  obtain ⟨A, x, B, rfl, hA, gA, gw, gB⟩ := g.n.hw.split'
  obtain ⟨A2, y, B2, rfl, hA2, gA2, gw2, gB2⟩ := g.x.hw.split'
  rcases g.n.hx with ⟨_, e⟩ | ⟨lid, q, ex0, rfl, h1, h2, h3, h4, hex⟩
  · simp at e
  obtain rfl : ex0 = false := by
    cases ex0
    · rfl
    · simpa using (hex rfl).1
  rcases g.x.hx with ⟨_, e⟩ | ⟨lid2, ex, rfl, k1, k2, k3, k4⟩
  · simp at e
  have hlen : (A ++ (x, t) :: B).length = A.length + 1 + B.length := by simp; omega
  have hlen2 : (A2 ++ (y, t) :: B2).length = (A' ++ (F, t) :: B').length := g.x.hw.len
  have hKs := g.x.len
  have hgF := g.n.good (F, t) (by simp)
  have hlx := low_look (H := H) (nx := nx) hu k2
  rw [k4] at hlx
  have h3 : List.take 3 (List.drop (A'.length * 3) (rr (A2 ++ (y, t) :: B2))) = [y, .int .i64 t, .p (.s (.slice none 0 0))] := by rw [← hA2]; exact rr_take3 A2 B2 (y, t)
  have hcs : A'.length * 3 + 3 ≤ (rr (A2 ++ (y, t) :: B2)).length := by rw [rr_len, hlen2]; omega
  obtain ⟨h1', hh1⟩ : ∃ h', h' = boxed nx h [.p (.s (.slice none 0 0)), .int .i64 0, .p (.s (.slice none 0 0))] [y, .int .i64 t, .p (.s (.slice none 0 0))] := ⟨_, rfl⟩
  have u1 : h1'.upd = [] := by rw [hh1, boxed_upd, hu]
  have n1 : h1'.new.length = h.new.length + 1 := by rw [hh1, boxed_len]
  have g1 := g.grow u1
  have e1 : callO ⟨Ω, noG, H, nx⟩ false h1' 10 [.ref nid 0, .int .i64 A'.length] = some ⟨.tuple [.arr (nx + h1'.new.length) 0 F.length 1 F.length false, .int .i64 t, .bool true], push h1' (.cells (byt F)), [], true⟩ := by
    have gg := g1.n.hw.split'
    have hl := g1.n.hl
    have hg := low_look (H := H) (nx := nx) u1 h2
    rw [h4] at hg
    rw [hlen] at hl
    have gw' : Wh (Go.Sx.look H nx h1') (nx + h1'.new.length) x F := gw.mono' (fun i hi => low_look u1 (gw.ids.2 i hi)) (by omega)
    have := nlook_ nid lid _ A B (x, t) (zs q) F (.int .i64 room) (Go.Sx.look H nx h1') (nx + h1'.new.length) (by have := hgF.2.1; dsimp only at this; omega) (by have := hgF.1; dsimp only at this; omega) gw' hl hg g1.n.hid (by omega)
    rw [← hA]
    simp only [callO, Bool.false_eq_true, if_false, this, setAll_nil]
    rfl
  obtain ⟨h2', hh2⟩ : ∃ h', h' = push h1' (.cells (byt F)) := ⟨_, rfl⟩
  have u2 : h2'.upd = [] := by rw [hh2, push_upd, u1]
  have n2 : h2'.new.length = h.new.length + 2 := by rw [hh2, push_len, n1]
  have e2 : callO ⟨Ω, noG, H, nx⟩ false h2' 25 [.arr (nx + h1'.new.length) 0 F.length 1 F.length false, y] = some ⟨.bool true, h2', [], true⟩ := by
    have b1 : Bs (Go.Sx.look H nx h2') (nx + h2'.new.length) (.arr (nx + h1'.new.length) 0 F.length 1 F.length false) F := Bs.whole (by rw [hh2, look_push, if_pos rfl]) (by omega)
    have b2 : Bs (Go.Sx.look H nx h2') (nx + h2'.new.length) y F := (gw2.mono' (fun i hi => low_look u2 (gw2.ids.2 i hi)) (by omega) : Wh _ _ _ _).bs
    have := rsame_ b1 b2 (by have := hgF.2.1; dsimp only at this; omega)
    simp only [callO, Bool.false_eq_true, if_false, this, setAll_nil, decide_true]
    simp
  refine ⟨h2', ?_, u2⟩
  rw [hh2] at e2 ⊢
  rw [hh1] at e1 e2 ⊢
  clear hh1 hh2
  have h8 : ¬ ((A' ++ (F, t) :: B').length : Int) ≤ (A'.length : Nat) := by omega
  have h8' : A'.length < (A' ++ (F, t) :: B').length := by omega
  have hw : IntKind.i64.wrap ((A'.length : Int) + 1) = (A'.length : Int) + 1 := wrap_i64 _ (by omega) (by omega)
  rw [hlen2]
  rw [boxed_len] at e1 e2
  have c1 : ∀ z, Go.Sx.look H nx (push h z) (nx + h.new.length) = some z := fun z => by rw [look_push, if_pos rfl]
  have c2 : ∀ z w, Go.Sx.look H nx (boxed nx h z w) (nx + h.new.length) = some (.cells w) := fun z w => by rw [boxed_look, if_pos rfl]
  have c3 : ∀ z w v, Go.Sx.look H nx (push (boxed nx h z w) v) (nx + h.new.length) = some (.cells w) := fun z w v => by rw [look_push, boxed_len, if_neg (by omega), c2]
  generalize (A' ++ (F, t) :: B').length = K at *
  generalize rr (A2 ++ (y, t) :: B2) = Q at *
  have gv := gw2.fv
  rcases gv with ⟨G, rfl⟩ | ⟨id, n, cp, ex', rfl, hid⟩
  · simp [ir8_0, ssB, List.idxOf?_cons, Go.Sx.LV.undef, Go.undef, Go.Sx.appO, Go.Sx.leI_eq, ltF, h8, h8', hw, hlx, hcs, h3, c1, c2, c3, e1, e2, sp3]
  · simp [ir8_0, ssB, List.idxOf?_cons, Go.Sx.LV.undef, Go.undef, Go.Sx.appO, Go.Sx.leI_eq, ltF, h8, h8', hw, hlx, hcs, h3, c1, c2, c3, e1, e2, sp3]

theorem like_out {n K : Nat} {h : Hp} {Z : LV} : runCS ⟨Ω, noG, H, nx⟩ n ir8_0 ⟨[(0, .ref nid 0), (1, .ref xid 0), (27, Z), (28, .int .i64 K), (29, .int .i64 K)], h⟩ =
    some (.exit 0, ⟨[(0, .ref nid 0), (1, .ref xid 0), (27, Z), (28, .int .i64 K), (29, .int .i64 K), (30, .bool false)], h⟩) := by
  simp [ir8_0, ssB, List.idxOf?_cons, Go.Sx.LV.undef, Go.undef, Go.Sx.callO, Go.Sx.splice, Go.Sx.finish, Go.Sx.look, Go.Sx.push, Go.Sx.setObj, Go.Sx.setU, Go.Sx.setAll, Go.Sx.appO, Go.Sx.leI_eq, ltF]
theorem like_all {n : Nat} (g : JJ H nx nid xid room X l Y m fs N) (hN : N ≤ 200) : ∀ (k q j : Nat) (h : Hp), h.upd = [] → j + k = fs.length → k < q →
    ∃ h', iter (runCS ⟨Ω, noG, H, nx⟩ n ir8_0) q ⟨[(0, .ref nid 0), (1, .ref xid 0), (27, Y), (28, .int .i64 fs.length), (29, .int .i64 j)], h⟩ =
      some (.exit 0, ⟨[(0, .ref nid 0), (1, .ref xid 0), (27, Y), (28, .int .i64 fs.length), (29, .int .i64 fs.length), (30, .bool false)], h'⟩) ∧ h'.upd = [] := by
  intro k
  induction k with
  | zero =>
    intro q j h hu hj hq
    obtain ⟨q, rfl⟩ : ∃ r, q = r + 1 := ⟨q - 1, by omega⟩
    obtain rfl : j = fs.length := by omega
    exact ⟨h, iter_out like_out (by simp), hu⟩
  | succ k ih =>
    intro q j h hu hj hq
    obtain ⟨q, rfl⟩ : ∃ r, q = r + 1 := ⟨q - 1, by omega⟩
    obtain ⟨h', e, u'⟩ := like_step (n := n) hu g hN j fs.length rfl (by omega)
    rw [iter_step e]
    exact ih q (j + 1) h' u' (by omega) (by omega)
/-- Nets that are alike, are found alike. -/
theorem like_ (g : JJ H nx nid xid room X l Y m fs N) (hN : N ≤ 200) : Ω 8 [.ref nid 0, .ref xid 0] H nx = some (.bool true, [], []) := by
  refine om_run (ir := ir8) (by kernel_rfl) (fs.length + 1) ?_
  have hlen := g.n.hw.len
  have hlen2 := g.x.hw.len
  have hfl : fs.length ≤ N := by have := g.n.len; omega
  have look0 : ∀ i, i < nx → Go.Sx.look H nx ⟨[], []⟩ i = H i := fun i hi => low_look rfl hi
  have g0 := g.grow (h0 := ⟨[], []⟩) rfl
  obtain ⟨H', T, u, nw, hH', e0, hT, hu, hnw⟩ := callO_cl (c := ⟨Ω, noG, H, nx⟩) (h := ⟨[], []⟩) (dr := true) (f := 17) (args := [.ref nid 0]) (r := .int .i64 fs.length) (P := fun _ u nw => u = [] ∧ nw = [])
    hN g0.n.cl g0.n.lt (by simp [Go.Sx.ids.idsL, Go.Sx.ids, ft]) (by simp [Go.Sx.ids.idsL, Go.Sx.ids]) (fun T hT hP => g0.n.conn (P := (· ∈ T)) (hT nid (by simp [Go.Sx.ids.idsL, Go.Sx.ids])) hP) (fun H' hH' => by
      have g' := g0.n.mono hH' (Nat.le_refl _) (Nat.le_refl _)
      refine ⟨[], [], ?_, rfl, rfl⟩
      rw [← hlen]
      exact nlen_ nid X (.int .i64 room) l.length H' _ g'.sl g'.hl g'.hid)
  subst hu hnw
  simp only [aft_nil, setAll_nil] at e0
  have x1 : xid ∉ T := fun hx => g.apart xid (hT xid hx) (by simp [ft])
  have x2 : ∀ x ∈ T, ¬ x = xid := fun x hx e => x1 (e ▸ hx)
  obtain ⟨h', e1, u1⟩ := like_all (n := fs.length + 1) g hN fs.length (fs.length + 1) 0 ⟨[], []⟩ rfl (by omega) (by omega)
  simp only [Int.natCast_zero, Int.ofNat_zero] at e1
  have g1 := g.grow u1
  have lk : ∀ i : Int, ¬ (0 ≤ i ∧ i < fs.length) → callO ⟨Ω, noG, H, nx⟩ false h' 10 [.ref nid 0, .int .i64 i] = some ⟨.tuple [.p (.s (.slice none 0 0)), .int .i64 0, .bool false], h', [], true⟩ := fun i hi => by
    rw [← hlen] at hi
    have := nlook_out nid (.int .i64 room) (Go.Sx.look H nx h') (nx + h'.new.length) X l.length i hi g1.n.sl g1.n.hl g1.n.hid
    simp only [callO, Bool.false_eq_true, if_false, this, setAll_nil]
    simp
  have lk1 := lk (-1) (by omega)
  have lk2 := lk fs.length (by omega)
  have hx := look0 xid g.x.hid
  rw [g.x.hl] at hx
  have hx' := low_look (H := H) (nx := nx) u1 g.x.hid
  rw [g.x.hl] at hx'
  have hb : ((fs.length : Int) != (m.length : Int)) = false := by simp [hlen2]
  have fin := finish_low (own := false) (H := H) (nx := nx) (r := .bool true) (h := h') (.inr rfl) (.inl rfl) (by simp [u1, updIds]) (by simp [u1, updIds, Go.Sx.ids])
  rw [u1] at fin
  rcases g.x.hx with ⟨rfl, e⟩ | ⟨lid2, ex, rfl, k1, k2, k3, k4⟩
  · subst e
    simp only [List.length_nil] at hlen2
    rw [← hlen2] at e0 e1 lk2 ⊢
    simp only [Int.natCast_zero, Int.ofNat_zero] at e0 e1 lk2
    simp [ir8, ssB, List.idxOf?_cons, Go.Sx.LV.undef, Go.undef, Go.Sx.appO, Go.Sx.leI_eq, ltF, hx, hx', e0, e1, x1, eq_true x2, lk1, lk2, fin, g.x.hid]
  · rw [hlen2] at hx hx' e1
    simp [ir8, ssB, List.idxOf?_cons, Go.Sx.LV.undef, Go.undef, Go.Sx.appO, Go.Sx.leI_eq, ltF, hx, hx', e0, e1, x1, eq_true x2, lk1, lk2, fin, g.x.hid]
end like
end Go.Proofs.YtjmnamichdegaaaGreatDoor
end

section
namespace Go.Proofs.YtjmnamichdegaaaGreatDoor
open Go Go.Sx
set_option linter.unusedSimpArgs false
set_option linter.unusedVariables false

structure Act where
  d : Nat
  f : Int
  t : Int
  no : Nat
  i : Int
  at' : Int
  v : UInt8
  nr : Bool
def Act.ok (a : Act) : Prop := a.no < 2 ^ 64
abbrev Act.pv (a : Act) : PV := actP a.d a.f a.t a.no a.i a.at' a.v.toNat a.nr
abbrev Act.cs (a : Act) : List LV := actC a.d a.f a.t a.no a.i a.at' a.v.toNat a.nr
def actsP (l : List Act) : List PV := l.flatMap fun a => [.s (.int .u8 a.d), .s (.int .i64 a.f), .s (.int .i64 a.t), .s (.int .u64 a.no), .s (.int .i64 a.i), .s (.int .i64 a.at'), .s (.int .u8 a.v.toNat), .s (.bool a.nr)]
theorem actsP_len (l : List Act) : (actsP l).length = l.length * 8 := by
  induction l with
  | nil => rfl
  | cons a l ih => simp [actsP] at ih ⊢; omega
theorem actsP_get (A B : List Act) (a : Act) : List.take 8 (List.drop (A.length * 8) (List.map LV.p (actsP (A ++ a :: B)))) = a.cs := by
  have : actsP (A ++ a :: B) = actsP A ++ actsP (a :: B) := by simp [actsP]
  rw [this, List.map_append, List.drop_left' (by rw [List.length_map, actsP_len])]
  rfl
theorem awake20 : Ω 5 [] noH 0 = some (.bool true, [], []) := om_of_eval (n := 40) (by kernel_rfl)
theorem newI (room : Int) (H : Heap) (nx : Nat) : Ω 6 [.int .i64 room] H nx = some (.ref nx 0, [], [some (.cells [.p (.s (.slice none 0 0)), .int .i64 (if 0 > room then 0 else room)])]) := by
  refine om_run (ir := ir6) (by kernel_rfl) 0 ?_
  by_cases h : 0 > room
  · have h' : ¬ 0 ≤ room := by omega
    simp [ir6, ssB, List.idxOf?_cons, Go.Sx.LV.undef, Go.undef, Go.Sx.callO, Go.Sx.splice, Go.Sx.finish, Go.Sx.look, Go.Sx.push, Go.Sx.setObj, Go.Sx.setU, Go.Sx.setAll, Go.Sx.appO, Go.Sx.leI_eq, ltF, h]
  · have h' : 0 ≤ room := by omega
    have h2 : ¬ room < 0 := by omega
    simp [ir6, ssB, List.idxOf?_cons, Go.Sx.LV.undef, Go.undef, Go.Sx.callO, Go.Sx.splice, Go.Sx.finish, Go.Sx.look, Go.Sx.push, Go.Sx.setObj, Go.Sx.setU, Go.Sx.setAll, Go.Sx.appO, Go.Sx.leI_eq, ltF, h, h2]

/-- Both nets, in a heap of the law's own. -/
structure Own2 (h : Hp) (nid xid room N : Nat) : Prop where
  upd : h.upd = []
  jj : ∃ X l Y m fs, JJ (Go.Sx.look noH 0 h) (0 + h.new.length) nid xid room X l Y m fs N
theorem setAll_new : ∀ (u : Upd) (h : Hp), (setAll 0 h u).upd = h.upd
  | [], _ => rfl
  | (id, o) :: r, h => by rw [setAll, setObj_upd _ _ _ _ (by omega), setAll_new r h]
theorem sp8 (a1 a2 a3 a4 a5 a6 a7 a8 b1 b2 b3 b4 b5 b6 b7 b8 : LV) : splice [a1, a2, a3, a4, a5, a6, a7, a8] 0 [b1, b2, b3, b4, b5, b6, b7, b8] = [b1, b2, b3, b4, b5, b6, b7, b8] := rfl
abbrev actZ : List LV := [.int .u8 0, .int .i64 0, .int .i64 0, .int .u64 0, .int .i64 0, .int .i64 0, .int .u8 0, .bool false]
theorem Own2.act {h : Hp} {nid xid room N : Nat} (g : Own2 h nid xid room N) (hN : N < 99) (a : Act) (ha : a.ok) : ∃ h', callO ⟨Ω, noG, noH, 0⟩ false h 7 [.ref nid 0, .ref xid 0, .p a.pv] = some ⟨.bool true, h', [], true⟩ ∧ Own2 h' nid xid room (N + 1) ∧ h.new.length ≤ h'.new.length := by
  obtain ⟨X, l, Y, m, fs, j⟩ := g.jj
  have ha' : (a.no : Int) < 2 ^ 64 := by have := ha; unfold Act.ok at this; omega
  obtain ⟨fs', u, nw, X', l', Y', m', e, j', k1, k2, k3, k4, k5⟩ := do_all (i := a.i) (at' := a.at') (f := a.f) (t := a.t) (nr := a.nr) a.d a.v (no := a.no) ⟨by omega, ha'⟩ j hN
  refine ⟨aft 0 h u nw, ?_, ⟨?_, X', l', Y', m', fs', ?_⟩, by rw [aft_len]; omega⟩
  · simp only [callO, Bool.false_eq_true, if_false, e]
    rfl
  · show (setAll 0 h u).upd = []
    rw [setAll_new, g.upd]
  · have hk : ∀ q ∈ u, q.1 < 0 + h.new.length := fun q hq => by
      rcases k1 q hq with h | h
      · exact j.n.lt _ (ct_ft _ h)
      · exact j.x.lt _ (ct_ft _ h)
    have hl : Go.Sx.look noH 0 (aft 0 h u nw) = Go.Sx.look (Go.Sx.look noH 0 h) (0 + h.new.length) ⟨u, nw⟩ := funext fun i => look_aft hk i
    rw [hl, aft_len, ← Nat.add_assoc]
    exact j'
theorem Own2.like {h : Hp} {nid xid room N : Nat} (g : Own2 h nid xid room N) (hN : N ≤ 200) : callO ⟨Ω, noG, noH, 0⟩ false h 8 [.ref nid 0, .ref xid 0] = some ⟨.bool true, h, [], true⟩ := by
  obtain ⟨X, l, Y, m, fs, j⟩ := g.jj
  simp only [callO, Bool.false_eq_true, if_false, like_ j hN, setAll_nil]
  simp
theorem Own2.boxed {h : Hp} {nid xid room N : Nat} (g : Own2 h nid xid room N) (z c : List LV) : Own2 (boxed 0 h z c) nid xid room N := by
  obtain ⟨X, l, Y, m, fs, j⟩ := g.jj
  refine ⟨by rw [boxed_upd, g.upd], X, l, Y, m, fs, ⟨j.n.mono (fun i hi => ?_) (by rw [boxed_len]; omega) (Nat.le_refl _), j.x.mono (fun i hi => ?_) (by rw [boxed_len]; omega) (Nat.le_refl _), j.apart⟩⟩
  · have := j.n.lt i hi
    rw [boxed_look, if_neg (by omega)]
  · have := j.x.lt i hi
    rw [boxed_look, if_neg (by omega)]

section plays
variable {nid xid room : Nat} {l : List Act} {fl : Bool}
theorem plays_step {n j N : Nat} {h : Hp} (g : Own2 h nid xid room N) (hN : N < 99) (hl : l.length < 2 ^ 63) (hj : j < l.length) (h50 : j < 50) (hok : ∀ a ∈ l, a.ok) :
    ∃ h', runCS ⟨Ω, noG, noH, 0⟩ n ir3_0 ⟨[(5, .ref nid 0), (6, .ref xid 0), (17, .p (.sl (actsP l) l.length 8 fl)), (18, .int .i64 l.length), (19, .int .i64 j)], h⟩ =
      some (.normal, ⟨[(5, .ref nid 0), (6, .ref xid 0), (17, .p (.sl (actsP l) l.length 8 fl)), (18, .int .i64 l.length), (19, .int .i64 (j + 1 : Nat))], h'⟩) ∧ Own2 h' nid xid room (N + 1) := by
  have hsplit : l = l.take j ++ l[j] :: l.drop (j + 1) := by rw [List.getElem_cons_drop, List.take_append_drop]
  have htl : (l.take j).length = j := by rw [List.length_take]; omega
  have hget := actsP_get (l.take j) (l.drop (j + 1)) l[j]
  rw [htl, ← hsplit] at hget
  obtain ⟨a, ha⟩ : ∃ a, a = l[j] := ⟨_, rfl⟩
  have hoka : a.ok := by rw [ha]; exact hok _ (List.getElem_mem hj)
  rw [← ha] at hget
  clear hsplit htl ha
  have hlen := actsP_len l
  have hcs : j * 8 + 8 ≤ (actsP l).length := by omega
  obtain ⟨h', e1, g', hle⟩ := (g.boxed actZ a.cs).act hN a hoka
  have e2 := g'.like (by omega)
  refine ⟨h', ?_, g'⟩
  have h8 : ¬ (l.length : Int) ≤ j := by omega
  have h8' : ¬ (50 : Int) ≤ j := by omega
  have hw : IntKind.i64.wrap ((j : Int) + 1) = (j : Int) + 1 := wrap_i64 _ (by omega) (by omega)
  have c1 : ∀ z, Go.Sx.look noH 0 (push h z) (0 + h.new.length) = some z := fun z => by rw [look_push, if_pos rfl]
  have hb : ∀ z w, boxed 0 h z w = Go.Sx.setObj 0 (push h (.cells z)) h.new.length (some (.cells w)) := fun z w => by unfold boxed; rw [Nat.zero_add]
  have c2 : ∀ z w, Go.Sx.look noH 0 (Go.Sx.setObj 0 (push h (.cells z)) h.new.length (some (.cells w))) h.new.length = some (.cells w) := fun z w => by
    have := boxed_look (H := noH) (nx := 0) h z w (0 + h.new.length)
    rw [if_pos rfl, hb, Nat.zero_add] at this
    exact this
  rw [hb] at e1
  generalize actsP l = Q at *
  generalize l.length = K at *
  obtain ⟨d, f, t, no, i, at', v, nr⟩ := a
  simp only [Nat.zero_add] at c1
  simp [ir3_0, ssB, List.idxOf?_cons, Go.Sx.LV.undef, Go.undef, Go.Sx.appO, Go.Sx.leI_eq, ltF, h8, h8', hw, hj, hcs, hget, sp8, c1, c2, e1, e2]

theorem plays_end {n K : Nat} {h : Hp} {A : LV} : runCS ⟨Ω, noG, noH, 0⟩ n ir3_0 ⟨[(5, .ref nid 0), (6, .ref xid 0), (17, A), (18, .int .i64 K), (19, .int .i64 K)], h⟩ =
    some (.exit 0, ⟨[(5, .ref nid 0), (6, .ref xid 0), (17, A), (18, .int .i64 K), (19, .int .i64 K), (20, .bool false)], h⟩) := by
  simp [ir3_0, ssB, List.idxOf?_cons, Go.Sx.LV.undef, Go.undef, Go.Sx.callO, Go.Sx.splice, Go.Sx.finish, Go.Sx.look, Go.Sx.push, Go.Sx.setObj, Go.Sx.setU, Go.Sx.setAll, Go.Sx.appO, Go.Sx.leI_eq, ltF]
theorem plays_50 {n : Nat} {h : Hp} (hl : l.length < 2 ^ 63) (hj : 50 < l.length) : ∃ h' E, runCS ⟨Ω, noG, noH, 0⟩ n ir3_0 ⟨[(5, .ref nid 0), (6, .ref xid 0), (17, .p (.sl (actsP l) l.length 8 fl)), (18, .int .i64 l.length), (19, .int .i64 (50 : Nat))], h⟩ =
    some (.exit 0, ⟨E, h'⟩) ∧ h'.upd = h.upd := by
  have hsplit : l = l.take 50 ++ l[50] :: l.drop 51 := by rw [List.getElem_cons_drop, List.take_append_drop]
  have htl : (l.take 50).length = 50 := by rw [List.length_take]; omega
  have hget := actsP_get (l.take 50) (l.drop 51) l[50]
  rw [htl, ← hsplit] at hget
  generalize l[50] = a at *
  have hlen := actsP_len l
  have hcs : 408 ≤ (actsP l).length := by omega
  refine ⟨boxed 0 h actZ a.cs, [(5, .ref nid 0), (6, .ref xid 0), (8, .ref h.new.length 0), (17, .p (.sl (actsP l) l.length 8 fl)), (18, .int .i64 l.length), (19, .int .i64 50), (25, .bool true)], ?_, boxed_upd _ _ _⟩
  have h8 : ¬ (l.length : Int) ≤ 50 := by omega
  have c1 : ∀ z, Go.Sx.look noH 0 (push h z) h.new.length = some z := fun z => by rw [look_push, if_pos (by omega)]
  have hb : ∀ z w, boxed 0 h z w = Go.Sx.setObj 0 (push h (.cells z)) h.new.length (some (.cells w)) := fun z w => by unfold boxed; rw [Nat.zero_add]
  rw [hb]
  clear hsplit htl
  generalize actsP l = Q at *
  generalize l.length = K at *
  obtain ⟨d, f, t, no, i, at', v, nr⟩ := a
  simp [ir3_0, ssB, List.idxOf?_cons, Go.Sx.LV.undef, Go.undef, Go.Sx.appO, Go.Sx.leI_eq, ltF, h8, hj, hcs, hget, sp8, c1]
theorem plays_all {n : Nat} (hl : l.length < 2 ^ 63) (hok : ∀ a ∈ l, a.ok) : ∀ (k q j N : Nat) (h : Hp), Own2 h nid xid room N → N ≤ j → j + k = min l.length 50 → k < q →
    ∃ h' E, iter (runCS ⟨Ω, noG, noH, 0⟩ n ir3_0) q ⟨[(5, .ref nid 0), (6, .ref xid 0), (17, .p (.sl (actsP l) l.length 8 fl)), (18, .int .i64 l.length), (19, .int .i64 j)], h⟩ =
      some (.exit 0, ⟨E, h'⟩) ∧ h'.upd = [] := by
  intro k
  induction k with
  | zero =>
    intro q j N h g hN hj hq
    obtain ⟨q, rfl⟩ : ∃ r, q = r + 1 := ⟨q - 1, by omega⟩
    by_cases h50 : 50 < l.length
    · obtain rfl : j = 50 := by omega
      obtain ⟨h', E, e, u⟩ := plays_50 (n := n) (nid := nid) (xid := xid) (fl := fl) (h := h) hl h50
      exact ⟨h', E, iter_out e (by simp), by rw [u, g.upd]⟩
    · obtain rfl : j = l.length := by omega
      exact ⟨h, _, iter_out plays_end (by simp), g.upd⟩
  | succ k ih =>
    intro q j N h g hN hj hq
    obtain ⟨q, rfl⟩ : ∃ r, q = r + 1 := ⟨q - 1, by omega⟩
    have m1 : j < 50 := by omega
    have m2 : j < l.length := by omega
    obtain ⟨h', e, g'⟩ := plays_step (n := n) (j := j) (fl := fl) g (by omega) hl m2 m1 hok
    rw [iter_step e]
    exact ih q (j + 1) (N + 1) h' g' (by omega) (by omega) (by omega)
end plays

/-- Nothing is under way. -/
theorem own2_new (room : Nat) : Own2 ⟨[], [some (.cells [.p (.s (.slice none 0 0)), .int .i64 room]), some (.cells [.p (.s (.slice none 0 0)), .int .i64 room])]⟩ 0 1 room 0 := by
  refine ⟨rfl, nilS, [], nilS, [], [], ⟨⟨by simp, by simp [Go.Sx.look], .nil, by simp, .inl ⟨rfl, rfl⟩⟩, ⟨by simp, by simp [Go.Sx.look], .nil, by simp, .inl ⟨rfl, rfl⟩⟩, ?_⟩⟩
  intro i h1 h2
  simp [ft, Go.Sx.ids, fids] at h1 h2
  omega
/-- A slice of acts, as the machine has it. -/
def Acts (x : LV) (l : List Act) : Prop := (x = .p (.s (.slice none 0 0)) ∧ l = []) ∨ ∃ fl, x = .p (.sl (actsP l) l.length 8 fl)
theorem netplays_ (room : Int) (x : LV) (l : List Act) (hx : Acts x l) (hl : l.length < 2 ^ 63) (hok : ∀ a ∈ l, a.ok) : Ω 3 [.int .i64 room, x] noH 0 = some (.bool true, [], []) := by
  refine om_run (ir := ir3) (by kernel_rfl) 51 ?_
  obtain ⟨R, hR⟩ : ∃ R : Nat, (if 0 > room then 0 else room) = (R : Int) := ⟨(if 0 > room then 0 else room).toNat, by split <;> omega⟩
  have hR2 : (if (0 : Int) > room then (LV.int .i64 0) else .int .i64 room) = .int .i64 R := by
    rw [← hR]; split <;> rfl
  have ha := awake20
  have hn := fun H nx => newI room H nx
  rw [hR] at hn
  have hmm2 : (if room < 0 then (0 : Int) else room) = R := hR
  have g0 := own2_new R
  have look0 : Go.Sx.look noH 0 ⟨[], []⟩ = noH := by
    funext i
    simp [Go.Sx.look, noH]
  have ca : callO ⟨Ω, noG, noH, 0⟩ false ⟨[], []⟩ 5 [] = some ⟨.bool true, ⟨[], []⟩, [], true⟩ := by
    simp only [callO, Bool.false_eq_true, if_false, look0, List.length_nil, Nat.add_zero, ha, setAll_nil]
    rfl
  have cn : callO ⟨Ω, noG, noH, 0⟩ false ⟨[], []⟩ 6 [.int .i64 room] = some ⟨.ref 0 0, ⟨[], [some (.cells [.p (.s (.slice none 0 0)), .int .i64 R])]⟩, [], true⟩ := by
    simp only [callO, Bool.false_eq_true, if_false, List.length_nil, Nat.add_zero, hn, setAll_nil]
    rfl
  have pp : ∀ z, push ⟨[], [some (.cells [.p (.s (.slice none 0 0)), .int .i64 R])]⟩ z = ⟨[], [some (.cells [.p (.s (.slice none 0 0)), .int .i64 R]), some z]⟩ := fun z => rfl
  have fin : ∀ h : Hp, h.upd = [] → finish false noH 0 (.bool true) h = some (.bool true, [], []) := fun h u => by
    have := finish_low (own := false) (H := noH) (nx := 0) (r := .bool true) (h := h) (.inr rfl) (.inl rfl) (by simp [u, updIds]) (by simp [u, updIds, Go.Sx.ids])
    rw [u] at this; exact this
  rcases hx with ⟨rfl, rfl⟩ | ⟨fl, rfl⟩
  · have e1 := iter_out (n := 50) (plays_end (n := 51) (K := 0) (nid := 0) (xid := 1) (A := .p (.s (.slice none 0 0))) (h := ⟨[], [some (.cells [.p (.s (.slice none 0 0)), .int .i64 R]), some (.cells [.p (.s (.slice none 0 0)), .int .i64 R])]⟩)) (by simp)
    simp only [Int.natCast_zero, Int.ofNat_zero] at e1
    have f1 := fin ⟨[], [some (.cells [.p (.s (.slice none 0 0)), .int .i64 R]), some (.cells [.p (.s (.slice none 0 0)), .int .i64 R])]⟩ rfl
    simp [ir3, ssB, List.idxOf?_cons, Go.Sx.LV.undef, Go.undef, Go.Sx.appO, Go.Sx.leI_eq, ltF, ca, cn, hmm2, pp, e1, f1]
  · obtain ⟨h', E, e1, u⟩ := plays_all (n := 51) (nid := 0) (xid := 1) (room := R) (l := l) (fl := fl) hl hok (min l.length 50) 51 0 0 _ g0 (by omega) (by omega) (by omega)
    simp only [Int.natCast_zero, Int.ofNat_zero] at e1
    have f1 := fin h' u
    simp [ir3, ssB, List.idxOf?_cons, Go.Sx.LV.undef, Go.undef, Go.Sx.appO, Go.Sx.leI_eq, ltF, ca, cn, hmm2, pp, e1, f1]
end Go.Proofs.YtjmnamichdegaaaGreatDoor
end

section
namespace Go.Proofs.YtjmnamichdegaaaGreatDoor
open Go Go.Sx
set_option linter.unusedSimpArgs false
set_option linter.unusedVariables false

/- No net. -/
section nil
variable (H : Heap) (nx : Nat) (i at' : Int)
abbrev nilP : LV := .p (.s (.pointer none))
theorem zlen : Ω 17 [nilP] H nx = some (.int .i64 0, [], []) := by
  refine om_run (ir := ir17) (by kernel_rfl) 0 ?_
  simp [ir17, ssB, List.idxOf?_cons, Go.Sx.LV.undef, Go.undef, Go.Sx.callO, Go.Sx.splice, Go.Sx.finish, Go.Sx.look, Go.Sx.push, Go.Sx.setObj, Go.Sx.setU, Go.Sx.setAll, Go.Sx.appO, Go.Sx.leI_eq, ltF]
theorem zhas : Ω 27 [nilP, .int .i64 i] H nx = some (.bool false, [], []) := by
  refine om_run (ir := ir27) (by kernel_rfl) 0 ?_
  have hh := fun H nx => zlen H nx
  by_cases h : 0 ≤ i
  · simp [ir27, ssB, List.idxOf?_cons, Go.Sx.LV.undef, Go.undef, Go.Sx.callO, Go.Sx.splice, Go.Sx.finish, Go.Sx.look, Go.Sx.push, Go.Sx.setObj, Go.Sx.setU, Go.Sx.setAll, Go.Sx.appO, Go.Sx.leI_eq, ltF, hh, h]
  · simp [ir27, ssB, List.idxOf?_cons, Go.Sx.LV.undef, Go.undef, Go.Sx.callO, Go.Sx.splice, Go.Sx.finish, Go.Sx.look, Go.Sx.push, Go.Sx.setObj, Go.Sx.setU, Go.Sx.setAll, Go.Sx.appO, Go.Sx.leI_eq, ltF, hh, h]
theorem zlook : Ω 10 [nilP, .int .i64 i] H nx = some (.tuple [.p (.s (.slice none 0 0)), .int .i64 0, .bool false], [], []) := by
  refine om_run (ir := ir10) (by kernel_rfl) 0 ?_
  have hh := fun H nx => zhas H nx i
  simp [ir10, ssB, List.idxOf?_cons, Go.Sx.LV.undef, Go.undef, Go.Sx.callO, Go.Sx.splice, Go.Sx.finish, Go.Sx.look, Go.Sx.push, Go.Sx.setObj, Go.Sx.setU, Go.Sx.setAll, Go.Sx.appO, Go.Sx.leI_eq, ltF, hh]
theorem ztake : Ω 11 [nilP, .int .i64 i] H nx = some (.tuple [.p (ntz 0 0 0 0), .int .i64 2], [], []) := by
  refine om_run (ir := ir11) (by kernel_rfl) 0 ?_
  have hh := fun H nx => zlook H nx i
  simp [ir11, ssB, List.idxOf?_cons, Go.Sx.LV.undef, Go.undef, Go.Sx.callO, Go.Sx.splice, Go.Sx.finish, Go.Sx.look, Go.Sx.push, Go.Sx.setObj, Go.Sx.setU, Go.Sx.setAll, Go.Sx.appO, Go.Sx.leI_eq, ltF, hh]
theorem zdrop : Ω 13 [nilP, .int .i64 i] H nx = some (.int .i64 2, [], []) := by
  refine om_run (ir := ir13) (by kernel_rfl) 0 ?_
  have hh := fun H nx => zhas H nx i
  simp [ir13, ssB, List.idxOf?_cons, Go.Sx.LV.undef, Go.undef, Go.Sx.callO, Go.Sx.splice, Go.Sx.finish, Go.Sx.look, Go.Sx.push, Go.Sx.setObj, Go.Sx.setU, Go.Sx.setAll, Go.Sx.appO, Go.Sx.leI_eq, ltF, hh]
theorem zdouble : Ω 14 [nilP, .int .i64 i] H nx = some (.int .i64 2, [], []) := by
  refine om_run (ir := ir14) (by kernel_rfl) 0 ?_
  have hh := fun H nx => zhas H nx i
  simp [ir14, ssB, List.idxOf?_cons, Go.Sx.LV.undef, Go.undef, Go.Sx.callO, Go.Sx.splice, Go.Sx.finish, Go.Sx.look, Go.Sx.push, Go.Sx.setObj, Go.Sx.setU, Go.Sx.setAll, Go.Sx.appO, Go.Sx.leI_eq, ltF, hh]
theorem zturn : Ω 15 [nilP, .int .i64 i, .int .i64 i, .int .u8 1] H nx = some (.int .i64 2, [], []) := by
  refine om_run (ir := ir15) (by kernel_rfl) 0 ?_
  have hh := fun H nx => zlook H nx i
  simp [ir15, ssB, List.idxOf?_cons, Go.Sx.LV.undef, Go.undef, Go.Sx.callO, Go.Sx.splice, Go.Sx.finish, Go.Sx.look, Go.Sx.push, Go.Sx.setObj, Go.Sx.setU, Go.Sx.setAll, Go.Sx.appO, Go.Sx.leI_eq, ltF, hh]
theorem zclear : Ω 16 [nilP, .int .i64 i] H nx = some (.int .i64 0, [], []) := by
  refine om_run (ir := ir16) (by kernel_rfl) 0 ?_
  have hh := fun H nx => zlen H nx
  simp [ir16, ssB, List.idxOf?_cons, Go.Sx.LV.undef, Go.undef, Go.Sx.callO, Go.Sx.splice, Go.Sx.finish, Go.Sx.look, Go.Sx.push, Go.Sx.setObj, Go.Sx.setU, Go.Sx.setAll, Go.Sx.appO, Go.Sx.leI_eq, ltF, hh, (by decide : IntKind.i64.wrap 0 = 0)]
theorem zsend : Ω 12 [nilP, .p (ntz 5 1 0 0)] H nx = some (.int .i64 2, [], []) := by
  refine om_run (ir := ir12) (by kernel_rfl) 0 ?_
  simp [ir12, ssB, List.idxOf?_cons, Go.Sx.LV.undef, Go.undef, Go.Sx.callO, Go.Sx.splice, Go.Sx.finish, Go.Sx.look, Go.Sx.push, Go.Sx.setObj, Go.Sx.setU, Go.Sx.setAll, Go.Sx.appO, Go.Sx.leI_eq, ltF]
theorem zcopy : Ω 9 [nilP] H nx = some (nilP, [], []) := by
  refine om_run (ir := ir9) (by kernel_rfl) 0 ?_
  simp [ir9, ssB, List.idxOf?_cons, Go.Sx.LV.undef, Go.undef, Go.Sx.callO, Go.Sx.splice, Go.Sx.finish, Go.Sx.look, Go.Sx.push, Go.Sx.setObj, Go.Sx.setU, Go.Sx.setAll, Go.Sx.appO, Go.Sx.leI_eq, ltF]
end nil

/- A copy. -/
section copy
variable {H : Heap} {nx nid room N : Nat} {X : LV} {l : List Fr} {fs : List Fm}
theorem nclone_nil (H : Heap) (nx : Nat) : Ω 26 [nilS] H nx = some (nilS, [], []) := by
  refine om_run (ir := ir26) (by kernel_rfl) 0 ?_
  simp [ir26, ssB, List.idxOf?_cons, Go.Sx.LV.undef, Go.undef, Go.Sx.callO, Go.Sx.splice, Go.Sx.finish, Go.Sx.look, Go.Sx.push, Go.Sx.setObj, Go.Sx.setU, Go.Sx.setAll, Go.Sx.appO, Go.Sx.leI_eq, ltF]
theorem nclone_0 (lid cp : Nat) (ex : Bool) (cs : List LV) (hg : H lid = some (.cells cs)) (hlid : lid < nx) : Ω 26 [.arr lid 0 0 2 cp ex] H nx = some (.arr nx 0 0 2 0 true, [], [some (.cells [])]) := by
  refine om_run (ir := ir26) (by kernel_rfl) 0 ?_
  have hk : ∀ k, lid < nx + k := fun k => by omega
  have hk2 : ∀ k, ¬ nx + k ≤ lid := fun k => by omega
  have hk3 : ¬ nx = lid := by omega
  have hk4 : ¬ lid = nx := by omega
  simp [ir26, ssB, List.idxOf?_cons, Go.Sx.LV.undef, Go.undef, Go.Sx.callO, Go.Sx.splice, Go.Sx.finish, Go.Sx.look, Go.Sx.push, Go.Sx.setObj, Go.Sx.setU, Go.Sx.setAll, Go.Sx.appO, Go.Sx.leI_eq, ltF, hg, hlid, hk, hk2, hk3, hk4]
theorem nclone_ (lid cp : Nat) (ex : Bool) (m : Nat) (h0 : 0 < l.length) (hl : l.length < 500) (hlo : Lo nx l) (hg : H lid = some (.cells (ro l ++ zs m))) (hlid : lid < nx) :
    Ω 26 [.arr lid 0 l.length 2 cp ex] H nx = some (.arr nx 0 l.length 2 l.length false, [], [some (.cells (ro l))]) := by
  refine om_run (ir := ir26) (by kernel_rfl) 0 ?_
  have hids := hlo.ids
  have hidl := hlo.ids_len
  have hlen := ro_len l
  have htk : List.take (l.length * 2) (ro l ++ zs m) = ro l := by rw [← hlen]; exact List.take_left
  have hle : l.length * 2 ≤ (ro l ++ zs m).length := by rw [List.length_append, hlen]; omega
  have hk : ∀ k, lid < nx + k := fun k => by omega
  have hk3 : ¬ nx = lid := by omega
  have hk4 : ¬ lid = nx := by omega
  have g6 : ¬ 1099511627776 < l.length * 32 := by omega
  have g6' : l.length * 32 ≤ 1099511627776 := by omega
  have hl0 : ¬ l.length = 0 := by omega
  have fin := fun o => finish_one (own := true) (H := H) (nx := nx) (r := .arr (nx + 1) 0 l.length 2 l.length false) (r' := .arr nx 0 l.length 2 l.length false) (h := ⟨[], [o, some (.cells (ro l))]⟩) (u' := []) (j := nx + 1) (o := .cells (ro l)) (.inl rfl) (by simp [Go.Sx.look, ltF]) (by omega) hids (by simp [Go.Sx.ids, updIds]) (by simp [Go.Sx.ids]) (by simp [Go.Sx.ids, updIds, Go.Sx.Obj.ids]; omega) (by simp [ren, renId, List.idxOf?_cons, ltF]) rfl
  generalize ro l = Q at *
  generalize l.length = K at *
  simp [ir26, ssB, List.idxOf?_cons, Go.Sx.LV.undef, Go.undef, Go.Sx.callO, Go.Sx.splice, Go.Sx.look, Go.Sx.push, Go.Sx.setObj, Go.Sx.setU, Go.Sx.setAll, Go.Sx.appO, Go.Sx.leI_eq, ltF, hg, hlid, hk, hk3, hk4, htk, hle, g6, g6', hl0, hlen, fin]

theorem NN.clX (g : NN H nx nid room X l fs N) : Cl H (ids X ++ fids l) N := by
  have c := g.cl
  have hne := g.fne
  refine ⟨fun i hi => ?_, ?_⟩
  · rcases g.hx with ⟨rfl, rfl⟩ | ⟨lid, m, ex, rfl, h1, h2, h3, h4, hex⟩
    · simp [Go.Sx.ids, fids] at hi
    · rcases List.mem_append.1 hi with h | h
      · obtain rfl : i = lid := by simpa [Go.Sx.ids] using h
        refine ⟨_, h4, fun k hk => ?_, ?_⟩
        · simp only [Go.Sx.Obj.ids, ids_app, ids_ro, ids_zs, List.append_nil] at hk
          exact List.mem_append_right _ hk
        · have := fids_len g.hw
          simp only [Go.Sx.Obj.ids, ids_app, ids_ro, ids_zs, List.append_nil]
          omega
      · obtain ⟨F, hF, h5⟩ := g.hw.apart g.good h
        exact ⟨_, h5, by simp [Go.Sx.Obj.ids, ids_byt], by simp [Go.Sx.Obj.ids, ids_byt]⟩
  · have e : cost H (ft nid X l) [] = idn H nid + cost H (ids X ++ fids l) [] := by simp [ft, cost]
    have := c.cost
    omega
theorem copy_fin {K : Nat} {ex : Bool} {Q : List LV} (hQ : ∀ i ∈ ids.idsL Q, i < nx) (hl : (ids.idsL Q).length < 500) : finish true H nx (.ref (nx + 1) 0) ⟨[], [some (.cells Q), some (.cells [.arr nx 0 K 2 K ex, .int .i64 room])]⟩ = some (.ref nx 0, [], [some (.cells [.arr (nx + 1) 0 K 2 K ex, .int .i64 room]), some (.cells Q)]) :=
  finish_two (j1 := nx + 1) (j2 := nx) (o1 := .cells [.arr nx 0 K 2 K ex, .int .i64 room]) (o2 := .cells Q) (.inl rfl) (by simp [Go.Sx.ids, updIds]) (by simp [Go.Sx.look, ltF]) (by omega) (by simp [Go.Sx.look]) (Nat.le_refl _) (by omega) (by simp [Go.Sx.Obj.ids, Go.Sx.ids.idsL, Go.Sx.ids]) (by simp [Go.Sx.Obj.ids, Go.Sx.ids.idsL, Go.Sx.ids])
    (fun i hi => hQ i hi) (by simp [Go.Sx.Obj.ids, Go.Sx.ids.idsL, Go.Sx.ids]; omega) (by simp [ren, renId, List.idxOf?_cons, ltF]) rfl (by simp [renO, ren.go, ren, renId, List.idxOf?_cons])
theorem ncopy_ (g : NN H nx nid room X l fs N) (hN : N < 200) : ∃ X' nw, Ω 9 [.ref nid 0] H nx = some (.ref nx 0, [], nw) ∧ NN (Go.Sx.look H nx ⟨[], nw⟩) (nx + nw.length) nx room X' l fs N ∧ (∀ i ∈ ct nx X', nx ≤ i) := by
  have hll := g.hw.len
  have hle := g.len
  have hgid := g.hid
  have look0 : ∀ i, i < nx → Go.Sx.look H nx ⟨[], []⟩ i = H i := fun i hi => low_look rfl hi
  have hl := look0 nid g.hid
  rw [g.hl] at hl
  rcases g.hx with ⟨rfl, rfl⟩ | ⟨lid, m, ex, rfl, h1, h2, h3, h4, hex⟩
  · obtain rfl : fs = [] := List.eq_nil_of_length_eq_zero hll.symm
    refine ⟨nilS, [some (.cells [nilS, .int .i64 room])], ?_, ⟨by simp, by simp [Go.Sx.look], .nil, by simp, .inl ⟨rfl, rfl⟩⟩, by simp [ct, Go.Sx.ids]⟩
    refine om_run (ir := ir9) (by kernel_rfl) 0 ?_
    have hc := fun H nx => nclone_nil H nx
    simp [ir9, ssB, List.idxOf?_cons, Go.Sx.LV.undef, Go.undef, Go.Sx.callO, Go.Sx.splice, Go.Sx.finish, Go.Sx.look, Go.Sx.push, Go.Sx.setObj, Go.Sx.setU, Go.Sx.setAll, Go.Sx.appO, Go.Sx.leI_eq, ltF, g.hl, hgid, hc]
  · have g0 := g.mono (H' := Go.Sx.look H nx ⟨[], []⟩) (nx' := nx + ([] : List (Option Go.Sx.Obj)).length) (fun i hi => look0 i (g.lt i hi)) (by simp) (Nat.le_refl _)
    have hne' : ∀ T : List Nat, (∀ i ∈ T, i ∈ ids (.arr lid 0 l.length 2 (l.length + m) ex : LV) ++ fids l) → ∀ x ∈ T, ¬ x = nid := fun T hT x hx e => by
      subst e
      rcases List.mem_append.1 (hT x hx) with h | h
      · exact h3 (by simpa [Go.Sx.ids] using h)
      · exact (g.fne x h).1 rfl
    obtain ⟨r, nw, hop, hr⟩ : ∃ (r : LV) (nw : List (Option Go.Sx.Obj)), (∀ H', (∀ i ∈ ids (.arr lid 0 l.length 2 (l.length + m) ex : LV) ++ fids l, H' i = Go.Sx.look H nx ⟨[], []⟩ i) → Ω 26 [.arr lid 0 l.length 2 (l.length + m) ex] H' nx = some (r, [], nw)) ∧
        ((l = [] ∧ r = .arr nx 0 0 2 0 true ∧ nw = [some (.cells [])]) ∨ (0 < l.length ∧ r = .arr nx 0 l.length 2 l.length false ∧ nw = [some (.cells (ro l))])) := by
      have hg' : ∀ H' : Heap, (∀ i ∈ ids (.arr lid 0 l.length 2 (l.length + m) ex : LV) ++ fids l, H' i = Go.Sx.look H nx ⟨[], []⟩ i) → H' lid = some (.cells (ro l ++ zs m)) := fun H' hH' => by
        rw [hH' lid (by simp [Go.Sx.ids]), look0 lid h2, h4]
      rcases Nat.eq_zero_or_pos l.length with h0 | h0
      · obtain rfl := List.eq_nil_of_length_eq_zero h0
        exact ⟨_, _, fun H' hH' => nclone_0 lid _ ex _ (hg' H' hH') h2, .inl ⟨rfl, rfl, rfl⟩⟩
      · exact ⟨_, _, fun H' hH' => nclone_ lid _ ex m h0 (by omega) g.hw.lo (hg' H' hH') h2, .inr ⟨h0, rfl, rfl⟩⟩
    obtain ⟨H', T, u, nw', hH', e0, hT, hu, hnw⟩ := callO_cl (c := ⟨Ω, noG, H, nx⟩) (h := ⟨[], []⟩) (dr := true) (f := 26) (args := [.arr lid 0 l.length 2 (l.length + m) ex]) (r := r) (P := fun _ u n => u = [] ∧ n = nw)
      (by omega) g0.clX (fun i hi => g0.lt i (List.mem_cons_of_mem _ hi)) (by simp [Go.Sx.ids.idsL, Go.Sx.ids]) (by simp [Go.Sx.ids.idsL, Go.Sx.ids]) (fun T hT hP i hi => by
        have hlid : lid ∈ T := hT lid (by simp [Go.Sx.ids.idsL, Go.Sx.ids])
        rcases List.mem_append.1 hi with h | h
        · obtain rfl : i = lid := by simpa [Go.Sx.ids] using h
          exact hlid
        · refine hP lid (by simp [Go.Sx.ids]) hlid (.cells (ro l ++ zs m)) ?_ i ?_ hi
          · show Go.Sx.look H nx ⟨[], []⟩ lid = _
            rw [look0 lid h2, h4]
          · simp only [Go.Sx.Obj.ids, ids_app, ids_ro, ids_zs, List.append_nil]; exact h) (fun H' hH' => ⟨[], nw, hop H' hH', rfl, rfl⟩)
    subst hu hnw
    have n1 := hne' T hT
    have n2 : nid ∉ T := fun h => n1 nid h rfl
    have hk1 : ∀ k, nid < nx + k := fun k => by omega
    have hk2 : ∀ k, ¬ nx + k ≤ nid := fun k => by omega
    have hk3 : ¬ nx ≤ nid := by omega
    rcases hr with ⟨rfl, rfl, rfl⟩ | ⟨h0, rfl, rfl⟩
    · have fin := copy_fin (H := H) (nx := nx) (room := room) (K := 0) (ex := true) (Q := []) (by simp [Go.Sx.ids.idsL]) (by simp [Go.Sx.ids.idsL])
      obtain rfl : fs = [] := List.eq_nil_of_length_eq_zero hll.symm
      refine ⟨.arr (nx + 1) 0 0 2 0 true, [some (.cells [.arr (nx + 1) 0 0 2 0 true, .int .i64 room]), some (.cells [])], ?_, ⟨by simp, by simp [Go.Sx.look], .nil, by simp, .inr ⟨nx + 1, 0, true, rfl, by omega, by simp, by omega, by simp [Go.Sx.look, ltF, zs, ro], fun _ => ⟨rfl, rfl⟩⟩⟩, by simp [ct, Go.Sx.ids]⟩
      refine om_run (ir := ir9) (by kernel_rfl) 0 ?_
      simp only [aft, setAll_nil, List.nil_append] at e0
      simp only [List.length_nil, Nat.zero_add] at e0
      have hl2 : Go.Sx.look H nx ⟨[], [some (.cells [])]⟩ nid = some (.cells [.arr lid 0 ([] : List Fr).length 2 (([] : List Fr).length + m) ex, .int .i64 room]) := by rw [low_look rfl hgid]; exact g.hl
      simp only [List.length_nil, Nat.zero_add] at hl hl2
      simp [ir9, ssB, List.idxOf?_cons, Go.Sx.LV.undef, Go.undef, Go.Sx.appO, Go.Sx.leI_eq, ltF, hl, hl2, hgid, e0, eq_true n1, n2, hk1, hk2, hk3]
      simp [push, fin]
    · have fin := copy_fin (H := H) (nx := nx) (room := room) (K := l.length) (ex := false) (Q := ro l) g.hw.lo.ids (by have := g.hw.lo.ids_len; omega)
      refine ⟨.arr (nx + 1) 0 l.length 2 l.length false, [some (.cells [.arr (nx + 1) 0 l.length 2 l.length false, .int .i64 room]), some (.cells (ro l))], ?_, ⟨by simp, by simp [Go.Sx.look], g.hw.mono (fun i hi => low_look rfl (g.hw.lt i hi)) (by simp), g.good, .inr ⟨nx + 1, 0, false, rfl, by omega, by simp, by omega, by simp [Go.Sx.look, ltF, zs], fun h => by cases h⟩⟩, by simp [ct, Go.Sx.ids]⟩
      refine om_run (ir := ir9) (by kernel_rfl) 0 ?_
      simp only [aft, setAll_nil, List.nil_append] at e0
      have hl2 : Go.Sx.look H nx ⟨[], [some (.cells (ro l))]⟩ nid = some (.cells [.arr lid 0 l.length 2 (l.length + m) ex, .int .i64 room]) := by rw [low_look rfl hgid]; exact g.hl
      simp [ir9, ssB, List.idxOf?_cons, Go.Sx.LV.undef, Go.undef, Go.Sx.appO, Go.Sx.leI_eq, ltF, hl, hl2, hgid, e0, eq_true n1, n2, hk1, hk2, hk3]
      simp [push, fin]
end copy
end Go.Proofs.YtjmnamichdegaaaGreatDoor
end

section
namespace Go.Proofs.YtjmnamichdegaaaGreatDoor
open Go Go.Sx
set_option linter.unusedSimpArgs false
set_option linter.unusedVariables false

/-- Two pairs of nets, in a heap of the law's own: what the second pair may write, the first one never reads. -/
structure Own4 (h : Hp) (nid xid cid yid room N M : Nat) : Prop where
  upd : h.upd = []
  jj : ∃ X l Y m fs Xc lc Yc mc fs', JJ (Go.Sx.look noH 0 h) (0 + h.new.length) nid xid room X l Y m fs N ∧ JJ (Go.Sx.look noH 0 h) (0 + h.new.length) cid yid room Xc lc Yc mc fs' M ∧
    ∀ i, (i ∈ ct cid Xc ∨ i ∈ ct yid Yc) → i ∉ ft nid X l ∧ i ∉ ft xid Y m

theorem Own4.one {h : Hp} {nid xid cid yid room N M : Nat} (g : Own4 h nid xid cid yid room N M) : Own2 h nid xid room N := by
  obtain ⟨X, l, Y, m, fs, Xc, lc, Yc, mc, fs', j, jc, ap⟩ := g.jj
  exact ⟨g.upd, X, l, Y, m, fs, j⟩
theorem Own4.two {h : Hp} {nid xid cid yid room N M : Nat} (g : Own4 h nid xid cid yid room N M) : Own2 h cid yid room M := by
  obtain ⟨X, l, Y, m, fs, Xc, lc, Yc, mc, fs', j, jc, ap⟩ := g.jj
  exact ⟨g.upd, Xc, lc, Yc, mc, fs', jc⟩
theorem Own4.grow {h h' : Hp} {nid xid cid yid room N M : Nat} (g : Own4 h nid xid cid yid room N M) (hu : h'.upd = []) (hl : h.new.length ≤ h'.new.length) (hs : ∀ i, i < h.new.length → Go.Sx.look noH 0 h' i = Go.Sx.look noH 0 h i) : Own4 h' nid xid cid yid room N M := by
  obtain ⟨X, l, Y, m, fs, Xc, lc, Yc, mc, fs', j, jc, ap⟩ := g.jj
  have e : ∀ {S : List Nat}, (∀ i ∈ S, i < 0 + h.new.length) → ∀ i ∈ S, Go.Sx.look noH 0 h' i = Go.Sx.look noH 0 h i := fun hS i hi => hs i (by have := hS i hi; omega)
  exact ⟨hu, X, l, Y, m, fs, Xc, lc, Yc, mc, fs', ⟨j.n.mono (e j.n.lt) (by omega) (Nat.le_refl _), j.x.mono (e j.x.lt) (by omega) (Nat.le_refl _), j.apart⟩, ⟨jc.n.mono (e jc.n.lt) (by omega) (Nat.le_refl _), jc.x.mono (e jc.x.lt) (by omega) (Nat.le_refl _), jc.apart⟩, ap⟩
theorem Own4.act {h : Hp} {nid xid cid yid room N M : Nat} (g : Own4 h nid xid cid yid room N M) (hM : M < 99) (a : Act) (ha : a.ok) :
    ∃ h', callO ⟨Ω, noG, noH, 0⟩ false h 7 [.ref cid 0, .ref yid 0, .p a.pv] = some ⟨.bool true, h', [], true⟩ ∧ Own4 h' nid xid cid yid room N (M + 1) := by
  obtain ⟨X, l, Y, m, fs, Xc, lc, Yc, mc, fs', j, jc, ap⟩ := g.jj
  have ha' : (a.no : Int) < 2 ^ 64 := by have := ha; unfold Act.ok at this; omega
  obtain ⟨fs2, u, nw, X', l', Y', m', e, j', k1, k2, k3, k4, k5⟩ := do_all (i := a.i) (at' := a.at') (f := a.f) (t := a.t) (nr := a.nr) a.d a.v (no := a.no) ⟨by omega, ha'⟩ jc hM
  have hk : ∀ q ∈ u, q.1 < 0 + h.new.length := fun q hq => by
    rcases k1 q hq with h | h
    · exact jc.n.lt _ (ct_ft _ h)
    · exact jc.x.lt _ (ct_ft _ h)
  have hl : Go.Sx.look noH 0 (aft 0 h u nw) = Go.Sx.look (Go.Sx.look noH 0 h) (0 + h.new.length) ⟨u, nw⟩ := funext fun i => look_aft hk i
  have keep : ∀ {S : List Nat}, (∀ i ∈ S, i < 0 + h.new.length) → (∀ i, (i ∈ ct cid Xc ∨ i ∈ ct yid Yc) → i ∉ S) → ∀ i ∈ S, Go.Sx.look noH 0 (aft 0 h u nw) i = Go.Sx.look noH 0 h i := fun hS hd i hi => by
    rw [hl]
    exact look_low' (hS i hi) fun q hq e => hd q.1 (k1 q hq) (e ▸ hi)
  refine ⟨aft 0 h u nw, ?_, ⟨?_, X, l, Y, m, fs, X', l', Y', m', fs2, ⟨j.n.mono (keep j.n.lt fun i hi => (ap i hi).1) (by rw [aft_len]; omega) (Nat.le_refl _), j.x.mono (keep j.x.lt fun i hi => (ap i hi).2) (by rw [aft_len]; omega) (Nat.le_refl _), j.apart⟩, ?_, fun i hi => ?_⟩⟩
  · simp only [callO, Bool.false_eq_true, if_false, e]
    rfl
  · show (setAll 0 h u).upd = []
    rw [setAll_new, g.upd]
  · rw [hl, aft_len, ← Nat.add_assoc]
    exact j'
  · have : (i ∈ ct cid Xc ∨ i ∈ ct yid Yc) ∨ 0 + h.new.length ≤ i := by
      rcases hi with hi | hi
      · exact (k4 i hi).imp .inl id
      · exact (k5 i hi).imp .inr id
    rcases this with h' | h'
    · exact ap i h'
    · exact ⟨fun hx => by have := j.n.lt i hx; omega, fun hx => by have := j.x.lt i hx; omega⟩

section loops
variable {nid xid cid yid room : Nat} {l : List Act} {fl : Bool} {i : Int} {P : LV}
theorem one_step {n j N : Nat} {h : Hp} (g : Own2 h nid xid room N) (hN : N < 99) (hj : j < l.length) (hlen : l.length < 2 ^ 63) (hok : ∀ a ∈ l, a.ok) :
    ∃ h', runCS ⟨Ω, noG, noH, 0⟩ n ir4_1 ⟨[(1, P), (2, .int .i64 i), (7, .ref nid 0), (8, .ref xid 0), (29, .p (.sl (actsP l) l.length 8 fl)), (30, .int .i64 l.length), (31, .int .i64 j)], h⟩ =
      some (.normal, ⟨[(1, P), (2, .int .i64 i), (7, .ref nid 0), (8, .ref xid 0), (29, .p (.sl (actsP l) l.length 8 fl)), (30, .int .i64 l.length), (31, .int .i64 (j + 1 : Nat))], h'⟩) ∧ Own2 h' nid xid room (if j < 20 then N + 1 else N) := by
  have hsplit : l = l.take j ++ l[j] :: l.drop (j + 1) := by rw [List.getElem_cons_drop, List.take_append_drop]
  have htl : (l.take j).length = j := by rw [List.length_take]; omega
  have hget := actsP_get (l.take j) (l.drop (j + 1)) l[j]
  rw [htl, ← hsplit] at hget
  obtain ⟨a, ha⟩ : ∃ a, a = l[j] := ⟨_, rfl⟩
  have hoka : a.ok := by rw [ha]; exact hok _ (List.getElem_mem hj)
  rw [← ha] at hget
  clear hsplit htl ha
  have hlen2 := actsP_len l
  have hcs : j * 8 + 8 ≤ (actsP l).length := by omega
  have h8 : ¬ (l.length : Int) ≤ j := by omega
  have hw : IntKind.i64.wrap ((j : Int) + 1) = (j : Int) + 1 := wrap_i64 _ (by omega) (by omega)
  have c1 : ∀ z, Go.Sx.look noH 0 (push h z) h.new.length = some z := fun z => by rw [look_push, if_pos (by omega)]
  have hb : ∀ z w, boxed 0 h z w = Go.Sx.setObj 0 (push h (.cells z)) h.new.length (some (.cells w)) := fun z w => by unfold boxed; rw [Nat.zero_add]
  have c2 : ∀ z w, Go.Sx.look noH 0 (Go.Sx.setObj 0 (push h (.cells z)) h.new.length (some (.cells w))) h.new.length = some (.cells w) := fun z w => by
    have := boxed_look (H := noH) (nx := 0) h z w (0 + h.new.length)
    rw [if_pos rfl, hb, Nat.zero_add] at this
    exact this
  by_cases h20 : j < 20
  · obtain ⟨h', e1, g', hle⟩ := (g.boxed actZ a.cs).act hN a hoka
    refine ⟨h', ?_, by rw [if_pos h20]; exact g'⟩
    rw [hb] at e1
    have h20' : ¬ (20 : Int) ≤ j := by omega
    generalize actsP l = Q at *
    generalize l.length = K at *
    obtain ⟨d, f, t, no, i, at', v, nr⟩ := a
    simp [ir4_1, ssB, List.idxOf?_cons, Go.Sx.LV.undef, Go.undef, Go.Sx.appO, Go.Sx.leI_eq, ltF, h8, h20, h20', hw, hj, hcs, hget, sp8, c1, c2, e1]
  · refine ⟨boxed 0 h actZ a.cs, ?_, by rw [if_neg h20]; exact g.boxed actZ a.cs⟩
    rw [hb]
    have h20' : (20 : Int) ≤ j := by omega
    generalize actsP l = Q at *
    generalize l.length = K at *
    obtain ⟨d, f, t, no, i, at', v, nr⟩ := a
    simp [ir4_1, ssB, List.idxOf?_cons, Go.Sx.LV.undef, Go.undef, Go.Sx.appO, Go.Sx.leI_eq, ltF, h8, h20, h20', hw, hj, hcs, hget, sp8, c1, c2]
theorem one_end {n K : Nat} {h : Hp} {A : LV} : runCS ⟨Ω, noG, noH, 0⟩ n ir4_1 ⟨[(1, P), (2, .int .i64 i), (7, .ref nid 0), (8, .ref xid 0), (29, A), (30, .int .i64 K), (31, .int .i64 K)], h⟩ =
    some (.exit 0, ⟨[(1, P), (2, .int .i64 i), (7, .ref nid 0), (8, .ref xid 0), (29, A), (30, .int .i64 K), (31, .int .i64 K), (32, .bool false)], h⟩) := by
  simp [ir4_1, ssB, List.idxOf?_cons, Go.Sx.LV.undef, Go.undef, Go.Sx.callO, Go.Sx.splice, Go.Sx.finish, Go.Sx.look, Go.Sx.push, Go.Sx.setObj, Go.Sx.setU, Go.Sx.setAll, Go.Sx.appO, Go.Sx.leI_eq, ltF]
theorem one_all {n : Nat} (hlen : l.length < 2 ^ 63) (hok : ∀ a ∈ l, a.ok) : ∀ (k q j N : Nat) (h : Hp), Own2 h nid xid room N → N ≤ min j 20 → j + k = l.length → k < q →
    ∃ h' N', iter (runCS ⟨Ω, noG, noH, 0⟩ n ir4_1) q ⟨[(1, P), (2, .int .i64 i), (7, .ref nid 0), (8, .ref xid 0), (29, .p (.sl (actsP l) l.length 8 fl)), (30, .int .i64 l.length), (31, .int .i64 j)], h⟩ =
      some (.exit 0, ⟨[(1, P), (2, .int .i64 i), (7, .ref nid 0), (8, .ref xid 0), (29, .p (.sl (actsP l) l.length 8 fl)), (30, .int .i64 l.length), (31, .int .i64 l.length), (32, .bool false)], h'⟩) ∧ Own2 h' nid xid room N' ∧ N' ≤ 20 := by
  intro k
  induction k with
  | zero =>
    intro q j N h g hN hj hq
    obtain ⟨q, rfl⟩ : ∃ r, q = r + 1 := ⟨q - 1, by omega⟩
    obtain rfl : j = l.length := by omega
    exact ⟨h, N, iter_out one_end (by simp), g, by omega⟩
  | succ k ih =>
    intro q j N h g hN hj hq
    obtain ⟨q, rfl⟩ : ∃ r, q = r + 1 := ⟨q - 1, by omega⟩
    have m1 : j < l.length := by omega
    obtain ⟨h', e, g'⟩ := one_step (n := n) (j := j) (fl := fl) (i := i) (P := P) g (by omega) m1 hlen hok
    rw [iter_step e]
    exact ih q (j + 1) _ h' g' (by split <;> omega) (by omega) (by omega)

theorem two_step' {n j N M : Nat} {h : Hp} (g : Own4 h nid xid cid yid room N M) (hM : M < 99) (hj : j < l.length) (hlen : l.length < 2 ^ 63) (hok : ∀ a ∈ l, a.ok) :
    ∃ h', runCS ⟨Ω, noG, noH, 0⟩ n ir4_0 ⟨[(2, .int .i64 i), (7, .ref nid 0), (8, .ref xid 0), (11, .ref cid 0), (12, .ref yid 0), (53, .p (.sl (actsP l) l.length 8 fl)), (54, .int .i64 l.length), (55, .int .i64 j)], h⟩ =
      some (.normal, ⟨[(2, .int .i64 i), (7, .ref nid 0), (8, .ref xid 0), (11, .ref cid 0), (12, .ref yid 0), (53, .p (.sl (actsP l) l.length 8 fl)), (54, .int .i64 l.length), (55, .int .i64 (j + 1 : Nat))], h'⟩) ∧ Own4 h' nid xid cid yid room N (if j < 20 then M + 1 else M) := by
  have hsplit : l = l.take j ++ l[j] :: l.drop (j + 1) := by rw [List.getElem_cons_drop, List.take_append_drop]
  have htl : (l.take j).length = j := by rw [List.length_take]; omega
  have hget := actsP_get (l.take j) (l.drop (j + 1)) l[j]
  rw [htl, ← hsplit] at hget
  obtain ⟨a, ha⟩ : ∃ a, a = l[j] := ⟨_, rfl⟩
  have hoka : a.ok := by rw [ha]; exact hok _ (List.getElem_mem hj)
  rw [← ha] at hget
  clear hsplit htl ha
  have hlen2 := actsP_len l
  have hcs : j * 8 + 8 ≤ (actsP l).length := by omega
  have h8 : ¬ (l.length : Int) ≤ j := by omega
  have hw : IntKind.i64.wrap ((j : Int) + 1) = (j : Int) + 1 := wrap_i64 _ (by omega) (by omega)
  have c1 : ∀ z, Go.Sx.look noH 0 (push h z) h.new.length = some z := fun z => by rw [look_push, if_pos (by omega)]
  have hb : ∀ z w, boxed 0 h z w = Go.Sx.setObj 0 (push h (.cells z)) h.new.length (some (.cells w)) := fun z w => by unfold boxed; rw [Nat.zero_add]
  have c2 : ∀ z w, Go.Sx.look noH 0 (Go.Sx.setObj 0 (push h (.cells z)) h.new.length (some (.cells w))) h.new.length = some (.cells w) := fun z w => by
    have := boxed_look (H := noH) (nx := 0) h z w (0 + h.new.length)
    rw [if_pos rfl, hb, Nat.zero_add] at this
    exact this
  have gb : Own4 (boxed 0 h actZ a.cs) nid xid cid yid room N M := g.grow (by rw [boxed_upd, g.upd]) (by rw [boxed_len]; omega) (fun i hi => by rw [boxed_look, if_neg (by omega)])
  by_cases h20 : j < 20
  · obtain ⟨h', e1, g'⟩ := gb.act hM a hoka
    refine ⟨h', ?_, by rw [if_pos h20]; exact g'⟩
    rw [hb] at e1
    have h20' : ¬ (20 : Int) ≤ j := by omega
    generalize actsP l = Q at *
    generalize l.length = K at *
    obtain ⟨d, f, t, no, i, at', v, nr⟩ := a
    simp [ir4_0, ssB, List.idxOf?_cons, Go.Sx.LV.undef, Go.undef, Go.Sx.appO, Go.Sx.leI_eq, ltF, h8, h20, h20', hw, hj, hcs, hget, sp8, c1, c2, e1]
  · refine ⟨boxed 0 h actZ a.cs, ?_, by rw [if_neg h20]; exact gb⟩
    rw [hb]
    have h20' : (20 : Int) ≤ j := by omega
    generalize actsP l = Q at *
    generalize l.length = K at *
    obtain ⟨d, f, t, no, i, at', v, nr⟩ := a
    simp [ir4_0, ssB, List.idxOf?_cons, Go.Sx.LV.undef, Go.undef, Go.Sx.appO, Go.Sx.leI_eq, ltF, h8, h20, h20', hw, hj, hcs, hget, sp8, c1, c2]
theorem two_end' {n K : Nat} {h : Hp} {A : LV} : runCS ⟨Ω, noG, noH, 0⟩ n ir4_0 ⟨[(2, .int .i64 i), (7, .ref nid 0), (8, .ref xid 0), (11, .ref cid 0), (12, .ref yid 0), (53, A), (54, .int .i64 K), (55, .int .i64 K)], h⟩ =
    some (.exit 2, ⟨[(2, .int .i64 i), (7, .ref nid 0), (8, .ref xid 0), (11, .ref cid 0), (12, .ref yid 0), (53, A), (54, .int .i64 K), (55, .int .i64 K), (56, .bool false)], h⟩) := by
  simp [ir4_0, ssB, List.idxOf?_cons, Go.Sx.LV.undef, Go.undef, Go.Sx.callO, Go.Sx.splice, Go.Sx.finish, Go.Sx.look, Go.Sx.push, Go.Sx.setObj, Go.Sx.setU, Go.Sx.setAll, Go.Sx.appO, Go.Sx.leI_eq, ltF]
theorem two_all' {n : Nat} (hlen : l.length < 2 ^ 63) (hok : ∀ a ∈ l, a.ok) : ∀ (k q j N M : Nat) (h : Hp), Own4 h nid xid cid yid room N M → M ≤ min j 20 + 20 → j + k = l.length → k < q →
    ∃ h' M', iter (runCS ⟨Ω, noG, noH, 0⟩ n ir4_0) q ⟨[(2, .int .i64 i), (7, .ref nid 0), (8, .ref xid 0), (11, .ref cid 0), (12, .ref yid 0), (53, .p (.sl (actsP l) l.length 8 fl)), (54, .int .i64 l.length), (55, .int .i64 j)], h⟩ =
      some (.exit 2, ⟨[(2, .int .i64 i), (7, .ref nid 0), (8, .ref xid 0), (11, .ref cid 0), (12, .ref yid 0), (53, .p (.sl (actsP l) l.length 8 fl)), (54, .int .i64 l.length), (55, .int .i64 l.length), (56, .bool false)], h'⟩) ∧ Own4 h' nid xid cid yid room N M' ∧ M' ≤ 40 := by
  intro k
  induction k with
  | zero =>
    intro q j N M h g hN hj hq
    obtain ⟨q, rfl⟩ : ∃ r, q = r + 1 := ⟨q - 1, by omega⟩
    obtain rfl : j = l.length := by omega
    exact ⟨h, M, iter_out two_end' (by simp), g, by omega⟩
  | succ k ih =>
    intro q j N M h g hN hj hq
    obtain ⟨q, rfl⟩ : ∃ r, q = r + 1 := ⟨q - 1, by omega⟩
    have m1 : j < l.length := by omega
    obtain ⟨h', e, g'⟩ := two_step' (n := n) (j := j) (fl := fl) (i := i) g (by omega) m1 hlen hok
    rw [iter_step e]
    exact ih q (j + 1) N _ h' g' (by split <;> omega) (by omega) (by omega)
end loops
end Go.Proofs.YtjmnamichdegaaaGreatDoor
end

section
namespace Go.Proofs.YtjmnamichdegaaaGreatDoor
open Go Go.Sx
set_option linter.unusedSimpArgs false
set_option linter.unusedVariables false

def rest : Nat → IRC → IRC
  | 0, c => c
  | n + 1, c => rest n (seqR c)
def apC : IRC := seqL (rest 4 ir4.body)
def apT : IRC := rest 6 ir4.body
def apA : IRC := seqL apT
def apB : IRC := seqL (seqR apT)
def apD : IRC := rest 8 ir4.body
theorem apT_parts : apT = .seq apA (.seq apB apD) := rfl

section tail
variable {n nid xid cid yid room N M : Nat} {i : Int}
theorem callP {h : Hp} {f : FuncId} {args : List LV} {r : LV} (e : Ω f args (Go.Sx.look noH 0 h) (0 + h.new.length) = some (r, [], [])) : callO ⟨Ω, noG, noH, 0⟩ false h f args = some ⟨r, h, [], true⟩ := by
  simp only [callO, Bool.false_eq_true, if_false, e, setAll_nil]
  simp
theorem xor255 (b : UInt8) : ∃ z : Int, binI .xor .u8 (b.toNat : Int) 255 = some (.int .u8 z) := ⟨_, rfl⟩
abbrev nilB (h : Hp) : Hp := boxed 0 h (ntzC 0 0 0 0) (ntzC 0 0 0 0)
theorem tail2_run {h2 : Hp} (E : Env) (g2 : Own4 h2 nid xid cid yid room N M) (hN : N ≤ 100) (hM : M ≤ 100) : ∃ h', runCS ⟨Ω, noG, noH, 0⟩ n apD ⟨(2, .int .i64 i) :: (7, .ref nid 0) :: (8, .ref xid 0) :: (11, .ref cid 0) :: (12, .ref yid 0) :: E, h2⟩ =
    some (.ret, ⟨[(6, .bool true)], h'⟩) ∧ h'.upd = [] := by
  have hb : ∀ (h : Hp) z w, boxed 0 h z w = Go.Sx.setObj 0 (push h (.cells z)) h.new.length (some (.cells w)) := fun h z w => by unfold boxed; rw [Nat.zero_add]
  have c1 : ∀ (h : Hp) z, Go.Sx.look noH 0 (push h z) h.new.length = some z := fun h z => by rw [look_push, if_pos (by omega)]
  have z0 : IntKind.i64.wrap 0 = 0 := by decide
  have g3 : Own4 (nilB h2) nid xid cid yid room N M := g2.grow (by rw [boxed_upd, g2.upd]) (by rw [boxed_len]; omega) (fun i hi => by rw [boxed_look, if_neg (by omega)])
  have k1 : callO ⟨Ω, noG, noH, 0⟩ false (nilB h2) 10 [nilP, .int .i64 i] = some ⟨.tuple [.p (.s (.slice none 0 0)), .int .i64 0, .bool false], nilB h2, [], true⟩ := callP (zlook _ _ _)
  have k3 : callO ⟨Ω, noG, noH, 0⟩ false h2 11 [nilP, .int .i64 i] = some ⟨.tuple [.p (ntz 0 0 0 0), .int .i64 2], h2, [], true⟩ := callP (ztake _ _ _)
  have k4 := g3.one.like (by omega)
  have k5 := g3.two.like (by omega)
  have k6 : callO ⟨Ω, noG, noH, 0⟩ false (nilB h2) 12 [nilP, .p (ntz 5 1 0 0)] = some ⟨.int .i64 2, nilB h2, [], true⟩ := callP (zsend _ _)
  have k7 : callO ⟨Ω, noG, noH, 0⟩ false (nilB h2) 13 [nilP, .int .i64 i] = some ⟨.int .i64 2, nilB h2, [], true⟩ := callP (zdrop _ _ _)
  have k8 : callO ⟨Ω, noG, noH, 0⟩ false (nilB h2) 14 [nilP, .int .i64 i] = some ⟨.int .i64 2, nilB h2, [], true⟩ := callP (zdouble _ _ _)
  have k9 : callO ⟨Ω, noG, noH, 0⟩ false (nilB h2) 15 [nilP, .int .i64 i, .int .i64 i, .int .u8 1] = some ⟨.int .i64 2, nilB h2, [], true⟩ := callP (zturn _ _ _)
  have k10 : callO ⟨Ω, noG, noH, 0⟩ false (nilB h2) 16 [nilP, .int .i64 i] = some ⟨.int .i64 0, nilB h2, [], true⟩ := callP (zclear _ _ _)
  have k11 : callO ⟨Ω, noG, noH, 0⟩ false (nilB h2) 17 [nilP] = some ⟨.int .i64 0, nilB h2, [], true⟩ := callP (zlen _ _)
  have k12 : callO ⟨Ω, noG, noH, 0⟩ false (nilB h2) 9 [nilP] = some ⟨nilP, nilB h2, [], true⟩ := callP (zcopy _ _)
  refine ⟨nilB h2, ?_, g3.upd⟩
  have c3 := c1 h2
  simp only [nilB, hb] at k1 k4 k5 k6 k7 k8 k9 k10 k11 k12 ⊢
  simp [apD, rest, seqR, ir4, ssB, List.idxOf?_cons, Go.Sx.LV.undef, Go.undef, Go.Sx.appO, Go.Sx.leI_eq, ltF, c3, sp15, k1, k3, k4, k5, k6, k7, k8, k9, k10, k11, k12, z0]
theorem tail_run {h : Hp} (E : Env) (g : Own4 h nid xid cid yid room N M) (hN : N ≤ 100) (hM : M ≤ 100) : ∃ h', runCS ⟨Ω, noG, noH, 0⟩ n apT ⟨(2, .int .i64 i) :: (7, .ref nid 0) :: (8, .ref xid 0) :: (11, .ref cid 0) :: (12, .ref yid 0) :: E, h⟩ =
    some (.ret, ⟨[(6, .bool true)], h'⟩) ∧ h'.upd = [] := by
  have c1 : ∀ (h : Hp) z, Go.Sx.look noH 0 (push h z) h.new.length = some z := fun h z => by rw [look_push, if_pos (by omega)]
  obtain ⟨X, l, Y, m, fs, Xc, lc, Yc, mc, fs', j, jc, ap⟩ := g.jj
  have go : ∀ (h2 : Hp) (E2 : Env) (s2 : St), runCS ⟨Ω, noG, noH, 0⟩ n apA ⟨(2, .int .i64 i) :: (7, .ref nid 0) :: (8, .ref xid 0) :: (11, .ref cid 0) :: (12, .ref yid 0) :: E, h⟩ = some (.normal, s2) → runCS ⟨Ω, noG, noH, 0⟩ n apB s2 = some (.normal, ⟨(2, .int .i64 i) :: (7, .ref nid 0) :: (8, .ref xid 0) :: (11, .ref cid 0) :: (12, .ref yid 0) :: E2, h2⟩) →
      Own4 h2 nid xid cid yid room N M → ∃ h', runCS ⟨Ω, noG, noH, 0⟩ n apT ⟨(2, .int .i64 i) :: (7, .ref nid 0) :: (8, .ref xid 0) :: (11, .ref cid 0) :: (12, .ref yid 0) :: E, h⟩ = some (.ret, ⟨[(6, .bool true)], h'⟩) ∧ h'.upd = [] := fun h2 E2 s2 e1 e2 g2 => by
    obtain ⟨h', e, u⟩ := tail2_run (n := n) (i := i) E2 g2 hN hM
    refine ⟨h', ?_, u⟩
    rw [apT_parts, runCS_seq, e1]
    simp only []
    rw [runCS_seq, e2]
    simp only []
    exact e
  by_cases h0 : fs = []
  · have e0 : callO ⟨Ω, noG, noH, 0⟩ false h 10 [.ref nid 0, .int .i64 0] = some ⟨.tuple [.p (.s (.slice none 0 0)), .int .i64 0, .bool false], h, [], true⟩ :=
      callP (nlook_out nid (.int .i64 room) _ _ X l.length 0 (by rw [j.n.hw.len, h0]; simp) j.n.sl j.n.hl j.n.hid)
    refine go h [(15, .p (.s (.slice none 0 0))), (76, .bool false)] ⟨[(2, .int .i64 i), (7, .ref nid 0), (8, .ref xid 0), (11, .ref cid 0), (12, .ref yid 0), (15, .p (.s (.slice none 0 0))), (17, .bool false)], h⟩ ?_ ?_ g
    · simp [apA, apT, rest, seqL, seqR, ir4, ssB, List.idxOf?_cons, Go.Sx.LV.undef, Go.undef, Go.Sx.appO, Go.Sx.leI_eq, ltF, e0]
    · simp [apB, apT, rest, seqL, seqR, ir4, ssB, List.idxOf?_cons, Go.Sx.LV.undef, Go.undef, Go.Sx.appO, Go.Sx.leI_eq, ltF]
  · obtain ⟨A', F, t, B', hfs, hA⟩ := fs_split fs 0 ⟨by omega, by
      cases fs with
      | nil => exact absurd rfl h0
      | cons f fs => simp⟩
    obtain rfl : A' = [] := List.eq_nil_of_length_eq_zero (by omega)
    rw [List.nil_append] at hfs
    subst hfs
    have jn := j.n
    obtain ⟨A, x, B, rfl, hA2, gA, gw, gB⟩ := AllW.split' (A' := []) j.n.hw
    obtain rfl : A = [] := List.eq_nil_of_length_eq_zero (by simpa using hA2)
    have hgF := j.n.good (F, t) (by simp)
    have hF1 := hgF.1
    have hF2 := hgF.2.1
    dsimp only at hF1 hF2
    rcases j.n.hx with ⟨_, e⟩ | ⟨lid, q, ex, rfl, h1, h2, h3, h4, hex⟩
    · simp at e
    obtain rfl : ex = false := by
      cases ex
      · rfl
      · simpa using (hex rfl).1
    have hlen : ([] ++ (x, t) :: B : List Fr).length = ([] : List Fr).length + 1 + B.length := by simp; omega
    have hl := j.n.hl
    rw [hlen] at hl
    have e0' := nlook_ nid lid _ [] B (x, t) (zs q) F (.int .i64 room) (Go.Sx.look noH 0 h) (0 + h.new.length) (by omega) (by omega) gw hl h4 j.n.hid h2
    have e0 : callO ⟨Ω, noG, noH, 0⟩ false h 10 [.ref nid 0, .int .i64 0] = some ⟨.tuple [.arr h.new.length 0 F.length 1 F.length false, .int .i64 t, .bool true], push h (.cells (byt F)), [], true⟩ := by
      simp only [List.length_nil, Int.natCast_zero, Int.ofNat_zero] at e0'
      simp only [callO, Bool.false_eq_true, if_false, e0', setAll_nil]
      simp [push]
    obtain ⟨b, hb0⟩ : ∃ b, F[0]? = some b := ⟨F[0], List.getElem?_eq_getElem (by omega)⟩
    obtain ⟨z, hz⟩ := xor255 b
    have hbb : (byt F)[0]? = some (.int .u8 b.toNat) := by simp [byt, hb0]
    have hF0 : 0 < F.length := by omega
    have hbl := byt_len F
    have g2 : Own4 (Go.Sx.setObj 0 (push h (.cells (byt F))) h.new.length (some (.cells (splice (byt F) 0 [.int .u8 z])))) nid xid cid yid room N M := by
      refine g.grow (by rw [setObj_upd _ _ _ _ (by omega), push_upd, g.upd]) (by rw [setObj_len, push_len]; omega) (fun i hi => by rw [look_set' (by rw [push_len]; omega), if_neg (by omega), look_push, if_neg (by omega)])
    have c4 : Go.Sx.look noH 0 (push h (.cells (byt F))) h.new.length = some (.cells (byt F)) := c1 h _
    refine go _ [] ⟨[(2, .int .i64 i), (7, .ref nid 0), (8, .ref xid 0), (11, .ref cid 0), (12, .ref yid 0), (15, .arr h.new.length 0 F.length 1 F.length false), (17, .bool true)], push h (.cells (byt F))⟩ ?_ ?_ g2
    · simp [apA, apT, rest, seqL, seqR, ir4, ssB, List.idxOf?_cons, Go.Sx.LV.undef, Go.undef, Go.Sx.appO, Go.Sx.leI_eq, ltF, e0]
    · clear g2 e0 e0'
      generalize byt F = Q at *
      generalize F.length = K at *
      have hQ1 : 1 ≤ Q.length := by omega
      have hQ0 : 0 < Q.length := by omega
      have hbq : ∀ h : 0 < Q.length, Q[0] = .int .u8 b.toNat := fun h => (List.getElem?_eq_some_iff.1 hbb).2
      simp [apB, apT, rest, seqL, seqR, ir4, ssB, List.idxOf?_cons, Go.Sx.LV.undef, Go.undef, Go.Sx.appO, Go.Sx.leI_eq, ltF, c4, hbb, hbq, hz, hF0, hQ1, hQ0]
end tail
end Go.Proofs.YtjmnamichdegaaaGreatDoor
end

section
namespace Go.Proofs.YtjmnamichdegaaaGreatDoor
open Go Go.Sx
set_option linter.unusedSimpArgs false
set_option linter.unusedVariables false

section copy
variable {n nid xid N : Nat} {i : Int} {P : LV}
theorem copy_run {h : Hp} (E : Env) (g : Own2 h nid xid 20 N) (hN : N ≤ 20) : ∃ h' cid yid, runCS ⟨Ω, noG, noH, 0⟩ n apC ⟨(1, P) :: (2, .int .i64 i) :: (7, .ref nid 0) :: (8, .ref xid 0) :: E, h⟩ =
    some (.normal, ⟨[(1, P), (2, .int .i64 i), (7, .ref nid 0), (8, .ref xid 0), (11, .ref cid 0), (12, .ref yid 0)], h'⟩) ∧ Own4 h' nid xid cid yid 20 N N := by
  obtain ⟨X, l, Y, m, fs, j⟩ := g.jj
  obtain ⟨nx1, hnx1⟩ : ∃ k, k = h.new.length := ⟨_, rfl⟩
  obtain ⟨H', T, u, nw, hH', e0, hT, hu, X', gN, hct⟩ := callO_cl (c := ⟨Ω, noG, noH, 0⟩) (h := h) (dr := true) (f := 9) (args := [.ref nid 0]) (r := .ref (0 + h.new.length) 0)
    (P := fun H' u nw => u = [] ∧ ∃ X', NN (Go.Sx.look H' (0 + h.new.length) ⟨[], nw⟩) (0 + h.new.length + nw.length) (0 + h.new.length) 20 X' l fs N ∧ ∀ i ∈ ct (0 + h.new.length) X', 0 + h.new.length ≤ i)
    (by omega) j.n.cl j.n.lt (by simp [Go.Sx.ids.idsL, Go.Sx.ids, ft]) (by simp [Go.Sx.ids.idsL, Go.Sx.ids]) (fun T hT hP => j.n.conn (P := (· ∈ T)) (hT nid (by simp [Go.Sx.ids.idsL, Go.Sx.ids])) hP) (fun H' hH' => by
      obtain ⟨X', nw, q1, q2, q3⟩ := ncopy_ (j.n.mono hH' (Nat.le_refl _) (Nat.le_refl _)) (by omega)
      exact ⟨[], nw, q1, rfl, X', q2, q3⟩)
  subst hu
  have hlow : ∀ i, i < h.new.length → Go.Sx.look noH 0 (aft 0 h [] nw) i = Go.Sx.look noH 0 h i := fun i hi => by
    rw [look_aft (fun q hq => by simp at hq)]
    exact look_low' (by omega) (fun q hq => by simp at hq)
  have hlen1 : (aft 0 h [] nw).new.length = h.new.length + nw.length := aft_len
  have hupd1 : (aft 0 h [] nw).upd = [] := by show (setAll 0 h []).upd = []; rw [setAll_nil, g.upd]
  have gc : NN (Go.Sx.look noH 0 (aft 0 h [] nw)) (0 + (aft 0 h [] nw).new.length) (0 + h.new.length) 20 X' l fs N := by
    refine gN.mono (fun i hi => ?_) (by rw [hlen1]; omega) (Nat.le_refl _)
    rw [look_aft (fun q hq => by simp at hq)]
    have hi' : i ∈ fids l ∨ 0 + h.new.length ≤ i := by
      simp only [ft, List.mem_cons, List.mem_append] at hi
      rcases hi with h | h | h
      · exact .inr (by omega)
      · exact .inr (hct i (by simp [ct, h]))
      · exact .inl h
    rcases hi' with h' | h'
    · exact look_agree (S := fids l) (fun k hk => hH' k (by simp [ft, hk])) i (.inl h')
    · exact look_agree (S := fids l) (fun k hk => hH' k (by simp [ft, hk])) i (.inr h')
  obtain ⟨h1, hh1⟩ : ∃ h1, h1 = aft 0 h [] nw := ⟨_, rfl⟩
  rw [← hh1] at e0 hlow hlen1 hupd1 gc
  have hxid := j.x.hid
  have hxl := hlow xid (by omega)
  have hjl := j.x.hl
  rw [hjl] at hxl
  have t1 : ∀ x ∈ T, ¬ x = xid := fun x hx e => j.apart x (hT x hx) (e ▸ (by simp [ft]))
  have t2 : xid ∉ T := fun hx => t1 xid hx rfl
  have hx1 : ¬ h.new.length ≤ xid := by omega
  have hx2 : ¬ h1.new.length ≤ xid := by omega
  have hx3 : xid < h1.new.length := by omega
  have hllm := j.x.hw.len
  have hlN := j.x.len
  -- what is left behind it all
  have key : ∀ (h' : Hp) (yid : Nat) (Y' : LV), h'.upd = [] → h1.new.length ≤ h'.new.length → (∀ i, i < h1.new.length → Go.Sx.look noH 0 h' i = Go.Sx.look noH 0 h1 i) → h1.new.length ≤ yid → yid < h'.new.length → Go.Sx.look noH 0 h' yid = some (.cells [Y', .int .i64 20]) →
      (∃ lid ex, Y' = .arr lid 0 m.length 3 m.length ex ∧ h1.new.length ≤ lid ∧ lid < h'.new.length ∧ yid ≠ lid ∧ Go.Sx.look noH 0 h' lid = some (.cells (rr m))) → Own4 h' nid xid (0 + h.new.length) yid 20 N N := by
    intro h' yid Y' q1 q2 q3 q4 q5 q6 ⟨lid, ex, e1, e2, e3, e4, e5⟩
    subst e1
    have low : ∀ i, i < h.new.length → Go.Sx.look noH 0 h' i = Go.Sx.look noH 0 h i := fun i hi => by rw [q3 i (by omega), hlow i hi]
    have lowS : ∀ {S : List Nat}, (∀ i ∈ S, i < 0 + h.new.length) → ∀ i ∈ S, Go.Sx.look noH 0 h' i = Go.Sx.look noH 0 h i := fun hS i hi => low i (by have := hS i hi; omega)
    have fm : ∀ i ∈ fids m, i < 0 + h.new.length := j.x.hw.lt
    refine ⟨q1, X, l, Y, m, fs, X', l, .arr lid 0 m.length 3 m.length ex, m, fs, ⟨j.n.mono (lowS j.n.lt) (by omega) (Nat.le_refl _), j.x.mono (lowS j.x.lt) (by omega) (Nat.le_refl _), j.apart⟩,
      ⟨gc.mono (fun i hi => q3 i (by have := gc.lt i hi; omega)) (by omega) (Nat.le_refl _), ⟨by omega, q6, j.x.hw.mono (lowS fm) (by omega), j.x.good, .inr ⟨lid, ex, rfl, by omega, by omega, e4, e5⟩⟩, fun i hi hx => ?_⟩, fun i hi => ?_⟩
    · have h1' : i ∈ fids l ∨ (0 + h.new.length ≤ i ∧ i < h1.new.length) := by
        have hlt := gc.lt i hi
        simp only [ft, List.mem_cons, List.mem_append] at hi
        rcases hi with h | h | h
        · exact .inr ⟨by omega, by omega⟩
        · exact .inr ⟨hct i (by simp [ct, h]), by omega⟩
        · exact .inl h
      simp only [ft, List.mem_cons, List.mem_append, Go.Sx.ids, List.not_mem_nil, or_false] at hx
      rcases h1' with h | h
      · have hl' := j.n.hw.lt i h
        rcases hx with h2 | h2 | h2
        · omega
        · omega
        · exact j.apart i (by simp [ft, h]) (by simp [ft, h2])
      · rcases hx with h2 | h2 | h2
        · omega
        · omega
        · have := fm i h2; omega
    · have : 0 + h.new.length ≤ i := by
        rcases hi with hi | hi
        · exact hct i hi
        · simp only [ct, List.mem_cons, Go.Sx.ids, List.not_mem_nil, or_false] at hi
          omega
      exact ⟨fun hx => by have := j.n.lt i hx; omega, fun hx => by have := j.x.lt i hx; omega⟩
  have c1 : ∀ (h : Hp) z, Go.Sx.look noH 0 (push h z) h.new.length = some z := fun h z => by rw [look_push, if_pos (by omega)]
  have c2 : ∀ (h : Hp) z k, k < h.new.length → Go.Sx.look noH 0 (push h z) k = Go.Sx.look noH 0 h k := fun h z k hk => by rw [look_push, if_neg (by omega)]
  rw [Nat.zero_add] at e0
  by_cases hm : m = []
  · subst hm
    refine ⟨push (push h1 (.cells [])) (.cells [.arr h1.new.length 0 0 3 0 true, .int .i64 20]), h.new.length, h1.new.length + 1, ?_, ?_⟩
    · have d1 := c1 h1 (.cells [])
      have d2 := c2 h1 (.cells []) xid hx3
      rw [hxl] at d2
      have p1 := push_len h1 (.cells [])
      rcases j.x.hx with ⟨rfl, _⟩ | ⟨lid2, ex, rfl, k1, k2, k3, k4⟩
      · simp [apC, rest, seqL, seqR, ir4, ssB, List.idxOf?_cons, Go.Sx.LV.undef, Go.undef, Go.Sx.appO, Go.Sx.leI_eq, ltF, e0, d1, d2, p1, eq_true t1, t2, hx1, hx2]
      · have d3 := c2 h1 (.cells []) lid2 (by omega)
        rw [hlow lid2 (by omega), k4] at d3
        simp only [List.length_nil] at d2
        simp [apC, rest, seqL, seqR, ir4, ssB, List.idxOf?_cons, Go.Sx.LV.undef, Go.undef, Go.Sx.appO, Go.Sx.leI_eq, ltF, e0, d1, d2, d3, p1, eq_true t1, t2, hx1, hx2]
    · have := key (push (push h1 (.cells [])) (.cells [.arr h1.new.length 0 0 3 0 true, .int .i64 20])) (h1.new.length + 1) (.arr h1.new.length 0 0 3 0 true) (by rw [push_upd, push_upd, hupd1]) (by rw [push_len, push_len]; omega) (fun i hi => by rw [c2 _ _ _ (by rw [push_len]; omega), c2 _ _ _ hi]) (by omega) (by rw [push_len, push_len]; omega)
        (by rw [← push_len h1 (.cells [])]; exact c1 _ _) ⟨h1.new.length, true, rfl, Nat.le_refl _, by rw [push_len, push_len]; omega, by omega, by rw [c2 _ _ _ (by rw [push_len]; omega), c1]; rfl⟩
      rw [Nat.zero_add] at this
      exact this
  · rcases j.x.hx with ⟨_, e⟩ | ⟨lid2, ex, rfl, k1, k2, k3, k4⟩
    · exact absurd e hm
    have hm0 : 0 < m.length := Nat.pos_of_ne_zero fun h => hm (List.eq_nil_of_length_eq_zero h)
    have hm0' : ¬ m.length = 0 := by omega
    have g6 : m.length * 56 ≤ 1099511627776 := by omega
    have g6' : ¬ 1099511627776 < m.length * 56 := by omega
    have hrl := rr_len m
    have htk : List.take (m.length * 3) (rr m) = rr m := by rw [← hrl, List.take_length]
    refine ⟨push (push (push h1 (.cells [])) (.cells (rr m))) (.cells [.arr (h1.new.length + 1) 0 m.length 3 m.length false, .int .i64 20]), h.new.length, h1.new.length + 2, ?_, ?_⟩
    · have d1 := c1 h1 (.cells [])
      have d2 := c2 h1 (.cells []) xid hx3
      rw [hxl] at d2
      have d3 := c2 h1 (.cells []) lid2 (by omega)
      rw [hlow lid2 (by omega), k4] at d3
      have p1 := push_len h1 (.cells [])
      have p2 := push_len (push h1 (.cells [])) (.cells (rr m))
      clear key
      generalize rr m = Q at *
      generalize m.length = K at *
      simp [apC, rest, seqL, seqR, ir4, ssB, List.idxOf?_cons, Go.Sx.LV.undef, Go.undef, Go.Sx.appO, Go.Sx.leI_eq, ltF, e0, d1, d2, d3, p1, p2, eq_true t1, t2, hx1, hx2, hm0', g6, g6', hrl, htk]
    · have := key (push (push (push h1 (.cells [])) (.cells (rr m))) (.cells [.arr (h1.new.length + 1) 0 m.length 3 m.length false, .int .i64 20])) (h1.new.length + 2) (.arr (h1.new.length + 1) 0 m.length 3 m.length false) (by rw [push_upd, push_upd, push_upd, hupd1]) (by rw [push_len, push_len, push_len]; omega)
        (fun i hi => by rw [c2 _ _ _ (by rw [push_len, push_len]; omega), c2 _ _ _ (by rw [push_len]; omega), c2 _ _ _ hi]) (by omega) (by rw [push_len, push_len, push_len]; omega)
        (by
          have := c1 (push (push h1 (.cells [])) (.cells (rr m))) (.cells [.arr (h1.new.length + 1) 0 m.length 3 m.length false, .int .i64 20])
          rwa [push_len, push_len] at this) ⟨h1.new.length + 1, false, rfl, by omega, by rw [push_len, push_len, push_len]; omega, by omega, by
          have := c1 (push h1 (.cells [])) (.cells (rr m))
          rw [push_len] at this
          rw [c2 _ _ _ (by rw [push_len, push_len]; omega), this]⟩
      rw [Nat.zero_add] at this
      exact this
end copy

def apL1 : IRC := seqL (rest 3 ir4.body)
def apL2 : IRC := seqL (rest 5 ir4.body)
theorem ap_parts : rest 3 ir4.body = .seq apL1 (.seq apC (.seq apL2 apT)) := rfl
section whole
variable {n nid xid cid yid room N M : Nat} {i : Int}
theorem l1_run {h : Hp} {A P : LV} {l : List Act} (hA : Acts A l) (hn : l.length < n) (hlen : l.length < 2 ^ 63) (hok : ∀ a ∈ l, a.ok) (g : Own2 h nid xid room 0) : ∃ h' N' E, runCS ⟨Ω, noG, noH, 0⟩ n apL1 ⟨[(0, A), (1, P), (2, .int .i64 i), (7, .ref nid 0), (8, .ref xid 0)], h⟩ =
    some (.normal, ⟨(1, P) :: (2, .int .i64 i) :: (7, .ref nid 0) :: (8, .ref xid 0) :: E, h'⟩) ∧ Own2 h' nid xid room N' ∧ N' ≤ 20 := by
  rcases hA with ⟨rfl, rfl⟩ | ⟨fl, rfl⟩
  · obtain ⟨n, rfl⟩ : ∃ m, n = m + 1 := ⟨n - 1, by omega⟩
    have e1 := iter_out (n := n) (one_end (n := n + 1) (K := 0) (nid := nid) (xid := xid) (i := i) (P := P) (A := nilS) (h := h)) (by simp)
    simp only [Int.natCast_zero, Int.ofNat_zero] at e1
    refine ⟨h, 0, [(29, nilS), (30, .int .i64 0), (31, .int .i64 0), (32, .bool false)], ?_, g, by omega⟩
    simp [apL1, rest, seqL, seqR, ir4, ssB, List.idxOf?_cons, Go.Sx.LV.undef, Go.undef, Go.Sx.appO, Go.Sx.leI_eq, ltF, e1]
  · obtain ⟨h', N', e1, g', hN'⟩ := one_all (n := n) (nid := nid) (xid := xid) (room := room) (i := i) (P := P) (fl := fl) hlen hok l.length n 0 0 h g (by omega) (by omega) hn
    simp only [Int.natCast_zero, Int.ofNat_zero] at e1
    refine ⟨h', N', [(29, .p (.sl (actsP l) l.length 8 fl)), (30, .int .i64 l.length), (31, .int .i64 l.length), (32, .bool false)], ?_, g', hN'⟩
    simp [apL1, rest, seqL, seqR, ir4, ssB, List.idxOf?_cons, Go.Sx.LV.undef, Go.undef, Go.Sx.appO, Go.Sx.leI_eq, ltF, e1]
theorem l2_run {h : Hp} {P : LV} {l : List Act} (hA : Acts P l) (hn : l.length < n) (hlen : l.length < 2 ^ 63) (hok : ∀ a ∈ l, a.ok) (g : Own4 h nid xid cid yid room N M) (hM : M ≤ 20) : ∃ h' M' E, runCS ⟨Ω, noG, noH, 0⟩ n apL2 ⟨[(1, P), (2, .int .i64 i), (7, .ref nid 0), (8, .ref xid 0), (11, .ref cid 0), (12, .ref yid 0)], h⟩ =
    some (.normal, ⟨(2, .int .i64 i) :: (7, .ref nid 0) :: (8, .ref xid 0) :: (11, .ref cid 0) :: (12, .ref yid 0) :: E, h'⟩) ∧ Own4 h' nid xid cid yid room N M' ∧ M' ≤ 40 := by
  rcases hA with ⟨rfl, rfl⟩ | ⟨fl, rfl⟩
  · obtain ⟨n, rfl⟩ : ∃ m, n = m + 1 := ⟨n - 1, by omega⟩
    have e1 := iter_out (n := n) (two_end' (n := n + 1) (K := 0) (nid := nid) (xid := xid) (cid := cid) (yid := yid) (i := i) (A := nilS) (h := h)) (by simp)
    simp only [Int.natCast_zero, Int.ofNat_zero] at e1
    refine ⟨h, M, [(53, nilS), (54, .int .i64 0), (55, .int .i64 0), (56, .bool false)], ?_, g, by omega⟩
    simp [apL2, rest, seqL, seqR, ir4, ssB, List.idxOf?_cons, Go.Sx.LV.undef, Go.undef, Go.Sx.appO, Go.Sx.leI_eq, ltF, e1]
  · obtain ⟨h', M', e1, g', hM'⟩ := two_all' (n := n) (nid := nid) (xid := xid) (cid := cid) (yid := yid) (room := room) (i := i) (fl := fl) hlen hok l.length n 0 N M h g (by omega) (by omega) hn
    simp only [Int.natCast_zero, Int.ofNat_zero] at e1
    refine ⟨h', M', [(53, .p (.sl (actsP l) l.length 8 fl)), (54, .int .i64 l.length), (55, .int .i64 l.length), (56, .bool false)], ?_, g', hM'⟩
    simp [apL2, rest, seqL, seqR, ir4, ssB, List.idxOf?_cons, Go.Sx.LV.undef, Go.undef, Go.Sx.appO, Go.Sx.leI_eq, ltF, e1]
theorem netapart_ (A P : LV) (l m : List Act) (hA : Acts A l) (hP : Acts P m) (hl : l.length < 2 ^ 63) (hm : m.length < 2 ^ 63) (hok : ∀ a ∈ l, a.ok) (hok' : ∀ a ∈ m, a.ok) (i : Int) : Ω 4 [A, P, .int .i64 i] noH 0 = some (.bool true, [], []) := by
  obtain ⟨n, hn⟩ : ∃ n, n = l.length + m.length + 1 := ⟨_, rfl⟩
  refine om_run (ir := ir4) (by kernel_rfl) n ?_
  have look0 : Go.Sx.look noH 0 ⟨[], []⟩ = noH := by
    funext i
    simp [Go.Sx.look, noH]
  have ca : callO ⟨Ω, noG, noH, 0⟩ false ⟨[], []⟩ 5 [] = some ⟨.bool true, ⟨[], []⟩, [], true⟩ := by
    simp only [callO, Bool.false_eq_true, if_false, look0, List.length_nil, Nat.add_zero, awake20, setAll_nil]
    rfl
  have cn : callO ⟨Ω, noG, noH, 0⟩ false ⟨[], []⟩ 6 [.int .i64 20] = some ⟨.ref 0 0, ⟨[], [some (.cells [.p (.s (.slice none 0 0)), .int .i64 20])]⟩, [], true⟩ := by
    simp only [callO, Bool.false_eq_true, if_false, List.length_nil, Nat.add_zero, newI, setAll_nil]
    rfl
  have pp : ∀ z, push ⟨[], [some (.cells [.p (.s (.slice none 0 0)), .int .i64 20])]⟩ z = ⟨[], [some (.cells [.p (.s (.slice none 0 0)), .int .i64 20]), some z]⟩ := fun z => rfl
  obtain ⟨h1, N1, E1, e1, g1, hN1⟩ := l1_run (n := n) (i := i) (P := P) hA (by omega) hl hok (own2_new 20)
  obtain ⟨h2, cid, yid, e2, g2⟩ := copy_run (n := n) (i := i) (P := P) E1 g1 hN1
  obtain ⟨h3, M3, E3, e3, g3, hM3⟩ := l2_run (n := n) (i := i) hP (by omega) hm hok' g2 hN1
  obtain ⟨h4, e4, u4⟩ := tail_run (n := n) (i := i) E3 g3 (by omega) (by omega)
  have f1 : finish false noH 0 (.bool true) h4 = some (.bool true, [], []) := by
    have := finish_low (own := false) (H := noH) (nx := 0) (r := .bool true) (h := h4) (.inr rfl) (.inl rfl) (by simp [u4, updIds]) (by simp [u4, updIds, Go.Sx.ids])
    rw [u4] at this; exact this
  have big : runCS ⟨Ω, noG, noH, 0⟩ n (rest 3 ir4.body) ⟨[(0, A), (1, P), (2, .int .i64 i), (7, .ref 0 0), (8, .ref 1 0)], ⟨[], [some (.cells [.p (.s (.slice none 0 0)), .int .i64 20]), some (.cells [.p (.s (.slice none 0 0)), .int .i64 20])]⟩⟩ = some (.ret, ⟨[(6, .bool true)], h4⟩) := by
    rw [ap_parts, runCS_seq]
    have e1' : runCS ⟨Ω, noG, noH, 0⟩ n apL1 ⟨[(0, A), (1, P), (2, .int .i64 i), (7, .ref 0 0), (8, .ref 1 0)], ⟨[], [some (.cells [.p (.s (.slice none 0 0)), .int .i64 20]), some (.cells [.p (.s (.slice none 0 0)), .int .i64 20])]⟩⟩ = _ := e1
    rw [e1']
    simp only []
    rw [runCS_seq, e2]
    simp only []
    rw [runCS_seq, e3]
    simp only []
    exact e4
  have hbody : ir4.body = .seq (seqL ir4.body) (.seq (seqL (rest 1 ir4.body)) (.seq (seqL (rest 2 ir4.body)) (rest 3 ir4.body))) := rfl
  have f0 : runCS ⟨Ω, noG, noH, 0⟩ n (seqL ir4.body) ⟨[(0, A), (1, P), (2, .int .i64 i)], ⟨[], []⟩⟩ = some (.normal, ⟨[(0, A), (1, P), (2, .int .i64 i)], ⟨[], []⟩⟩) := by
    simp [seqL, ir4, ssB, List.idxOf?_cons, Go.Sx.LV.undef, Go.undef, Go.Sx.appO, Go.Sx.leI_eq, ltF]
  have f2 : runCS ⟨Ω, noG, noH, 0⟩ n (seqL (rest 1 ir4.body)) ⟨[(0, A), (1, P), (2, .int .i64 i)], ⟨[], []⟩⟩ = some (.normal, ⟨[(0, A), (1, P), (2, .int .i64 i), (25, .bool false)], ⟨[], []⟩⟩) := by
    simp [seqL, seqR, rest, ir4, ssB, List.idxOf?_cons, Go.Sx.LV.undef, Go.undef, Go.Sx.appO, Go.Sx.leI_eq, ltF, ca]
  have f3 : runCS ⟨Ω, noG, noH, 0⟩ n (seqL (rest 2 ir4.body)) ⟨[(0, A), (1, P), (2, .int .i64 i), (25, .bool false)], ⟨[], []⟩⟩ = some (.normal, ⟨[(0, A), (1, P), (2, .int .i64 i), (7, .ref 0 0), (8, .ref 1 0)], ⟨[], [some (.cells [.p (.s (.slice none 0 0)), .int .i64 20]), some (.cells [.p (.s (.slice none 0 0)), .int .i64 20])]⟩⟩) := by
    simp [seqL, seqR, rest, ir4, ssB, List.idxOf?_cons, Go.Sx.LV.undef, Go.undef, Go.Sx.appO, Go.Sx.leI_eq, ltF, cn, pp]
  rw [runF_S, hbody, runCS_seq]
  have hp : ir4.params = [0, 1, 2] := rfl
  have hr : ir4.results = [(6, none)] := rfl
  have ho : ir4.own = false := rfl
  rw [hp, hr, ho]
  simp only [List.length_cons, List.length_nil, List.zip_cons_cons, List.zip_nil_right, if_true, Nat.zero_add, Nat.reduceAdd]
  rw [f0]
  simp only []
  rw [runCS_seq, f2]
  simp only []
  rw [runCS_seq, f3]
  simp only []
  rw [big]
  simp only [resVs, resV, Sx.get, if_true, oneL]
  exact f1
end whole
end Go.Proofs.YtjmnamichdegaaaGreatDoor
end

section
namespace Go.Proofs.YtjmnamichdegaaaGreatDoor
open Go Go.Sx Go.ChangeShapes Go.WideShapes
set_option linter.unusedVariables false

theorem has_lt {P : Program} {w : World} {r : Reach} {base : Nat} {a : Addr} {e : TypeId} {n : Nat} (h : w.has P r base a e n) : a.spot = none ∧ a.block < w.heap.size := by
  obtain ⟨_, h1, row, cells, h2, _⟩ := h
  refine ⟨h1, ?_⟩
  unfold World.shape? at h2
  cases hb : w.heap[a.block]? with
  | none => rw [hb] at h2; cases h2
  | some o => exact (Array.getElem?_eq_some_iff.1 hb).1

theorem sl_open {H : Type} {enc : TypeId × Value → H} {P : Program} {W : World} {base : Nat} {spare : Nat → Bool} {held : Bool} {t e : TypeId} {k : IntKind} {v : Value} {d : DataW H} {p : List MemPlace} (ht : P.underlying t = some (.slice e)) (he : P.underlying e = some (.int k)) (hc : P.cellsOf e = 1)
    (hval : Value.okWide P W .any base t v) (h : DataW.Trod enc P W 0 spare held t v d p) :
    v = .slice none 0 0 ∨ ∃ (zs : List Int), (∀ n ∈ zs, (Lit.int k n).wf = true) ∧ zs.length < 2 ^ 63 ∧ PR (fun b => b < W.heap.size) W (.sl (zs.map fun n => .s (.int k n)) zs.length 1 false) v := by
  obtain ⟨a0, len, cap, rfl⟩ := okWide_slice ht hval
  obtain ⟨fuel, hf⟩ := h
  rcases open_ints ht he hc hf with ⟨hcs, hx⟩ | ⟨a, len', cap', zs, hcs, _, hl, hm, hz, hx, hcell, hwz⟩
  · simp [Value.cells] at hcs
    obtain ⟨rfl, rfl, rfl⟩ := hcs
    exact .inl rfl
  · simp [Value.cells] at hcs
    obtain ⟨rfl, rfl, rfl⟩ := hcs
    right
    have hh : a.spot = none ∧ a.block < W.heap.size := by
      simp only [Value.okWide, ht, Cell.okWide, Cell.ok] at hval
      exact has_lt hval.2.2
    obtain ⟨b, off, spot⟩ := a
    obtain ⟨rfl, hb⟩ := hh
    have hlz : len ≤ zs.length := by rw [hz]; split <;> omega
    have hcell' : ∀ j, j < zs.length → W.cell? ⟨b, off + j, none⟩ = some (.int k (zs.getD j 0)) := fun j hj => by rw [← add_plain]; exact hcell j hj
    have hm62 : cap < 2 ^ 63 := by unfold maxLen at hm; omega
    refine ⟨zs.take len, fun n hn => hwz n (List.mem_of_mem_take hn), by simp; omega, ?_⟩
    have hlen : (zs.take len).length = len := by simp; omega
    rw [hlen]
    refine .sl _ len 1 false b off cap (fun j => .int k (zs.getD j 0)) hb ?_ ?_ ?_ hl (fun h => by cases h)
    · intro j hj
      rw [List.length_map, hlen] at hj
      exact hcell' j (by omega)
    · intro j hj; rfl
    · intro j l hj
      rw [List.getElem?_map, Option.map_eq_some_iff] at hj
      obtain ⟨n, h1, rfl⟩ := hj
      rw [List.getElem?_take] at h1
      split at h1
      · have : zs.getD j 0 = n := by rw [List.getD, h1]; rfl
        rw [this]
        exact .s _
      · cases h1
end Go.Proofs.YtjmnamichdegaaaGreatDoor
end

section
namespace Go.Proofs.YtjmnamichdegaaaGreatDoor
open Go Go.Sx Go.ChangeShapes Go.WideShapes
set_option linter.unusedVariables false

/-- A plain field's kind. -/
inductive SK where
  | int (k : IntKind)
  | bool
  | str
def SK.of (P : Program) (t : TypeId) : Option SK := match P.underlying t with
  | some (.int k) => some (.int k)
  | some .bool => some .bool
  | some .string => some .str
  | _ => none
def SK.fits : SK → Value → Prop
  | .int k, .int k' n => k' = k ∧ (Lit.int k n).wf = true
  | .bool, .bool _ => True
  | .str, .string s => s.size ≤ maxLen
  | _, _ => False
inductive Fits : List SK → List Value → Prop
  | nil : Fits [] []
  | cons {k : SK} {v : Value} {ks : List SK} {vs : List Value} : k.fits v → Fits ks vs → Fits (k :: ks) (v :: vs)
/-- The fields of a struct, one cell each. -/
def flatF (P : Program) : Nat → List Field → Option (List SK)
  | _, [] => some []
  | i, f :: r => if f.offset = i ∧ P.cellsOf f.type = 1 then (match SK.of P f.type, flatF P (i + 1) r with
    | some k, some l => some (k :: l)
    | _, _ => none) else none
def flatB (P : Program) (e : TypeId) : Option (List SK) := match P.underlying e with
  | some (.struct fs) => if P.cellsOf e = fs.size then flatF P 0 fs.toList else none
  | _ => none

section
variable {H : Type} {enc : TypeId × Value → H} {P : Program} {W : World} {base : Nat} {spare : Nat → Bool} {held : Bool}
theorem sk_fits {t : TypeId} {s : SK} {n : Nat} {v : Value} {x : DataW H × List MemPlace} (hs : SK.of P t = some s) (h : DataW.trod enc P W base spare held n t [v] = some x) : s.fits v := by
  unfold SK.of at hs
  cases n with
  | zero => simp [DataW.trod] at h
  | succ n =>
    unfold DataW.trod at h
    split at hs
    · rename_i k hk
      obtain rfl := Option.some.inj hs
      rw [hk] at h
      cases v <;> simp at h
      exact ⟨h.1.1, h.1.2⟩
    · rename_i hk
      obtain rfl := Option.some.inj hs
      rw [hk] at h
      cases v <;> simp at h
      trivial
    · rename_i hk
      obtain rfl := Option.some.inj hs
      rw [hk] at h
      cases v <;> simp at h
      exact h.1
    · cases hs
theorem one_cell {s : SK} {v : Value} (h : s.fits v) : v.oneCell' = true := by
  cases s <;> cases v <;> simp [SK.fits] at h <;> rfl
theorem flat_cells {n : Nat} : ∀ (fs : List Field) (i : Nat) (ks : List SK) (cs : List Value), flatF P i fs = some ks → (∀ (j : Nat) (f : Field), fs[j]? = some f → ∃ y, DataW.trod enc P W base spare held n f.type ((cs.drop f.offset).take (P.cellsOf f.type)) = some y) → cs.length = i + fs.length →
    Fits ks (cs.drop i)
  | [], i, ks, cs, h, _, hl => by
    simp only [flatF, Option.some.injEq] at h
    subst h
    rw [List.drop_eq_nil_of_le (by simp at hl; omega)]
    exact .nil
  | f :: r, i, ks, cs, h, hf, hl => by
    simp only [flatF] at h
    split at h
    · rename_i hc
      obtain ⟨ho, h1⟩ := hc
      split at h
      · rename_i k l hk hr
        obtain rfl := Option.some.inj h
        have hi : i < cs.length := by simp at hl; omega
        obtain ⟨y, hy⟩ := hf 0 f rfl
        have e : (cs.drop f.offset).take (P.cellsOf f.type) = [cs[i]] := by
          rw [ho, h1, List.drop_eq_getElem_cons hi]; rfl
        rw [e] at hy
        rw [List.drop_eq_getElem_cons hi]
        exact .cons (sk_fits hk hy) (flat_cells r (i + 1) l cs hr (fun j g hg => hf (j + 1) g hg) (by simp at hl ⊢; omega))
      · cases h
    · cases h
theorem Fits.len {ks : List SK} {vs : List Value} (h : Fits ks vs) : vs.length = ks.length := by
  induction h with
  | nil => rfl
  | cons _ _ ih => simp [ih]
theorem Fits.one {ks : List SK} {vs : List Value} (h : Fits ks vs) : ∀ v ∈ vs, v.oneCell' = true := by
  induction h with
  | nil => simp
  | cons hk _ ih =>
    intro v hv
    rcases List.mem_cons.1 hv with rfl | hv
    · exact one_cell hk
    · exact ih v hv

theorem flatten_get (rows : Nat → List Value) (m : Nat) : ∀ (n : Nat), (∀ i, i < n → (rows i).length = m) → ∀ j, j < n * m → (((List.range n).map rows).flatten)[j]? = (rows (j / m))[j % m]?
  | 0, _, j, hj => by omega
  | n + 1, h, j, hj => by
    have hm : 0 < m := by
      rcases Nat.eq_zero_or_pos m with rfl | h'
      · simp at hj
      · exact h'
    have hl : (((List.range n).map rows).flatten).length = n * m := by
      clear hj
      induction n with
      | zero => simp
      | succ n ih =>
        rw [List.range_succ, List.map_append, List.flatten_append, List.length_append, ih (fun i hi => h i (by omega))]
        simp [h n (by omega), Nat.add_mul]
    rw [List.range_succ, List.map_append, List.flatten_append]
    by_cases hlt : j < n * m
    · rw [List.getElem?_append_left (by omega), flatten_get rows m n (fun i hi => h i (by omega)) j hlt]
    · rw [List.getElem?_append_right (by omega), hl]
      have e1 : j / m = n := Nat.div_eq_of_lt_le (by omega) (by rw [Nat.add_mul] at *; omega)
      have e2 : j % m = j - n * m := by
        have := Nat.div_add_mod j m
        rw [e1, Nat.mul_comm] at this
        omega
      rw [e1, e2]; simp

theorem sl_flat {t e : TypeId} {ks : List SK} {v : Value} {d : DataW H} {p : List MemPlace} (ht : P.underlying t = some (.slice e)) (hk : flatB P e = some ks) (hpos : 0 < ks.length)
    (hval : Value.okWide P W .any base t v) (h : DataW.Trod enc P W 0 spare held t v d p) :
    v = .slice none 0 0 ∨ ∃ rows : List (List Value), (∀ r ∈ rows, Fits ks r) ∧ rows.length < 2 ^ 63 ∧ PR (fun b => b < W.heap.size) W (.sl (rows.flatten.map PV.s) rows.length ks.length false) v := by
  obtain ⟨a0, len, cap, rfl⟩ := okWide_slice ht hval
  obtain ⟨fuel, hf⟩ := h
  rcases Go.Deep.open_slice ht hf with ⟨hcs, hx⟩ | ⟨a, len', cap', m, n, D, Pl, hcs, _, hl, hm, hmm, hx, hel⟩
  · simp [Value.cells] at hcs
    obtain ⟨rfl, rfl, rfl⟩ := hcs
    exact .inl rfl
  · simp [Value.cells] at hcs
    obtain ⟨rfl, rfl, rfl⟩ := hcs
    right
    have hh : a.spot = none ∧ a.block < W.heap.size := by
      simp only [Value.okWide, ht, Cell.okWide, Cell.ok] at hval
      exact has_lt hval.2.2
    obtain ⟨b, off, spot⟩ := a
    obtain ⟨rfl, hb⟩ := hh
    unfold flatB at hk
    split at hk
    case h_2 => cases hk
    rename_i fs he
    split at hk
    case isFalse => cases hk
    rename_i hce
    have hkl : ∀ (fs : List Field) (i : Nat) (ks : List SK), flatF P i fs = some ks → ks.length = fs.length := by
      intro fs
      induction fs with
      | nil => intro i ks h; simp [flatF] at h; subst h; rfl
      | cons f r ih =>
        intro i ks h
        simp only [flatF] at h
        split at h
        · split at h
          · rename_i k l _ hr
            obtain rfl := Option.some.inj h
            simp [ih _ _ hr]
          · cases h
        · cases h
    have hks : ks.length = fs.size := by rw [hkl _ _ _ hk]; simp
    have hlm : len ≤ m := by rw [hmm]; split <;> omega
    have each : ∀ i, ∃ cs' : List Value, i < m → W.cells? 0 ((⟨b, off, none⟩ : Addr).add (i * P.cellsOf e)) (P.cellsOf e) = some cs' ∧ Fits ks cs' := by
      intro i
      by_cases hi : i < m
      · obtain ⟨cs', h1, h2⟩ := hel i hi
        obtain ⟨xs, q, _, _, h3, h4, h5⟩ := DataW.trod_struct he h2
        refine ⟨cs', fun _ => ⟨h1, ?_⟩⟩
        have := flat_cells (n := q) fs.toList 0 ks cs' hk (fun j f hj => by
          have hj' : fs[j]? = some f := by simpa using hj
          have hlt : j < xs.length := by rw [h4]; exact (Array.getElem?_eq_some_iff.1 hj').1
          exact ⟨xs[j], by rw [h5 j f hj', List.getElem?_eq_getElem hlt]⟩) (by rw [h3, hce]; simp)
        simpa using this
      · exact ⟨[], fun h => absurd h hi⟩
    obtain ⟨rows, hrows⟩ := Classical.axiomOfChoice each
    have hfit : ∀ i, i < len → Fits ks (rows i) := fun i hi => (hrows i (by omega)).2
    have hrl : ∀ i, i < len → (rows i).length = ks.length := fun i hi => (hfit i hi).len
    refine ⟨(List.range len).map rows, fun r hr => ?_, ?_, ?_⟩
    · obtain ⟨i, hi, rfl⟩ := List.mem_map.1 hr
      exact hfit i (List.mem_range.1 hi)
    · have hm' : cap ≤ maxLen := hm
      unfold maxLen at hm'
      rw [List.length_map, List.length_range]; omega
    · rw [List.length_map, List.length_range]
      have hget := flatten_get rows ks.length len hrl
      have hlen : (((List.range len).map rows).flatten).length = len * ks.length := by
        have : ∀ n, n ≤ len → (((List.range n).map rows).flatten).length = n * ks.length := by
          intro n
          induction n with
          | zero => intro _; simp
          | succ n ih =>
            intro hn
            rw [List.range_succ, List.map_append, List.flatten_append, List.length_append, ih (by omega)]
            simp [hrl n (by omega), Nat.add_mul]
        exact this len (Nat.le_refl _)
      have hcell : ∀ j, j < len * ks.length → ∃ u, (((List.range len).map rows).flatten)[j]? = some u ∧ W.cell? ⟨b, off + j, none⟩ = some u ∧ u.oneCell' = true := by
        intro j hj
        have hi : j / ks.length < len := Nat.div_lt_of_lt_mul (by rw [Nat.mul_comm]; exact hj)
        have hr : j % ks.length < ks.length := Nat.mod_lt _ hpos
        obtain ⟨h1, h2⟩ := hrows (j / ks.length) (by omega)
        obtain ⟨_, h3, h4⟩ := World.cells?_some h1
        have hlt : j % ks.length < (rows (j / ks.length)).length := by rw [hrl _ hi]; exact hr
        refine ⟨(rows (j / ks.length))[j % ks.length], by rw [hget j hj, List.getElem?_eq_getElem hlt], ?_, h2.one _ (List.getElem_mem hlt)⟩
        have h5 := h4 (j % ks.length) (by rw [hce, ← hks]; exact hr)
        rw [List.getElem?_eq_getElem hlt] at h5
        rw [← h5, add_plain, add_plain, hce, ← hks]
        congr 2
        have := Nat.div_add_mod j ks.length
        rw [Nat.mul_comm] at this
        omega
      refine .sl _ len ks.length false b off cap (fun j => (((List.range len).map rows).flatten).getD j default) hb ?_ ?_ ?_ hl (fun h => by cases h)
      · intro j hj
        rw [List.length_map, hlen] at hj
        obtain ⟨u, h1, h2, h3⟩ := hcell j hj
        rw [List.getD, h1]; exact h2
      · intro j hj
        rw [List.length_map, hlen] at hj
        obtain ⟨u, h1, h2, h3⟩ := hcell j hj
        show Value.oneCell' ((((List.range len).map rows).flatten).getD j default) = true
        rw [List.getD, h1]; exact h3
      · intro j l hj
        rw [List.getElem?_map, Option.map_eq_some_iff] at hj
        obtain ⟨u, h1, rfl⟩ := hj
        have : (((List.range len).map rows).flatten).getD j default = u := by rw [List.getD, h1]; rfl
        rw [this]
        exact .s _
end
end Go.Proofs.YtjmnamichdegaaaGreatDoor
end

section
namespace Go.Proofs.YtjmnamichdegaaaGreatDoor
open Go
set_option linter.unusedVariables false
abbrev actK : List SK := [.int .u8, .int .i64, .int .i64, .int .u64, .int .i64, .int .i64, .int .u8, .bool]
/-- A row of fields is an act. -/
theorem act_of {r : List Value} (h : Fits actK r) : ∃ a : Act, a.ok ∧ r.map Go.Sx.PV.s = [.s (.int .u8 a.d), .s (.int .i64 a.f), .s (.int .i64 a.t), .s (.int .u64 a.no), .s (.int .i64 a.i), .s (.int .i64 a.at'), .s (.int .u8 a.v.toNat), .s (.bool a.nr)] := by
  rcases h with _ | ⟨h1, h⟩
  rcases h with _ | ⟨h2, h⟩
  rcases h with _ | ⟨h3, h⟩
  rcases h with _ | ⟨h4, h⟩
  rcases h with _ | ⟨h5, h⟩
  rcases h with _ | ⟨h6, h⟩
  rcases h with _ | ⟨h7, h⟩
  rcases h with _ | ⟨h8, h⟩
  rcases h with _ | _
  rename_i v1 v2 v3 v4 v5 v6 v7 v8
  cases v1 <;> simp only [SK.fits] at h1
  cases v2 <;> simp only [SK.fits] at h2
  cases v3 <;> simp only [SK.fits] at h3
  cases v4 <;> simp only [SK.fits] at h4
  cases v5 <;> simp only [SK.fits] at h5
  cases v6 <;> simp only [SK.fits] at h6
  cases v7 <;> simp only [SK.fits] at h7
  cases v8 <;> simp only [SK.fits] at h8
  obtain ⟨rfl, w1⟩ := h1
  obtain ⟨rfl, w2⟩ := h2
  obtain ⟨rfl, w3⟩ := h3
  obtain ⟨rfl, w4⟩ := h4
  obtain ⟨rfl, w5⟩ := h5
  obtain ⟨rfl, w6⟩ := h6
  obtain ⟨rfl, w7⟩ := h7
  rename_i d f t no i at' v nr
  have e1 : 0 ≤ d ∧ d ≤ 255 := by simpa [Lit.wf, IntKind.min, IntKind.max, IntKind.signed, IntKind.bits] using w1
  have e4 : 0 ≤ no ∧ no ≤ 18446744073709551615 := by simpa [Lit.wf, IntKind.min, IntKind.max, IntKind.signed, IntKind.bits] using w4
  have e7 : 0 ≤ v ∧ v ≤ 255 := by simpa [Lit.wf, IntKind.min, IntKind.max, IntKind.signed, IntKind.bits] using w7
  have c1 : (d.toNat : Int) = d := by omega
  have c4 : (no.toNat : Int) = no := by omega
  have c7 : ((UInt8.ofNat v.toNat).toNat : Int) = v := by simp; omega
  refine ⟨⟨d.toNat, f, t, no.toNat, i, at', UInt8.ofNat v.toNat, nr⟩, ?_, ?_⟩
  · show no.toNat < 2 ^ 64
    omega
  · simp only [List.map_cons, List.map_nil, c1, c4, c7]
theorem acts_of {rows : List (List Value)} (h : ∀ r ∈ rows, Fits actK r) : ∃ l : List Act, (∀ a ∈ l, a.ok) ∧ l.length = rows.length ∧ rows.flatten.map Go.Sx.PV.s = actsP l := by
  induction rows with
  | nil => exact ⟨[], by simp, rfl, rfl⟩
  | cons r rows ih =>
    obtain ⟨a, ha, e⟩ := act_of (h r List.mem_cons_self)
    obtain ⟨l, hl, e2, e3⟩ := ih fun r hr => h r (List.mem_cons_of_mem _ hr)
    refine ⟨a :: l, fun b hb => ?_, by simp [e2], ?_⟩
    · rcases List.mem_cons.1 hb with rfl | hb
      · exact ha
      · exact hl b hb
    · rw [List.flatten_cons, List.map_append, e, e3]
      simp [actsP]

end Go.Proofs.YtjmnamichdegaaaGreatDoor
end
