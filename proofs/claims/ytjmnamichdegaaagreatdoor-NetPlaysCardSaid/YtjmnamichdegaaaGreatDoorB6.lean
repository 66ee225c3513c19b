/- What the proof of the claim leans on, part 6 of 6: the value machine, the functions as it has them, their specifications. No condition. -/
import Derived.Test.YtjmnamichdegaaaGreatDoorB5
import Derived.KernelRfl
import Derived.ProofKit
import Derived.OpenShut
import Derived.Below
import Derived.Deep.Slices
import Derived.ChangeArms
section
namespace Go.Proofs.YtjmnamichdegaaaGreatDoor
open Go Go.Sx
set_option linter.unusedSimpArgs false
set_option linter.unusedVariables false

section act
variable {H : Heap} {nx nid xid room N : Nat} {X Y : LV} {l m : List Fr} {fs : List Fm} {f t no i at' b : Int} {nr : Bool}
theorem do_all (d : Nat) (v : UInt8) (hno : 0 ≤ no ∧ no < 2 ^ 64) (g : JJ H nx nid xid room X l Y m fs N) (hN : N < 99) : ∃ fs', JDid (actP d f t no i at' v.toNat nr) H nx nid xid room X l Y m N fs' := by
  have h8 : d % 8 < 8 := Nat.mod_lt _ (by omega)
  by_cases h2 : d % 8 < 2
  · exact do_end g hN ⟨[], []⟩ fun i' E => do_7s d h2 hno g hN i' E
  · obtain h | h | h | h | h | h : d % 8 = 2 ∨ d % 8 = 3 ∨ d % 8 = 4 ∨ d % 8 = 5 ∨ d % 8 = 6 ∨ d % 8 = 7 := by omega
    · exact do_end g hN ⟨[], []⟩ fun i' E => do_2 d h hno g hN i' E
    · exact do_end g hN ⟨[], []⟩ fun i' E => do_3 d h g hN i' E
    · exact do_end g hN ⟨[], []⟩ fun i' E => do_4 d h g hN i' E
    · exact do_end g hN ⟨[], []⟩ fun i' E => do_5 d h g hN i' E
    · exact do_end g hN ⟨[], []⟩ fun i' E => do_6 d h g hN i' E v
    · exact do_end g hN ⟨[], []⟩ fun i' E => do_7 d h g hN i' E
end act

section like
variable {H : Heap} {nx nid xid room N : Nat} {X Y : LV} {l m : List Fr} {fs : List Fm}
theorem Wh.bs {H : Heap} {nx : Nat} {x : LV} {F : List UInt8} (g : Wh H nx x F) : Bs H nx x F := by
  rcases g with rfl | ⟨id, cp, ex, rfl, h1, h2⟩
  · exact .sl F false
  · exact Bs.whole h1 h2
theorem sp3 (a b c x y z : LV) : splice [a, b, c] 0 [x, y, z] = [x, y, z] := rfl
theorem like_step {n : Nat} {h : Hp} (hu : h.upd = []) (g : JJ H nx nid xid room X l Y m fs N) (hN : N ≤ 200) (j K : Nat) (hK : K = fs.length) (hj : j < K) :
    ∃ h', runCS ⟨Ω, noG, H, nx⟩ n ir8_0 ⟨[(0, .ref nid 0), (1, .ref xid 0), (27, Y), (28, .int .i64 K), (29, .int .i64 j)], h⟩ =
      some (.normal, ⟨[(0, .ref nid 0), (1, .ref xid 0), (27, Y), (28, .int .i64 K), (29, .int .i64 (j + 1 : Nat))], h'⟩) ∧ h'.upd = [] := by
  subst hK
  obtain ⟨A', F, t, B', rfl, hjA⟩ := fs_split fs j ⟨by omega, by omega⟩
  obtain rfl : j = A'.length := by omega
  obtain ⟨A, x, B, rfl, hA, gA, gw, gB⟩ := g.n.hw.split'
  obtain ⟨A2, y, B2, rfl, hA2, gA2, gw2, gB2⟩ := g.x.hw.split'
  rcases g.n.hx with ⟨_, e⟩ | ⟨lid, q, rfl, h1, h2, h3, h4⟩
  · simp at e
  rcases g.x.hx with ⟨_, e⟩ | ⟨lid2, ex, rfl, k1, k2, k3, k4⟩
  · simp at e
  have hlen : (A ++ (x, t) :: B).length = A.length + 1 + B.length := by simp; omega
  have hlen2 : (A2 ++ (y, t) :: B2).length = (A' ++ (F, t) :: B').length := g.x.hw.len
  have hKs := g.x.len
  have hgF := g.n.good (F, t) (by simp)
  have hlx := low_look (H := H) (nx := nx) hu k2
  rw [k4] at hlx
  have h3 : List.take 3 (List.drop (A'.length * 3) (rr (A2 ++ (y, t) :: B2))) = [y, .int .i64 t, .p (.s (.slice none 0 0))] := by rw [← hA2]; exact rr_take3 A2 B2 (y, t)
  have hcs : A'.length * 3 + 3 ≤ (rr (A2 ++ (y, t) :: B2)).length := by rw [rr_len, hlen2]; omega
  obtain ⟨h1', hh1⟩ : ∃ h', h' = boxed nx h [.p (.s (.slice none 0 0)), .int .i64 0, .p (.s (.slice none 0 0))] [y, .int .i64 t, .p (.s (.slice none 0 0))] := ⟨_, rfl⟩
  have u1 : h1'.upd = [] := by rw [hh1, boxed_upd, hu]
  have n1 : h1'.new.length = h.new.length + 1 := by rw [hh1, boxed_len]
  have g1 := g.grow u1
  have e1 : callO ⟨Ω, noG, H, nx⟩ false h1' 10 [.ref nid 0, .int .i64 A'.length] = some ⟨.tuple [.arr (nx + h1'.new.length) 0 F.length 1 F.length false, .int .i64 t, .bool true], push h1' (.cells (byt F)), [], true⟩ := by
    have gg := g1.n.hw.split'
    have hl := g1.n.hl
    have hg := low_look (H := H) (nx := nx) u1 h2
    rw [h4] at hg
    rw [hlen] at hl
    have gw' : Wh (Go.Sx.look H nx h1') (nx + h1'.new.length) x F := gw.mono' (fun i hi => low_look u1 (gw.ids.2 i hi)) (by omega)
    have := nlook_ nid lid _ A B (x, t) (zs q) F (.int .i64 room) (Go.Sx.look H nx h1') (nx + h1'.new.length) (by have := hgF.2.1; dsimp only at this; omega) (by have := hgF.1; dsimp only at this; omega) gw' hl hg g1.n.hid (by omega)
    rw [← hA]
    simp only [callO, Bool.false_eq_true, if_false, this, setAll_nil]
    rfl
  obtain ⟨h2', hh2⟩ : ∃ h', h' = push h1' (.cells (byt F)) := ⟨_, rfl⟩
  have u2 : h2'.upd = [] := by rw [hh2, push_upd, u1]
  have n2 : h2'.new.length = h.new.length + 2 := by rw [hh2, push_len, n1]
  have e2 : callO ⟨Ω, noG, H, nx⟩ false h2' 25 [.arr (nx + h1'.new.length) 0 F.length 1 F.length false, y] = some ⟨.bool true, h2', [], true⟩ := by
    have b1 : Bs (Go.Sx.look H nx h2') (nx + h2'.new.length) (.arr (nx + h1'.new.length) 0 F.length 1 F.length false) F := Bs.whole (by rw [hh2, look_push, if_pos rfl]) (by omega)
    have b2 : Bs (Go.Sx.look H nx h2') (nx + h2'.new.length) y F := (gw2.mono' (fun i hi => low_look u2 (gw2.ids.2 i hi)) (by omega) : Wh _ _ _ _).bs
    have := rsame_ b1 b2 (by have := hgF.2.1; dsimp only at this; omega)
    simp only [callO, Bool.false_eq_true, if_false, this, setAll_nil, decide_true]
    simp
  refine ⟨h2', ?_, u2⟩
  rw [hh2] at e2 ⊢
  rw [hh1] at e1 e2 ⊢
  clear hh1 hh2
  have h8 : ¬ ((A' ++ (F, t) :: B').length : Int) ≤ (A'.length : Nat) := by omega
  have h8' : A'.length < (A' ++ (F, t) :: B').length := by omega
  have hw : IntKind.i64.wrap ((A'.length : Int) + 1) = (A'.length : Int) + 1 := wrap_i64 _ (by omega) (by omega)
  rw [hlen2]
  rw [boxed_len] at e1 e2
  have c1 : ∀ z, Go.Sx.look H nx (push h z) (nx + h.new.length) = some z := fun z => by rw [look_push, if_pos rfl]
  have c2 : ∀ z w, Go.Sx.look H nx (boxed nx h z w) (nx + h.new.length) = some (.cells w) := fun z w => by rw [boxed_look, if_pos rfl]
  have c3 : ∀ z w v, Go.Sx.look H nx (push (boxed nx h z w) v) (nx + h.new.length) = some (.cells w) := fun z w v => by rw [look_push, boxed_len, if_neg (by omega), c2]
  generalize (A' ++ (F, t) :: B').length = K at *
  generalize rr (A2 ++ (y, t) :: B2) = Q at *
  have gv := gw2.fv
  rcases gv with ⟨G, rfl⟩ | ⟨id, n, cp, ex', rfl, hid⟩
  · simp [ir8_0, ssB, List.idxOf?_cons, Go.Sx.LV.undef, Go.undef, Go.Sx.appO, Go.Sx.leI_eq, ltF, h8, h8', hw, hlx, hcs, h3, c1, c2, c3, e1, e2, sp3]
  · simp [ir8_0, ssB, List.idxOf?_cons, Go.Sx.LV.undef, Go.undef, Go.Sx.appO, Go.Sx.leI_eq, ltF, h8, h8', hw, hlx, hcs, h3, c1, c2, c3, e1, e2, sp3]

theorem like_out {n K : Nat} {h : Hp} {Z : LV} : runCS ⟨Ω, noG, H, nx⟩ n ir8_0 ⟨[(0, .ref nid 0), (1, .ref xid 0), (27, Z), (28, .int .i64 K), (29, .int .i64 K)], h⟩ =
    some (.exit 0, ⟨[(0, .ref nid 0), (1, .ref xid 0), (27, Z), (28, .int .i64 K), (29, .int .i64 K), (30, .bool false)], h⟩) := by
  simp [ir8_0, ssB, List.idxOf?_cons, Go.Sx.LV.undef, Go.undef, Go.Sx.callO, Go.Sx.splice, Go.Sx.finish, Go.Sx.look, Go.Sx.push, Go.Sx.setObj, Go.Sx.setU, Go.Sx.setAll, Go.Sx.appO, Go.Sx.leI_eq, ltF]
theorem like_all {n : Nat} (g : JJ H nx nid xid room X l Y m fs N) (hN : N ≤ 200) : ∀ (k q j : Nat) (h : Hp), h.upd = [] → j + k = fs.length → k < q →
    ∃ h', iter (runCS ⟨Ω, noG, H, nx⟩ n ir8_0) q ⟨[(0, .ref nid 0), (1, .ref xid 0), (27, Y), (28, .int .i64 fs.length), (29, .int .i64 j)], h⟩ =
      some (.exit 0, ⟨[(0, .ref nid 0), (1, .ref xid 0), (27, Y), (28, .int .i64 fs.length), (29, .int .i64 fs.length), (30, .bool false)], h'⟩) ∧ h'.upd = [] := by
  intro k
  induction k with
  | zero =>
    intro q j h hu hj hq
    obtain ⟨q, rfl⟩ : ∃ r, q = r + 1 := ⟨q - 1, by omega⟩
    obtain rfl : j = fs.length := by omega
    exact ⟨h, iter_out like_out (by simp), hu⟩
  | succ k ih =>
    intro q j h hu hj hq
    obtain ⟨q, rfl⟩ : ∃ r, q = r + 1 := ⟨q - 1, by omega⟩
    obtain ⟨h', e, u'⟩ := like_step (n := n) hu g hN j fs.length rfl (by omega)
    rw [iter_step e]
    exact ih q (j + 1) h' u' (by omega) (by omega)
/-- Nets that are alike, are found alike. -/
theorem like_ (g : JJ H nx nid xid room X l Y m fs N) (hN : N ≤ 200) : Ω 8 [.ref nid 0, .ref xid 0] H nx = some (.bool true, [], []) := by
  refine om_run (ir := ir8) (by kernel_rfl) (fs.length + 1) ?_
  have hlen := g.n.hw.len
  have hlen2 := g.x.hw.len
  have hfl : fs.length ≤ N := by have := g.n.len; omega
  have look0 : ∀ i, i < nx → Go.Sx.look H nx ⟨[], []⟩ i = H i := fun i hi => low_look rfl hi
  have g0 := g.grow (h0 := ⟨[], []⟩) rfl
  obtain ⟨H', T, u, nw, hH', e0, hT, hu, hnw⟩ := callO_cl (c := ⟨Ω, noG, H, nx⟩) (h := ⟨[], []⟩) (dr := true) (f := 17) (args := [.ref nid 0]) (r := .int .i64 fs.length) (P := fun _ u nw => u = [] ∧ nw = [])
    hN g0.n.cl g0.n.lt (by simp [Go.Sx.ids.idsL, Go.Sx.ids, ft]) (by simp [Go.Sx.ids.idsL, Go.Sx.ids]) (fun T hT hP => g0.n.conn (P := (· ∈ T)) (hT nid (by simp [Go.Sx.ids.idsL, Go.Sx.ids])) hP) (fun H' hH' => by
      have g' := g0.n.mono hH' (Nat.le_refl _) (Nat.le_refl _)
      refine ⟨[], [], ?_, rfl, rfl⟩
      rw [← hlen]
      exact nlen_ nid X (.int .i64 room) l.length H' _ g'.sl g'.hl g'.hid)
  subst hu hnw
  simp only [aft_nil, setAll_nil] at e0
  have x1 : xid ∉ T := fun hx => g.apart xid (hT xid hx) (by simp [ft])
  have x2 : ∀ x ∈ T, ¬ x = xid := fun x hx e => x1 (e ▸ hx)
  obtain ⟨h', e1, u1⟩ := like_all (n := fs.length + 1) g hN fs.length (fs.length + 1) 0 ⟨[], []⟩ rfl (by omega) (by omega)
  simp only [Int.natCast_zero, Int.ofNat_zero] at e1
  have g1 := g.grow u1
  have lk : ∀ i : Int, ¬ (0 ≤ i ∧ i < fs.length) → callO ⟨Ω, noG, H, nx⟩ false h' 10 [.ref nid 0, .int .i64 i] = some ⟨.tuple [.p (.s (.slice none 0 0)), .int .i64 0, .bool false], h', [], true⟩ := fun i hi => by
    rw [← hlen] at hi
    have := nlook_out nid (.int .i64 room) (Go.Sx.look H nx h') (nx + h'.new.length) X l.length i hi g1.n.sl g1.n.hl g1.n.hid
    simp only [callO, Bool.false_eq_true, if_false, this, setAll_nil]
    simp
  have lk1 := lk (-1) (by omega)
  have lk2 := lk fs.length (by omega)
  have hx := look0 xid g.x.hid
  rw [g.x.hl] at hx
  have hx' := low_look (H := H) (nx := nx) u1 g.x.hid
  rw [g.x.hl] at hx'
  have hb : ((fs.length : Int) != (m.length : Int)) = false := by simp [hlen2]
  have fin := finish_low (own := false) (H := H) (nx := nx) (r := .bool true) (h := h') (.inr rfl) (.inl rfl) (by simp [u1, updIds]) (by simp [u1, updIds, Go.Sx.ids])
  rw [u1] at fin
  rcases g.x.hx with ⟨rfl, e⟩ | ⟨lid2, ex, rfl, k1, k2, k3, k4⟩
  · subst e
    simp only [List.length_nil] at hlen2
    rw [← hlen2] at e0 e1 lk2 ⊢
    simp only [Int.natCast_zero, Int.ofNat_zero] at e0 e1 lk2
    simp [ir8, ssB, List.idxOf?_cons, Go.Sx.LV.undef, Go.undef, Go.Sx.appO, Go.Sx.leI_eq, ltF, hx, hx', e0, e1, x1, eq_true x2, lk1, lk2, fin, g.x.hid]
  · rw [hlen2] at hx hx' e1
    simp [ir8, ssB, List.idxOf?_cons, Go.Sx.LV.undef, Go.undef, Go.Sx.appO, Go.Sx.leI_eq, ltF, hx, hx', e0, e1, x1, eq_true x2, lk1, lk2, fin, g.x.hid]
end like
end Go.Proofs.YtjmnamichdegaaaGreatDoor
end

section
namespace Go.Proofs.YtjmnamichdegaaaGreatDoor
open Go Go.Sx
set_option linter.unusedSimpArgs false
set_option linter.unusedVariables false

structure Act where
  d : Nat
  f : Int
  t : Int
  no : Nat
  i : Int
  at' : Int
  v : UInt8
  nr : Bool
def Act.ok (a : Act) : Prop := a.no < 2 ^ 64
abbrev Act.pv (a : Act) : PV := actP a.d a.f a.t a.no a.i a.at' a.v.toNat a.nr
abbrev Act.cs (a : Act) : List LV := actC a.d a.f a.t a.no a.i a.at' a.v.toNat a.nr
def actsP (l : List Act) : List PV := l.flatMap fun a => [.s (.int .u8 a.d), .s (.int .i64 a.f), .s (.int .i64 a.t), .s (.int .u64 a.no), .s (.int .i64 a.i), .s (.int .i64 a.at'), .s (.int .u8 a.v.toNat), .s (.bool a.nr)]
theorem actsP_len (l : List Act) : (actsP l).length = l.length * 8 := by
  induction l with
  | nil => rfl
  | cons a l ih => simp [actsP] at ih ⊢; omega
theorem actsP_get (A B : List Act) (a : Act) : List.take 8 (List.drop (A.length * 8) (List.map LV.p (actsP (A ++ a :: B)))) = a.cs := by
  have : actsP (A ++ a :: B) = actsP A ++ actsP (a :: B) := by simp [actsP]
  rw [this, List.map_append, List.drop_left' (by rw [List.length_map, actsP_len])]
  rfl
theorem awake20 : Ω 5 [] noH 0 = some (.bool true, [], []) := om_of_eval (n := 40) (by kernel_rfl)
theorem newI (room : Int) (H : Heap) (nx : Nat) : Ω 6 [.int .i64 room] H nx = some (.ref nx 0, [], [some (.cells [.p (.s (.slice none 0 0)), .int .i64 (if 0 > room then 0 else room)])]) := by
  refine om_run (ir := ir6) (by kernel_rfl) 0 ?_
  by_cases h : 0 > room
  · have h' : ¬ 0 ≤ room := by omega
    simp [ir6, ssB, List.idxOf?_cons, Go.Sx.LV.undef, Go.undef, Go.Sx.callO, Go.Sx.splice, Go.Sx.finish, Go.Sx.look, Go.Sx.push, Go.Sx.setObj, Go.Sx.setU, Go.Sx.setAll, Go.Sx.appO, Go.Sx.leI_eq, ltF, h]
  · have h' : 0 ≤ room := by omega
    have h2 : ¬ room < 0 := by omega
    simp [ir6, ssB, List.idxOf?_cons, Go.Sx.LV.undef, Go.undef, Go.Sx.callO, Go.Sx.splice, Go.Sx.finish, Go.Sx.look, Go.Sx.push, Go.Sx.setObj, Go.Sx.setU, Go.Sx.setAll, Go.Sx.appO, Go.Sx.leI_eq, ltF, h, h2]

/-- Both nets, in a heap of the law's own. -/
structure Own2 (h : Hp) (nid xid room N : Nat) : Prop where
  upd : h.upd = []
  jj : ∃ X l Y m fs, JJ (Go.Sx.look noH 0 h) (0 + h.new.length) nid xid room X l Y m fs N
theorem setAll_new : ∀ (u : Upd) (h : Hp), (setAll 0 h u).upd = h.upd
  | [], _ => rfl
  | (id, o) :: r, h => by rw [setAll, setObj_upd _ _ _ _ (by omega), setAll_new r h]
theorem sp8 (a1 a2 a3 a4 a5 a6 a7 a8 b1 b2 b3 b4 b5 b6 b7 b8 : LV) : splice [a1, a2, a3, a4, a5, a6, a7, a8] 0 [b1, b2, b3, b4, b5, b6, b7, b8] = [b1, b2, b3, b4, b5, b6, b7, b8] := rfl
abbrev actZ : List LV := [.int .u8 0, .int .i64 0, .int .i64 0, .int .u64 0, .int .i64 0, .int .i64 0, .int .u8 0, .bool false]
theorem Own2.act {h : Hp} {nid xid room N : Nat} (g : Own2 h nid xid room N) (hN : N < 99) (a : Act) (ha : a.ok) : ∃ h', callO ⟨Ω, noG, noH, 0⟩ false h 7 [.ref nid 0, .ref xid 0, .p a.pv] = some ⟨.bool true, h', [], true⟩ ∧ Own2 h' nid xid room (N + 1) ∧ h.new.length ≤ h'.new.length := by
  obtain ⟨X, l, Y, m, fs, j⟩ := g.jj
  have ha' : (a.no : Int) < 2 ^ 64 := by have := ha; unfold Act.ok at this; omega
  obtain ⟨fs', u, nw, X', l', Y', m', e, j', k1, k2, k3⟩ := do_all (i := a.i) (at' := a.at') (f := a.f) (t := a.t) (nr := a.nr) a.d a.v (no := a.no) ⟨by omega, ha'⟩ j hN
  refine ⟨aft 0 h u nw, ?_, ⟨?_, X', l', Y', m', fs', ?_⟩, by rw [aft_len]; omega⟩
  · simp only [callO, Bool.false_eq_true, if_false, e]
    rfl
  · show (setAll 0 h u).upd = []
    rw [setAll_new, g.upd]
  · have hk : ∀ q ∈ u, q.1 < 0 + h.new.length := fun q hq => by
      rcases k1 q hq with h | h
      · exact j.n.lt _ h
      · exact j.x.lt _ h
    have hl : Go.Sx.look noH 0 (aft 0 h u nw) = Go.Sx.look (Go.Sx.look noH 0 h) (0 + h.new.length) ⟨u, nw⟩ := funext fun i => look_aft hk i
    rw [hl, aft_len, ← Nat.add_assoc]
    exact j'
theorem Own2.like {h : Hp} {nid xid room N : Nat} (g : Own2 h nid xid room N) (hN : N ≤ 200) : callO ⟨Ω, noG, noH, 0⟩ false h 8 [.ref nid 0, .ref xid 0] = some ⟨.bool true, h, [], true⟩ := by
  obtain ⟨X, l, Y, m, fs, j⟩ := g.jj
  simp only [callO, Bool.false_eq_true, if_false, like_ j hN, setAll_nil]
  simp
theorem Own2.boxed {h : Hp} {nid xid room N : Nat} (g : Own2 h nid xid room N) (z c : List LV) : Own2 (boxed 0 h z c) nid xid room N := by
  obtain ⟨X, l, Y, m, fs, j⟩ := g.jj
  refine ⟨by rw [boxed_upd, g.upd], X, l, Y, m, fs, ⟨j.n.mono (fun i hi => ?_) (by rw [boxed_len]; omega) (Nat.le_refl _), j.x.mono (fun i hi => ?_) (by rw [boxed_len]; omega) (Nat.le_refl _), j.apart⟩⟩
  · have := j.n.lt i hi
    rw [boxed_look, if_neg (by omega)]
  · have := j.x.lt i hi
    rw [boxed_look, if_neg (by omega)]

section plays
variable {nid xid room : Nat} {l : List Act} {fl : Bool}
theorem plays_step {n j N : Nat} {h : Hp} (g : Own2 h nid xid room N) (hN : N < 99) (hl : l.length < 2 ^ 63) (hj : j < l.length) (h50 : j < 50) (hok : ∀ a ∈ l, a.ok) :
    ∃ h', runCS ⟨Ω, noG, noH, 0⟩ n ir3_0 ⟨[(5, .ref nid 0), (6, .ref xid 0), (17, .p (.sl (actsP l) l.length 8 fl)), (18, .int .i64 l.length), (19, .int .i64 j)], h⟩ =
      some (.normal, ⟨[(5, .ref nid 0), (6, .ref xid 0), (17, .p (.sl (actsP l) l.length 8 fl)), (18, .int .i64 l.length), (19, .int .i64 (j + 1 : Nat))], h'⟩) ∧ Own2 h' nid xid room (N + 1) := by
  have hsplit : l = l.take j ++ l[j] :: l.drop (j + 1) := by rw [List.getElem_cons_drop, List.take_append_drop]
  have htl : (l.take j).length = j := by rw [List.length_take]; omega
  have hget := actsP_get (l.take j) (l.drop (j + 1)) l[j]
  rw [htl, ← hsplit] at hget
  obtain ⟨a, ha⟩ : ∃ a, a = l[j] := ⟨_, rfl⟩
  have hoka : a.ok := by rw [ha]; exact hok _ (List.getElem_mem hj)
  rw [← ha] at hget
  clear hsplit htl ha
  have hlen := actsP_len l
  have hcs : j * 8 + 8 ≤ (actsP l).length := by omega
  obtain ⟨h', e1, g', hle⟩ := (g.boxed actZ a.cs).act hN a hoka
  have e2 := g'.like (by omega)
  refine ⟨h', ?_, g'⟩
  have h8 : ¬ (l.length : Int) ≤ j := by omega
  have h8' : ¬ (50 : Int) ≤ j := by omega
  have hw : IntKind.i64.wrap ((j : Int) + 1) = (j : Int) + 1 := wrap_i64 _ (by omega) (by omega)
  have c1 : ∀ z, Go.Sx.look noH 0 (push h z) (0 + h.new.length) = some z := fun z => by rw [look_push, if_pos rfl]
  have hb : ∀ z w, boxed 0 h z w = Go.Sx.setObj 0 (push h (.cells z)) h.new.length (some (.cells w)) := fun z w => by unfold boxed; rw [Nat.zero_add]
  have c2 : ∀ z w, Go.Sx.look noH 0 (Go.Sx.setObj 0 (push h (.cells z)) h.new.length (some (.cells w))) h.new.length = some (.cells w) := fun z w => by
    have := boxed_look (H := noH) (nx := 0) h z w (0 + h.new.length)
    rw [if_pos rfl, hb, Nat.zero_add] at this
    exact this
  rw [hb] at e1
  generalize actsP l = Q at *
  generalize l.length = K at *
  obtain ⟨d, f, t, no, i, at', v, nr⟩ := a
  simp only [Nat.zero_add] at c1
  simp [ir3_0, ssB, List.idxOf?_cons, Go.Sx.LV.undef, Go.undef, Go.Sx.appO, Go.Sx.leI_eq, ltF, h8, h8', hw, hj, hcs, hget, sp8, c1, c2, e1, e2]

theorem plays_end {n K : Nat} {h : Hp} {A : LV} : runCS ⟨Ω, noG, noH, 0⟩ n ir3_0 ⟨[(5, .ref nid 0), (6, .ref xid 0), (17, A), (18, .int .i64 K), (19, .int .i64 K)], h⟩ =
    some (.exit 0, ⟨[(5, .ref nid 0), (6, .ref xid 0), (17, A), (18, .int .i64 K), (19, .int .i64 K), (20, .bool false)], h⟩) := by
  simp [ir3_0, ssB, List.idxOf?_cons, Go.Sx.LV.undef, Go.undef, Go.Sx.callO, Go.Sx.splice, Go.Sx.finish, Go.Sx.look, Go.Sx.push, Go.Sx.setObj, Go.Sx.setU, Go.Sx.setAll, Go.Sx.appO, Go.Sx.leI_eq, ltF]
theorem plays_50 {n : Nat} {h : Hp} (hl : l.length < 2 ^ 63) (hj : 50 < l.length) : ∃ h' E, runCS ⟨Ω, noG, noH, 0⟩ n ir3_0 ⟨[(5, .ref nid 0), (6, .ref xid 0), (17, .p (.sl (actsP l) l.length 8 fl)), (18, .int .i64 l.length), (19, .int .i64 (50 : Nat))], h⟩ =
    some (.exit 0, ⟨E, h'⟩) ∧ h'.upd = h.upd := by
  have hsplit : l = l.take 50 ++ l[50] :: l.drop 51 := by rw [List.getElem_cons_drop, List.take_append_drop]
  have htl : (l.take 50).length = 50 := by rw [List.length_take]; omega
  have hget := actsP_get (l.take 50) (l.drop 51) l[50]
  rw [htl, ← hsplit] at hget
  generalize l[50] = a at *
  have hlen := actsP_len l
  have hcs : 408 ≤ (actsP l).length := by omega
  refine ⟨boxed 0 h actZ a.cs, [(5, .ref nid 0), (6, .ref xid 0), (8, .ref h.new.length 0), (17, .p (.sl (actsP l) l.length 8 fl)), (18, .int .i64 l.length), (19, .int .i64 50), (25, .bool true)], ?_, boxed_upd _ _ _⟩
  have h8 : ¬ (l.length : Int) ≤ 50 := by omega
  have c1 : ∀ z, Go.Sx.look noH 0 (push h z) h.new.length = some z := fun z => by rw [look_push, if_pos (by omega)]
  have hb : ∀ z w, boxed 0 h z w = Go.Sx.setObj 0 (push h (.cells z)) h.new.length (some (.cells w)) := fun z w => by unfold boxed; rw [Nat.zero_add]
  rw [hb]
  clear hsplit htl
  generalize actsP l = Q at *
  generalize l.length = K at *
  obtain ⟨d, f, t, no, i, at', v, nr⟩ := a
  simp [ir3_0, ssB, List.idxOf?_cons, Go.Sx.LV.undef, Go.undef, Go.Sx.appO, Go.Sx.leI_eq, ltF, h8, hj, hcs, hget, sp8, c1]
theorem plays_all {n : Nat} (hl : l.length < 2 ^ 63) (hok : ∀ a ∈ l, a.ok) : ∀ (k q j N : Nat) (h : Hp), Own2 h nid xid room N → N ≤ j → j + k = min l.length 50 → k < q →
    ∃ h' E, iter (runCS ⟨Ω, noG, noH, 0⟩ n ir3_0) q ⟨[(5, .ref nid 0), (6, .ref xid 0), (17, .p (.sl (actsP l) l.length 8 fl)), (18, .int .i64 l.length), (19, .int .i64 j)], h⟩ =
      some (.exit 0, ⟨E, h'⟩) ∧ h'.upd = [] := by
  intro k
  induction k with
  | zero =>
    intro q j N h g hN hj hq
    obtain ⟨q, rfl⟩ : ∃ r, q = r + 1 := ⟨q - 1, by omega⟩
    by_cases h50 : 50 < l.length
    · obtain rfl : j = 50 := by omega
      obtain ⟨h', E, e, u⟩ := plays_50 (n := n) (nid := nid) (xid := xid) (fl := fl) (h := h) hl h50
      exact ⟨h', E, iter_out e (by simp), by rw [u, g.upd]⟩
    · obtain rfl : j = l.length := by omega
      exact ⟨h, _, iter_out plays_end (by simp), g.upd⟩
  | succ k ih =>
    intro q j N h g hN hj hq
    obtain ⟨q, rfl⟩ : ∃ r, q = r + 1 := ⟨q - 1, by omega⟩
    have m1 : j < 50 := by omega
    have m2 : j < l.length := by omega
    obtain ⟨h', e, g'⟩ := plays_step (n := n) (j := j) (fl := fl) g (by omega) hl m2 m1 hok
    rw [iter_step e]
    exact ih q (j + 1) (N + 1) h' g' (by omega) (by omega) (by omega)
end plays

/-- Nothing is under way. -/
theorem own2_new (room : Nat) : Own2 ⟨[], [some (.cells [.p (.s (.slice none 0 0)), .int .i64 room]), some (.cells [.p (.s (.slice none 0 0)), .int .i64 room])]⟩ 0 1 room 0 := by
  refine ⟨rfl, nilS, [], nilS, [], [], ⟨⟨by simp, by simp [Go.Sx.look], .nil, by simp, .inl ⟨rfl, rfl⟩⟩, ⟨by simp, by simp [Go.Sx.look], .nil, by simp, .inl ⟨rfl, rfl⟩⟩, ?_⟩⟩
  intro i h1 h2
  simp [ft, Go.Sx.ids, fids] at h1 h2
  omega
/-- A slice of acts, as the machine has it. -/
def Acts (x : LV) (l : List Act) : Prop := (x = .p (.s (.slice none 0 0)) ∧ l = []) ∨ ∃ fl, x = .p (.sl (actsP l) l.length 8 fl)
theorem netplays_ (room : Int) (x : LV) (l : List Act) (hx : Acts x l) (hl : l.length < 2 ^ 63) (hok : ∀ a ∈ l, a.ok) : Ω 3 [.int .i64 room, x] noH 0 = some (.bool true, [], []) := by
  refine om_run (ir := ir3) (by kernel_rfl) 51 ?_
  obtain ⟨R, hR⟩ : ∃ R : Nat, (if 0 > room then 0 else room) = (R : Int) := ⟨(if 0 > room then 0 else room).toNat, by split <;> omega⟩
  have hR2 : (if (0 : Int) > room then (LV.int .i64 0) else .int .i64 room) = .int .i64 R := by
    rw [← hR]; split <;> rfl
  have ha := awake20
  have hn := fun H nx => newI room H nx
  rw [hR] at hn
  have hmm2 : (if room < 0 then (0 : Int) else room) = R := hR
  have g0 := own2_new R
  have look0 : Go.Sx.look noH 0 ⟨[], []⟩ = noH := by
    funext i
    simp [Go.Sx.look, noH]
  have ca : callO ⟨Ω, noG, noH, 0⟩ false ⟨[], []⟩ 5 [] = some ⟨.bool true, ⟨[], []⟩, [], true⟩ := by
    simp only [callO, Bool.false_eq_true, if_false, look0, List.length_nil, Nat.add_zero, ha, setAll_nil]
    rfl
  have cn : callO ⟨Ω, noG, noH, 0⟩ false ⟨[], []⟩ 6 [.int .i64 room] = some ⟨.ref 0 0, ⟨[], [some (.cells [.p (.s (.slice none 0 0)), .int .i64 R])]⟩, [], true⟩ := by
    simp only [callO, Bool.false_eq_true, if_false, List.length_nil, Nat.add_zero, hn, setAll_nil]
    rfl
  have pp : ∀ z, push ⟨[], [some (.cells [.p (.s (.slice none 0 0)), .int .i64 R])]⟩ z = ⟨[], [some (.cells [.p (.s (.slice none 0 0)), .int .i64 R]), some z]⟩ := fun z => rfl
  have fin : ∀ h : Hp, h.upd = [] → finish false noH 0 (.bool true) h = some (.bool true, [], []) := fun h u => by
    have := finish_low (own := false) (H := noH) (nx := 0) (r := .bool true) (h := h) (.inr rfl) (.inl rfl) (by simp [u, updIds]) (by simp [u, updIds, Go.Sx.ids])
    rw [u] at this; exact this
  rcases hx with ⟨rfl, rfl⟩ | ⟨fl, rfl⟩
  · have e1 := iter_out (n := 50) (plays_end (n := 51) (K := 0) (nid := 0) (xid := 1) (A := .p (.s (.slice none 0 0))) (h := ⟨[], [some (.cells [.p (.s (.slice none 0 0)), .int .i64 R]), some (.cells [.p (.s (.slice none 0 0)), .int .i64 R])]⟩)) (by simp)
    simp only [Int.natCast_zero, Int.ofNat_zero] at e1
    have f1 := fin ⟨[], [some (.cells [.p (.s (.slice none 0 0)), .int .i64 R]), some (.cells [.p (.s (.slice none 0 0)), .int .i64 R])]⟩ rfl
    simp [ir3, ssB, List.idxOf?_cons, Go.Sx.LV.undef, Go.undef, Go.Sx.appO, Go.Sx.leI_eq, ltF, ca, cn, hmm2, pp, e1, f1]
  · obtain ⟨h', E, e1, u⟩ := plays_all (n := 51) (nid := 0) (xid := 1) (room := R) (l := l) (fl := fl) hl hok (min l.length 50) 51 0 0 _ g0 (by omega) (by omega) (by omega)
    simp only [Int.natCast_zero, Int.ofNat_zero] at e1
    have f1 := fin h' u
    simp [ir3, ssB, List.idxOf?_cons, Go.Sx.LV.undef, Go.undef, Go.Sx.appO, Go.Sx.leI_eq, ltF, ca, cn, hmm2, pp, e1, f1]
end Go.Proofs.YtjmnamichdegaaaGreatDoor
end

section
namespace Go.Proofs.YtjmnamichdegaaaGreatDoor
open Go Go.Sx Go.ChangeShapes Go.WideShapes
set_option linter.unusedVariables false

theorem has_lt {P : Program} {w : World} {r : Reach} {base : Nat} {a : Addr} {e : TypeId} {n : Nat} (h : w.has P r base a e n) : a.spot = none ∧ a.block < w.heap.size := by
  obtain ⟨_, h1, row, cells, h2, _⟩ := h
  refine ⟨h1, ?_⟩
  unfold World.shape? at h2
  cases hb : w.heap[a.block]? with
  | none => rw [hb] at h2; cases h2
  | some o => exact (Array.getElem?_eq_some_iff.1 hb).1

theorem sl_open {H : Type} {enc : TypeId × Value → H} {P : Program} {W : World} {base : Nat} {spare : Nat → Bool} {held : Bool} {t e : TypeId} {k : IntKind} {v : Value} {d : DataW H} {p : List MemPlace} (ht : P.underlying t = some (.slice e)) (he : P.underlying e = some (.int k)) (hc : P.cellsOf e = 1)
    (hval : Value.okWide P W .any base t v) (h : DataW.Trod enc P W 0 spare held t v d p) :
    v = .slice none 0 0 ∨ ∃ (zs : List Int), (∀ n ∈ zs, (Lit.int k n).wf = true) ∧ zs.length < 2 ^ 63 ∧ PR (fun b => b < W.heap.size) W (.sl (zs.map fun n => .s (.int k n)) zs.length 1 false) v := by
  obtain ⟨a0, len, cap, rfl⟩ := okWide_slice ht hval
  obtain ⟨fuel, hf⟩ := h
  rcases open_ints ht he hc hf with ⟨hcs, hx⟩ | ⟨a, len', cap', zs, hcs, _, hl, hm, hz, hx, hcell, hwz⟩
  · simp [Value.cells] at hcs
    obtain ⟨rfl, rfl, rfl⟩ := hcs
    exact .inl rfl
  · simp [Value.cells] at hcs
    obtain ⟨rfl, rfl, rfl⟩ := hcs
    right
    have hh : a.spot = none ∧ a.block < W.heap.size := by
      simp only [Value.okWide, ht, Cell.okWide, Cell.ok] at hval
      exact has_lt hval.2.2
    obtain ⟨b, off, spot⟩ := a
    obtain ⟨rfl, hb⟩ := hh
    have hlz : len ≤ zs.length := by rw [hz]; split <;> omega
    have hcell' : ∀ j, j < zs.length → W.cell? ⟨b, off + j, none⟩ = some (.int k (zs.getD j 0)) := fun j hj => by rw [← add_plain]; exact hcell j hj
    have hm62 : cap < 2 ^ 63 := by unfold maxLen at hm; omega
    refine ⟨zs.take len, fun n hn => hwz n (List.mem_of_mem_take hn), by simp; omega, ?_⟩
    have hlen : (zs.take len).length = len := by simp; omega
    rw [hlen]
    refine .sl _ len 1 false b off cap (fun j => .int k (zs.getD j 0)) hb ?_ ?_ ?_ hl (fun h => by cases h)
    · intro j hj
      rw [List.length_map, hlen] at hj
      exact hcell' j (by omega)
    · intro j hj; rfl
    · intro j l hj
      rw [List.getElem?_map, Option.map_eq_some_iff] at hj
      obtain ⟨n, h1, rfl⟩ := hj
      rw [List.getElem?_take] at h1
      split at h1
      · have : zs.getD j 0 = n := by rw [List.getD, h1]; rfl
        rw [this]
        exact .s _
      · cases h1
end Go.Proofs.YtjmnamichdegaaaGreatDoor
end

section
namespace Go.Proofs.YtjmnamichdegaaaGreatDoor
open Go Go.Sx Go.ChangeShapes Go.WideShapes
set_option linter.unusedVariables false

/-- A plain field's kind. -/
inductive SK where
  | int (k : IntKind)
  | bool
  | str
def SK.of (P : Program) (t : TypeId) : Option SK := match P.underlying t with
  | some (.int k) => some (.int k)
  | some .bool => some .bool
  | some .string => some .str
  | _ => none
def SK.fits : SK → Value → Prop
  | .int k, .int k' n => k' = k ∧ (Lit.int k n).wf = true
  | .bool, .bool _ => True
  | .str, .string s => s.size ≤ maxLen
  | _, _ => False
inductive Fits : List SK → List Value → Prop
  | nil : Fits [] []
  | cons {k : SK} {v : Value} {ks : List SK} {vs : List Value} : k.fits v → Fits ks vs → Fits (k :: ks) (v :: vs)
/-- The fields of a struct, one cell each. -/
def flatF (P : Program) : Nat → List Field → Option (List SK)
  | _, [] => some []
  | i, f :: r => if f.offset = i ∧ P.cellsOf f.type = 1 then (match SK.of P f.type, flatF P (i + 1) r with
    | some k, some l => some (k :: l)
    | _, _ => none) else none
def flatB (P : Program) (e : TypeId) : Option (List SK) := match P.underlying e with
  | some (.struct fs) => if P.cellsOf e = fs.size then flatF P 0 fs.toList else none
  | _ => none

section
variable {H : Type} {enc : TypeId × Value → H} {P : Program} {W : World} {base : Nat} {spare : Nat → Bool} {held : Bool}
theorem sk_fits {t : TypeId} {s : SK} {n : Nat} {v : Value} {x : DataW H × List MemPlace} (hs : SK.of P t = some s) (h : DataW.trod enc P W base spare held n t [v] = some x) : s.fits v := by
  unfold SK.of at hs
  cases n with
  | zero => simp [DataW.trod] at h
  | succ n =>
    unfold DataW.trod at h
    split at hs
    · rename_i k hk
      obtain rfl := Option.some.inj hs
      rw [hk] at h
      cases v <;> simp at h
      exact ⟨h.1.1, h.1.2⟩
    · rename_i hk
      obtain rfl := Option.some.inj hs
      rw [hk] at h
      cases v <;> simp at h
      trivial
    · rename_i hk
      obtain rfl := Option.some.inj hs
      rw [hk] at h
      cases v <;> simp at h
      exact h.1
    · cases hs
theorem one_cell {s : SK} {v : Value} (h : s.fits v) : v.oneCell' = true := by
  cases s <;> cases v <;> simp [SK.fits] at h <;> rfl
theorem flat_cells {n : Nat} : ∀ (fs : List Field) (i : Nat) (ks : List SK) (cs : List Value), flatF P i fs = some ks → (∀ (j : Nat) (f : Field), fs[j]? = some f → ∃ y, DataW.trod enc P W base spare held n f.type ((cs.drop f.offset).take (P.cellsOf f.type)) = some y) → cs.length = i + fs.length →
    Fits ks (cs.drop i)
  | [], i, ks, cs, h, _, hl => by
    simp only [flatF, Option.some.injEq] at h
    subst h
    rw [List.drop_eq_nil_of_le (by simp at hl; omega)]
    exact .nil
  | f :: r, i, ks, cs, h, hf, hl => by
    simp only [flatF] at h
    split at h
    · rename_i hc
      obtain ⟨ho, h1⟩ := hc
      split at h
      · rename_i k l hk hr
        obtain rfl := Option.some.inj h
        have hi : i < cs.length := by simp at hl; omega
        obtain ⟨y, hy⟩ := hf 0 f rfl
        have e : (cs.drop f.offset).take (P.cellsOf f.type) = [cs[i]] := by
          rw [ho, h1, List.drop_eq_getElem_cons hi]; rfl
        rw [e] at hy
        rw [List.drop_eq_getElem_cons hi]
        exact .cons (sk_fits hk hy) (flat_cells r (i + 1) l cs hr (fun j g hg => hf (j + 1) g hg) (by simp at hl ⊢; omega))
      · cases h
    · cases h
theorem Fits.len {ks : List SK} {vs : List Value} (h : Fits ks vs) : vs.length = ks.length := by
  induction h with
  | nil => rfl
  | cons _ _ ih => simp [ih]
theorem Fits.one {ks : List SK} {vs : List Value} (h : Fits ks vs) : ∀ v ∈ vs, v.oneCell' = true := by
  induction h with
  | nil => simp
  | cons hk _ ih =>
    intro v hv
    rcases List.mem_cons.1 hv with rfl | hv
    · exact one_cell hk
    · exact ih v hv

theorem flatten_get (rows : Nat → List Value) (m : Nat) : ∀ (n : Nat), (∀ i, i < n → (rows i).length = m) → ∀ j, j < n * m → (((List.range n).map rows).flatten)[j]? = (rows (j / m))[j % m]?
  | 0, _, j, hj => by omega
  | n + 1, h, j, hj => by
    have hm : 0 < m := by
      rcases Nat.eq_zero_or_pos m with rfl | h'
      · simp at hj
      · exact h'
    have hl : (((List.range n).map rows).flatten).length = n * m := by
      clear hj
      induction n with
      | zero => simp
      | succ n ih =>
        rw [List.range_succ, List.map_append, List.flatten_append, List.length_append, ih (fun i hi => h i (by omega))]
        simp [h n (by omega), Nat.add_mul]
    rw [List.range_succ, List.map_append, List.flatten_append]
    by_cases hlt : j < n * m
    · rw [List.getElem?_append_left (by omega), flatten_get rows m n (fun i hi => h i (by omega)) j hlt]
    · rw [List.getElem?_append_right (by omega), hl]
      have e1 : j / m = n := Nat.div_eq_of_lt_le (by omega) (by rw [Nat.add_mul] at *; omega)
      have e2 : j % m = j - n * m := by
        have := Nat.div_add_mod j m
        rw [e1, Nat.mul_comm] at this
        omega
      rw [e1, e2]; simp

theorem sl_flat {t e : TypeId} {ks : List SK} {v : Value} {d : DataW H} {p : List MemPlace} (ht : P.underlying t = some (.slice e)) (hk : flatB P e = some ks) (hpos : 0 < ks.length)
    (hval : Value.okWide P W .any base t v) (h : DataW.Trod enc P W 0 spare held t v d p) :
    v = .slice none 0 0 ∨ ∃ rows : List (List Value), (∀ r ∈ rows, Fits ks r) ∧ rows.length < 2 ^ 63 ∧ PR (fun b => b < W.heap.size) W (.sl (rows.flatten.map PV.s) rows.length ks.length false) v := by
  obtain ⟨a0, len, cap, rfl⟩ := okWide_slice ht hval
  obtain ⟨fuel, hf⟩ := h
  rcases Go.Deep.open_slice ht hf with ⟨hcs, hx⟩ | ⟨a, len', cap', m, n, D, Pl, hcs, _, hl, hm, hmm, hx, hel⟩
  · simp [Value.cells] at hcs
    obtain ⟨rfl, rfl, rfl⟩ := hcs
    exact .inl rfl
  · simp [Value.cells] at hcs
    obtain ⟨rfl, rfl, rfl⟩ := hcs
    right
    have hh : a.spot = none ∧ a.block < W.heap.size := by
      simp only [Value.okWide, ht, Cell.okWide, Cell.ok] at hval
      exact has_lt hval.2.2
    obtain ⟨b, off, spot⟩ := a
    obtain ⟨rfl, hb⟩ := hh
    unfold flatB at hk
    split at hk
    case h_2 => cases hk
    rename_i fs he
    split at hk
    case isFalse => cases hk
    rename_i hce
    have hkl : ∀ (fs : List Field) (i : Nat) (ks : List SK), flatF P i fs = some ks → ks.length = fs.length := by
      intro fs
      induction fs with
      | nil => intro i ks h; simp [flatF] at h; subst h; rfl
      | cons f r ih =>
        intro i ks h
        simp only [flatF] at h
        split at h
        · split at h
          · rename_i k l _ hr
            obtain rfl := Option.some.inj h
            simp [ih _ _ hr]
          · cases h
        · cases h
    have hks : ks.length = fs.size := by rw [hkl _ _ _ hk]; simp
    have hlm : len ≤ m := by rw [hmm]; split <;> omega
    have each : ∀ i, ∃ cs' : List Value, i < m → W.cells? 0 ((⟨b, off, none⟩ : Addr).add (i * P.cellsOf e)) (P.cellsOf e) = some cs' ∧ Fits ks cs' := by
      intro i
      by_cases hi : i < m
      · obtain ⟨cs', h1, h2⟩ := hel i hi
        obtain ⟨xs, q, _, _, h3, h4, h5⟩ := DataW.trod_struct he h2
        refine ⟨cs', fun _ => ⟨h1, ?_⟩⟩
        have := flat_cells (n := q) fs.toList 0 ks cs' hk (fun j f hj => by
          have hj' : fs[j]? = some f := by simpa using hj
          have hlt : j < xs.length := by rw [h4]; exact (Array.getElem?_eq_some_iff.1 hj').1
          exact ⟨xs[j], by rw [h5 j f hj', List.getElem?_eq_getElem hlt]⟩) (by rw [h3, hce]; simp)
        simpa using this
      · exact ⟨[], fun h => absurd h hi⟩
    obtain ⟨rows, hrows⟩ := Classical.axiomOfChoice each
    have hfit : ∀ i, i < len → Fits ks (rows i) := fun i hi => (hrows i (by omega)).2
    have hrl : ∀ i, i < len → (rows i).length = ks.length := fun i hi => (hfit i hi).len
    refine ⟨(List.range len).map rows, fun r hr => ?_, ?_, ?_⟩
    · obtain ⟨i, hi, rfl⟩ := List.mem_map.1 hr
      exact hfit i (List.mem_range.1 hi)
    · have hm' : cap ≤ maxLen := hm
      unfold maxLen at hm'
      rw [List.length_map, List.length_range]; omega
    · rw [List.length_map, List.length_range]
      have hget := flatten_get rows ks.length len hrl
      have hlen : (((List.range len).map rows).flatten).length = len * ks.length := by
        have : ∀ n, n ≤ len → (((List.range n).map rows).flatten).length = n * ks.length := by
          intro n
          induction n with
          | zero => intro _; simp
          | succ n ih =>
            intro hn
            rw [List.range_succ, List.map_append, List.flatten_append, List.length_append, ih (by omega)]
            simp [hrl n (by omega), Nat.add_mul]
        exact this len (Nat.le_refl _)
      have hcell : ∀ j, j < len * ks.length → ∃ u, (((List.range len).map rows).flatten)[j]? = some u ∧ W.cell? ⟨b, off + j, none⟩ = some u ∧ u.oneCell' = true := by
        intro j hj
        have hi : j / ks.length < len := Nat.div_lt_of_lt_mul (by rw [Nat.mul_comm]; exact hj)
        have hr : j % ks.length < ks.length := Nat.mod_lt _ hpos
        obtain ⟨h1, h2⟩ := hrows (j / ks.length) (by omega)
        obtain ⟨_, h3, h4⟩ := World.cells?_some h1
        have hlt : j % ks.length < (rows (j / ks.length)).length := by rw [hrl _ hi]; exact hr
        refine ⟨(rows (j / ks.length))[j % ks.length], by rw [hget j hj, List.getElem?_eq_getElem hlt], ?_, h2.one _ (List.getElem_mem hlt)⟩
        have h5 := h4 (j % ks.length) (by rw [hce, ← hks]; exact hr)
        rw [List.getElem?_eq_getElem hlt] at h5
        rw [← h5, add_plain, add_plain, hce, ← hks]
        congr 2
        have := Nat.div_add_mod j ks.length
        rw [Nat.mul_comm] at this
        omega
      refine .sl _ len ks.length false b off cap (fun j => (((List.range len).map rows).flatten).getD j default) hb ?_ ?_ ?_ hl (fun h => by cases h)
      · intro j hj
        rw [List.length_map, hlen] at hj
        obtain ⟨u, h1, h2, h3⟩ := hcell j hj
        rw [List.getD, h1]; exact h2
      · intro j hj
        rw [List.length_map, hlen] at hj
        obtain ⟨u, h1, h2, h3⟩ := hcell j hj
        show Value.oneCell' ((((List.range len).map rows).flatten).getD j default) = true
        rw [List.getD, h1]; exact h3
      · intro j l hj
        rw [List.getElem?_map, Option.map_eq_some_iff] at hj
        obtain ⟨u, h1, rfl⟩ := hj
        have : (((List.range len).map rows).flatten).getD j default = u := by rw [List.getD, h1]; rfl
        rw [this]
        exact .s _
end
end Go.Proofs.YtjmnamichdegaaaGreatDoor
end

section
namespace Go.Proofs.YtjmnamichdegaaaGreatDoor
open Go
set_option linter.unusedVariables false
abbrev actK : List SK := [.int .u8, .int .i64, .int .i64, .int .u64, .int .i64, .int .i64, .int .u8, .bool]
/-- A row of fields is an act. -/
theorem act_of {r : List Value} (h : Fits actK r) : ∃ a : Act, a.ok ∧ r.map Go.Sx.PV.s = [.s (.int .u8 a.d), .s (.int .i64 a.f), .s (.int .i64 a.t), .s (.int .u64 a.no), .s (.int .i64 a.i), .s (.int .i64 a.at'), .s (.int .u8 a.v.toNat), .s (.bool a.nr)] := by
  rcases h with _ | ⟨h1, h⟩
  rcases h with _ | ⟨h2, h⟩
  rcases h with _ | ⟨h3, h⟩
  rcases h with _ | ⟨h4, h⟩
  rcases h with _ | ⟨h5, h⟩
  rcases h with _ | ⟨h6, h⟩
  rcases h with _ | ⟨h7, h⟩
  rcases h with _ | ⟨h8, h⟩
  rcases h with _ | _
  rename_i v1 v2 v3 v4 v5 v6 v7 v8
  cases v1 <;> simp only [SK.fits] at h1
  cases v2 <;> simp only [SK.fits] at h2
  cases v3 <;> simp only [SK.fits] at h3
  cases v4 <;> simp only [SK.fits] at h4
  cases v5 <;> simp only [SK.fits] at h5
  cases v6 <;> simp only [SK.fits] at h6
  cases v7 <;> simp only [SK.fits] at h7
  cases v8 <;> simp only [SK.fits] at h8
  obtain ⟨rfl, w1⟩ := h1
  obtain ⟨rfl, w2⟩ := h2
  obtain ⟨rfl, w3⟩ := h3
  obtain ⟨rfl, w4⟩ := h4
  obtain ⟨rfl, w5⟩ := h5
  obtain ⟨rfl, w6⟩ := h6
  obtain ⟨rfl, w7⟩ := h7
  rename_i d f t no i at' v nr
  have e1 : 0 ≤ d ∧ d ≤ 255 := by simpa [Lit.wf, IntKind.min, IntKind.max, IntKind.signed, IntKind.bits] using w1
  have e4 : 0 ≤ no ∧ no ≤ 18446744073709551615 := by simpa [Lit.wf, IntKind.min, IntKind.max, IntKind.signed, IntKind.bits] using w4
  have e7 : 0 ≤ v ∧ v ≤ 255 := by simpa [Lit.wf, IntKind.min, IntKind.max, IntKind.signed, IntKind.bits] using w7
  have c1 : (d.toNat : Int) = d := by omega
  have c4 : (no.toNat : Int) = no := by omega
  have c7 : ((UInt8.ofNat v.toNat).toNat : Int) = v := by simp; omega
  refine ⟨⟨d.toNat, f, t, no.toNat, i, at', UInt8.ofNat v.toNat, nr⟩, ?_, ?_⟩
  · show no.toNat < 2 ^ 64
    omega
  · simp only [List.map_cons, List.map_nil, c1, c4, c7]
theorem acts_of {rows : List (List Value)} (h : ∀ r ∈ rows, Fits actK r) : ∃ l : List Act, (∀ a ∈ l, a.ok) ∧ l.length = rows.length ∧ rows.flatten.map Go.Sx.PV.s = actsP l := by
  induction rows with
  | nil => exact ⟨[], by simp, rfl, rfl⟩
  | cons r rows ih =>
    obtain ⟨a, ha, e⟩ := act_of (h r List.mem_cons_self)
    obtain ⟨l, hl, e2, e3⟩ := ih fun r hr => h r (List.mem_cons_of_mem _ hr)
    refine ⟨a :: l, fun b hb => ?_, by simp [e2], ?_⟩
    · rcases List.mem_cons.1 hb with rfl | hb
      · exact ha
      · exact hl b hb
    · rw [List.flatten_cons, List.map_append, e, e3]
      simp [actsP]

end Go.Proofs.YtjmnamichdegaaaGreatDoor
end
