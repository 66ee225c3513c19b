/- What the proof of the claim leans on, part 5 of 6: the value machine, the functions as it has them, their specifications. No condition. -/
import Derived.Test.YtjmnamichdegaaaGreatDoorB4
section
namespace Go.Proofs.YtjmnamichdegaaaGreatDoor
open Go Go.Sx
set_option linter.unusedSimpArgs false
set_option linter.unusedVariables false

/-- A frame: its bytes' value, for whom it is. -/
abbrev Fr := LV × Int
def ro (l : List Fr) : List LV := l.flatMap fun a => [a.1, .int .i64 a.2]
theorem ro_nil : ro [] = [] := rfl
theorem ro_cons (a : Fr) (l : List Fr) : ro (a :: l) = a.1 :: .int .i64 a.2 :: ro l := by simp [ro]
theorem ro_app (l m : List Fr) : ro (l ++ m) = ro l ++ ro m := by simp [ro]
theorem ro_len (l : List Fr) : (ro l).length = l.length * 2 := by
  induction l with
  | nil => rfl
  | cons a l ih => rw [ro_cons, List.length_cons, List.length_cons, List.length_cons, ih]; omega
theorem ro_get {A : List Fr} {a : Fr} {B : List Fr} {z : List LV} : (ro (A ++ a :: B) ++ z)[A.length * 2]? = some a.1 ∧ (ro (A ++ a :: B) ++ z)[A.length * 2 + 1]? = some (.int .i64 a.2) := by
  have hl := ro_len A
  constructor
  · rw [ro_app, ro_cons, List.append_assoc, List.getElem?_append_right (by omega), hl, Nat.sub_self]; rfl
  · rw [ro_app, ro_cons, List.append_assoc, List.getElem?_append_right (by omega), hl, show A.length * 2 + 1 - A.length * 2 = 1 by omega]; rfl

/-- Places that were cleared. -/
def zs : Nat → List LV
  | 0 => []
  | m + 1 => .p (.s (.slice none 0 0)) :: .int .i64 0 :: zs m
theorem zs_len (m : Nat) : (zs m).length = m * 2 := by
  induction m with
  | zero => rfl
  | succ m ih => simp only [zs, List.length_cons, ih]; omega
theorem ids_zs (m : Nat) : ids.idsL (zs m) = [] := by
  induction m with
  | zero => rfl
  | succ m ih => simp only [zs, ids.idsL, ih]; rfl

/-- Frames, whose bytes lie below. -/
def Lo (nx : Nat) (l : List Fr) : Prop := ∀ a ∈ l, (ids a.1).length ≤ 1 ∧ ∀ i ∈ ids a.1, i < nx
theorem Lo.app {nx : Nat} {l m : List Fr} : Lo nx (l ++ m) ↔ Lo nx l ∧ Lo nx m := by
  constructor
  · intro h; exact ⟨fun a ha => h a (List.mem_append_left _ ha), fun a ha => h a (List.mem_append_right _ ha)⟩
  · rintro ⟨h1, h2⟩ a ha
    rcases List.mem_append.1 ha with h | h
    · exact h1 a h
    · exact h2 a h
theorem Lo.cons {nx : Nat} {a : Fr} {l : List Fr} : Lo nx (a :: l) ↔ ((ids a.1).length ≤ 1 ∧ ∀ i ∈ ids a.1, i < nx) ∧ Lo nx l := by
  constructor
  · intro h; exact ⟨h a List.mem_cons_self, fun b hb => h b (List.mem_cons_of_mem _ hb)⟩
  · rintro ⟨h1, h2⟩ b hb
    rcases List.mem_cons.1 hb with rfl | h
    · exact h1
    · exact h2 b h
theorem Lo.mono {nx nx' : Nat} {l : List Fr} (h : Lo nx l) (hn : nx ≤ nx') : Lo nx' l := fun a ha => ⟨(h a ha).1, fun i hi => Nat.lt_of_lt_of_le ((h a ha).2 i hi) hn⟩
theorem Lo.ids {nx : Nat} : ∀ {l : List Fr}, Lo nx l → ∀ i ∈ ids.idsL (ro l), i < nx
  | [], _, i, hi => by simp [ro, Go.Sx.ids.idsL] at hi
  | a :: l, h, i, hi => by
    rw [Lo.cons] at h
    rw [ro_cons] at hi
    simp only [Go.Sx.ids.idsL, Go.Sx.ids, List.nil_append, List.mem_append] at hi
    rcases hi with hi | hi
    · exact h.1.2 i hi
    · exact Lo.ids h.2 i hi
theorem Lo.ids_len {nx : Nat} : ∀ {l : List Fr}, Lo nx l → (ids.idsL (ro l)).length ≤ l.length
  | [], _ => by simp [ro, Go.Sx.ids.idsL]
  | a :: l, h => by
    rw [Lo.cons] at h
    have := Lo.ids_len h.2
    rw [ro_cons]
    simp only [Go.Sx.ids.idsL, Go.Sx.ids, List.nil_append, List.length_append, List.length_cons]
    omega
theorem Lo.idsZ {nx : Nat} {l : List Fr} (h : Lo nx l) (m : Nat) : (∀ i ∈ ids.idsL (ro l ++ zs m), i < nx) ∧ (ids.idsL (ro l ++ zs m)).length ≤ l.length := by
  rw [ids_app, ids_zs, List.append_nil]
  exact ⟨h.ids, h.ids_len⟩
theorem Wh.ids {H : Heap} {nx : Nat} {x : LV} {F : List UInt8} (h : Wh H nx x F) : (Go.Sx.ids x).length ≤ 1 ∧ ∀ i ∈ Go.Sx.ids x, i < nx := by
  rcases h with rfl | ⟨id, cp, ex, rfl, h1, h2⟩
  · simp [Go.Sx.ids]
  · simp [Go.Sx.ids, h2]

/-- A net's list. -/
def Sl (x : LV) (k : Nat) : Prop := (x = .p (.s (.slice none 0 0)) ∧ k = 0) ∨ ∃ lid cp ex, x = .arr lid 0 k 2 cp ex

section has
variable (nid : Nat) (x y : LV) (k : Nat) (H : Heap) (nx : Nat)
theorem nlen_ (hx : Sl x k) (hl : H nid = some (.cells [x, y])) (hid : nid < nx) : Ω 17 [.ref nid 0] H nx = some (.int .i64 k, [], []) := by
  refine om_run (ir := ir17) (by kernel_rfl) 0 ?_
  rcases hx with ⟨rfl, rfl⟩ | ⟨lid, cp, ex, rfl⟩
  · simp [ir17, ssB, List.idxOf?_cons, Go.Sx.LV.undef, Go.undef, Go.Sx.callO, Go.Sx.splice, Go.Sx.finish, Go.Sx.look, Go.Sx.push, Go.Sx.setObj, Go.Sx.setU, Go.Sx.setAll, Go.Sx.appO, Go.Sx.leI_eq, ltF, hl, hid]
  · simp [ir17, ssB, List.idxOf?_cons, Go.Sx.LV.undef, Go.undef, Go.Sx.callO, Go.Sx.splice, Go.Sx.finish, Go.Sx.look, Go.Sx.push, Go.Sx.setObj, Go.Sx.setU, Go.Sx.setAll, Go.Sx.appO, Go.Sx.leI_eq, ltF, hl, hid]
theorem nhas_ (i : Int) (hx : Sl x k) (hl : H nid = some (.cells [x, y])) (hid : nid < nx) : Ω 27 [.ref nid 0, .int .i64 i] H nx = some (.bool (decide (0 ≤ i ∧ i < k)), [], []) := by
  refine om_run (ir := ir27) (by kernel_rfl) 0 ?_
  have hh := fun H nx => nlen_ nid x y k H nx hx
  by_cases h1 : 0 ≤ i
  · by_cases h2 : (k : Int) ≤ i
    · have h3 : ¬ i < k := by omega
      simp [ir27, ssB, List.idxOf?_cons, Go.Sx.LV.undef, Go.undef, Go.Sx.callO, Go.Sx.splice, Go.Sx.finish, Go.Sx.look, Go.Sx.push, Go.Sx.setObj, Go.Sx.setU, Go.Sx.setAll, Go.Sx.appO, Go.Sx.leI_eq, ltF, hh, h1, h2, h3, hl, hid]
    · have h3 : i < k := by omega
      simp [ir27, ssB, List.idxOf?_cons, Go.Sx.LV.undef, Go.undef, Go.Sx.callO, Go.Sx.splice, Go.Sx.finish, Go.Sx.look, Go.Sx.push, Go.Sx.setObj, Go.Sx.setU, Go.Sx.setAll, Go.Sx.appO, Go.Sx.leI_eq, ltF, hh, h1, h2, h3, hl, hid]
  · simp [ir27, ssB, List.idxOf?_cons, Go.Sx.LV.undef, Go.undef, Go.Sx.callO, Go.Sx.splice, Go.Sx.finish, Go.Sx.look, Go.Sx.push, Go.Sx.setObj, Go.Sx.setU, Go.Sx.setAll, Go.Sx.appO, Go.Sx.leI_eq, ltF, hh, h1, hl, hid]
theorem nhas_t (i : Nat) (hi : i < k) (hx : Sl x k) (hl : H nid = some (.cells [x, y])) (hid : nid < nx) : Ω 27 [.ref nid 0, .int .i64 i] H nx = some (.bool true, [], []) := by
  rw [nhas_ nid x y k H nx i hx hl hid, decide_eq_true (by omega)]
theorem nhas_f (i : Int) (hi : ¬ (0 ≤ i ∧ i < k)) (hx : Sl x k) (hl : H nid = some (.cells [x, y])) (hid : nid < nx) : Ω 27 [.ref nid 0, .int .i64 i] H nx = some (.bool false, [], []) := by
  rw [nhas_ nid x y k H nx i hx hl hid, decide_eq_false hi]
end has

theorem byt_no {F : List UInt8} {i id off len sz cp : Nat} {ex : Bool} (h : (byt F)[i]? = some (.arr id off len sz cp ex)) : False := by
  simp [byt] at h
section look
variable (nid lid cp : Nat) (A B : List Fr) (a : Fr) (z : List LV) (F : List UInt8) (y : LV) (H : Heap) (nx : Nat)
theorem nlook_ (h30 : F.length < 2 ^ 31) (hF : 0 < F.length) (hw : Wh H nx a.1 F) (hl : H nid = some (.cells [.arr lid 0 (A.length + 1 + B.length) 2 cp false, y])) (hg : H lid = some (.cells (ro (A ++ a :: B) ++ z))) (hid : nid < nx) (hlid : lid < nx) :
    Ω 10 [.ref nid 0, .int .i64 A.length] H nx = some (.tuple [.arr nx 0 F.length 1 F.length false, .int .i64 a.2, .bool true], [], [some (.cells (byt F))]) := by
  refine om_run (ir := ir10) (by kernel_rfl) 0 ?_
  have hemp : F.isEmpty = false := by cases F with
    | nil => simp at hF
    | cons a l => rfl
  have hh := fun H nx => nhas_t nid (.arr lid 0 (A.length + 1 + B.length) 2 cp false) y (A.length + 1 + B.length) H nx A.length (by omega) (.inr ⟨_, _, _, rfl⟩)
  obtain ⟨g1, g2⟩ := ro_get (A := A) (a := a) (B := B) (z := z)
  have hlt : A.length < A.length + 1 + B.length := by omega
  have hk : ∀ k, nid < nx + k := fun k => by omega
  have hk2 : ∀ k, ¬ nx + k ≤ nid := fun k => by omega
  have hk3 : ∀ k, lid < nx + k := fun k => by omega
  have hk4 : ∀ k, ¬ nx + k ≤ lid := fun k => by omega
  have hk5 : ¬ nx ≤ nid := by omega
  have hk6 : ¬ nx ≤ lid := by omega
  generalize ro (A ++ a :: B) ++ z = cs at *
  obtain ⟨x, to⟩ := a
  dsimp only at hw g1 g2 ⊢
  rcases hw with rfl | ⟨id, cp', ex, rfl, h1, h2⟩
  · simp [ir10, ssB, List.idxOf?_cons, Go.Sx.LV.undef, Go.undef, Go.Sx.callO, Go.Sx.splice, Go.Sx.finish, Go.Sx.look, Go.Sx.push, Go.Sx.setObj, Go.Sx.setU, Go.Sx.setAll, Go.Sx.appO, Go.Sx.leI_eq, ltF, hh, hl, hid, hg, hlid, g1, g2, hlt, clone_sl F false h30, hk, hk2, hk3, hk4, hk5, hk6, hemp, byt_len, bytP_len, take_byt, ids_byt, ren_byt, ids_app, ren_app, allP_byt, allP_app]
  · have hc := fun H nx => clone_arr F id cp' ex hF h30 H nx
    have hk7 : ∀ k, id < nx + k := fun k => by omega
    have hk8 : ∀ k, ¬ nx + k ≤ id := fun k => by omega
    have hk9 : ¬ nx ≤ id := by omega
    have d1 : ¬ id = nid := fun e => by
      rw [e, hl] at h1
      exact byt_no (F := F) (i := 0) (by rw [← Go.Sx.Obj.cells.inj (Option.some.inj h1)]; rfl)
    have d2 : ¬ id = lid := fun e => by
      rw [e, hg] at h1
      exact byt_no (F := F) (i := A.length * 2) (by rw [← Go.Sx.Obj.cells.inj (Option.some.inj h1)]; exact g1)
    simp [ir10, ssB, List.idxOf?_cons, Go.Sx.LV.undef, Go.undef, Go.Sx.callO, Go.Sx.splice, Go.Sx.finish, Go.Sx.look, Go.Sx.push, Go.Sx.setObj, Go.Sx.setU, Go.Sx.setAll, Go.Sx.appO, Go.Sx.leI_eq, ltF, hh, hl, hid, hg, hlid, g1, g2, hlt, hc, h1, h2, hk, hk2, hk3, hk4, hk5, hk6, hk7, hk8, hk9, d1, d2, byt_len, bytP_len, take_byt, ids_byt, ren_byt, ids_app, ren_app, allP_byt, allP_app]
theorem nlook_out (x : LV) (k : Nat) (i : Int) (hi : ¬ (0 ≤ i ∧ i < k)) (hx : Sl x k) (hl : H nid = some (.cells [x, y])) (hid : nid < nx) :
    Ω 10 [.ref nid 0, .int .i64 i] H nx = some (.tuple [.p (.s (.slice none 0 0)), .int .i64 0, .bool false], [], []) := by
  refine om_run (ir := ir10) (by kernel_rfl) 0 ?_
  have hh := fun H nx => nhas_f nid x y k H nx i hi hx
  simp [ir10, ssB, List.idxOf?_cons, Go.Sx.LV.undef, Go.undef, Go.Sx.callO, Go.Sx.splice, Go.Sx.finish, Go.Sx.look, Go.Sx.push, Go.Sx.setObj, Go.Sx.setU, Go.Sx.setAll, Go.Sx.appO, Go.Sx.leI_eq, ltF, hh, hl, hid]
end look

theorem del_cells (A' B' z : List LV) (p q n o : LV) : splice (splice (A' ++ p :: q :: (B' ++ z)) A'.length B') (A'.length + B'.length) [n, o] = A' ++ (B' ++ n :: o :: z) := by
  have e1 : splice (A' ++ p :: q :: (B' ++ z)) A'.length B' = A' ++ (B' ++ List.drop B'.length (p :: q :: (B' ++ z))) := by
    simp only [splice]
    rw [List.take_left', List.append_assoc, ← List.drop_drop, List.drop_left'] <;> rfl
  rw [e1]
  simp only [splice, List.length_cons, List.length_nil]
  rw [← List.append_assoc, List.take_left' (by simp), ← List.drop_drop, List.drop_left' (by simp), List.drop_drop]
  have e2 : List.drop (B'.length + (0 + 1 + 1)) (p :: q :: (B' ++ z)) = z := by
    rw [show B'.length + (0 + 1 + 1) = B'.length + 2 by omega]
    rw [List.drop_succ_cons, List.drop_succ_cons, List.drop_left' rfl]
  rw [e2]
  simp
section drop
variable (nid lid cp : Nat) (A B : List Fr) (a : Fr) (y : LV) (H : Heap) (nx : Nat)
theorem ndelete (m : Nat) (hcpm : cp = A.length + 1 + B.length + m) (hc30 : cp < 500) (hlo : Lo nx (A ++ B)) (hg : H lid = some (.cells (ro (A ++ a :: B) ++ zs m))) (hlid : lid < nx) :
    Ω 31 [.arr lid 0 (A.length + 1 + B.length) 2 cp false, .int .i64 A.length, .int .i64 (A.length + 1)] H nx =
    some (.arr lid 0 (A.length + B.length) 2 cp false, [(lid, some (.cells (ro (A ++ B) ++ zs (m + 1))))], []) := by
  refine om_run (ir := ir31) (by kernel_rfl) 0 ?_
  have hcp : A.length + 1 + B.length ≤ cp := by omega
  have hz := zs_len m
  have hR := hlo.idsZ (m + 1)
  rw [List.length_append] at hR
  rw [show zs (m + 1) = .p (.s (.slice none 0 0)) :: .int .i64 0 :: zs m from rfl] at hR ⊢
  generalize zs m = z at *
  have hlA := ro_len A
  have hlB := ro_len B
  have hcs : ro (A ++ a :: B) ++ z = ro A ++ a.1 :: .int .i64 a.2 :: (ro B ++ z) := by rw [ro_app, ro_cons]; simp
  have hres : ro (A ++ B) ++ .p (.s (.slice none 0 0)) :: .int .i64 0 :: z = ro A ++ (ro B ++ .p (.s (.slice none 0 0)) :: .int .i64 0 :: z) := by rw [ro_app]; simp
  have hdel := del_cells (ro A) (ro B) z a.1 (.int .i64 a.2) (.p (.s (.slice none 0 0))) (.int .i64 0)
  rw [hcs] at hg
  rw [hres] at hR ⊢
  have hw : IntKind.i64.wrap ((A.length : Int) + 1) = (A.length : Int) + 1 := wrap_i64 _ (by omega) (by omega)
  have f1 : (0 : Int) ≤ (A.length : Int) + 1 := by omega
  have f2 : ((A.length : Int) + 1).toNat = A.length + 1 := by omega
  have f3 : ((A.length : Int) == (A.length : Int) + 1) = false := by simp; omega
  have f7 : (0 : Int) ≤ (A.length : Int) + 1 + B.length := by omega
  have f8 : ((A.length : Int) + 1 + B.length).toNat = A.length + 1 + B.length := by omega
  have f4 : A.length + 1 ≤ A.length + 1 + B.length := by omega
  have f5 : A.length ≤ A.length + 1 + B.length := by omega
  have f6 : A.length + 1 + B.length - (A.length + 1) = B.length := by omega
  have hyc : List.take (B.length * 2) (List.drop ((A.length + 1) * 2) (ro A ++ a.1 :: .int .i64 a.2 :: (ro B ++ z))) = ro B := by
    rw [show (A.length + 1) * 2 = A.length * 2 + 2 by omega, ← List.drop_drop, List.drop_left' hlA]
    rw [List.drop_succ_cons, List.drop_succ_cons, List.drop_zero, List.take_left' hlB]
  have hQ : (ro A ++ a.1 :: .int .i64 a.2 :: (ro B ++ z)).length = cp * 2 := by
    simp only [List.length_append, List.length_cons, hlA, hlB, hz]
    omega
  rw [hlA, hlB, ← Nat.add_mul] at hdel
  generalize ro A ++ a.1 :: .int .i64 a.2 :: (ro B ++ z) = Q at *
  generalize ro A ++ (ro B ++ .p (.s (.slice none 0 0)) :: .int .i64 0 :: z) = R at *
  generalize ro B = C at *
  have hlen2 : (splice Q (A.length * 2) C).length = cp * 2 := by simp only [splice, List.length_append, List.length_take, List.length_drop, hQ, hlB]; omega
  clear hcs hres hlo
  generalize A.length = a at *
  generalize B.length = b at *
  have g1 : (a + 1) * 2 + b * 2 ≤ cp * 2 := by omega
  have g2 : ¬ 1099511627776 < (a + b) * 32 := by omega
  have g3 : ¬ cp * 2 < a * 2 := by omega
  have g4 : ¬ a * 2 = cp * 2 := by omega
  have g4' : ¬ a = cp := by omega
  have g5 : (a + b) * 2 ≤ cp * 2 := by omega
  have g5' : a + b ≤ cp := by omega
  have g6 : a + 1 + b - (a + b) = 1 := by omega
  have g7 : a + b ≤ a + 1 + b := by omega
  have g8 : (a + b) * 2 + 2 ≤ cp * 2 := by omega
  have g9 : (0 : Int) ≤ (a : Int) + b := by omega
  have g10 : ((a : Int) + b).toNat = a + b := by omega
  have fin : finish true H nx (.arr lid 0 (a + b) 2 cp false) ⟨[(lid, some (.cells R))], []⟩ = some (.arr lid 0 (a + b) 2 cp false, [(lid, some (.cells R))], []) :=
    finish_low (.inl rfl) (.inr ⟨rfl, by simp [Go.Sx.ids, hlid]⟩) (by simpa [updIds, Go.Sx.Obj.ids] using hR.1) (by simp [updIds, Go.Sx.Obj.ids, Go.Sx.ids]; omega)
  by_cases hB : b = 0
  · subst hB
    have hC : C = [] := List.length_eq_zero_iff.1 (by rw [hlB])
    subst hC
    have hsp : splice Q (a * 2) [] = Q := by simp [splice]
    rw [hsp] at hdel
    rw [Nat.add_zero] at hdel
    have q1 : a + 1 - a = 1 := by omega
    have q2 : a + 1 ≤ cp := by omega
    have q3 : (a + 1) * 2 ≤ cp * 2 := by omega
    have q4 : a * 2 + 2 ≤ cp * 2 := by omega
    simp only [Nat.add_zero, Int.natCast_zero, Int.add_zero] at f4 f5 f6 f7 f8 fin
    simp [ir31, ssB, List.idxOf?_cons, Go.Sx.LV.undef, Go.undef, Go.Sx.callO, Go.Sx.look, Go.Sx.push, Go.Sx.setObj, Go.Sx.setU, Go.Sx.setAll, Go.Sx.appO, Go.Sx.leI_eq, ltF, hg, hlid, hw, f1, f2, f3, hQ, hdel, g3, g4, g4', q1, q2, q3, q4, fin]
  · simp [ir31, ssB, List.idxOf?_cons, Go.Sx.LV.undef, Go.undef, Go.Sx.callO, Go.Sx.look, Go.Sx.push, Go.Sx.setObj, Go.Sx.setU, Go.Sx.setAll, Go.Sx.appO, Go.Sx.leI_eq, ltF, hg, hlid, hw, f1, f2, f3, f4, f5, f6, f7, f8, hyc, hlB, hB, hQ, hlen2, hdel, g1, g2, g3, g4, g4', g5, g5', g6, g7, g8, g9, g10, hcp, fin]
theorem ndrop_ (m : Nat) (hcpm : cp = A.length + 1 + B.length + m) (hc30 : cp < 500) (hlo : Lo nx (A ++ B)) (hy : ids y = []) (hl : H nid = some (.cells [.arr lid 0 (A.length + 1 + B.length) 2 cp false, y])) (hg : H lid = some (.cells (ro (A ++ a :: B) ++ zs m))) (hid : nid < nx) (hlid : lid < nx) (hne : nid ≠ lid) :
    Ω 13 [.ref nid 0, .int .i64 A.length] H nx = some (.int .i64 0, [(lid, some (.cells (ro (A ++ B) ++ zs (m + 1)))), (nid, some (.cells [.arr lid 0 (A.length + B.length) 2 cp false, y]))], []) := by
  refine om_run (ir := ir13) (by kernel_rfl) 0 ?_
  have hh := fun H nx => nhas_t nid (.arr lid 0 (A.length + 1 + B.length) 2 cp false) y (A.length + 1 + B.length) H nx A.length (by omega) (.inr ⟨_, _, _, rfl⟩)
  have hd := fun (H : Heap) k => ndelete lid cp A B a H (nx + k) m hcpm hc30 (hlo.mono (by omega))
  have hd0 := fun (H : Heap) => ndelete lid cp A B a H nx m hcpm hc30 hlo
  have hw : IntKind.i64.wrap ((A.length : Int) + 1) = (A.length : Int) + 1 := wrap_i64 _ (by omega) (by omega)
  have hR := hlo.idsZ (m + 1)
  rw [List.length_append] at hR
  generalize ro (A ++ B) ++ zs (m + 1) = R at *
  have fin : finish false H nx (.int .i64 0) ⟨[(lid, some (.cells R)), (nid, some (.cells [.arr lid 0 (A.length + B.length) 2 cp false, y]))], []⟩ = some (.int .i64 0, [(lid, some (.cells R)), (nid, some (.cells [.arr lid 0 (A.length + B.length) 2 cp false, y]))], []) :=
    finish_low (.inr rfl) (.inl rfl) (by
      intro i hi
      simp [updIds, Go.Sx.Obj.ids, Go.Sx.ids.idsL, Go.Sx.ids, hy] at hi
      rcases hi with hi | rfl
      · exact hR.1 i hi
      · exact hlid) (by simp [updIds, Go.Sx.Obj.ids, Go.Sx.ids.idsL, Go.Sx.ids, hy]; omega)
  simp [ir13, ssB, List.idxOf?_cons, Go.Sx.LV.undef, Go.undef, Go.Sx.callO, Go.Sx.splice, Go.Sx.look, Go.Sx.push, Go.Sx.setObj, Go.Sx.setU, Go.Sx.setAll, Go.Sx.appO, Go.Sx.leI_eq, ltF, hh, hd, hd0, hw, hl, hid, hg, hlid, hne, fin]
theorem ndrop_out (x : LV) (k : Nat) (i : Int) (hi : ¬ (0 ≤ i ∧ i < k)) (hx : Sl x k) (hl : H nid = some (.cells [x, y])) (hid : nid < nx) :
    Ω 13 [.ref nid 0, .int .i64 i] H nx = some (.int .i64 2, [], []) := by
  refine om_run (ir := ir13) (by kernel_rfl) 0 ?_
  have hh := fun H nx => nhas_f nid x y k H nx i hi hx
  simp [ir13, ssB, List.idxOf?_cons, Go.Sx.LV.undef, Go.undef, Go.Sx.callO, Go.Sx.splice, Go.Sx.finish, Go.Sx.look, Go.Sx.push, Go.Sx.setObj, Go.Sx.setU, Go.Sx.setAll, Go.Sx.appO, Go.Sx.leI_eq, ltF, hh, hl, hid]
end drop
end Go.Proofs.YtjmnamichdegaaaGreatDoor
end

section
namespace Go.Proofs.YtjmnamichdegaaaGreatDoor
open Go Go.Sx
set_option linter.unusedSimpArgs false
set_option linter.unusedVariables false

section take
variable (nid lid cp : Nat) (A B : List Fr) (a : Fr) (F : List UInt8) (y : LV) (kd f t no : Int) (e : Int) (H : Heap) (nx : Nat)
theorem ntake_ (m : Nat) (h30 : F.length < 2 ^ 31) (hF : 0 < F.length) (hw : Wh H nx a.1 F) (hr : Reads F (ntz kd f t no) e) (hcpm : cp = A.length + 1 + B.length + m) (hc30 : cp < 500) (hlo : Lo nx (A ++ B)) (hy : ids y = [])
    (hl : H nid = some (.cells [.arr lid 0 (A.length + 1 + B.length) 2 cp false, y])) (hg : H lid = some (.cells (ro (A ++ a :: B) ++ zs m))) (hid : nid < nx) (hlid : lid < nx) (hne : nid ≠ lid) :
    Ω 11 [.ref nid 0, .int .i64 A.length] H nx = some (.tuple [.p (ntz kd f t no), .int .i64 e], [(nid, some (.cells [.arr lid 0 (A.length + B.length) 2 cp false, y])), (lid, some (.cells (ro (A ++ B) ++ zs (m + 1))))], []) := by
  refine om_run (ir := ir11) (by kernel_rfl) 0 ?_
  have hdr := fun (H : Heap) k => ndrop_ nid lid cp A B a y H (nx + k) m hcpm hc30 (hlo.mono (by omega)) hy
  have hrd := fun id H nx => hr id H nx
  have hR := hlo.idsZ (m + 1)
  rw [List.length_append] at hR
  have hlk := fun (H : Heap) (nx : Nat) (hw : Wh H nx a.1 F) => nlook_ nid lid cp A B a (zs m) F y H nx h30 hF hw
  generalize hR1 : ro (A ++ B) ++ zs (m + 1) = R at *
  generalize hQ : ro (A ++ a :: B) ++ zs m = Q at *
  have fin : ∀ nw, finish false H nx (.tuple [.p (ntz kd f t no), .int .i64 e]) ⟨[(nid, some (.cells [.arr lid 0 (A.length + B.length) 2 cp false, y])), (lid, some (.cells R))], nw⟩ = some (.tuple [.p (ntz kd f t no), .int .i64 e], [(nid, some (.cells [.arr lid 0 (A.length + B.length) 2 cp false, y])), (lid, some (.cells R))], []) := fun nw =>
    finish_low (.inr (by simp [frz, frz.go, frzL])) (.inl rfl) (by
      intro i hi
      simp [updIds, Go.Sx.Obj.ids, Go.Sx.ids.idsL, Go.Sx.ids, hy] at hi
      rcases hi with rfl | hi
      · exact hlid
      · exact hR.1 i hi) (by simp [updIds, Go.Sx.Obj.ids, Go.Sx.ids.idsL, Go.Sx.ids, hy]; omega)
  have hk : ∀ k, nid < nx + k := fun k => by omega
  have hk2 : ∀ k, ¬ nx + k ≤ nid := fun k => by omega
  have hk3 : ∀ k, lid < nx + k := fun k => by omega
  have hk4 : ∀ k, ¬ nx + k ≤ lid := fun k => by omega
  have q1 : ∀ k, ¬ nx + k = nid := fun k => by omega
  have q2 : ∀ k, ¬ nx + k = lid := fun k => by omega
  have q3 : ¬ nx = nid := by omega
  have q4 : ¬ nx = lid := by omega
  have d3' : ¬ lid = nid := fun e => hne e.symm
  obtain ⟨x, to⟩ := a
  dsimp only at hw hlk
  rcases hw with rfl | ⟨id, cp', ex, rfl, h1, h2⟩
  · have hlk' := fun (H : Heap) (nx : Nat) => hlk H nx (.inl rfl)
    simp [ir11, ssB, List.idxOf?_cons, Go.Sx.LV.undef, Go.undef, Go.Sx.callO, Go.Sx.splice, Go.Sx.look, Go.Sx.push, Go.Sx.setObj, Go.Sx.setU, Go.Sx.setAll, Go.Sx.appO, Go.Sx.leI_eq, ltF, hlk', hdr, hrd, hl, hg, hid, hlid, hne, d3', hk, hk2, hk3, hk4, q1, q2, q3, q4, fin]
  · have hlk' := fun (H : Heap) (nx : Nat) h1 h2 => hlk H nx (.inr ⟨id, cp', ex, rfl, h1, h2⟩)
    have hk7 : ∀ k, id < nx + k := fun k => by omega
    simp [ir11, ssB, List.idxOf?_cons, Go.Sx.LV.undef, Go.undef, Go.Sx.callO, Go.Sx.splice, Go.Sx.look, Go.Sx.push, Go.Sx.setObj, Go.Sx.setU, Go.Sx.setAll, Go.Sx.appO, Go.Sx.leI_eq, ltF, hlk', hdr, hrd, hl, hg, hid, hlid, hne, d3', hk, hk2, hk3, hk4, q1, q2, q3, q4, h1, h2, hk7, fin]
theorem ntake_out (x : LV) (k : Nat) (i : Int) (hi : ¬ (0 ≤ i ∧ i < k)) (hx : Sl x k) (hl : H nid = some (.cells [x, y])) (hid : nid < nx) :
    Ω 11 [.ref nid 0, .int .i64 i] H nx = some (.tuple [.p (ntz 0 0 0 0), .int .i64 2], [], []) := by
  refine om_run (ir := ir11) (by kernel_rfl) 0 ?_
  have hh := fun H nx => nlook_out nid y H nx x k i hi hx
  have hk : ∀ k, nid < nx + k := fun k => by omega
  simp [ir11, ssB, List.idxOf?_cons, Go.Sx.LV.undef, Go.undef, Go.Sx.callO, Go.Sx.splice, Go.Sx.finish, Go.Sx.look, Go.Sx.push, Go.Sx.setObj, Go.Sx.setU, Go.Sx.setAll, Go.Sx.appO, Go.Sx.leI_eq, ltF, hh, hl, hid, hk]
end take

section turn
variable (nid lid cp : Nat) (A B : List Fr) (a : Fr) (F : List UInt8) (z : List LV) (y : LV) (kd f t no : Int) (e : Int) (H : Heap) (nx : Nat)
theorem nturn_state (at' : Int) (v : UInt8) (h30 : F.length < 2 ^ 31) (hF : 0 < F.length) (hw : Wh H nx a.1 F) (he : e ≠ 0) (hr : Reads F (ntz kd f t no) e)
    (hl : H nid = some (.cells [.arr lid 0 (A.length + 1 + B.length) 2 cp false, y])) (hg : H lid = some (.cells (ro (A ++ a :: B) ++ z))) (hid : nid < nx) (hlid : lid < nx) :
    Ω 15 [.ref nid 0, .int .i64 A.length, .int .i64 at', .int .u8 v.toNat] H nx = some (.int .i64 12, [], []) := by
  refine om_run (ir := ir15) (by kernel_rfl) 0 ?_
  have hrd := fun id H nx => hr id H nx
  have hlk := fun (H : Heap) (nx : Nat) (hw : Wh H nx a.1 F) => nlook_ nid lid cp A B a z F y H nx h30 hF hw
  generalize hQ : ro (A ++ a :: B) ++ z = Q at *
  have hk : ∀ k, nid < nx + k := fun k => by omega
  have hk3 : ∀ k, lid < nx + k := fun k => by omega
  obtain ⟨x, to⟩ := a
  dsimp only at hw hlk
  rcases hw with rfl | ⟨id, cp', ex, rfl, h1, h2⟩
  · have hlk' := fun (H : Heap) (nx : Nat) => hlk H nx (.inl rfl)
    simp [ir15, ssB, List.idxOf?_cons, Go.Sx.LV.undef, Go.undef, Go.Sx.callO, Go.Sx.splice, Go.Sx.finish, Go.Sx.look, Go.Sx.push, Go.Sx.setObj, Go.Sx.setU, Go.Sx.setAll, Go.Sx.appO, Go.Sx.leI_eq, ltF, hlk', hrd, hl, hg, hid, hlid, hk, hk3, he]
  · have hlk' := fun (H : Heap) (nx : Nat) h1 h2 => hlk H nx (.inr ⟨id, cp', ex, rfl, h1, h2⟩)
    have hk7 : ∀ k, id < nx + k := fun k => by omega
    simp [ir15, ssB, List.idxOf?_cons, Go.Sx.LV.undef, Go.undef, Go.Sx.callO, Go.Sx.splice, Go.Sx.finish, Go.Sx.look, Go.Sx.push, Go.Sx.setObj, Go.Sx.setU, Go.Sx.setAll, Go.Sx.appO, Go.Sx.leI_eq, ltF, hlk', hrd, hl, hg, hid, hlid, hk, hk3, he, h1, h2, hk7]
theorem nturn_out (x : LV) (k : Nat) (i at' : Int) (v : UInt8) (hi : ¬ (0 ≤ i ∧ i < k)) (hx : Sl x k) (hl : H nid = some (.cells [x, y])) (hid : nid < nx) :
    Ω 15 [.ref nid 0, .int .i64 i, .int .i64 at', .int .u8 v.toNat] H nx = some (.int .i64 2, [], []) := by
  refine om_run (ir := ir15) (by kernel_rfl) 0 ?_
  have hh := fun H nx => nlook_out nid y H nx x k i hi hx
  simp [ir15, ssB, List.idxOf?_cons, Go.Sx.LV.undef, Go.undef, Go.Sx.callO, Go.Sx.splice, Go.Sx.finish, Go.Sx.look, Go.Sx.push, Go.Sx.setObj, Go.Sx.setU, Go.Sx.setAll, Go.Sx.appO, Go.Sx.leI_eq, ltF, hh, hl, hid]
theorem nturn_ (at' : Int) (v b : UInt8) (m : Nat) (h30 : F.length < 2 ^ 31) (hF : 0 < F.length) (hw : Wh H nx a.1 F) (hr : Reads F (ntz kd f t no) 0) (hm : at'.emod F.length = m) (hb : F[m]? = some b) (hlo : Lo nx (A ++ B)) (hz : ids.idsL z = []) (hs : A.length + B.length < 500)
    (hl : H nid = some (.cells [.arr lid 0 (A.length + 1 + B.length) 2 cp false, y])) (hg : H lid = some (.cells (ro (A ++ a :: B) ++ z))) (hid : nid < nx) (hlid : lid < nx) (hne : nid ≠ lid) :
    Ω 15 [.ref nid 0, .int .i64 A.length, .int .i64 at', .int .u8 v.toNat] H nx =
      some (.int .i64 0, [(lid, some (.cells (ro (A ++ (.arr nx 0 F.length 1 F.length false, a.2) :: B) ++ z)))], [some (.cells (byt (F.set m (b ^^^ v))))]) := by
  refine om_run (ir := ir15) (by kernel_rfl) 0 ?_
  have hrd := fun id H nx => hr id H nx
  have hlk := fun (H : Heap) (nx : Nat) (hw : Wh H nx a.1 F) => nlook_ nid lid cp A B a z F y H nx h30 hF hw
  obtain ⟨hmF, _⟩ := List.getElem?_eq_some_iff.1 hb
  have hrem := binI_rem .i64 at' F.length (by omega)
  have hbb : (byt F)[m]? = some (.int .u8 b.toNat) := by simp [byt, hb]
  have hx := xor_u8 b v
  have hsp : splice (byt F) m [.int .u8 (b ^^^ v).toNat] = byt (F.set m (b ^^^ v)) := (by simp [splice] : splice (byt F) m [.int .u8 (b ^^^ v).toNat] = List.take m (byt F) ++ .int .u8 (b ^^^ v).toNat :: List.drop (m + 1) (byt F)).trans (splice_byt F m (b ^^^ v) hmF)
  have hFl : (byt F).length = F.length := byt_len F
  generalize hv : b ^^^ v = w at *
  have hmF1 : m + 1 ≤ F.length := by omega
  have hbb2 : ∀ h : m < (byt F).length, (byt F)[m] = .int .u8 b.toNat := fun h => (List.getElem?_eq_some_iff.1 hbb).2
  have hte := Int.tmod_eq_emod (a := at') (b := F.length)
  have hem0 := Int.emod_nonneg at' (show (F.length : Int) ≠ 0 by omega)
  change 0 ≤ at'.emod F.length at hem0
  change at'.tmod F.length = at'.emod F.length - _ at hte
  have hlt' : A.length < A.length + 1 + B.length := by omega
  have hlA := ro_len A
  have hlB := ro_len B
  have hsp2 : ∀ q, splice (ro (A ++ a :: B) ++ z) (A.length * 2) [q] = ro (A ++ (q, a.2) :: B) ++ z := fun q => by
    rw [ro_app, ro_cons, ro_app, ro_cons]
    simp only [splice, List.length_cons, List.length_nil, List.append_assoc]
    rw [List.take_left' hlA, ← List.drop_drop, List.drop_left' hlA]
    rfl
  have hQl : A.length * 2 + 1 ≤ (ro (A ++ a :: B) ++ z).length := by rw [ro_app, ro_cons]; simp only [List.length_append, List.length_cons, hlA]; omega
  have hRids : (∀ i ∈ ids.idsL (ro (A ++ (.arr nx 0 F.length 1 F.length false, a.2) :: B) ++ z), i = nx ∨ i < nx) ∧ nx ∈ ids.idsL (ro (A ++ (.arr nx 0 F.length 1 F.length false, a.2) :: B) ++ z) ∧ (ids.idsL (ro (A ++ (.arr nx 0 F.length 1 F.length false, a.2) :: B) ++ z)).length < 900 := by
    obtain ⟨lA, lB⟩ := Lo.app.1 hlo
    have cA := lA.ids_len
    have cB := lB.ids_len
    have e : ids.idsL (ro (A ++ (.arr nx 0 F.length 1 F.length false, a.2) :: B) ++ z) = ids.idsL (ro A) ++ nx :: ids.idsL (ro B) := by
      rw [ro_app, ro_cons, ids_app, ids_app]
      simp [Go.Sx.ids.idsL, Go.Sx.ids, hz]
    rw [e]
    refine ⟨?_, List.mem_append_right _ List.mem_cons_self, by simp; omega⟩
    intro i hi
    rcases List.mem_append.1 hi with hi | hi
    · exact .inr (lA.ids i hi)
    · rcases List.mem_cons.1 hi with rfl | hi
      · exact .inl rfl
      · exact .inr (lB.ids i hi)
  generalize hQ : ro (A ++ a :: B) ++ z = Q at *
  generalize hR1 : ro (A ++ (.arr nx 0 F.length 1 F.length false, a.2) :: B) ++ z = R at *
  have hsp3 := hsp2 (.arr nx 0 F.length 1 F.length false)
  rw [hR1] at hsp3
  have fin : ∀ G nw, finish false H nx (.int .i64 0) ⟨[(lid, some (.cells R))], some (.cells (byt G)) :: nw⟩ = some (.int .i64 0, [(lid, some (.cells R))], [some (.cells (byt G))]) := fun G nw =>
    finish_one (j := nx) (.inr ⟨rfl, rfl⟩) (by simp [Go.Sx.look]) (by omega) (by simp [Go.Sx.Obj.ids, ids_byt]) (by simpa [updIds, Go.Sx.ids, Go.Sx.Obj.ids] using hRids.1) (by simpa [updIds, Go.Sx.ids, Go.Sx.Obj.ids] using hRids.2.1) (by simp [updIds, Go.Sx.ids, Go.Sx.Obj.ids, ids_byt]; omega) rfl
      (renU_id _ _ _ fun i hi => by
        rcases hRids.1 i (by simpa [updIds, Go.Sx.Obj.ids] using hi) with rfl | h
        · exact renId_nx _
        · exact renId_low _ h)
  clear hRids hlo hsp2
  have hk : ∀ k, nid < nx + k := fun k => by omega
  have hk2 : ∀ k, ¬ nx + k ≤ nid := fun k => by omega
  have hk3 : ∀ k, lid < nx + k := fun k => by omega
  have hk4 : ∀ k, ¬ nx + k ≤ lid := fun k => by omega
  obtain ⟨x, to⟩ := a
  dsimp only at hw hlk
  have hw1 : at'.tmod F.length < 0 → IntKind.i64.wrap (at'.tmod F.length + F.length) = m := fun hneg => by
    split at hte
    · omega
    · rw [wrap_i64 _ (by omega) (by omega)]; omega
  have hw2 : ¬ at'.tmod F.length < 0 → at'.tmod F.length = m := fun hneg => by
    split at hte
    · omega
    · have hlt := Int.emod_lt_of_pos at' (show (0 : Int) < F.length by omega)
      change at'.emod F.length < _ at hlt
      omega
  rcases hw with rfl | ⟨id, cp', ex, rfl, h1, h2⟩
  · have hlk' := fun (H : Heap) (nx : Nat) => hlk H nx (.inl rfl)
    by_cases hneg : at'.tmod F.length < 0
    · have g1 : ¬ (0 : Int) ≤ at'.tmod F.length := by omega
      have hw1 := hw1 hneg
      simp [ir15, ssB, List.idxOf?_cons, Go.Sx.LV.undef, Go.undef, Go.Sx.callO, Go.Sx.look, Go.Sx.push, Go.Sx.setObj, Go.Sx.setU, Go.Sx.setAll, Go.Sx.appO, Go.Sx.leI_eq, ltF, hlk', hrd, hrem, hw1, hl, hg, hid, hlid, hne, hk, hk2, hk3, hk4, g1, hmF, hmF1, hbb, hbb2, hx, hsp, hlt', hsp3, hQl, fin, byt_len]
    · have g1 : (0 : Int) ≤ at'.tmod F.length := by omega
      have hw2 := hw2 hneg
      simp [ir15, ssB, List.idxOf?_cons, Go.Sx.LV.undef, Go.undef, Go.Sx.callO, Go.Sx.look, Go.Sx.push, Go.Sx.setObj, Go.Sx.setU, Go.Sx.setAll, Go.Sx.appO, Go.Sx.leI_eq, ltF, hlk', hrd, hrem, hw2, hl, hg, hid, hlid, hne, hk, hk2, hk3, hk4, g1, hmF, hmF1, hbb, hbb2, hx, hsp, hlt', hsp3, hQl, fin, byt_len]
  · have hlk' := fun (H : Heap) (nx : Nat) h1 h2 => hlk H nx (.inr ⟨id, cp', ex, rfl, h1, h2⟩)
    have hk7 : ∀ k, id < nx + k := fun k => by omega
    by_cases hneg : at'.tmod F.length < 0
    · have g1 : ¬ (0 : Int) ≤ at'.tmod F.length := by omega
      have hw1 := hw1 hneg
      simp [ir15, ssB, List.idxOf?_cons, Go.Sx.LV.undef, Go.undef, Go.Sx.callO, Go.Sx.look, Go.Sx.push, Go.Sx.setObj, Go.Sx.setU, Go.Sx.setAll, Go.Sx.appO, Go.Sx.leI_eq, ltF, hlk', hrd, hrem, hw1, hl, hg, hid, hlid, hne, hk, hk2, hk3, hk4, g1, hmF, hmF1, hbb, hbb2, hx, hsp, hlt', hsp3, hQl, fin, byt_len, h1, h2, hk7]
    · have g1 : (0 : Int) ≤ at'.tmod F.length := by omega
      have hw2 := hw2 hneg
      simp [ir15, ssB, List.idxOf?_cons, Go.Sx.LV.undef, Go.undef, Go.Sx.callO, Go.Sx.look, Go.Sx.push, Go.Sx.setObj, Go.Sx.setU, Go.Sx.setAll, Go.Sx.appO, Go.Sx.leI_eq, ltF, hlk', hrd, hrem, hw2, hl, hg, hid, hlid, hne, hk, hk2, hk3, hk4, g1, hmF, hmF1, hbb, hbb2, hx, hsp, hlt', hsp3, hQl, fin, byt_len, h1, h2, hk7]
end turn
end Go.Proofs.YtjmnamichdegaaaGreatDoor
end

section
namespace Go.Proofs.YtjmnamichdegaaaGreatDoor
open Go Go.Sx
set_option linter.unusedSimpArgs false
set_option linter.unusedVariables false

theorem ro_put (l : List Fr) (a : Fr) (m : Nat) : splice (ro l ++ zs (m + 1)) (l.length * 2) [a.1, .int .i64 a.2] = ro (l ++ [a]) ++ zs m := by
  have h := ro_len l
  rw [ro_app, ro_cons, ro_nil]
  simp only [splice, List.length_cons, List.length_nil]
  rw [List.take_left' h, ← List.drop_drop, List.drop_left' h]
  simp [zs]

theorem sp0 (a b c : LV) : splice [a, b] 0 [c] = [c, b] := rfl
section send
variable (nid lid room k : Nat) (fs : List Fr) (F : List UInt8) (kd f t no : Int) (H : Heap) (nx : Nat)
/-- A note's bytes. -/
def Bts (kd f t no : Int) (F : List UInt8) : Prop := ∀ (H : Heap) (nx : Nat), Ω 30 [.p (ntz kd f t no)] H nx = some (.tuple [.p (.sl (bytP F) F.length 1 false), .int .i64 0], [], [])
theorem nsend_err (hb : ∀ (H : Heap) (nx : Nat), Ω 30 [.p (ntz kd f t no)] H nx = some (.tuple [.p (.s (.slice none 0 0)), .int .i64 1], [], [])) (x y : LV) (hl : H nid = some (.cells [x, y])) (hid : nid < nx) :
    Ω 12 [.ref nid 0, .p (ntz kd f t no)] H nx = some (.int .i64 1, [], []) := by
  refine om_run (ir := ir12) (by kernel_rfl) 0 ?_
  simp [ir12, ssB, List.idxOf?_cons, Go.Sx.LV.undef, Go.undef, Go.Sx.callO, Go.Sx.splice, Go.Sx.finish, Go.Sx.look, Go.Sx.push, Go.Sx.setObj, Go.Sx.setU, Go.Sx.setAll, Go.Sx.appO, Go.Sx.leI_eq, ltF, hb, hl, hid]
theorem nsend_full (hb : Bts kd f t no F) (x : LV) (hx : Sl x k) (hk : room ≤ k) (hl : H nid = some (.cells [x, .int .i64 room])) (hid : nid < nx) :
    Ω 12 [.ref nid 0, .p (ntz kd f t no)] H nx = some (.int .i64 8, [], []) := by
  refine om_run (ir := ir12) (by kernel_rfl) 0 ?_
  have hb := fun H nx => hb H nx
  have hk' : ∀ k, nid < nx + k := fun k => by omega
  have hk2 : ∀ k, ¬ nx + k ≤ nid := fun k => by omega
  rcases hx with ⟨rfl, rfl⟩ | ⟨lid, cp, ex, rfl⟩
  · have h1 : (room : Int) ≤ 0 := by omega
    have h2 : room = 0 := by omega
    simp [ir12, ssB, List.idxOf?_cons, Go.Sx.LV.undef, Go.undef, Go.Sx.callO, Go.Sx.splice, Go.Sx.finish, Go.Sx.look, Go.Sx.push, Go.Sx.setObj, Go.Sx.setU, Go.Sx.setAll, Go.Sx.appO, Go.Sx.leI_eq, ltF, hb, hl, hid, h1, h2, hk', hk2]
  · have h1 : (room : Int) ≤ k := by omega
    simp [ir12, ssB, List.idxOf?_cons, Go.Sx.LV.undef, Go.undef, Go.Sx.callO, Go.Sx.splice, Go.Sx.finish, Go.Sx.look, Go.Sx.push, Go.Sx.setObj, Go.Sx.setU, Go.Sx.setAll, Go.Sx.appO, Go.Sx.leI_eq, ltF, hb, hl, hid, h1, hk, hk', hk2]
theorem nsend_nil (hb : Bts kd f t no F) (hk : 0 < room) (hl : H nid = some (.cells [.p (.s (.slice none 0 0)), .int .i64 room])) (hid : nid < nx) :
    Ω 12 [.ref nid 0, .p (ntz kd f t no)] H nx = some (.int .i64 0, [(nid, some (.cells [.arr nx 0 1 2 1 false, .int .i64 room]))], [some (.cells (ro [(.p (.sl (bytP F) F.length 1 false), t)]))]) := by
  refine om_run (ir := ir12) (by kernel_rfl) 0 ?_
  have hb := fun H nx => hb H nx
  have h1 : ¬ (room : Int) ≤ 0 := by omega
  have hk' : ∀ k, nid < nx + k := fun k => by omega
  have hk2 : ∀ k, ¬ nx + k ≤ nid := fun k => by omega
  have hk0 : ¬ room = 0 := by omega
  simp [ir12, ssB, List.idxOf?_cons, Go.Sx.LV.undef, Go.undef, Go.Sx.callO, Go.Sx.splice, Go.Sx.finish, Go.Sx.look, Go.Sx.push, Go.Sx.setObj, Go.Sx.setU, Go.Sx.setAll, Go.Sx.appO, Go.Sx.leI_eq, ltF, hb, hl, hid, h1, hk', hk2, hk0, ro]
theorem nsend_0 (hb : Bts kd f t no F) (hk : 0 < room) (hl : H nid = some (.cells [.arr lid 0 0 2 0 true, .int .i64 room])) (hg : H lid = some (.cells [])) (hid : nid < nx) (hlid : lid < nx) (hne : nid ≠ lid) :
    Ω 12 [.ref nid 0, .p (ntz kd f t no)] H nx = some (.int .i64 0, [(nid, some (.cells [.arr nx 0 1 2 1 false, .int .i64 room]))], [some (.cells (ro [(.p (.sl (bytP F) F.length 1 false), t)]))]) := by
  refine om_run (ir := ir12) (by kernel_rfl) 0 ?_
  have hb := fun H nx => hb H nx
  have h1 : ¬ (room : Int) ≤ 0 := by omega
  have hk' : ∀ k, nid < nx + k := fun k => by omega
  have hk2 : ∀ k, ¬ nx + k ≤ nid := fun k => by omega
  have hk3 : ∀ k, lid < nx + k := fun k => by omega
  have hk4 : ∀ k, ¬ nx + k ≤ lid := fun k => by omega
  have hk0 : ¬ room = 0 := by omega
  have hne' : ¬ lid = nid := fun e => hne e.symm
  simp [ir12, ssB, List.idxOf?_cons, Go.Sx.LV.undef, Go.undef, Go.Sx.callO, Go.Sx.splice, Go.Sx.finish, Go.Sx.look, Go.Sx.push, Go.Sx.setObj, Go.Sx.setU, Go.Sx.setAll, Go.Sx.appO, Go.Sx.leI_eq, ltF, hb, hl, hg, hid, hlid, h1, hk', hk2, hk3, hk4, hk0, hne, hne', ro]
theorem nsend_grow (hb : Bts kd f t no F) (hk : fs.length < room) (hs : fs.length < 500) (hlo : Lo nx fs)
    (hl : H nid = some (.cells [.arr lid 0 fs.length 2 fs.length false, .int .i64 room])) (hg : H lid = some (.cells (ro fs ++ zs 0))) (hid : nid < nx) (hlid : lid < nx) (hne : nid ≠ lid) :
    Ω 12 [.ref nid 0, .p (ntz kd f t no)] H nx = some (.int .i64 0, [(lid, none), (nid, some (.cells [.arr nx 0 (fs.length + 1) 2 (fs.length + 1) false, .int .i64 room]))],
      [some (.cells (ro (fs ++ [(.p (.sl (bytP F) F.length 1 false), t)])))]) := by
  refine om_run (ir := ir12) (by kernel_rfl) 0 ?_
  have hb := fun H nx => hb H nx
  have h1 : ¬ (room : Int) ≤ fs.length := by omega
  have h1' : ¬ room ≤ fs.length := by omega
  have hk' : ∀ k, nid < nx + k := fun k => by omega
  have hk3 : ∀ k, ¬ nx + k ≤ nid := fun k => by omega
  have hk4 : ∀ k, lid < nx + k := fun k => by omega
  have hk5 : ∀ k, ¬ nx + k ≤ lid := fun k => by omega
  have hne' : ¬ lid = nid := fun e => hne e.symm
  have h41 : (fs.length + 1) * 32 ≤ 1099511627776 := by omega
  have h42 : ¬ 1099511627776 < (fs.length + 1) * 32 := by omega
  have hlen := ro_len fs
  have hap : ro (fs ++ [(.p (.sl (bytP F) F.length 1 false), t)]) = ro fs ++ [.p (.sl (bytP F) F.length 1 false), .int .i64 t] := by rw [ro_app]; rfl
  have hz : ro fs ++ zs 0 = ro fs := by simp [zs]
  rw [hz] at hg
  rw [hap]
  have hR : (∀ i ∈ ids.idsL (ro fs ++ [.p (.sl (bytP F) F.length 1 false), .int .i64 t]), i < nx) ∧ (ids.idsL (ro fs ++ [.p (.sl (bytP F) F.length 1 false), .int .i64 t])).length < 900 := by
    rw [ids_app]
    simp only [Go.Sx.ids.idsL, Go.Sx.ids, List.append_nil]
    exact ⟨hlo.ids, by have := hlo.ids_len; omega⟩
  generalize hRR : ro fs ++ [.p (.sl (bytP F) F.length 1 false), .int .i64 t] = R at *
  have fin : ∀ b1 b2, finish false H nx (.int .i64 0) ⟨[(lid, none), (nid, some (.cells [.arr (nx + 2) 0 (fs.length + 1) 2 (fs.length + 1) false, .int .i64 room]))], [b1, b2, some (.cells R)]⟩ =
      some (.int .i64 0, [(lid, none), (nid, some (.cells [.arr nx 0 (fs.length + 1) 2 (fs.length + 1) false, .int .i64 room]))], [some (.cells R)]) := fun b1 b2 =>
    finish_one (j := nx + 2) (.inr ⟨rfl, rfl⟩) (by simp [Go.Sx.look, ltF]) (by omega) hR.1 (by simp [updIds, Go.Sx.Obj.ids, Go.Sx.ids.idsL, Go.Sx.ids]) (by simp [updIds, Go.Sx.Obj.ids, Go.Sx.ids.idsL, Go.Sx.ids]) (by simp [updIds, Go.Sx.Obj.ids, Go.Sx.ids.idsL, Go.Sx.ids]; have := hR.2; omega) rfl
      (by simp [renU, renO, ren.go, ren, renId, List.idxOf?_cons, ltF])
  clear hR hlo
  simp [ir12, ssB, List.idxOf?_cons, Go.Sx.LV.undef, Go.undef, Go.Sx.callO, Go.Sx.splice, Go.Sx.look, Go.Sx.push, Go.Sx.setObj, Go.Sx.setU, Go.Sx.setAll, Go.Sx.appO, Go.Sx.leI_eq, ltF, hb, hl, hg, hid, hlid, hne, hne', h1, h1', hk', hk3, hk4, hk5, h41, h42, hlen, hRR, fin]
theorem nsend_in (m cp : Nat) (hb : Bts kd f t no F) (hk : fs.length < room) (hcp : cp = fs.length + (m + 1)) (hs : cp < 500) (hlo : Lo nx fs)
    (hl : H nid = some (.cells [.arr lid 0 fs.length 2 cp false, .int .i64 room])) (hg : H lid = some (.cells (ro fs ++ zs (m + 1)))) (hid : nid < nx) (hlid : lid < nx) (hne : nid ≠ lid) :
    Ω 12 [.ref nid 0, .p (ntz kd f t no)] H nx = some (.int .i64 0, [(lid, some (.cells (ro (fs ++ [(.p (.sl (bytP F) F.length 1 false), t)]) ++ zs m))), (nid, some (.cells [.arr lid 0 (fs.length + 1) 2 cp false, .int .i64 room]))], []) := by
  refine om_run (ir := ir12) (by kernel_rfl) 0 ?_
  have hb := fun H nx => hb H nx
  have h1 : ¬ (room : Int) ≤ fs.length := by omega
  have h1' : ¬ room ≤ fs.length := by omega
  have hk' : ∀ k, nid < nx + k := fun k => by omega
  have hk3 : ∀ k, ¬ nx + k ≤ nid := fun k => by omega
  have hk4 : ∀ k, lid < nx + k := fun k => by omega
  have hk5 : ∀ k, ¬ nx + k ≤ lid := fun k => by omega
  have hne' : ¬ lid = nid := fun e => hne e.symm
  have h41 : (fs.length + 1) * 32 ≤ 1099511627776 := by omega
  have h42 : ¬ 1099511627776 < (fs.length + 1) * 32 := by omega
  have hlen : (ro fs ++ zs (m + 1)).length = cp * 2 := by rw [List.length_append, ro_len, zs_len]; omega
  have g1 : ¬ cp * 2 < fs.length * 2 := by omega
  have g2 : ¬ fs.length * 2 = cp * 2 := by omega
  have g2' : ¬ fs.length = cp := by omega
  have g3 : (fs.length + 1) * 2 ≤ cp * 2 := by omega
  have g4 : fs.length + 1 ≤ cp := by omega
  have hput := ro_put fs (.p (.sl (bytP F) F.length 1 false), t) m
  have hR : (∀ i ∈ ids.idsL (ro (fs ++ [(.p (.sl (bytP F) F.length 1 false), t)]) ++ zs m), i < nx) ∧ (ids.idsL (ro (fs ++ [(.p (.sl (bytP F) F.length 1 false), t)]) ++ zs m)).length < 900 := by
    have := (Lo.app.2 ⟨hlo, (fun a ha => by rw [List.mem_singleton] at ha; subst ha; simp [Go.Sx.ids] : Lo nx [(LV.p (.sl (bytP F) F.length 1 false), t)])⟩).idsZ m
    rw [List.length_append] at this
    exact ⟨this.1, by have := this.2; simp only [List.length_cons, List.length_nil] at this; omega⟩
  generalize ro (fs ++ [(.p (.sl (bytP F) F.length 1 false), t)]) ++ zs m = R at *
  generalize ro fs ++ zs (m + 1) = Q at *
  have fin : ∀ nw, finish false H nx (.int .i64 0) ⟨[(lid, some (.cells R)), (nid, some (.cells [.arr lid 0 (fs.length + 1) 2 cp false, .int .i64 room]))], nw⟩ =
      some (.int .i64 0, [(lid, some (.cells R)), (nid, some (.cells [.arr lid 0 (fs.length + 1) 2 cp false, .int .i64 room]))], []) := fun nw =>
    finish_low (.inr rfl) (.inl rfl) (by
      intro i hi
      simp [updIds, Go.Sx.Obj.ids, Go.Sx.ids.idsL, Go.Sx.ids] at hi
      rcases hi with hi | rfl
      · exact hR.1 i hi
      · exact hlid) (by simp [updIds, Go.Sx.Obj.ids, Go.Sx.ids.idsL, Go.Sx.ids]; have := hR.2; omega)
  clear hR hlo hcp
  dsimp only at hput
  simp [ir12, ssB, List.idxOf?_cons, Go.Sx.LV.undef, Go.undef, Go.Sx.callO, Go.Sx.look, Go.Sx.push, Go.Sx.setObj, Go.Sx.setU, Go.Sx.setAll, Go.Sx.appO, Go.Sx.leI_eq, ltF, hb, hl, hg, hid, hlid, hne, hne', h1, h1', hk', hk3, hk4, hk5, h41, h42, hlen, g1, g2, g2', g3, g4, hput, sp0, fin]
end send

section double
variable (nid lid room : Nat) (A B : List Fr) (a : Fr) (F : List UInt8) (H : Heap) (nx : Nat)
theorem ro_take2 (z : List LV) : List.take 2 (List.drop (A.length * 2) (ro (A ++ a :: B) ++ z)) = [a.1, .int .i64 a.2] := by
  have h := ro_len A
  rw [ro_app, ro_cons, List.append_assoc, List.drop_left' h]
  rfl
theorem ndouble_out (x : LV) (k : Nat) (i : Int) (y : LV) (hi : ¬ (0 ≤ i ∧ i < k)) (hx : Sl x k) (hl : H nid = some (.cells [x, y])) (hid : nid < nx) :
    Ω 14 [.ref nid 0, .int .i64 i] H nx = some (.int .i64 2, [], []) := by
  refine om_run (ir := ir14) (by kernel_rfl) 0 ?_
  have hh := fun H nx => nhas_f nid x y k H nx i hi hx
  simp [ir14, ssB, List.idxOf?_cons, Go.Sx.LV.undef, Go.undef, Go.Sx.callO, Go.Sx.splice, Go.Sx.finish, Go.Sx.look, Go.Sx.push, Go.Sx.setObj, Go.Sx.setU, Go.Sx.setAll, Go.Sx.appO, Go.Sx.leI_eq, ltF, hh, hl, hid]
theorem ndouble_full (i k cp : Nat) (hi : i < k) (hk : room ≤ k) (hl : H nid = some (.cells [.arr lid 0 k 2 cp false, .int .i64 room])) (hid : nid < nx) :
    Ω 14 [.ref nid 0, .int .i64 i] H nx = some (.int .i64 8, [], []) := by
  refine om_run (ir := ir14) (by kernel_rfl) 0 ?_
  have hh := fun H nx => nhas_t nid (.arr lid 0 k 2 cp false) (.int .i64 room) k H nx i hi (.inr ⟨_, _, _, rfl⟩)
  have h1 : (room : Int) ≤ k := by omega
  simp [ir14, ssB, List.idxOf?_cons, Go.Sx.LV.undef, Go.undef, Go.Sx.callO, Go.Sx.splice, Go.Sx.finish, Go.Sx.look, Go.Sx.push, Go.Sx.setObj, Go.Sx.setU, Go.Sx.setAll, Go.Sx.appO, Go.Sx.leI_eq, ltF, hh, hl, hid, h1, hk]
theorem ndouble_grow (hw : Wh H nx a.1 F) (hk : A.length + 1 + B.length < room) (hs : A.length + 1 + B.length < 500) (hlo : Lo nx (A ++ a :: B))
    (hl : H nid = some (.cells [.arr lid 0 (A.length + 1 + B.length) 2 (A.length + 1 + B.length) false, .int .i64 room])) (hg : H lid = some (.cells (ro (A ++ a :: B) ++ zs 0))) (hid : nid < nx) (hlid : lid < nx) (hne : nid ≠ lid) :
    Ω 14 [.ref nid 0, .int .i64 A.length] H nx = some (.int .i64 0, [(lid, none), (nid, some (.cells [.arr nx 0 (A.length + 1 + B.length + 1) 2 (A.length + 1 + B.length + 1) false, .int .i64 room]))],
      [some (.cells (ro ((A ++ a :: B) ++ [a])))]) := by
  refine om_run (ir := ir14) (by kernel_rfl) 0 ?_
  have hh := fun H nx => nhas_t nid (.arr lid 0 (A.length + 1 + B.length) 2 (A.length + 1 + B.length) false) (.int .i64 room) (A.length + 1 + B.length) H nx A.length (by omega) (.inr ⟨_, _, _, rfl⟩)
  have ht2 := ro_take2 A B a (zs 0)
  have hfl : (A ++ a :: B).length = A.length + 1 + B.length := by simp; omega
  have hlen := ro_len (A ++ a :: B)
  rw [hfl] at hlen
  have hap : ro ((A ++ a :: B) ++ [a]) = ro (A ++ a :: B) ++ [a.1, .int .i64 a.2] := by rw [ro_app (A ++ a :: B)]; rfl
  have hz : ro (A ++ a :: B) ++ zs 0 = ro (A ++ a :: B) := by simp [zs]
  have hla := Lo.cons.1 (Lo.app.1 hlo).2
  rw [hz] at hg ht2
  have hR : (∀ i ∈ ids.idsL (ro ((A ++ a :: B) ++ [a])), i < nx) ∧ (ids.idsL (ro ((A ++ a :: B) ++ [a]))).length < 900 := by
    have h2 : Lo nx ((A ++ a :: B) ++ [a]) := Lo.app.2 ⟨hlo, fun b hb => by rw [List.mem_singleton] at hb; subst hb; exact hla.1⟩
    have h3 := h2.ids_len
    rw [List.length_append, hfl] at h3
    exact ⟨h2.ids, by simp only [List.length_cons, List.length_nil] at h3; omega⟩
  rw [hap] at hR ⊢
  generalize hK : A.length + 1 + B.length = K at *
  have hAK : A.length < K := by omega
  have hQl : A.length * 2 + 2 ≤ K * 2 := by omega
  generalize ro (A ++ a :: B) = Q at *
  generalize hRR : Q ++ [a.1, .int .i64 a.2] = R at *
  have fin : ∀ b2, finish false H nx (.int .i64 0) ⟨[(lid, none), (nid, some (.cells [.arr (nx + 1) 0 (K + 1) 2 (K + 1) false, .int .i64 room]))], [b2, some (.cells R)]⟩ =
      some (.int .i64 0, [(lid, none), (nid, some (.cells [.arr nx 0 (K + 1) 2 (K + 1) false, .int .i64 room]))], [some (.cells R)]) := fun b2 =>
    finish_one (j := nx + 1) (.inr ⟨rfl, rfl⟩) (by simp [Go.Sx.look, ltF]) (by omega) hR.1 (by simp [updIds, Go.Sx.Obj.ids, Go.Sx.ids.idsL, Go.Sx.ids]) (by simp [updIds, Go.Sx.Obj.ids, Go.Sx.ids.idsL, Go.Sx.ids]) (by simp [updIds, Go.Sx.Obj.ids, Go.Sx.ids.idsL, Go.Sx.ids]; have := hR.2; omega) rfl
      (by simp [renU, renO, ren.go, ren, renId, List.idxOf?_cons, ltF])
  clear hR hlo hz hap hla hfl
  have h1 : ¬ (room : Int) ≤ K := by omega
  have h1' : ¬ room ≤ K := by omega
  have hk' : ∀ k, nid < nx + k := fun k => by omega
  have hk3 : ∀ k, ¬ nx + k ≤ nid := fun k => by omega
  have hk4 : ∀ k, lid < nx + k := fun k => by omega
  have hk5 : ∀ k, ¬ nx + k ≤ lid := fun k => by omega
  have hk6 : ¬ nx ≤ nid := by omega
  have hk7 : ¬ nx ≤ lid := by omega
  have hk8 : ∀ k, ¬ nx + k = nid := fun k => by omega
  have hk9 : ∀ k, ¬ nx + k = lid := fun k => by omega
  have hk10 : ¬ nx = nid := by omega
  have hk11 : ¬ nx = lid := by omega
  have hne' : ¬ lid = nid := fun e => hne e.symm
  have h41 : (K + 1) * 32 ≤ 1099511627776 := by omega
  have h42 : ¬ 1099511627776 < (K + 1) * 32 := by omega
  obtain ⟨x, to⟩ := a
  dsimp only at hw ht2 hRR
  rcases hw with rfl | ⟨id, cp', ex, rfl, e1, e2⟩
  · simp [ir14, ssB, List.idxOf?_cons, Go.Sx.LV.undef, Go.undef, Go.Sx.callO, Go.Sx.splice, Go.Sx.look, Go.Sx.push, Go.Sx.setObj, Go.Sx.setU, Go.Sx.setAll, Go.Sx.appO, Go.Sx.leI_eq, ltF, hh, hl, hg, hid, hlid, hne, hne', h1, h1', hk', hk3, hk4, hk5, hk6, hk7, hk8, hk9, hk10, hk11, h41, h42, hlen, ht2, hAK, hQl, hRR, fin]
  · simp [ir14, ssB, List.idxOf?_cons, Go.Sx.LV.undef, Go.undef, Go.Sx.callO, Go.Sx.splice, Go.Sx.look, Go.Sx.push, Go.Sx.setObj, Go.Sx.setU, Go.Sx.setAll, Go.Sx.appO, Go.Sx.leI_eq, ltF, hh, hl, hg, hid, hlid, hne, hne', h1, h1', hk', hk3, hk4, hk5, hk6, hk7, hk8, hk9, hk10, hk11, h41, h42, hlen, ht2, hAK, hQl, hRR, fin]
theorem ndouble_in (m cp : Nat) (hw : Wh H nx a.1 F) (hk : A.length + 1 + B.length < room) (hcp : cp = A.length + 1 + B.length + (m + 1)) (hs : cp < 500) (hlo : Lo nx (A ++ a :: B))
    (hl : H nid = some (.cells [.arr lid 0 (A.length + 1 + B.length) 2 cp false, .int .i64 room])) (hg : H lid = some (.cells (ro (A ++ a :: B) ++ zs (m + 1)))) (hid : nid < nx) (hlid : lid < nx) (hne : nid ≠ lid) :
    Ω 14 [.ref nid 0, .int .i64 A.length] H nx = some (.int .i64 0, [(lid, some (.cells (ro ((A ++ a :: B) ++ [a]) ++ zs m))), (nid, some (.cells [.arr lid 0 (A.length + 1 + B.length + 1) 2 cp false, .int .i64 room]))], []) := by
  refine om_run (ir := ir14) (by kernel_rfl) 0 ?_
  have hh := fun H nx => nhas_t nid (.arr lid 0 (A.length + 1 + B.length) 2 cp false) (.int .i64 room) (A.length + 1 + B.length) H nx A.length (by omega) (.inr ⟨_, _, _, rfl⟩)
  have ht2 := ro_take2 A B a (zs (m + 1))
  have hfl : (A ++ a :: B).length = A.length + 1 + B.length := by simp; omega
  have hlen : (ro (A ++ a :: B) ++ zs (m + 1)).length = cp * 2 := by rw [List.length_append, ro_len, zs_len, hfl]; omega
  have hput := ro_put (A ++ a :: B) a m
  rw [hfl] at hput
  have hla := Lo.cons.1 (Lo.app.1 hlo).2
  have hR : (∀ i ∈ ids.idsL (ro ((A ++ a :: B) ++ [a]) ++ zs m), i < nx) ∧ (ids.idsL (ro ((A ++ a :: B) ++ [a]) ++ zs m)).length < 900 := by
    have h2 : Lo nx ((A ++ a :: B) ++ [a]) := Lo.app.2 ⟨hlo, fun b hb => by rw [List.mem_singleton] at hb; subst hb; exact hla.1⟩
    have h3 := h2.idsZ m
    rw [List.length_append, hfl] at h3
    exact ⟨h3.1, by have := h3.2; simp only [List.length_cons, List.length_nil] at this; omega⟩
  generalize hK : A.length + 1 + B.length = K at *
  have hAK : A.length < K := by omega
  have hQl : A.length * 2 + 2 ≤ cp * 2 := by omega
  generalize ro ((A ++ a :: B) ++ [a]) ++ zs m = R at *
  generalize ro (A ++ a :: B) ++ zs (m + 1) = Q at *
  have fin : ∀ nw, finish false H nx (.int .i64 0) ⟨[(lid, some (.cells R)), (nid, some (.cells [.arr lid 0 (K + 1) 2 cp false, .int .i64 room]))], nw⟩ =
      some (.int .i64 0, [(lid, some (.cells R)), (nid, some (.cells [.arr lid 0 (K + 1) 2 cp false, .int .i64 room]))], []) := fun nw =>
    finish_low (.inr rfl) (.inl rfl) (by
      intro i hi
      simp [updIds, Go.Sx.Obj.ids, Go.Sx.ids.idsL, Go.Sx.ids] at hi
      rcases hi with hi | rfl
      · exact hR.1 i hi
      · exact hlid) (by simp [updIds, Go.Sx.Obj.ids, Go.Sx.ids.idsL, Go.Sx.ids]; have := hR.2; omega)
  clear hR hlo hla hfl
  have h1 : ¬ (room : Int) ≤ K := by omega
  have h1' : ¬ room ≤ K := by omega
  have hk' : ∀ k, nid < nx + k := fun k => by omega
  have hk3 : ∀ k, ¬ nx + k ≤ nid := fun k => by omega
  have hk4 : ∀ k, lid < nx + k := fun k => by omega
  have hk5 : ∀ k, ¬ nx + k ≤ lid := fun k => by omega
  have hk6 : ¬ nx ≤ nid := by omega
  have hk7 : ¬ nx ≤ lid := by omega
  have hk8 : ∀ k, ¬ nx + k = nid := fun k => by omega
  have hk9 : ∀ k, ¬ nx + k = lid := fun k => by omega
  have hk10 : ¬ nx = nid := by omega
  have hk11 : ¬ nx = lid := by omega
  have hne' : ¬ lid = nid := fun e => hne e.symm
  have h41 : (K + 1) * 32 ≤ 1099511627776 := by omega
  have h42 : ¬ 1099511627776 < (K + 1) * 32 := by omega
  have g1 : ¬ cp * 2 < K * 2 := by omega
  have g2 : ¬ K * 2 = cp * 2 := by omega
  have g2' : ¬ K = cp := by omega
  have g3 : (K + 1) * 2 ≤ cp * 2 := by omega
  have g4 : K + 1 ≤ cp := by omega
  obtain ⟨x, to⟩ := a
  dsimp only at hw ht2 hput
  clear hcp
  rcases hw with rfl | ⟨id, cp', ex, rfl, e1, e2⟩
  · simp [ir14, ssB, List.idxOf?_cons, Go.Sx.LV.undef, Go.undef, Go.Sx.callO, Go.Sx.look, Go.Sx.push, Go.Sx.setObj, Go.Sx.setU, Go.Sx.setAll, Go.Sx.appO, Go.Sx.leI_eq, ltF, hh, hl, hg, hid, hlid, hne, hne', h1, h1', hk', hk3, hk4, hk5, hk6, hk7, hk8, hk9, hk10, hk11, h41, h42, hlen, ht2, hAK, hQl, g1, g2, g2', g3, g4, hput, sp0, fin]
  · simp [ir14, ssB, List.idxOf?_cons, Go.Sx.LV.undef, Go.undef, Go.Sx.callO, Go.Sx.look, Go.Sx.push, Go.Sx.setObj, Go.Sx.setU, Go.Sx.setAll, Go.Sx.appO, Go.Sx.leI_eq, ltF, hh, hl, hg, hid, hlid, hne, hne', h1, h1', hk', hk3, hk4, hk5, hk6, hk7, hk8, hk9, hk10, hk11, h41, h42, hlen, ht2, hAK, hQl, g1, g2, g2', g3, g4, hput, sp0, fin]
end double
end Go.Proofs.YtjmnamichdegaaaGreatDoor
end

section
namespace Go.Proofs.YtjmnamichdegaaaGreatDoor
open Go Go.Sx
set_option linter.unusedSimpArgs false
set_option linter.unusedVariables false

/-- A frame as one value. -/
def fv (a : Fr) : LV := mkAgg [a.1, .int .i64 a.2]
theorem fv_sl (F : List UInt8) (to : Int) : fv (.p (.sl (bytP F) F.length 1 false), to) = .p (.agg [.sl (bytP F) F.length 1 false, .s (.int .i64 to)]) := rfl
theorem fv_arr (id off n sz cp : Nat) (ex : Bool) (to : Int) : fv (.arr id off n sz cp ex, to) = .agg [.arr id off n sz cp ex, .int .i64 to] := rfl
/-- Its bytes' value is one of two kinds. -/
def Fv (nx : Nat) (x : LV) : Prop := (∃ F : List UInt8, x = .p (.sl (bytP F) F.length 1 false)) ∨ ∃ id n cp ex, x = .arr id 0 n 1 cp ex ∧ id < nx
theorem Wh.fv {H : Heap} {nx : Nat} {x : LV} {F : List UInt8} (h : Wh H nx x F) : Fv nx x := by
  rcases h with rfl | ⟨id, cp, ex, rfl, h1, h2⟩
  · exact .inl ⟨F, rfl⟩
  · exact .inr ⟨id, _, cp, ex, rfl, h2⟩

section clear
theorem nclear1 (a : Fr) (tid : Nat) (t : Int) (H : Heap) (nx : Nat) (hv : Fv nx a.1) (ht : H tid = some (.cells [.int .i64 t])) (htl : tid < nx) :
    Ω 33 [fv a, .ref tid 0] H nx = some (.bool (a.2 == t), [], []) := by
  refine om_run (ir := ir33) (by kernel_rfl) 0 ?_
  have hk : ∀ k, tid < nx + k := fun k => by omega
  have hk3 : ∀ k, ¬ nx + k = tid := fun k => by omega
  obtain ⟨x, to⟩ := a
  rcases hv with ⟨F, rfl⟩ | ⟨id, n, cp, ex, rfl, h2⟩
  · rw [fv_sl]
    simp [ir33, ssB, List.idxOf?_cons, Go.Sx.LV.undef, Go.undef, Go.Sx.callO, Go.Sx.splice, Go.Sx.finish, Go.Sx.look, Go.Sx.push, Go.Sx.setObj, Go.Sx.setU, Go.Sx.setAll, Go.Sx.appO, Go.Sx.leI_eq, ltF, ht, htl, hk, hk3]
  · rw [fv_arr]
    simp [ir33, ssB, List.idxOf?_cons, Go.Sx.LV.undef, Go.undef, Go.Sx.callO, Go.Sx.splice, Go.Sx.finish, Go.Sx.look, Go.Sx.push, Go.Sx.setObj, Go.Sx.setU, Go.Sx.setAll, Go.Sx.appO, Go.Sx.leI_eq, ltF, ht, htl, hk, hk3]

variable {tid : Nat} {t : Int} {H : Heap} {nx : Nat}
theorem nidx_step {N : Nat} (lid k cp : Nat) (cs : List LV) (j : Nat) (a : Fr) (hj : j < k) (hk : k < 2 ^ 31) (h2 : List.take 2 (List.drop (j * 2) cs) = [a.1, .int .i64 a.2]) (hcs : j * 2 + 2 ≤ cs.length) (hv : Fv nx a.1)
    (hg : H lid = some (.cells cs)) (hlid : lid < nx) (ht : H tid = some (.cells [.int .i64 t])) (htl : tid < nx) (hne : (a.2 == t) = false) :
    runCS ⟨Ω, noG, H, nx⟩ N ir51_0 ⟨[(0, .arr lid 0 k 2 cp false), (1, .fn 33 [] [.ref tid 0]), (7, .int .i64 k), (8, .int .i64 j)], ⟨[], []⟩⟩ =
      some (.normal, ⟨[(0, .arr lid 0 k 2 cp false), (1, .fn 33 [] [.ref tid 0]), (7, .int .i64 k), (8, .int .i64 (j + 1 : Nat))], ⟨[], []⟩⟩) := by
  have w : IntKind.i64.wrap ((j : Int) + 1) = (j : Int) + 1 := wrap_i64 _ (by omega) (by omega)
  have p1 : ¬ (k : Int) ≤ j := by omega
  have c := fun H nx => nclear1 a tid t H nx
  have hfv : mkAgg [a.1, .int .i64 a.2] = fv a := rfl
  rw [hne] at c
  obtain ⟨x, to⟩ := a
  dsimp only at c h2 hfv
  have hv2 := hv
  rcases hv with ⟨F, rfl⟩ | ⟨id, n, cp', ex, rfl, h2'⟩
  · have c := fun H nx => c H nx (.inl ⟨F, rfl⟩)
    rw [fv_sl] at c
    simp [ir51_0, ssB, List.idxOf?_cons, Go.Sx.LV.undef, Go.undef, Go.Sx.callO, Go.Sx.splice, Go.Sx.finish, Go.Sx.look, Go.Sx.push, Go.Sx.setObj, Go.Sx.setU, Go.Sx.setAll, Go.Sx.appO, Go.Sx.leI_eq, ltF, p1, hj, hg, hlid, hcs, h2, w, c, ht, htl]
  · have c := fun H nx h => c H nx (.inr ⟨id, n, cp', ex, rfl, h⟩)
    rw [fv_arr] at c
    simp [ir51_0, ssB, List.idxOf?_cons, Go.Sx.LV.undef, Go.undef, Go.Sx.callO, Go.Sx.splice, Go.Sx.finish, Go.Sx.look, Go.Sx.push, Go.Sx.setObj, Go.Sx.setU, Go.Sx.setAll, Go.Sx.appO, Go.Sx.leI_eq, ltF, p1, hj, hg, hlid, hcs, h2, w, c, ht, htl, h2']
theorem nidx_hit {N : Nat} (lid k cp : Nat) (cs : List LV) (j : Nat) (a : Fr) (hj : j < k) (hk : k < 2 ^ 31) (h2 : List.take 2 (List.drop (j * 2) cs) = [a.1, .int .i64 a.2]) (hcs : j * 2 + 2 ≤ cs.length) (hv : Fv nx a.1)
    (hg : H lid = some (.cells cs)) (hlid : lid < nx) (ht : H tid = some (.cells [.int .i64 t])) (htl : tid < nx) (hne : (a.2 == t) = true) :
    runCS ⟨Ω, noG, H, nx⟩ N ir51_0 ⟨[(0, .arr lid 0 k 2 cp false), (1, .fn 33 [] [.ref tid 0]), (7, .int .i64 k), (8, .int .i64 j)], ⟨[], []⟩⟩ =
      some (.ret, ⟨[(4, .int .i64 j)], ⟨[], []⟩⟩) := by
  have p1 : ¬ (k : Int) ≤ j := by omega
  have c := fun H nx => nclear1 a tid t H nx
  rw [hne] at c
  obtain ⟨x, to⟩ := a
  dsimp only at c h2
  rcases hv with ⟨F, rfl⟩ | ⟨id, n, cp', ex, rfl, h2'⟩
  · have c := fun H nx => c H nx (.inl ⟨F, rfl⟩)
    rw [fv_sl] at c
    simp [ir51_0, ssB, List.idxOf?_cons, Go.Sx.LV.undef, Go.undef, Go.Sx.callO, Go.Sx.splice, Go.Sx.finish, Go.Sx.look, Go.Sx.push, Go.Sx.setObj, Go.Sx.setU, Go.Sx.setAll, Go.Sx.appO, Go.Sx.leI_eq, ltF, p1, hj, hg, hlid, hcs, h2, c, ht, htl]
  · have c := fun H nx h => c H nx (.inr ⟨id, n, cp', ex, rfl, h⟩)
    rw [fv_arr] at c
    simp [ir51_0, ssB, List.idxOf?_cons, Go.Sx.LV.undef, Go.undef, Go.Sx.callO, Go.Sx.splice, Go.Sx.finish, Go.Sx.look, Go.Sx.push, Go.Sx.setObj, Go.Sx.setU, Go.Sx.setAll, Go.Sx.appO, Go.Sx.leI_eq, ltF, p1, hj, hg, hlid, hcs, h2, c, ht, htl, h2']
theorem nidx_end {N : Nat} (x0 x1 : LV) (k : Nat) : runCS ⟨Ω, noG, H, nx⟩ N ir51_0 ⟨[(0, x0), (1, x1), (7, .int .i64 k), (8, .int .i64 k)], ⟨[], []⟩⟩ =
      some (.exit 0, ⟨[(0, x0), (1, x1), (7, .int .i64 k), (8, .int .i64 k), (9, .bool false)], ⟨[], []⟩⟩) := by
  simp [ir51_0, ssB, List.idxOf?_cons, Go.Sx.LV.undef, Go.undef, Go.Sx.callO, Go.Sx.splice, Go.Sx.finish, Go.Sx.look, Go.Sx.push, Go.Sx.setObj, Go.Sx.setU, Go.Sx.setAll, Go.Sx.appO, Go.Sx.leI_eq, ltF]

/-- The first one that is for a node. -/
def hit (t : Int) : List Fr → Option Nat
  | [] => none
  | a :: l => if a.2 == t then some 0 else (hit t l).map (· + 1)
theorem nidx_loop {N : Nat} (lid cp : Nat) (fs : List Fr) (z : List LV) (hk : fs.length < 2 ^ 31) (hv : ∀ a ∈ fs, Fv nx a.1) (hg : H lid = some (.cells (ro fs ++ z))) (hlid : lid < nx) (ht : H tid = some (.cells [.int .i64 t])) (htl : tid < nx) :
    ∀ (B A : List Fr) (m : Nat), fs = A ++ B → B.length < m → iter (runCS ⟨Ω, noG, H, nx⟩ N ir51_0) m ⟨[(0, .arr lid 0 fs.length 2 cp false), (1, .fn 33 [] [.ref tid 0]), (7, .int .i64 fs.length), (8, .int .i64 A.length)], ⟨[], []⟩⟩ =
      some (match hit t B with
        | some i => (.ret, ⟨[(4, .int .i64 (A.length + i : Nat))], ⟨[], []⟩⟩)
        | none => (.exit 0, ⟨[(0, .arr lid 0 fs.length 2 cp false), (1, .fn 33 [] [.ref tid 0]), (7, .int .i64 fs.length), (8, .int .i64 fs.length), (9, .bool false)], ⟨[], []⟩⟩)) := by
  intro B
  induction B with
  | nil =>
    intro A m hf hm
    obtain ⟨m, rfl⟩ : ∃ q, m = q + 1 := ⟨m - 1, by omega⟩
    rw [List.append_nil] at hf
    subst hf
    exact iter_out (nidx_end _ _ _) (by simp)
  | cons a B ih =>
    intro A m hf hm
    obtain ⟨m, rfl⟩ : ∃ q, m = q + 1 := ⟨m - 1, by omega⟩
    have hfl : fs.length = A.length + 1 + B.length := by rw [hf]; simp; omega
    have h2 := ro_take2 A B a z
    rw [← hf] at h2
    have hcl : A.length * 2 + 2 ≤ (ro fs ++ z).length := by rw [List.length_append, ro_len]; omega
    have hva : Fv nx a.1 := hv a (by rw [hf]; simp)
    by_cases e : (a.2 == t) = true
    · rw [iter_out (nidx_hit lid fs.length cp _ A.length a (by omega) hk h2 hcl hva hg hlid ht htl e) (by simp), hit, if_pos e]
      rfl
    · have e' : (a.2 == t) = false := by simpa using e
      have := ih (A ++ [a]) m (by rw [hf]; simp) (by simpa using hm)
      rw [iter_step (nidx_step lid fs.length cp _ A.length a (by omega) hk h2 hcl hva hg hlid ht htl e'), hit, if_neg e]
      rw [List.length_append, List.length_cons, List.length_nil] at this
      rw [this]
      cases hit t B with
      | none => rfl
      | some i => simp only [Option.map_some, Nat.add_assoc, Nat.add_comm 1 i]
theorem nidx_ (lid cp : Nat) (fs : List Fr) (z : List LV) (hk : fs.length < 2 ^ 31) (hv : ∀ a ∈ fs, Fv nx a.1) (hg : H lid = some (.cells (ro fs ++ z))) (hlid : lid < nx) (ht : H tid = some (.cells [.int .i64 t])) (htl : tid < nx) :
    Ω 51 [.arr lid 0 fs.length 2 cp false, .fn 33 [] [.ref tid 0]] H nx = some (.int .i64 (match hit t fs with
      | some i => (i : Int)
      | none => -1), [], []) := by
  refine om_run (ir := ir51) (by kernel_rfl) (fs.length + 1) ?_
  have hlk : ∀ id o, H id = some o → id < nx → Go.Sx.look H nx ⟨[], []⟩ id = some o := fun id o h1 h2 => by simp [Go.Sx.look, findU, h1, h2]
  have l := nidx_loop (H := H) (nx := nx) (N := fs.length + 1) lid cp fs z hk hv hg hlid ht htl fs [] (fs.length + 1) rfl (by omega)
  simp only [List.length_nil, Int.natCast_zero, Int.ofNat_zero, Nat.zero_add] at l
  cases hh : hit t fs with
  | none =>
    rw [hh] at l
    simp only at l
    simp [ir51, ssB, List.idxOf?_cons, Go.Sx.LV.undef, Go.undef, callO_A, aft_nil, setAll_nil, Go.Sx.splice, Go.Sx.appO, Go.Sx.leI_eq, ltF, l, Go.Sx.finish]
  | some i =>
    rw [hh] at l
    simp only at l
    simp [ir51, ssB, List.idxOf?_cons, Go.Sx.LV.undef, Go.undef, callO_A, aft_nil, setAll_nil, Go.Sx.splice, Go.Sx.appO, Go.Sx.leI_eq, ltF, l, Go.Sx.finish]
end clear
end Go.Proofs.YtjmnamichdegaaaGreatDoor
end

section
namespace Go.Proofs.YtjmnamichdegaaaGreatDoor
open Go Go.Sx
set_option linter.unusedSimpArgs false
set_option linter.unusedVariables false

/-- A heap in which a list alone may have been changed. -/
structure Dl (H : Heap) (nx : Nat) (h : Hp) (lid : Nat) (C : List LV) : Prop where
  lk : Go.Sx.look H nx h lid = some (.cells C)
  ot : ∀ id, id < nx → id ≠ lid → Go.Sx.look H nx h id = H id
  up : h.upd = [] ∨ ∃ X, h.upd = [(lid, X)]

section loop
variable {H : Heap} {nx : Nat} {h : Hp} {lid tid k cp i j : Nat} {C : List LV} {t : Int} {a : Fr}
theorem nd_drop {N : Nat} (g : Dl H nx h lid C) (hj : j < k) (hk : k < 2 ^ 31) (h2 : List.take 2 (List.drop (j * 2) C) = [a.1, .int .i64 a.2]) (hcs : j * 2 + 2 ≤ C.length) (hv : Fv nx a.1)
    (hlid : lid < nx) (ht : H tid = some (.cells [.int .i64 t])) (htl : tid < nx) (hlt : tid ≠ lid) (hne : (a.2 == t) = true) :
    ∃ h', runCS ⟨Ω, noG, H, nx⟩ N ir32_0 ⟨[(0, .arr lid 0 k 2 cp false), (1, .fn 33 [] [.ref tid 0]), (5, .int .i64 i), (6, .int .i64 j)], h⟩ =
      some (.normal, ⟨[(0, .arr lid 0 k 2 cp false), (1, .fn 33 [] [.ref tid 0]), (5, .int .i64 i), (6, .int .i64 (j + 1 : Nat))], h'⟩) ∧ Dl H nx h' lid C := by
  have w : IntKind.i64.wrap ((j : Int) + 1) = (j : Int) + 1 := wrap_i64 _ (by omega) (by omega)
  have p1 : ¬ (k : Int) ≤ j := by omega
  have l1 := g.lk
  have l2 : Go.Sx.look H nx h tid = some (.cells [.int .i64 t]) := by rw [g.ot tid htl hlt]; exact ht
  have k1 : ∀ k, lid < nx + (h.new.length + k) := fun k => by omega
  have k2 : ∀ k, tid < nx + (h.new.length + k) := fun k => by omega
  have k3 : ∀ k, ¬ lid = nx + (h.new.length + k) := fun k => by omega
  have k4 : ∀ k, ¬ tid = nx + (h.new.length + k) := fun k => by omega
  have k5 : lid < nx + h.new.length := by omega
  have k6 : tid < nx + h.new.length := by omega
  have k7 : ¬ lid = nx + h.new.length := by omega
  have k8 : ¬ tid = nx + h.new.length := by omega
  have c := fun H nx => nclear1 a tid t H nx
  rw [hne] at c
  have key : ∀ b, Dl H nx (Go.Sx.setObj nx (push h b) (nx + h.new.length) (some (.cells [a.1, .int .i64 a.2]))) lid C := fun b => by
    refine ⟨?_, ?_, ?_⟩
    · rw [look_set' (by rw [push_len]; omega), if_neg k7, look_push, if_neg k7, l1]
    · intro id h1 h2
      rw [look_set' (by rw [push_len]; omega), if_neg (by omega), look_push, if_neg (by omega), g.ot id h1 h2]
    · rw [setObj_upd _ _ _ _ (by omega), push_upd]
      exact g.up
  obtain ⟨x, to⟩ := a
  dsimp only at c h2 key
  refine ⟨_, ?_, key (.cells [.p (.s (.slice none 0 0)), .int .i64 0])⟩
  rcases hv with ⟨F, rfl⟩ | ⟨id, n, cp', ex, rfl, h2'⟩
  · have c := fun H nx => c H nx (.inl ⟨F, rfl⟩)
    rw [fv_sl] at c
    simp [ir32_0, ssB, List.idxOf?_cons, Go.Sx.LV.undef, Go.undef, callO_A, aft_nil, aft_one, Go.Sx.splice, Go.Sx.finish, Go.Sx.setAll, Go.Sx.appO, Go.Sx.leI_eq, ltF, look_push, push_len, setObj_len, look_set', Nat.add_assoc, setAll_nil, p1, hj, hcs, h2, w, c, l1, l2, k1, k2, k3, k4, k5, k6, k7, k8]
  · have c := fun H nx h => c H nx (.inr ⟨id, n, cp', ex, rfl, h⟩)
    rw [fv_arr] at c
    have k9 : ∀ k, id < nx + (h.new.length + k) := fun k => by omega
    have k10 : ∀ k, ¬ id = nx + (h.new.length + k) := fun k => by omega
    simp [ir32_0, ssB, List.idxOf?_cons, Go.Sx.LV.undef, Go.undef, callO_A, aft_nil, aft_one, Go.Sx.splice, Go.Sx.finish, Go.Sx.setAll, Go.Sx.appO, Go.Sx.leI_eq, ltF, look_push, push_len, setObj_len, look_set', Nat.add_assoc, setAll_nil, p1, hj, hcs, h2, w, c, l1, l2, k1, k2, k3, k4, k5, k6, k7, k8, k9, k10]
theorem nd_keep {N : Nat} (g : Dl H nx h lid C) (hj : j < k) (hi : i ≤ j) (hk : k < 2 ^ 31) (h2 : List.take 2 (List.drop (j * 2) C) = [a.1, .int .i64 a.2]) (hcs : j * 2 + 2 ≤ C.length) (hv : Fv nx a.1)
    (hlid : lid < nx) (ht : H tid = some (.cells [.int .i64 t])) (htl : tid < nx) (hlt : tid ≠ lid) (hne : (a.2 == t) = false) :
    ∃ h', runCS ⟨Ω, noG, H, nx⟩ N ir32_0 ⟨[(0, .arr lid 0 k 2 cp false), (1, .fn 33 [] [.ref tid 0]), (5, .int .i64 i), (6, .int .i64 j)], h⟩ =
      some (.normal, ⟨[(0, .arr lid 0 k 2 cp false), (1, .fn 33 [] [.ref tid 0]), (5, .int .i64 (i + 1 : Nat)), (6, .int .i64 (j + 1 : Nat))], h'⟩) ∧ Dl H nx h' lid (splice C (i * 2) [a.1, .int .i64 a.2]) := by
  have w : IntKind.i64.wrap ((j : Int) + 1) = (j : Int) + 1 := wrap_i64 _ (by omega) (by omega)
  have w2 : IntKind.i64.wrap ((i : Int) + 1) = (i : Int) + 1 := wrap_i64 _ (by omega) (by omega)
  have p1 : ¬ (k : Int) ≤ j := by omega
  have p2 : i < k := by omega
  have p3 : i * 2 + 2 ≤ C.length := by omega
  have l1 := g.lk
  have l2 : Go.Sx.look H nx h tid = some (.cells [.int .i64 t]) := by rw [g.ot tid htl hlt]; exact ht
  have k1 : ∀ k, lid < nx + (h.new.length + k) := fun k => by omega
  have k2 : ∀ k, tid < nx + (h.new.length + k) := fun k => by omega
  have k3 : ∀ k, ¬ lid = nx + (h.new.length + k) := fun k => by omega
  have k4 : ∀ k, ¬ tid = nx + (h.new.length + k) := fun k => by omega
  have k5 : lid < nx + h.new.length := by omega
  have k6 : tid < nx + h.new.length := by omega
  have k7 : ¬ lid = nx + h.new.length := by omega
  have k8 : ¬ tid = nx + h.new.length := by omega
  have c := fun H nx => nclear1 a tid t H nx
  rw [hne] at c
  have key : ∀ b, Dl H nx (Go.Sx.setObj nx (Go.Sx.setObj nx (push h b) (nx + h.new.length) (some (.cells [a.1, .int .i64 a.2]))) lid (some (.cells (splice C (i * 2) [a.1, .int .i64 a.2])))) lid (splice C (i * 2) [a.1, .int .i64 a.2]) := fun b => by
    refine ⟨?_, ?_, ?_⟩
    · rw [look_set' (by rw [setObj_len, push_len]; omega), if_pos rfl]
    · intro id h1 h2
      rw [look_set' (by rw [setObj_len, push_len]; omega), if_neg h2, look_set' (by rw [push_len]; omega), if_neg (by omega), look_push, if_neg (by omega), g.ot id h1 h2]
    · right
      refine ⟨some (.cells (splice C (i * 2) [a.1, .int .i64 a.2])), ?_⟩
      have hu : (Go.Sx.setObj nx (push h b) (nx + h.new.length) (some (.cells [a.1, .int .i64 a.2]))).upd = h.upd := by rw [setObj_upd _ _ _ _ (by omega), push_upd]
      simp only [Go.Sx.setObj, hlid, if_true]
      change setU (Go.Sx.setObj nx (push h b) (nx + h.new.length) (some (.cells [a.1, .int .i64 a.2]))).upd lid _ = _
      rw [hu]
      rcases g.up with e | ⟨X, e⟩
      · rw [e]; rfl
      · rw [e]; simp [setU]
  obtain ⟨x, to⟩ := a
  dsimp only at c h2 key
  refine ⟨_, ?_, key (.cells [.p (.s (.slice none 0 0)), .int .i64 0])⟩
  rcases hv with ⟨F, rfl⟩ | ⟨id, n, cp', ex, rfl, h2'⟩
  · have c := fun H nx => c H nx (.inl ⟨F, rfl⟩)
    rw [fv_sl] at c
    simp [ir32_0, ssB, List.idxOf?_cons, Go.Sx.LV.undef, Go.undef, callO_A, aft_nil, aft_one, Go.Sx.splice, Go.Sx.finish, Go.Sx.setAll, Go.Sx.appO, Go.Sx.leI_eq, ltF, look_push, push_len, setObj_len, look_set', Nat.add_assoc, setAll_nil, p1, p2, p3, hj, hcs, h2, w, w2, c, l1, l2, k1, k2, k3, k4, k5, k6, k7, k8]
  · have c := fun H nx h => c H nx (.inr ⟨id, n, cp', ex, rfl, h⟩)
    rw [fv_arr] at c
    have k9 : ∀ k, id < nx + (h.new.length + k) := fun k => by omega
    have k10 : ∀ k, ¬ id = nx + (h.new.length + k) := fun k => by omega
    simp [ir32_0, ssB, List.idxOf?_cons, Go.Sx.LV.undef, Go.undef, callO_A, aft_nil, aft_one, Go.Sx.splice, Go.Sx.finish, Go.Sx.setAll, Go.Sx.appO, Go.Sx.leI_eq, ltF, look_push, push_len, setObj_len, look_set', Nat.add_assoc, setAll_nil, p1, p2, p3, hj, hcs, h2, w, w2, c, l1, l2, k1, k2, k3, k4, k5, k6, k7, k8, k9, k10]
end loop
end Go.Proofs.YtjmnamichdegaaaGreatDoor
end

section
namespace Go.Proofs.YtjmnamichdegaaaGreatDoor
open Go Go.Sx
set_option linter.unusedSimpArgs false
set_option linter.unusedVariables false

theorem splice_len {C : List LV} {i : Nat} {u v : LV} (h : i * 2 + 2 ≤ C.length) : (splice C (i * 2) [u, v]).length = C.length := by
  simp only [splice, List.length_append, List.length_take, List.length_drop, List.length_cons, List.length_nil]; omega
theorem splice_take {C : List LV} {i : Nat} {u v : LV} (h : i * 2 + 2 ≤ C.length) : (splice C (i * 2) [u, v]).take ((i + 1) * 2) = C.take (i * 2) ++ [u, v] := by
  simp only [splice]
  rw [List.take_left']
  simp; omega
theorem splice_drop {C : List LV} {i n : Nat} {u v : LV} (h : i * 2 + 2 ≤ C.length) (hn : i * 2 + 2 ≤ n) : (splice C (i * 2) [u, v]).drop n = C.drop n := by
  simp only [splice]
  obtain ⟨d, rfl⟩ : ∃ d, n = (i * 2 + 2) + d := ⟨n - (i * 2 + 2), by omega⟩
  rw [← List.drop_drop, List.drop_left' (by simp; omega), List.drop_drop]
  rfl
theorem zs_app (a b : Nat) : zs a ++ zs b = zs (a + b) := by
  induction a with
  | zero => simp [zs]
  | succ a ih => rw [show a + 1 + b = (a + b) + 1 by omega, zs, zs, List.cons_append, List.cons_append, ih]
theorem zs_rep (n : Nat) : (List.replicate n [PV.s (.slice none 0 0), PV.s (.int .i64 0)]).flatten.map LV.p = zs n := by
  induction n with
  | zero => rfl
  | succ n ih => rw [List.replicate_succ, List.flatten_cons, List.map_append, ih]; rfl

/-- Not for a node. -/
def left (t : Int) (l : List Fr) : List Fr := l.filter fun a => !(a.2 == t)
theorem left_cons (t : Int) (a : Fr) (l : List Fr) : left t (a :: l) = if a.2 == t then left t l else a :: left t l := by
  simp only [left, List.filter_cons]
  cases a.2 == t <;> rfl
theorem left_none {t : Int} : ∀ {l : List Fr}, hit t l = none → left t l = l
  | [], _ => rfl
  | a :: l, h => by
    rw [hit] at h
    split at h
    · cases h
    · rename_i e
      rw [left_cons, if_neg e, left_none (by simpa using h)]
theorem left_some {t : Int} : ∀ {l : List Fr} {i : Nat}, hit t l = some i → ∃ A a B, l = A ++ a :: B ∧ A.length = i ∧ (a.2 == t) = true ∧ left t l = A ++ left t B
  | [], _, h => by cases h
  | a :: l, i, h => by
    rw [hit] at h
    split at h
    · rename_i e
      obtain rfl := Option.some.inj h
      exact ⟨[], a, l, rfl, rfl, e, by rw [left_cons, if_pos e]; rfl⟩
    · rename_i e
      rw [Option.map_eq_some_iff] at h
      obtain ⟨j, h1, rfl⟩ := h
      obtain ⟨A, b, B, e1, e2, e3, e4⟩ := left_some h1
      exact ⟨a :: A, b, B, by rw [e1]; rfl, by simp [e2], e3, by rw [left_cons, if_neg e, e4]; rfl⟩
theorem left_le (t : Int) (l : List Fr) : (left t l).length ≤ l.length := List.length_filter_le _ _

section loop
variable {H : Heap} {nx : Nat} {lid tid cp : Nat} {t : Int}
theorem nd_end {N : Nat} {h : Hp} (k : Nat) (x5 : LV) : runCS ⟨Ω, noG, H, nx⟩ N ir32_0 ⟨[(0, .arr lid 0 k 2 cp false), (1, .fn 33 [] [.ref tid 0]), (5, x5), (6, .int .i64 k)], h⟩ =
      some (.exit 0, ⟨[(0, .arr lid 0 k 2 cp false), (1, .fn 33 [] [.ref tid 0]), (5, x5), (6, .int .i64 k), (19, .bool false)], h⟩) := by
  simp [ir32_0, ssB, List.idxOf?_cons, Go.Sx.LV.undef, Go.undef, callO_A, aft_nil, setAll_nil, Go.Sx.splice, Go.Sx.appO, Go.Sx.leI_eq, ltF]
theorem nd_loop {N : Nat} (fs : List Fr) (C0 : List LV) (hk : fs.length < 2 ^ 31) (hv : ∀ a ∈ fs, Fv nx a.1) (hC0 : C0 = ro fs ++ C0.drop (fs.length * 2))
    (hlid : lid < nx) (ht : H tid = some (.cells [.int .i64 t])) (htl : tid < nx) (hlt : tid ≠ lid) :
    ∀ (B A K : List Fr) (C : List LV) (h : Hp) (m : Nat), fs = A ++ B → K.length ≤ A.length → Dl H nx h lid C → C.length = C0.length → C.take (K.length * 2) = ro K → C.drop (A.length * 2) = C0.drop (A.length * 2) → B.length < m →
    ∃ h' C', iter (runCS ⟨Ω, noG, H, nx⟩ N ir32_0) m ⟨[(0, .arr lid 0 fs.length 2 cp false), (1, .fn 33 [] [.ref tid 0]), (5, .int .i64 K.length), (6, .int .i64 A.length)], h⟩ =
      some (.exit 0, ⟨[(0, .arr lid 0 fs.length 2 cp false), (1, .fn 33 [] [.ref tid 0]), (5, .int .i64 (K ++ left t B).length), (6, .int .i64 fs.length), (19, .bool false)], h'⟩) ∧ Dl H nx h' lid C' ∧ C'.length = C0.length ∧ C'.take ((K ++ left t B).length * 2) = ro (K ++ left t B) ∧ C'.drop (fs.length * 2) = C0.drop (fs.length * 2) := by
  intro B
  induction B with
  | nil =>
    intro A K C h m hf hKA g hl htk hdr hm
    obtain ⟨m, rfl⟩ : ∃ q, m = q + 1 := ⟨m - 1, by omega⟩
    rw [List.append_nil] at hf
    subst hf
    have : left t [] = [] := rfl
    rw [this, List.append_nil]
    exact ⟨h, C, iter_out (nd_end _ _) (by simp), g, hl, htk, hdr⟩
  | cons a B ih =>
    intro A K C h m hf hKA g hl htk hdr hm
    obtain ⟨m, rfl⟩ : ∃ q, m = q + 1 := ⟨m - 1, by omega⟩
    have hfl : fs.length = A.length + 1 + B.length := by rw [hf]; simp; omega
    have h2 := ro_take2 A B a (C0.drop (fs.length * 2))
    rw [← hf, ← hC0, ← hdr] at h2
    have hcl : A.length * 2 + 2 ≤ C.length := by
      have := congrArg List.length hC0
      rw [List.length_append, ro_len] at this
      omega
    have hva : Fv nx a.1 := hv a (by rw [hf]; simp)
    have hdr1 : C.drop ((A ++ [a]).length * 2) = C0.drop ((A ++ [a]).length * 2) := by
      have := congrArg (List.drop 2) hdr
      rw [List.drop_drop, List.drop_drop] at this
      rw [List.length_append, List.length_cons, List.length_nil, show (A.length + (0 + 1)) * 2 = A.length * 2 + 2 by omega]
      exact this
    have hAl : (A ++ [a]).length = A.length + 1 := by simp
    by_cases e : (a.2 == t) = true
    · obtain ⟨h', e1, g'⟩ := nd_drop (N := N) (k := fs.length) (cp := cp) (i := K.length) (j := A.length) g (by omega) hk h2 hcl hva hlid ht htl hlt e
      obtain ⟨h'', C', e2, r⟩ := ih (A ++ [a]) K C h' m (by rw [hf]; simp) (by rw [hAl]; omega) g' hl htk hdr1 (by simpa using hm)
      rw [left_cons, if_pos e]
      refine ⟨h'', C', ?_, r⟩
      rw [iter_step e1, ← hAl]
      exact e2
    · have e' : (a.2 == t) = false := by simpa using e
      obtain ⟨h', e1, g'⟩ := nd_keep (N := N) (k := fs.length) (cp := cp) (i := K.length) (j := A.length) g (by omega) hKA hk h2 hcl hva hlid ht htl hlt e'
      have hKl : (K ++ [a]).length = K.length + 1 := by simp
      have hc2 : K.length * 2 + 2 ≤ C.length := by omega
      obtain ⟨h'', C', e2, r⟩ := ih (A ++ [a]) (K ++ [a]) _ h' m (by rw [hf]; simp) (by rw [hAl, hKl]; omega) g' (by rw [splice_len hc2, hl]) (by rw [hKl, splice_take hc2, htk, ro_app]; rfl)
        (by rw [splice_drop hc2 (by rw [hAl]; omega)]; exact hdr1) (by simpa using hm)
      rw [left_cons, if_neg e]
      rw [List.append_assoc] at e2 r
      refine ⟨h'', C', ?_, r⟩
      rw [iter_step e1, ← hAl, ← hKl]
      exact e2
end loop

section clear
variable (nid lid cp tid room : Nat) (fs : List Fr) (t : Int) (H : Heap) (nx : Nat)
theorem ndelf (m : Nat) (hcp : cp = fs.length + m) (hs : cp < 500) (hv : ∀ a ∈ fs, Fv nx a.1) (hlo : Lo nx fs) (hg : H lid = some (.cells (ro fs ++ zs m))) (hlid : lid < nx) (ht : H tid = some (.cells [.int .i64 t])) (htl : tid < nx) (hlt : tid ≠ lid) :
    Ω 32 [.arr lid 0 fs.length 2 cp false, .fn 33 [] [.ref tid 0]] H nx = some (.arr lid 0 (left t fs).length 2 cp false,
      (if hit t fs = none then [] else [(lid, some (.cells (ro (left t fs) ++ zs (fs.length - (left t fs).length + m))))]), []) := by
  refine om_run (ir := ir32) (by kernel_rfl) (fs.length + 1) ?_
  have ix : ∀ (H' : Heap), H' lid = some (.cells (ro fs ++ zs m)) → H' tid = some (.cells [.int .i64 t]) → _ := fun H' h1 h2 => nidx_ (H := H') (nx := nx) lid cp fs (zs m) (by omega) hv h1 hlid h2 htl
  have l1 : Go.Sx.look H nx ⟨[], []⟩ lid = some (.cells (ro fs ++ zs m)) := by simp [Go.Sx.look, findU, hlid, hg]
  have l2 : Go.Sx.look H nx ⟨[], []⟩ tid = some (.cells [.int .i64 t]) := by simp [Go.Sx.look, findU, htl, ht]
  have ix := ix _ l1 l2
  cases hh : hit t fs with
  | none =>
    rw [left_none hh, if_pos rfl]
    rw [hh] at ix
    have fin : finish true H nx (.arr lid 0 fs.length 2 cp false) ⟨[], []⟩ = some (.arr lid 0 fs.length 2 cp false, [], []) := finish_low (.inl rfl) (.inr ⟨rfl, by simp [Go.Sx.ids, hlid]⟩) (by simp [updIds]) (by simp [updIds, Go.Sx.ids])
    simp [ir32, ssB, List.idxOf?_cons, Go.Sx.LV.undef, Go.undef, callO_A, aft_nil, setAll_nil, Go.Sx.splice, Go.Sx.appO, Go.Sx.leI_eq, ltF, ix, fin]
  | some i0 =>
    rw [hh] at ix
    obtain ⟨A, a, B, hf, hA, ha, hl⟩ := left_some hh
    rw [if_neg (by simp)]
    have hC0 : ro fs ++ zs m = ro fs ++ (ro fs ++ zs m).drop (fs.length * 2) := by rw [List.drop_left' (ro_len fs)]
    have hroA : (ro fs ++ zs m).take (A.length * 2) = ro A := by rw [hf, ro_app, List.append_assoc, List.take_left' (ro_len A)]
    have hAl : (A ++ [a]).length = A.length + 1 := by simp
    have hfl : fs.length = A.length + 1 + B.length := by rw [hf]; simp; omega
    obtain ⟨h', C', e1, g, hCl, htk, hdr⟩ := nd_loop (H := H) (nx := nx) (lid := lid) (tid := tid) (cp := cp) (t := t) (N := fs.length + 1) fs (ro fs ++ zs m) (by omega) hv hC0 hlid ht htl hlt B (A ++ [a]) A (ro fs ++ zs m) ⟨[], []⟩ (fs.length + 1) (by rw [hf]; simp) (by omega)
      ⟨l1, fun id h1 h2 => by simp [Go.Sx.look, findU, h1], .inl rfl⟩ rfl hroA rfl (by omega)
    rw [← hl] at e1 htk
    rw [hAl] at e1
    have hle := left_le t fs
    have hlt2 : (left t fs).length < fs.length := by
      rw [hl, List.length_append]
      have := left_le t B
      omega
    have hlol : Lo nx (left t fs) := fun b hb => hlo b (List.mem_filter.1 hb).1
    have hfin := hlol.idsZ (fs.length - (left t fs).length + m)
    have hsp : splice C' ((left t fs).length * 2) (zs (fs.length - (left t fs).length)) = ro (left t fs) ++ zs (fs.length - (left t fs).length + m) := by
      simp only [splice]
      rw [htk, zs_len, ← Nat.add_mul, Nat.add_sub_cancel' hle, hdr, List.drop_left' (ro_len fs), List.append_assoc, zs_app]
    have hCl' : C'.length = cp * 2 := by rw [hCl, List.length_append, ro_len, zs_len]; omega
    have hzr := zs_rep (fs.length - (left t fs).length)
    generalize zs (fs.length - (left t fs).length) = Z at *
    generalize ro (left t fs) ++ zs (fs.length - (left t fs).length + m) = R at *
    have w : IntKind.i64.wrap ((i0 : Int) + 1) = (i0 : Int) + 1 := wrap_i64 _ (by omega) (by omega)
    have q1 : ((i0 : Int) == -1) = false := by rw [beq_eq_false_iff_ne]; omega
    rw [hA] at e1
    have e1' := e1
    rw [Int.natCast_add, Int.natCast_one] at e1'
    generalize (left t fs).length = L at *
    have q2 : L ≤ fs.length := hle
    have q3 : ¬ fs.length - L = 0 := by omega
    have q4 : L * 2 + (fs.length - L) * 2 ≤ C'.length := by omega
    have q5 : ¬ fs.length ≤ L := by omega
    have l3 := g.lk
    have fin : ∀ X nw, (X = [] ∨ ∃ Y, X = [(lid, Y)]) → finish true H nx (.arr lid 0 L 2 cp false) (Go.Sx.setObj nx ⟨X, nw⟩ lid (some (.cells R))) = some (.arr lid 0 L 2 cp false, [(lid, some (.cells R))], []) := fun X nw hX => by
      have e : Go.Sx.setObj nx ⟨X, nw⟩ lid (some (.cells R)) = ⟨[(lid, some (.cells R))], nw⟩ := by
        rcases hX with rfl | ⟨Y, rfl⟩ <;> simp [Go.Sx.setObj, hlid, setU]
      rw [e]
      exact finish_low (.inl rfl) (.inr ⟨rfl, by simp [Go.Sx.ids, hlid]⟩) (by simpa [updIds, Go.Sx.Obj.ids] using hfin.1) (by simp [updIds, Go.Sx.Obj.ids, Go.Sx.ids]; have := hfin.2; omega)
    have fin' := fin h'.upd h'.new g.up
    have heta : (⟨h'.upd, h'.new⟩ : Hp) = h' := rfl
    rw [heta] at fin'
    simp only [splice, List.append_assoc] at hsp
    simp [ir32, ssB, List.idxOf?_cons, Go.Sx.LV.undef, Go.undef, callO_A, aft_nil, setAll_nil, Go.Sx.splice, Go.Sx.appO, Go.Sx.leI_eq, ltF, ix, q1, w, e1', l3, q2, q3, q4, q5, hzr, hsp, fin']
theorem nclear_0 (x y : LV) (hx : Sl x 0) (hl : H nid = some (.cells [x, y])) (hid : nid < nx) : Ω 16 [.ref nid 0, .int .i64 t] H nx = some (.int .i64 0, [], []) := by
  refine om_run (ir := ir16) (by kernel_rfl) 0 ?_
  have hh : ∀ (H : Heap) (nx : Nat), H nid = some (.cells [x, y]) → nid < nx → Ω 17 [.ref nid 0] H nx = some (.int .i64 0, [], []) := fun H nx h1 h2 => nlen_ nid x y 0 H nx hx h1 h2
  have hk : ∀ k, nid < nx + k := fun k => by omega
  have w : IntKind.i64.wrap 0 = 0 := rfl
  simp [ir16, ssB, List.idxOf?_cons, Go.Sx.LV.undef, Go.undef, Go.Sx.callO, Go.Sx.splice, Go.Sx.finish, Go.Sx.look, Go.Sx.push, Go.Sx.setObj, Go.Sx.setU, Go.Sx.setAll, Go.Sx.appO, Go.Sx.leI_eq, ltF, hh, hl, hid, hk, w]
theorem nclear_ (y : LV) (hy : ids y = []) (m : Nat) (h0 : 0 < fs.length) (hcp : cp = fs.length + m) (hs : cp < 500) (hv : ∀ a ∈ fs, Fv nx a.1) (hlo : Lo nx fs) (hl : H nid = some (.cells [.arr lid 0 fs.length 2 cp false, y])) (hg : H lid = some (.cells (ro fs ++ zs m))) (hid : nid < nx) (hlid : lid < nx) (hne : nid ≠ lid) :
    ∃ u, Ω 16 [.ref nid 0, .int .i64 t] H nx = some (.int .i64 ((fs.length : Int) - (left t fs).length), u, []) ∧
      ((hit t fs = none ∧ u = [(nid, some (.cells [.arr lid 0 (left t fs).length 2 cp false, y]))]) ∨ (hit t fs ≠ none ∧ u = [(lid, some (.cells (ro (left t fs) ++ zs (fs.length - (left t fs).length + m)))), (nid, some (.cells [.arr lid 0 (left t fs).length 2 cp false, y]))])) := by
  have hle := left_le t fs
  have hlol : Lo nx (left t fs) := fun b hb => hlo b (List.mem_filter.1 hb).1
  have hfin := hlol.idsZ (fs.length - (left t fs).length + m)
  have hn : ∀ k (H : Heap) (nx : Nat), H nid = some (.cells [.arr lid 0 k 2 cp false, y]) → nid < nx → Ω 17 [.ref nid 0] H nx = some (.int .i64 k, [], []) := fun k H nx h1 h2 => nlen_ nid _ y k H nx (.inr ⟨_, _, _, rfl⟩) h1 h2
  have hd : ∀ (H : Heap), H lid = some (.cells (ro fs ++ zs m)) → H nx = some (.cells [.int .i64 t]) → _ := fun H h1 h2 => ndelf lid cp nx fs t H (nx + 1) m hcp hs (fun a ha => by
    rcases hv a ha with h | ⟨id, n, c, ex, e, h⟩
    · exact .inl h
    · exact .inr ⟨id, n, c, ex, e, by omega⟩) (hlo.mono (by omega)) h1 (by omega) h2 (by omega) (by omega)
  have w : IntKind.i64.wrap ((fs.length : Int) - (left t fs).length) = (fs.length : Int) - (left t fs).length := wrap_i64 _ (by omega) (by omega)
  have hk : ∀ k, nid < nx + k := fun k => by omega
  have hk2 : ∀ k, ¬ nx + k = nid := fun k => by omega
  have hk3 : ∀ k, lid < nx + k := fun k => by omega
  have hk4 : ∀ k, ¬ nx + k = lid := fun k => by omega
  have hk5 : ¬ nx = nid := by omega
  have hk6 : ¬ nx = lid := by omega
  have hk7 : ¬ nx ≤ nid := by omega
  have hk8 : ¬ nx ≤ lid := by omega
  have hne' : ¬ lid = nid := fun e => hne e.symm
  have p0 : ¬ fs.length = 0 := by omega
  have p1 : 0 < fs.length := h0
  by_cases hh : hit t fs = none
  · refine ⟨_, ?_, .inl ⟨hh, rfl⟩⟩
    rw [if_pos hh] at hd
    refine om_run (ir := ir16) (by kernel_rfl) 0 ?_
    have fin : ∀ nw r, finish false H nx (.int .i64 r) ⟨[(nid, some (.cells [.arr lid 0 (left t fs).length 2 cp false, y]))], nw⟩ = some (.int .i64 r, [(nid, some (.cells [.arr lid 0 (left t fs).length 2 cp false, y]))], []) := fun nw r =>
      finish_low (.inr rfl) (.inl rfl) (by simp [updIds, Go.Sx.Obj.ids, Go.Sx.ids.idsL, Go.Sx.ids, hy, hlid]) (by simp [updIds, Go.Sx.Obj.ids, Go.Sx.ids.idsL, Go.Sx.ids, hy])
    generalize ro fs ++ zs m = Q at *
    generalize (left t fs).length = L at *
    generalize fs.length = K at *
    simp [ir16, ssB, List.idxOf?_cons, Go.Sx.LV.undef, Go.undef, Go.Sx.callO, Go.Sx.splice, Go.Sx.look, Go.Sx.push, Go.Sx.setObj, Go.Sx.setU, Go.Sx.setAll, Go.Sx.appO, Go.Sx.leI_eq, ltF, hn, hd, hl, hg, hid, hlid, hne, hne', hk, hk2, hk3, hk4, hk5, hk6, hk7, hk8, p0, p1, w, fin]
  · refine ⟨_, ?_, .inr ⟨hh, rfl⟩⟩
    rw [if_neg hh] at hd
    refine om_run (ir := ir16) (by kernel_rfl) 0 ?_
    generalize ro (left t fs) ++ zs (fs.length - (left t fs).length + m) = R at *
    have fin : ∀ nw r, finish false H nx (.int .i64 r) ⟨[(lid, some (.cells R)), (nid, some (.cells [.arr lid 0 (left t fs).length 2 cp false, y]))], nw⟩ = some (.int .i64 r, [(lid, some (.cells R)), (nid, some (.cells [.arr lid 0 (left t fs).length 2 cp false, y]))], []) := fun nw r =>
      finish_low (.inr rfl) (.inl rfl) (by
        intro i hi
        simp [updIds, Go.Sx.Obj.ids, Go.Sx.ids.idsL, Go.Sx.ids, hy] at hi
        rcases hi with hi | rfl
        · exact hfin.1 i hi
        · exact hlid) (by simp [updIds, Go.Sx.Obj.ids, Go.Sx.ids.idsL, Go.Sx.ids, hy]; have := hfin.2; omega)
    clear hfin hlol hlo hv
    generalize ro fs ++ zs m = Q at *
    generalize (left t fs).length = L at *
    generalize fs.length = K at *
    simp [ir16, ssB, List.idxOf?_cons, Go.Sx.LV.undef, Go.undef, Go.Sx.callO, Go.Sx.splice, Go.Sx.look, Go.Sx.push, Go.Sx.setObj, Go.Sx.setU, Go.Sx.setAll, Go.Sx.appO, Go.Sx.leI_eq, ltF, hn, hd, hl, hg, hid, hlid, hne, hne', hk, hk2, hk3, hk4, hk5, hk6, hk7, hk8, p0, p1, w, fin]
end clear
end Go.Proofs.YtjmnamichdegaaaGreatDoor
end

section
namespace Go.Proofs.YtjmnamichdegaaaGreatDoor
open Go Go.Sx
set_option linter.unusedSimpArgs false
set_option linter.unusedVariables false

def rr (l : List Fr) : List LV := l.flatMap fun a => [a.1, .int .i64 a.2, .p (.s (.slice none 0 0))]
theorem rr_nil : rr [] = [] := rfl
theorem rr_cons (a : Fr) (l : List Fr) : rr (a :: l) = a.1 :: .int .i64 a.2 :: .p (.s (.slice none 0 0)) :: rr l := by simp [rr]
theorem rr_app (l m : List Fr) : rr (l ++ m) = rr l ++ rr m := by simp [rr]
theorem rr_len (l : List Fr) : (rr l).length = l.length * 3 := by
  induction l with
  | nil => rfl
  | cons a l ih => rw [rr_cons, List.length_cons, List.length_cons, List.length_cons, List.length_cons, ih]; omega
theorem rr_take3 (A B : List Fr) (a : Fr) : List.take 3 (List.drop (A.length * 3) (rr (A ++ a :: B))) = [a.1, .int .i64 a.2, .p (.s (.slice none 0 0))] := by
  rw [rr_app, rr_cons, List.drop_left' (rr_len A)]
  rfl
theorem Lo.idsR {nx : Nat} : ∀ {l : List Fr}, Lo nx l → (∀ i ∈ ids.idsL (rr l), i < nx) ∧ (ids.idsL (rr l)).length ≤ l.length
  | [], _ => by simp [rr, Go.Sx.ids.idsL]
  | a :: l, h => by
    rw [Lo.cons] at h
    have ih := Lo.idsR h.2
    rw [rr_cons]
    simp only [Go.Sx.ids.idsL, Go.Sx.ids, List.nil_append, List.mem_append, List.length_append, List.length_cons]
    refine ⟨?_, by omega⟩
    rintro i (hi | hi)
    · exact h.1.2 i hi
    · exact ih.1 i hi

/-- A net's list, the document's. -/
def RSl (x : LV) (k : Nat) : Prop := (x = .p (.s (.slice none 0 0)) ∧ k = 0) ∨ ∃ lid ex, x = .arr lid 0 k 3 k ex

section has
variable (xid : Nat) (x y : LV) (k : Nat) (H : Heap) (nx : Nat)
theorem rhas_ (i : Int) (hx : RSl x k) (hl : H xid = some (.cells [x, y])) (hid : xid < nx) : Ω 34 [.ref xid 0, .int .i64 i] H nx = some (.bool (decide (0 ≤ i ∧ i < k)), [], []) := by
  refine om_run (ir := ir34) (by kernel_rfl) 0 ?_
  by_cases h1 : 0 ≤ i
  · rcases hx with ⟨rfl, rfl⟩ | ⟨lid, ex, rfl⟩
    · by_cases h2 : (0 : Int) ≤ i
      · have h3 : ¬ i < 0 := by omega
        simp [ir34, ssB, List.idxOf?_cons, Go.Sx.LV.undef, Go.undef, Go.Sx.callO, Go.Sx.splice, Go.Sx.finish, Go.Sx.look, Go.Sx.push, Go.Sx.setObj, Go.Sx.setU, Go.Sx.setAll, Go.Sx.appO, Go.Sx.leI_eq, ltF, h1, h2, h3, hl, hid]
      · omega
    · by_cases h2 : (k : Int) ≤ i
      · have h3 : ¬ i < k := by omega
        simp [ir34, ssB, List.idxOf?_cons, Go.Sx.LV.undef, Go.undef, Go.Sx.callO, Go.Sx.splice, Go.Sx.finish, Go.Sx.look, Go.Sx.push, Go.Sx.setObj, Go.Sx.setU, Go.Sx.setAll, Go.Sx.appO, Go.Sx.leI_eq, ltF, h1, h2, h3, hl, hid]
      · have h3 : i < k := by omega
        simp [ir34, ssB, List.idxOf?_cons, Go.Sx.LV.undef, Go.undef, Go.Sx.callO, Go.Sx.splice, Go.Sx.finish, Go.Sx.look, Go.Sx.push, Go.Sx.setObj, Go.Sx.setU, Go.Sx.setAll, Go.Sx.appO, Go.Sx.leI_eq, ltF, h1, h2, h3, hl, hid]
  · simp [ir34, ssB, List.idxOf?_cons, Go.Sx.LV.undef, Go.undef, Go.Sx.callO, Go.Sx.splice, Go.Sx.finish, Go.Sx.look, Go.Sx.push, Go.Sx.setObj, Go.Sx.setU, Go.Sx.setAll, Go.Sx.appO, Go.Sx.leI_eq, ltF, h1, hl, hid]
theorem rhas_t (i : Nat) (hi : i < k) (hx : RSl x k) (hl : H xid = some (.cells [x, y])) (hid : xid < nx) : Ω 34 [.ref xid 0, .int .i64 i] H nx = some (.bool true, [], []) := by
  rw [rhas_ xid x y k H nx i hx hl hid, decide_eq_true (by omega)]
theorem rhas_f (i : Int) (hi : ¬ (0 ≤ i ∧ i < k)) (hx : RSl x k) (hl : H xid = some (.cells [x, y])) (hid : xid < nx) : Ω 34 [.ref xid 0, .int .i64 i] H nx = some (.bool false, [], []) := by
  rw [rhas_ xid x y k H nx i hx hl hid, decide_eq_false hi]
end has

/-- What is left behind: a list that is new. -/
theorem rfin {H : Heap} {nx xid K : Nat} {ex : Bool} {y : LV} {R : List LV} (hy : ids y = []) (hR : ∀ i ∈ ids.idsL R, i < nx) (hl : (ids.idsL R).length < 900) (h : Hp) (j : Nat) (r : Int) (hu : h.upd = [(xid, some (.cells [.arr j 0 K 3 K ex, y]))]) (hj : Go.Sx.look H nx h j = some (.cells R)) (hge : nx ≤ j) :
    finish false H nx (.int .i64 r) h = some (.int .i64 r, [(xid, some (.cells [.arr nx 0 K 3 K ex, y]))], [some (.cells R)]) := by
  have a1 : ¬ j < nx := by omega
  exact finish_one (j := j) (.inr ⟨rfl, rfl⟩) hj hge hR (by simp [hu, updIds, Go.Sx.Obj.ids, Go.Sx.ids.idsL, Go.Sx.ids, hy]) (by simp [hu, updIds, Go.Sx.Obj.ids, Go.Sx.ids.idsL, Go.Sx.ids, hy]) (by simp [hu, updIds, Go.Sx.Obj.ids, Go.Sx.ids.idsL, Go.Sx.ids, hy]; omega) rfl
      (by rw [hu]; simp [renU, renO, ren.go, ren_low nx [j] y (by simp [hy]), ren, renId, List.idxOf?_cons, a1])

section drop
variable (xid lid : Nat) (A B : List Fr) (a : Fr) (ex : Bool) (y : LV) (H : Heap) (nx : Nat)
theorem rdrop_out (x : LV) (k : Nat) (i : Int) (hi : ¬ (0 ≤ i ∧ i < k)) (hx : RSl x k) (hl : H xid = some (.cells [x, y])) (hid : xid < nx) :
    Ω 19 [.ref xid 0, .int .i64 i] H nx = some (.int .i64 2, [], []) := by
  refine om_run (ir := ir19) (by kernel_rfl) 0 ?_
  have hh := fun H nx => rhas_f xid x y k H nx i hi hx
  simp [ir19, ssB, List.idxOf?_cons, Go.Sx.LV.undef, Go.undef, Go.Sx.callO, Go.Sx.splice, Go.Sx.finish, Go.Sx.look, Go.Sx.push, Go.Sx.setObj, Go.Sx.setU, Go.Sx.setAll, Go.Sx.appO, Go.Sx.leI_eq, ltF, hh, hl, hid]
theorem rdrop_ (hs : A.length + 1 + B.length < 500) (hlo : Lo nx (A ++ B)) (hy : ids y = []) (hl : H xid = some (.cells [.arr lid 0 (A.length + 1 + B.length) 3 (A.length + 1 + B.length) ex, y])) (hg : H lid = some (.cells (rr (A ++ a :: B)))) (hid : xid < nx) (hlid : lid < nx) (hne : xid ≠ lid) :
    Ω 19 [.ref xid 0, .int .i64 A.length] H nx = some (.int .i64 0, [(xid, some (.cells [.arr nx 0 (A.length + B.length) 3 (A.length + B.length) (decide (A.length + B.length = 0)), y]))], [some (.cells (rr (A ++ B)))]) := by
  refine om_run (ir := ir19) (by kernel_rfl) 0 ?_
  have hh := fun H nx => rhas_t xid (.arr lid 0 (A.length + 1 + B.length) 3 (A.length + 1 + B.length) ex) y (A.length + 1 + B.length) H nx A.length (by omega) (.inr ⟨_, _, rfl⟩)
  have hR := hlo.idsR
  rw [List.length_append] at hR
  have t1 : List.take (A.length * 3) (rr (A ++ a :: B)) = rr A := by rw [rr_app, List.take_left' (rr_len A)]
  have t2 : List.drop ((A.length + 1) * 3) (rr (A ++ a :: B)) = rr B := by
    rw [rr_app, rr_cons, show (A.length + 1) * 3 = A.length * 3 + 3 by omega, ← List.drop_drop, List.drop_left' (rr_len A)]
    rfl
  have t3 : List.take (B.length * 3) (rr B) = rr B := by rw [← rr_len, List.take_length]
  have t4 : List.take (A.length * 3) (rr A) = rr A := by rw [← rr_len, List.take_length]
  have hql : (rr (A ++ a :: B)).length = (A.length + 1 + B.length) * 3 := by rw [rr_len]; simp; omega
  have hla := rr_len A
  have hlb := rr_len B
  have w : IntKind.i64.wrap ((A.length : Int) + 1) = (A.length : Int) + 1 := wrap_i64 _ (by omega) (by omega)
  have f1 : (0 : Int) ≤ (A.length : Int) + 1 := by omega
  have f2 : ((A.length : Int) + 1).toNat = A.length + 1 := by omega
  have fin := fun h j => rfin (H := H) (nx := nx) (xid := xid) (K := A.length + B.length) (ex := decide (A.length + B.length = 0)) hy hR.1 (by have := hR.2; omega) h j 0
  have happ := rr_app A B
  generalize rr (A ++ a :: B) = Q at *
  generalize hRR : rr (A ++ B) = R at *
  clear hR hlo
  have hA0 : A.length = 0 → rr A = [] := fun h => by rw [List.length_eq_zero_iff.1 h]; rfl
  have hB0 : B.length = 0 → rr B = [] := fun h => by rw [List.length_eq_zero_iff.1 h]; rfl
  generalize rr A = RA at *
  generalize rr B = RB at *
  generalize A.length = a at *
  generalize B.length = b at *
  have g1 : a ≤ a + 1 + b := by omega
  have g2 : a + 1 ≤ a + 1 + b := by omega
  have g3 : a + 1 + b - (a + 1) = b := by omega
  have g4 : a * 3 ≤ (a + 1 + b) * 3 := by omega
  have g5 : (a + 1) * 3 + b * 3 ≤ (a + 1 + b) * 3 := by omega
  have g6 : a * 56 ≤ 1099511627776 := by omega
  have g7 : b * 56 ≤ 1099511627776 := by omega
  have g8 : (a + b) * 56 ≤ 1099511627776 := by omega
  have g6' : ¬ 1099511627776 < a * 56 := by omega
  have g7' : ¬ 1099511627776 < b * 56 := by omega
  have g8' : ¬ 1099511627776 < (a + b) * 56 := by omega
  have hk' : ∀ k, xid < nx + k := fun k => by omega
  have hk3 : ∀ k, ¬ nx + k ≤ xid := fun k => by omega
  have hk4 : ∀ k, lid < nx + k := fun k => by omega
  have hk5 : ∀ k, ¬ nx + k ≤ lid := fun k => by omega
  have hk6 : ¬ nx ≤ xid := by omega
  have hk7 : ¬ nx ≤ lid := by omega
  have hk8 : ∀ k, ¬ nx + k = xid := fun k => by omega
  have hk9 : ∀ k, ¬ nx + k = lid := fun k => by omega
  have hk10 : ¬ nx = xid := by omega
  have hk11 : ¬ nx = lid := by omega
  have hk12 : ¬ xid = nx := by omega
  have hk13 : ¬ lid = nx := by omega
  have hne' : ¬ lid = xid := fun e => hne e.symm
  have w1 : IntKind.i64.wrap 1 = 1 := rfl
  by_cases hA : a = 0
  · have e := hA0 hA
    subst e
    clear hA0
    subst hA
    by_cases hB : b = 0
    · have e := hB0 hB
      subst e
      clear hB0
      subst hB
      obtain rfl : R = [] := by rw [happ]; rfl
      simp only [Nat.zero_add, Nat.add_zero, Nat.zero_mul, Nat.one_mul, Int.natCast_zero, Int.ofNat_zero, Int.zero_add] at *
      simp [ir19, ssB, List.idxOf?_cons, Go.Sx.LV.undef, Go.undef, Go.Sx.callO, Go.Sx.splice, Go.Sx.look, Go.Sx.push, Go.Sx.setObj, Go.Sx.setU, Go.Sx.setAll, Go.Sx.appO, Go.Sx.leI_eq, ltF, hh, hl, hid, hg, hlid, hne, hne', w1, t2, hql, hk', hk3, hk4, hk5, hk6, hk7, hk8, hk9, hk10, hk11, hk12, hk13]
      refine fin _ _ rfl ?_ ?_
      · simp [Go.Sx.look, ltF]
      · omega
    · have hd : decide (0 + b = 0) = false := by simp; omega
      rw [hd] at fin ⊢
      obtain rfl : R = RB := by rw [happ]; rfl
      have w2 : ((1 : Int) + b).toNat = 1 + b := by omega
      simp only [Nat.zero_add, Nat.zero_mul, Nat.one_mul, Int.natCast_zero, Int.ofNat_zero, Int.zero_add] at *
      simp [ir19, ssB, List.idxOf?_cons, Go.Sx.LV.undef, Go.undef, Go.Sx.callO, Go.Sx.splice, Go.Sx.look, Go.Sx.push, Go.Sx.setObj, Go.Sx.setU, Go.Sx.setAll, Go.Sx.appO, Go.Sx.leI_eq, ltF, hh, hl, hid, hg, hlid, hne, hne', w1, w2, t2, t3, hql, hlb, g2, g3, g5, g6, g7, g8, g6', g7', g8', hk', hk3, hk4, hk5, hk6, hk7, hk8, hk9, hk10, hk11, hk12, hk13, hB]
      refine fin _ _ rfl ?_ ?_
      · simp [Go.Sx.look, ltF]
      · omega
  · by_cases hB : b = 0
    · have e := hB0 hB
      subst e
      clear hB0
      subst hB
      have hd : decide (a + 0 = 0) = false := by simp; omega
      rw [hd] at fin ⊢
      obtain rfl : R = RA := by rw [happ]; simp
      simp only [Nat.add_zero, Nat.zero_mul] at *
      simp [ir19, ssB, List.idxOf?_cons, Go.Sx.LV.undef, Go.undef, Go.Sx.callO, Go.Sx.splice, Go.Sx.look, Go.Sx.push, Go.Sx.setObj, Go.Sx.setU, Go.Sx.setAll, Go.Sx.appO, Go.Sx.leI_eq, ltF, hh, hl, hid, hg, hlid, hne, hne', w, f1, f2, t1, t2, t4, hql, hla, g1, g4, g6, g8, g6', g8', hk', hk3, hk4, hk5, hk6, hk7, hk8, hk9, hk10, hk11, hk12, hk13, hA]
      refine fin _ _ rfl ?_ ?_
      · simp [Go.Sx.look, ltF]
      · omega
    · have hd : decide (a + b = 0) = false := by simp; omega
      rw [hd] at fin ⊢
      simp [ir19, ssB, List.idxOf?_cons, Go.Sx.LV.undef, Go.undef, Go.Sx.callO, Go.Sx.splice, Go.Sx.look, Go.Sx.push, Go.Sx.setObj, Go.Sx.setU, Go.Sx.setAll, Go.Sx.appO, Go.Sx.leI_eq, ltF, hh, hl, hid, hg, hlid, hne, hne', w, f1, f2, t1, t2, t3, t4, hql, hla, hlb, g1, g2, g3, g4, g5, g6, g7, g8, g6', g7', g8', hk', hk3, hk4, hk5, hk6, hk7, hk8, hk9, hk10, hk11, hk12, hk13, hA, hB, ← happ]
      refine fin _ _ rfl ?_ ?_
      · simp [Go.Sx.look, ltF]
      · omega
end drop
end Go.Proofs.YtjmnamichdegaaaGreatDoor
end

section
namespace Go.Proofs.YtjmnamichdegaaaGreatDoor
open Go Go.Sx
set_option linter.unusedSimpArgs false
set_option linter.unusedVariables false

section send
variable (xid room : Nat) (L : LV) (fs : List Fr) (F : List UInt8) (kd f t no : Int) (H : Heap) (nx : Nat)
def RBts (kd f t no : Int) (F : List UInt8) : Prop := ∀ (H : Heap) (nx : Nat), Ω 38 [.p (rn kd f t no)] H nx = some (.tuple [.p (.sl (bytP F) F.length 1 false), .int .i64 0], [], [])
/-- The document's list on the heap. -/
def RL (H : Heap) (nx xid : Nat) (L : LV) (fs : List Fr) : Prop := (L = .p (.s (.slice none 0 0)) ∧ fs = []) ∨ ∃ lid ex, L = .arr lid 0 fs.length 3 fs.length ex ∧ H lid = some (.cells (rr fs)) ∧ lid < nx ∧ xid ≠ lid
theorem RL.sl {H : Heap} {nx xid : Nat} {L : LV} {fs : List Fr} (h : RL H nx xid L fs) : RSl L fs.length := by
  rcases h with ⟨rfl, rfl⟩ | ⟨lid, ex, rfl, _⟩
  · exact .inl ⟨rfl, rfl⟩
  · exact .inr ⟨lid, ex, rfl⟩
theorem rsend_err (hb : ∀ (H : Heap) (nx : Nat), Ω 38 [.p (rn kd f t no)] H nx = some (.tuple [.p (.s (.slice none 0 0)), .int .i64 1], [], [])) :
    Ω 24 [.ref xid 0, .p (rn kd f t no)] H nx = some (.int .i64 1, [], []) := by
  refine om_run (ir := ir24) (by kernel_rfl) 0 ?_
  simp [ir24, ssB, List.idxOf?_cons, Go.Sx.LV.undef, Go.undef, Go.Sx.callO, Go.Sx.splice, Go.Sx.finish, Go.Sx.look, Go.Sx.push, Go.Sx.setObj, Go.Sx.setU, Go.Sx.setAll, Go.Sx.appO, Go.Sx.leI_eq, ltF, hb]
theorem rsend_full (hb : RBts kd f t no F) (hx : RL H nx xid L fs) (hk : room ≤ fs.length) (hl : H xid = some (.cells [L, .int .i64 room])) (hid : xid < nx) :
    Ω 24 [.ref xid 0, .p (rn kd f t no)] H nx = some (.int .i64 8, [], []) := by
  refine om_run (ir := ir24) (by kernel_rfl) 0 ?_
  have hb := fun H nx => hb H nx
  have hk' : ∀ k, xid < nx + k := fun k => by omega
  have hk2 : ∀ k, ¬ nx + k ≤ xid := fun k => by omega
  rcases hx with ⟨rfl, rfl⟩ | ⟨lid, ex, rfl, _⟩
  · have h1 : (room : Int) ≤ 0 := by simp at hk; omega
    have h2 : room = 0 := by simpa using hk
    simp [ir24, ssB, List.idxOf?_cons, Go.Sx.LV.undef, Go.undef, Go.Sx.callO, Go.Sx.splice, Go.Sx.finish, Go.Sx.look, Go.Sx.push, Go.Sx.setObj, Go.Sx.setU, Go.Sx.setAll, Go.Sx.appO, Go.Sx.leI_eq, ltF, hb, hl, hid, h1, h2, hk', hk2]
  · have h1 : (room : Int) ≤ fs.length := by omega
    simp [ir24, ssB, List.idxOf?_cons, Go.Sx.LV.undef, Go.undef, Go.Sx.callO, Go.Sx.splice, Go.Sx.finish, Go.Sx.look, Go.Sx.push, Go.Sx.setObj, Go.Sx.setU, Go.Sx.setAll, Go.Sx.appO, Go.Sx.leI_eq, ltF, hb, hl, hid, h1, hk, hk', hk2]
theorem rsend_ (hb : RBts kd f t no F) (hx : RL H nx xid L fs) (hk : fs.length < room) (hs : fs.length < 500) (hlo : Lo nx fs) (hl : H xid = some (.cells [L, .int .i64 room])) (hid : xid < nx) :
    Ω 24 [.ref xid 0, .p (rn kd f t no)] H nx = some (.int .i64 0, [(xid, some (.cells [.arr nx 0 (fs.length + 1) 3 (fs.length + 1) false, .int .i64 room]))], [some (.cells (rr (fs ++ [(.p (.sl (bytP F) F.length 1 false), t)])))]) := by
  refine om_run (ir := ir24) (by kernel_rfl) 0 ?_
  have hb := fun H nx => hb H nx
  have h1 : ¬ (room : Int) ≤ fs.length := by omega
  have h1' : ¬ room ≤ fs.length := by omega
  have hk' : ∀ k, xid < nx + k := fun k => by omega
  have hk3 : ∀ k, ¬ nx + k ≤ xid := fun k => by omega
  have hk6 : ¬ nx ≤ xid := by omega
  have hk8 : ∀ k, ¬ nx + k = xid := fun k => by omega
  have hk10 : ¬ nx = xid := by omega
  have hk12 : ¬ xid = nx := by omega
  have hR : (∀ i ∈ ids.idsL (rr (fs ++ [(.p (.sl (bytP F) F.length 1 false), t)])), i < nx) ∧ (ids.idsL (rr (fs ++ [(.p (.sl (bytP F) F.length 1 false), t)]))).length < 900 := by
    have := (Lo.app.2 ⟨hlo, (fun a ha => by rw [List.mem_singleton] at ha; subst ha; simp [Go.Sx.ids] : Lo nx [(LV.p (.sl (bytP F) F.length 1 false), t)])⟩).idsR
    rw [List.length_append] at this
    exact ⟨this.1, by have := this.2; simp only [List.length_cons, List.length_nil] at this; omega⟩
  have fin := fun h j => rfin (H := H) (nx := nx) (xid := xid) (K := fs.length + 1) (ex := false) (y := .int .i64 room) rfl hR.1 hR.2 h j 0
  have hap : rr (fs ++ [(.p (.sl (bytP F) F.length 1 false), t)]) = rr fs ++ [.p (.sl (bytP F) F.length 1 false), .int .i64 t, .p (.s (.slice none 0 0))] := by rw [rr_app]; rfl
  rw [hap] at hR fin ⊢
  clear hR hap
  rcases hx with ⟨rfl, rfl⟩ | ⟨lid, ex, rfl, hg, hlid, hne⟩
  · have g1 : ¬ (room : Int) ≤ 0 := by simp at hk; omega
    have g2 : ¬ room = 0 := by simp at hk; omega
    simp [ir24, ssB, List.idxOf?_cons, Go.Sx.LV.undef, Go.undef, Go.Sx.callO, Go.Sx.splice, Go.Sx.look, Go.Sx.push, Go.Sx.setObj, Go.Sx.setU, Go.Sx.setAll, Go.Sx.appO, Go.Sx.leI_eq, ltF, hb, hl, hid, g1, g2, hk', hk3, hk6, hk8, hk10, hk12, rr_nil]
    refine fin _ _ rfl ?_ ?_
    · simp [Go.Sx.look, ltF, rr_nil]
    · omega
  · have hk4 : ∀ k, lid < nx + k := fun k => by omega
    have hk5 : ∀ k, ¬ nx + k ≤ lid := fun k => by omega
    have hk7 : ¬ nx ≤ lid := by omega
    have hk9 : ∀ k, ¬ nx + k = lid := fun k => by omega
    have hk11 : ¬ nx = lid := by omega
    have hk13 : ¬ lid = nx := by omega
    have hne' : ¬ lid = xid := fun e => hne e.symm
    have hlen := rr_len fs
    have htk : List.take (fs.length * 3) (rr fs) = rr fs := by rw [← rr_len, List.take_length]
    by_cases h0 : fs.length = 0
    · have e := List.length_eq_zero_iff.1 h0
      subst e
      have g1 : ¬ (room : Int) ≤ 0 := by simp at hk; omega
      have g2 : ¬ room = 0 := by simp at hk; omega
      rw [rr_nil] at hg
      simp [ir24, ssB, List.idxOf?_cons, Go.Sx.LV.undef, Go.undef, Go.Sx.callO, Go.Sx.splice, Go.Sx.look, Go.Sx.push, Go.Sx.setObj, Go.Sx.setU, Go.Sx.setAll, Go.Sx.appO, Go.Sx.leI_eq, ltF, hb, hl, hg, hid, hlid, hne, hne', g1, g2, hk', hk3, hk4, hk5, hk6, hk7, hk8, hk9, hk10, hk11, hk12, hk13, rr_nil]
      refine fin _ _ rfl ?_ ?_
      · simp [Go.Sx.look, ltF, rr_nil]
      · omega
    · generalize rr fs = R at *
      generalize fs.length = K at *
      have g6 : K * 56 ≤ 1099511627776 := by omega
      have g6' : ¬ 1099511627776 < K * 56 := by omega
      have g8 : (K + 1) * 56 ≤ 1099511627776 := by omega
      have g8' : ¬ 1099511627776 < (K + 1) * 56 := by omega
      simp [ir24, ssB, List.idxOf?_cons, Go.Sx.LV.undef, Go.undef, Go.Sx.callO, Go.Sx.splice, Go.Sx.look, Go.Sx.push, Go.Sx.setObj, Go.Sx.setU, Go.Sx.setAll, Go.Sx.appO, Go.Sx.leI_eq, ltF, hb, hl, hg, hid, hlid, hne, hne', h1, h1', h0, hlen, htk, g6, g6', g8, g8', hk', hk3, hk4, hk5, hk6, hk7, hk8, hk9, hk10, hk11, hk12, hk13]
      refine fin _ _ rfl ?_ ?_
      · simp [Go.Sx.look, ltF]
      · omega
end send

section double
variable (xid lid room : Nat) (A B : List Fr) (a : Fr) (ex : Bool) (F : List UInt8) (H : Heap) (nx : Nat)
theorem rdouble_out (x : LV) (k : Nat) (i : Int) (y : LV) (hi : ¬ (0 ≤ i ∧ i < k)) (hx : RSl x k) (hl : H xid = some (.cells [x, y])) (hid : xid < nx) :
    Ω 20 [.ref xid 0, .int .i64 i] H nx = some (.int .i64 2, [], []) := by
  refine om_run (ir := ir20) (by kernel_rfl) 0 ?_
  have hh := fun H nx => rhas_f xid x y k H nx i hi hx
  simp [ir20, ssB, List.idxOf?_cons, Go.Sx.LV.undef, Go.undef, Go.Sx.callO, Go.Sx.splice, Go.Sx.finish, Go.Sx.look, Go.Sx.push, Go.Sx.setObj, Go.Sx.setU, Go.Sx.setAll, Go.Sx.appO, Go.Sx.leI_eq, ltF, hh, hl, hid]
theorem rdouble_full (i k : Nat) (hi : i < k) (hk : room ≤ k) (hl : H xid = some (.cells [.arr lid 0 k 3 k ex, .int .i64 room])) (hid : xid < nx) :
    Ω 20 [.ref xid 0, .int .i64 i] H nx = some (.int .i64 8, [], []) := by
  refine om_run (ir := ir20) (by kernel_rfl) 0 ?_
  have hh := fun H nx => rhas_t xid (.arr lid 0 k 3 k ex) (.int .i64 room) k H nx i hi (.inr ⟨_, _, rfl⟩)
  have h1 : (room : Int) ≤ k := by omega
  simp [ir20, ssB, List.idxOf?_cons, Go.Sx.LV.undef, Go.undef, Go.Sx.callO, Go.Sx.splice, Go.Sx.finish, Go.Sx.look, Go.Sx.push, Go.Sx.setObj, Go.Sx.setU, Go.Sx.setAll, Go.Sx.appO, Go.Sx.leI_eq, ltF, hh, hl, hid, h1, hk]
theorem rdouble_ (hw : Wh H nx a.1 F) (hk : A.length + 1 + B.length < room) (hs : A.length + 1 + B.length < 500) (hlo : Lo nx (A ++ a :: B))
    (hl : H xid = some (.cells [.arr lid 0 (A.length + 1 + B.length) 3 (A.length + 1 + B.length) ex, .int .i64 room])) (hg : H lid = some (.cells (rr (A ++ a :: B)))) (hid : xid < nx) (hlid : lid < nx) (hne : xid ≠ lid) :
    Ω 20 [.ref xid 0, .int .i64 A.length] H nx = some (.int .i64 0, [(xid, some (.cells [.arr nx 0 (A.length + 1 + B.length + 1) 3 (A.length + 1 + B.length + 1) false, .int .i64 room]))],
      [some (.cells (rr ((A ++ a :: B) ++ [a])))]) := by
  refine om_run (ir := ir20) (by kernel_rfl) 0 ?_
  have hh := fun H nx => rhas_t xid (.arr lid 0 (A.length + 1 + B.length) 3 (A.length + 1 + B.length) ex) (.int .i64 room) (A.length + 1 + B.length) H nx A.length (by omega) (.inr ⟨_, _, rfl⟩)
  have ht3 := rr_take3 A B a
  have hfl : (A ++ a :: B).length = A.length + 1 + B.length := by simp; omega
  have hlen := rr_len (A ++ a :: B)
  rw [hfl] at hlen
  have hap : rr ((A ++ a :: B) ++ [a]) = rr (A ++ a :: B) ++ [a.1, .int .i64 a.2, .p (.s (.slice none 0 0))] := by rw [rr_app (A ++ a :: B)]; rfl
  have htk : List.take ((A.length + 1 + B.length) * 3) (rr (A ++ a :: B)) = rr (A ++ a :: B) := by rw [← hlen, List.take_length]
  have hla := Lo.cons.1 (Lo.app.1 hlo).2
  have hR : (∀ i ∈ ids.idsL (rr ((A ++ a :: B) ++ [a])), i < nx) ∧ (ids.idsL (rr ((A ++ a :: B) ++ [a]))).length < 900 := by
    have h2 : Lo nx ((A ++ a :: B) ++ [a]) := Lo.app.2 ⟨hlo, fun b hb => by rw [List.mem_singleton] at hb; subst hb; exact hla.1⟩
    have h3 := h2.idsR
    rw [List.length_append, hfl] at h3
    exact ⟨h3.1, by have := h3.2; simp only [List.length_cons, List.length_nil] at this; omega⟩
  have fin := fun h j => rfin (H := H) (nx := nx) (xid := xid) (K := A.length + 1 + B.length + 1) (ex := false) (y := .int .i64 room) rfl hR.1 hR.2 h j 0
  rw [hap] at hR fin ⊢
  clear hR hlo hap hla hfl
  have hA : A.length < A.length + 1 + B.length := by omega
  generalize hK : A.length + 1 + B.length = K at *
  have hQl : A.length * 3 + 3 ≤ K * 3 := by omega
  have hK0 : ¬ K = 0 := by omega
  generalize rr (A ++ a :: B) = Q at *
  have h1 : ¬ (room : Int) ≤ K := by omega
  have h1' : ¬ room ≤ K := by omega
  have hk' : ∀ k, xid < nx + k := fun k => by omega
  have hk3 : ∀ k, ¬ nx + k ≤ xid := fun k => by omega
  have hk4 : ∀ k, lid < nx + k := fun k => by omega
  have hk5 : ∀ k, ¬ nx + k ≤ lid := fun k => by omega
  have hk6 : ¬ nx ≤ xid := by omega
  have hk7 : ¬ nx ≤ lid := by omega
  have hk8 : ∀ k, ¬ nx + k = xid := fun k => by omega
  have hk9 : ∀ k, ¬ nx + k = lid := fun k => by omega
  have hk10 : ¬ nx = xid := by omega
  have hk11 : ¬ nx = lid := by omega
  have hk12 : ¬ xid = nx := by omega
  have hk13 : ¬ lid = nx := by omega
  have hk14 : ∀ k, ¬ xid = nx + k := fun k => by omega
  have hk15 : ∀ k, ¬ lid = nx + k := fun k => by omega
  have hne' : ¬ lid = xid := fun e => hne e.symm
  have g6 : K * 56 ≤ 1099511627776 := by omega
  have g6' : ¬ 1099511627776 < K * 56 := by omega
  have g8 : (K + 1) * 56 ≤ 1099511627776 := by omega
  have g8' : ¬ 1099511627776 < (K + 1) * 56 := by omega
  obtain ⟨x, to⟩ := a
  dsimp only at hw ht3 fin
  rcases hw with rfl | ⟨id, cp', ex', rfl, e1, e2⟩
  · simp [ir20, ssB, List.idxOf?_cons, Go.Sx.LV.undef, Go.undef, Go.Sx.callO, Go.Sx.splice, Go.Sx.look, Go.Sx.push, Go.Sx.setObj, Go.Sx.setU, Go.Sx.setAll, Go.Sx.appO, Go.Sx.leI_eq, ltF, hh, hl, hg, hid, hlid, hne, hne', h1, h1', hK0, hk', hk3, hk4, hk5, hk6, hk7, hk8, hk9, hk10, hk11, hk12, hk13, hk14, hk15, hlen, htk, ht3, hA, hQl, g6, g6', g8, g8']
    refine fin _ _ rfl ?_ ?_
    · simp [Go.Sx.look, ltF]
    · omega
  · simp [ir20, ssB, List.idxOf?_cons, Go.Sx.LV.undef, Go.undef, Go.Sx.callO, Go.Sx.splice, Go.Sx.look, Go.Sx.push, Go.Sx.setObj, Go.Sx.setU, Go.Sx.setAll, Go.Sx.appO, Go.Sx.leI_eq, ltF, hh, hl, hg, hid, hlid, hne, hne', h1, h1', hK0, hk', hk3, hk4, hk5, hk6, hk7, hk8, hk9, hk10, hk11, hk12, hk13, hk14, hk15, hlen, htk, ht3, hA, hQl, g6, g6', g8, g8']
    refine fin _ _ rfl ?_ ?_
    · simp [Go.Sx.look, ltF]
    · omega
end double
end Go.Proofs.YtjmnamichdegaaaGreatDoor
end

section
namespace Go.Proofs.YtjmnamichdegaaaGreatDoor
open Go Go.Sx
set_option linter.unusedSimpArgs false
set_option linter.unusedVariables false

theorem rfin' {H : Heap} {nx xid K : Nat} {ex : Bool} {y r : LV} {R : List LV} (hy : ids y = []) (hR : ∀ i ∈ ids.idsL R, i < nx) (hl : (ids.idsL R).length < 900) (hr : ∀ h, frz nx h r = some r) (hri : ids r = []) (h : Hp) (j : Nat) (hu : h.upd = [(xid, some (.cells [.arr j 0 K 3 K ex, y]))]) (hj : Go.Sx.look H nx h j = some (.cells R)) (hge : nx ≤ j) :
    finish false H nx r h = some (r, [(xid, some (.cells [.arr nx 0 K 3 K ex, y]))], [some (.cells R)]) := by
  have a1 : ¬ j < nx := by omega
  exact finish_one (j := j) (.inr ⟨hr h, hri⟩) hj hge hR (by simp [hri, hu, updIds, Go.Sx.Obj.ids, Go.Sx.ids.idsL, Go.Sx.ids, hy]) (by simp [hri, hu, updIds, Go.Sx.Obj.ids, Go.Sx.ids.idsL, Go.Sx.ids, hy]) (by simp [hri, hu, updIds, Go.Sx.Obj.ids, Go.Sx.ids.idsL, Go.Sx.ids, hy]; omega) (ren_low nx [j] r (by simp [hri]))
      (by rw [hu]; simp [renU, renO, ren.go, ren_low nx [j] y (by simp [hy]), ren, renId, List.idxOf?_cons, a1])

section take
variable (xid lid : Nat) (A B : List Fr) (a : Fr) (F : List UInt8) (ex : Bool) (y : LV) (kd f t no : Int) (e : Int) (H : Heap) (nx : Nat)
theorem rtake_out (x : LV) (k : Nat) (i : Int) (hi : ¬ (0 ≤ i ∧ i < k)) (hx : RSl x k) (hl : H xid = some (.cells [x, y])) (hid : xid < nx) :
    Ω 18 [.ref xid 0, .int .i64 i] H nx = some (.tuple [.p (rn 0 0 0 0), .int .i64 2], [], []) := by
  refine om_run (ir := ir18) (by kernel_rfl) 0 ?_
  have hh := fun H nx => rhas_f xid x y k H nx i hi hx
  have hk : ∀ k, xid < nx + k := fun k => by omega
  simp [ir18, ssB, List.idxOf?_cons, Go.Sx.LV.undef, Go.undef, Go.Sx.callO, Go.Sx.splice, Go.Sx.finish, Go.Sx.look, Go.Sx.push, Go.Sx.setObj, Go.Sx.setU, Go.Sx.setAll, Go.Sx.appO, Go.Sx.leI_eq, ltF, hh, hl, hid, hk, rnew0]
theorem rtakes_ (hs : A.length + 1 + B.length < 500) (hw : Wh H nx a.1 F) (hr : RReads F (rn kd f t no) e) (hlo : Lo nx (A ++ B)) (hy : ids y = []) (hl : H xid = some (.cells [.arr lid 0 (A.length + 1 + B.length) 3 (A.length + 1 + B.length) ex, y])) (hg : H lid = some (.cells (rr (A ++ a :: B)))) (hid : xid < nx) (hlid : lid < nx) (hne : xid ≠ lid) :
    Ω 18 [.ref xid 0, .int .i64 A.length] H nx = some (.tuple [.p (rn kd f t no), .int .i64 e], [(xid, some (.cells [.arr nx 0 (A.length + B.length) 3 (A.length + B.length) (decide (A.length + B.length = 0)), y]))], [some (.cells (rr (A ++ B)))]) := by
  refine om_run (ir := ir18) (by kernel_rfl) 0 ?_
  have hh := fun H nx => rhas_t xid (.arr lid 0 (A.length + 1 + B.length) 3 (A.length + 1 + B.length) ex) y (A.length + 1 + B.length) H nx A.length (by omega) (.inr ⟨_, _, rfl⟩)
  have hd := fun (H : Heap) k => rdrop_ xid lid A B a ex y H (nx + k) hs (hlo.mono (by omega)) hy
  have ht3 := rr_take3 A B a
  have hlen := rr_len (A ++ a :: B)
  rw [List.length_append, List.length_cons, show A.length + (B.length + 1) = A.length + 1 + B.length by omega] at hlen
  have hR := hlo.idsR
  rw [List.length_append] at hR
  have fin := fun h j => rfin' (H := H) (nx := nx) (xid := xid) (K := A.length + B.length) (ex := decide (A.length + B.length = 0)) (r := .tuple [.p (rn kd f t no), .int .i64 e]) hy hR.1 (by have := hR.2; omega) (fun h => by simp [frz, frz.go, frzL]) rfl h j
  have hrs := fun (H : Heap) (nx : Nat) (hw : Wh H nx a.1 F) => hr a.1 H nx hw
  have hQl : A.length * 3 + 3 ≤ (A.length + 1 + B.length) * 3 := by omega
  have hA : A.length < A.length + 1 + B.length := by omega
  clear hR hlo
  generalize rr (A ++ a :: B) = Q at *
  generalize rr (A ++ B) = R at *
  generalize decide (A.length + B.length = 0) = dx at *
  have hk' : ∀ k, xid < nx + k := fun k => by omega
  have hk3 : ∀ k, ¬ nx + k ≤ xid := fun k => by omega
  have hk4 : ∀ k, lid < nx + k := fun k => by omega
  have hk5 : ∀ k, ¬ nx + k ≤ lid := fun k => by omega
  have hk8 : ∀ k, ¬ nx + k = xid := fun k => by omega
  have hk9 : ∀ k, ¬ nx + k = lid := fun k => by omega
  have hk10 : ¬ nx = xid := by omega
  have hk11 : ¬ nx = lid := by omega
  have hne' : ¬ lid = xid := fun e => hne e.symm
  obtain ⟨x, to⟩ := a
  dsimp only at hw ht3 hrs
  rcases hw with rfl | ⟨id, cp', ex', rfl, e1, e2⟩
  · have hrs := fun (H : Heap) (nx : Nat) => hrs H nx (.inl rfl)
    simp [ir18, ssB, List.idxOf?_cons, Go.Sx.LV.undef, Go.undef, Go.Sx.callO, Go.Sx.splice, Go.Sx.look, Go.Sx.push, Go.Sx.setObj, Go.Sx.setU, Go.Sx.setAll, Go.Sx.appO, Go.Sx.leI_eq, ltF, hh, hl, hg, hid, hlid, hne, hne', hd, hrs, hk', hk3, hk4, hk5, hk8, hk9, hk10, hk11, hlen, ht3, hA, hQl]
    refine fin _ _ rfl ?_ ?_
    · simp [Go.Sx.look, ltF]
    · omega
  · have hrs := fun (H : Heap) (nx : Nat) h1 h2 => hrs H nx (.inr ⟨id, cp', ex', rfl, h1, h2⟩)
    have d1 : ¬ id = xid := fun e => by
      rw [e, hl] at e1
      exact byt_no (F := F) (i := 0) (by rw [← Go.Sx.Obj.cells.inj (Option.some.inj e1)]; rfl)
    have k7 : ∀ k, id < nx + k := fun k => by omega
    simp [ir18, ssB, List.idxOf?_cons, Go.Sx.LV.undef, Go.undef, Go.Sx.callO, Go.Sx.splice, Go.Sx.look, Go.Sx.push, Go.Sx.setObj, Go.Sx.setU, Go.Sx.setAll, Go.Sx.appO, Go.Sx.leI_eq, ltF, hh, hl, hg, hid, hlid, hne, hne', hd, hrs, hk', hk3, hk4, hk5, hk8, hk9, hk10, hk11, hlen, ht3, hA, hQl, e1, e2, d1, k7]
    refine fin _ _ rfl ?_ ?_
    · simp [Go.Sx.look, ltF]
    · omega
end take

theorem spA (a b c x y z : LV) : splice [a, b, c] 0 [x, y, z] = [x, y, z] := rfl
theorem spB (a b c x : LV) : splice [a, b, c] 0 [x] = [x, b, c] := rfl
section turn
variable (xid lid : Nat) (A B : List Fr) (a : Fr) (F : List UInt8) (ex : Bool) (y : LV) (kd f t no : Int) (e : Int) (H : Heap) (nx : Nat)
theorem rturn_out (x : LV) (k : Nat) (i at' : Int) (v : UInt8) (hi : ¬ (0 ≤ i ∧ i < k)) (hx : RSl x k) (hl : H xid = some (.cells [x, y])) (hid : xid < nx) :
    Ω 21 [.ref xid 0, .int .i64 i, .int .i64 at', .int .u8 v.toNat] H nx = some (.int .i64 2, [], []) := by
  refine om_run (ir := ir21) (by kernel_rfl) 0 ?_
  have hh := fun H nx => rhas_f xid x y k H nx i hi hx
  simp [ir21, ssB, List.idxOf?_cons, Go.Sx.LV.undef, Go.undef, Go.Sx.callO, Go.Sx.splice, Go.Sx.finish, Go.Sx.look, Go.Sx.push, Go.Sx.setObj, Go.Sx.setU, Go.Sx.setAll, Go.Sx.appO, Go.Sx.leI_eq, ltF, hh, hl, hid]
theorem rturn_state (at' : Int) (v : UInt8) (hw : Wh H nx a.1 F) (he : e ≠ 0) (hr : RReads F (rn kd f t no) e) (hl : H xid = some (.cells [.arr lid 0 (A.length + 1 + B.length) 3 (A.length + 1 + B.length) ex, y])) (hg : H lid = some (.cells (rr (A ++ a :: B)))) (hid : xid < nx) (hlid : lid < nx) :
    Ω 21 [.ref xid 0, .int .i64 A.length, .int .i64 at', .int .u8 v.toNat] H nx = some (.int .i64 12, [], []) := by
  refine om_run (ir := ir21) (by kernel_rfl) 0 ?_
  have hh := fun H nx => rhas_t xid (.arr lid 0 (A.length + 1 + B.length) 3 (A.length + 1 + B.length) ex) y (A.length + 1 + B.length) H nx A.length (by omega) (.inr ⟨_, _, rfl⟩)
  have ht3 := rr_take3 A B a
  have hlen := rr_len (A ++ a :: B)
  rw [List.length_append, List.length_cons, show A.length + (B.length + 1) = A.length + 1 + B.length by omega] at hlen
  have hrs := fun (H : Heap) (nx : Nat) (hw : Wh H nx a.1 F) => hr a.1 H nx hw
  have hQl : A.length * 3 + 3 ≤ (A.length + 1 + B.length) * 3 := by omega
  have hA : A.length < A.length + 1 + B.length := by omega
  generalize rr (A ++ a :: B) = Q at *
  have hk' : ∀ k, xid < nx + k := fun k => by omega
  have hk4 : ∀ k, lid < nx + k := fun k => by omega
  obtain ⟨x, to⟩ := a
  dsimp only at hw ht3 hrs
  rcases hw with rfl | ⟨id, cp', ex', rfl, e1, e2⟩
  · have hrs := fun (H : Heap) (nx : Nat) => hrs H nx (.inl rfl)
    simp [ir21, ssB, List.idxOf?_cons, Go.Sx.LV.undef, Go.undef, Go.Sx.callO, Go.Sx.splice, Go.Sx.finish, Go.Sx.look, Go.Sx.push, Go.Sx.setObj, Go.Sx.setU, Go.Sx.setAll, Go.Sx.appO, Go.Sx.leI_eq, ltF, hh, hl, hg, hid, hlid, hrs, he, hk', hk4, hlen, ht3, hA, hQl]
  · have hrs := fun (H : Heap) (nx : Nat) h1 h2 => hrs H nx (.inr ⟨id, cp', ex', rfl, h1, h2⟩)
    have k7 : ∀ k, id < nx + k := fun k => by omega
    simp [ir21, ssB, List.idxOf?_cons, Go.Sx.LV.undef, Go.undef, Go.Sx.callO, Go.Sx.splice, Go.Sx.finish, Go.Sx.look, Go.Sx.push, Go.Sx.setObj, Go.Sx.setU, Go.Sx.setAll, Go.Sx.appO, Go.Sx.leI_eq, ltF, hh, hl, hg, hid, hlid, hrs, he, hk', hk4, hlen, ht3, hA, hQl, e1, e2, k7]
theorem rturn_ (at' : Int) (v b : UInt8) (m : Nat) (h30 : F.length < 2 ^ 31) (hF : 0 < F.length) (hs : A.length + 1 + B.length < 400) (hw : Wh H nx a.1 F) (hr : RReads F (rn kd f t no) 0) (hm : at'.emod F.length = m) (hb : F[m]? = some b) (hlo : Lo nx (A ++ B)) (hy : ids y = [])
    (hl : H xid = some (.cells [.arr lid 0 (A.length + 1 + B.length) 3 (A.length + 1 + B.length) ex, y])) (hg : H lid = some (.cells (rr (A ++ a :: B)))) (hid : xid < nx) (hlid : lid < nx) (hne : xid ≠ lid) :
    Ω 21 [.ref xid 0, .int .i64 A.length, .int .i64 at', .int .u8 v.toNat] H nx = some (.int .i64 0, [(xid, some (.cells [.arr nx 0 (A.length + 1 + B.length) 3 (A.length + 1 + B.length) false, y]))],
      [some (.cells (rr (A ++ (.arr (nx + 1) 0 F.length 1 F.length false, a.2) :: B))), some (.cells (byt (F.set m (b ^^^ v))))]) := by
  refine om_run (ir := ir21) (by kernel_rfl) 0 ?_
  have hh := fun H nx => rhas_t xid (.arr lid 0 (A.length + 1 + B.length) 3 (A.length + 1 + B.length) ex) y (A.length + 1 + B.length) H nx A.length (by omega) (.inr ⟨_, _, rfl⟩)
  have ht3 := rr_take3 A B a
  have hlen := rr_len (A ++ a :: B)
  rw [List.length_append, List.length_cons, show A.length + (B.length + 1) = A.length + 1 + B.length by omega] at hlen
  have htk : List.take ((A.length + 1 + B.length) * 3) (rr (A ++ a :: B)) = rr (A ++ a :: B) := by rw [← hlen, List.take_length]
  have hrs := fun (H : Heap) (nx : Nat) (hw : Wh H nx a.1 F) => hr a.1 H nx hw
  have hQl : A.length * 3 + 3 ≤ (A.length + 1 + B.length) * 3 := by omega
  have hA : A.length < A.length + 1 + B.length := by omega
  have hlA := rr_len A
  have hsp3 : ∀ q, splice (rr (A ++ a :: B)) (A.length * 3) [q, .int .i64 a.2, .p (.s (.slice none 0 0))] = rr (A ++ (q, a.2) :: B) := fun q => by
    rw [rr_app, rr_cons, rr_app, rr_cons]
    simp only [splice, List.length_cons, List.length_nil, List.append_assoc]
    rw [List.take_left' hlA, ← List.drop_drop, List.drop_left' hlA]
    rfl
  obtain ⟨hmF, _⟩ := List.getElem?_eq_some_iff.1 hb
  have hrem := binI_rem .i64 at' F.length (by omega)
  have hbb : (byt F)[m]? = some (.int .u8 b.toNat) := by simp [byt, hb]
  have hx := xor_u8 b v
  have hsp : splice (byt F) m [.int .u8 (b ^^^ v).toNat] = byt (F.set m (b ^^^ v)) := (by simp [splice] : splice (byt F) m [.int .u8 (b ^^^ v).toNat] = List.take m (byt F) ++ .int .u8 (b ^^^ v).toNat :: List.drop (m + 1) (byt F)).trans (splice_byt F m (b ^^^ v) hmF)
  generalize hv : b ^^^ v = w at *
  have hmF1 : m + 1 ≤ F.length := by omega
  have hbb2 : ∀ h : m < (byt F).length, (byt F)[m] = .int .u8 b.toNat := fun h => (List.getElem?_eq_some_iff.1 hbb).2
  have hte := Int.tmod_eq_emod (a := at') (b := F.length)
  have hem0 := Int.emod_nonneg at' (show (F.length : Int) ≠ 0 by omega)
  change 0 ≤ at'.emod F.length at hem0
  change at'.tmod F.length = at'.emod F.length - _ at hte
  have hw1 : at'.tmod F.length < 0 → IntKind.i64.wrap (at'.tmod F.length + F.length) = m := fun hneg => by
    split at hte
    · omega
    · rw [wrap_i64 _ (by omega) (by omega)]; omega
  have hw2 : ¬ at'.tmod F.length < 0 → at'.tmod F.length = m := fun hneg => by
    split at hte
    · omega
    · have hlt := Int.emod_lt_of_pos at' (show (0 : Int) < F.length by omega)
      change at'.emod F.length < _ at hlt
      omega
  have hF0 : ¬ F.length = 0 := by omega
  have hids : ∀ j, ids.idsL (rr (A ++ (.arr j 0 F.length 1 F.length false, a.2) :: B)) = ids.idsL (rr A) ++ j :: ids.idsL (rr B) := fun j => by
    rw [rr_app, rr_cons, ids_app]
    simp [Go.Sx.ids.idsL, Go.Sx.ids]
  obtain ⟨lA, lB⟩ := Lo.app.1 hlo
  have fin : ∀ (h : Hp) (j1 j2 : Nat) (G : List UInt8), h.upd = [(xid, some (.cells [.arr j1 0 (A.length + 1 + B.length) 3 (A.length + 1 + B.length) false, y]))] → Go.Sx.look H nx h j1 = some (.cells (rr (A ++ (.arr j2 0 F.length 1 F.length false, a.2) :: B))) → Go.Sx.look H nx h j2 = some (.cells (byt G)) → nx ≤ j1 → nx ≤ j2 → j1 ≠ j2 →
      finish false H nx (.int .i64 0) h = some (.int .i64 0, [(xid, some (.cells [.arr nx 0 (A.length + 1 + B.length) 3 (A.length + 1 + B.length) false, y]))], [some (.cells (rr (A ++ (.arr (nx + 1) 0 F.length 1 F.length false, a.2) :: B))), some (.cells (byt G))]) := fun h j1 j2 G hu h1 h2 g1 g2 hj => by
    have a1 : ¬ j1 < nx := by omega
    have a2 : ¬ j2 < nx := by omega
    have cA := lA.idsR
    have cB := lB.idsR
    refine finish_two (.inr ⟨rfl, rfl⟩) (by simp [hu, updIds, Go.Sx.Obj.ids, Go.Sx.ids.idsL, Go.Sx.ids, hy]) h1 g1 h2 g2 hj ?_ ?_ (by simp [Go.Sx.Obj.ids, ids_byt]) ?_ rfl ?_ ?_
    · intro i hi
      simp only [Go.Sx.Obj.ids, hids] at hi
      rcases List.mem_append.1 hi with hi | hi
      · exact .inr (cA.1 i hi)
      · rcases List.mem_cons.1 hi with rfl | hi
        · exact .inl rfl
        · exact .inr (cB.1 i hi)
    · simp only [Go.Sx.Obj.ids, hids]
      exact List.mem_append_right _ List.mem_cons_self
    · simp only [Go.Sx.Obj.ids, hids, ids_byt, List.length_append, List.length_cons, List.length_nil]
      have := cA.2
      have := cB.2
      omega
    · rw [hu]
      simp [renU, renO, ren.go, ren_low nx [j1, j2] y (by simp [hy]), ren, renId, List.idxOf?_cons, a1]
    · have e1 := ren_go_low nx [j1, j2] (rr A) cA.1
      have e2 := ren_go_low nx [j1, j2] (rr B) cB.1
      have ga : ∀ (X Y X' Y' : List LV), ren.go nx [j1, j2] X = some X' → ren.go nx [j1, j2] Y = some Y' → ren.go nx [j1, j2] (X ++ Y) = some (X' ++ Y') := by
        intro X
        induction X with
        | nil => intro Y X' Y' h1 h2; simp [ren.go] at h1; subst h1; exact h2
        | cons x X ih =>
          intro Y X' Y' h1 h2
          rw [ren.go] at h1
          split at h1
          · rename_i y l e3 e4
            obtain rfl := Option.some.inj h1
            rw [List.cons_append, ren.go, e3, ih Y l Y' e4 h2]
            rfl
          · cases h1
      rw [rr_app, rr_cons, rr_app, rr_cons, renO, ga (rr A) _ (rr A) (.arr (nx + 1) 0 F.length 1 F.length false :: .int .i64 a.2 :: .p (.s (.slice none 0 0)) :: rr B) e1]
      have hj' : ¬ j2 = j1 := fun e => hj e.symm
      simp [ren.go, e2, ren, renId, List.idxOf?_cons, a2, hj, hj']
  clear hids lA lB hlo
  generalize A.length + 1 + B.length = K at *
  have hK0 : ¬ K = 0 := by omega
  generalize rr (A ++ a :: B) = Q at *
  have hk' : ∀ k, xid < nx + k := fun k => by omega
  have hk3 : ∀ k, ¬ nx + k ≤ xid := fun k => by omega
  have hk4 : ∀ k, lid < nx + k := fun k => by omega
  have hk5 : ∀ k, ¬ nx + k ≤ lid := fun k => by omega
  have hk6 : ¬ nx ≤ xid := by omega
  have hk7 : ¬ nx ≤ lid := by omega
  have hk8 : ∀ k, ¬ nx + k = xid := fun k => by omega
  have hk9 : ∀ k, ¬ nx + k = lid := fun k => by omega
  have hk10 : ¬ nx = xid := by omega
  have hk11 : ¬ nx = lid := by omega
  have hk12 : ¬ xid = nx := by omega
  have hk13 : ¬ lid = nx := by omega
  have hk14 : ∀ k, ¬ xid = nx + k := fun k => by omega
  have hk15 : ∀ k, ¬ lid = nx + k := fun k => by omega
  have hne' : ¬ lid = xid := fun e => hne e.symm
  have g6 : K * 56 ≤ 1099511627776 := by omega
  have g6' : ¬ 1099511627776 < K * 56 := by omega
  have g7 : F.length ≤ 1099511627776 := by omega
  have g7' : ¬ 1099511627776 < F.length := by omega
  obtain ⟨x, to⟩ := a
  dsimp only at hw ht3 hrs hsp3 fin
  rcases hw with rfl | ⟨id, cp', ex', rfl, e1, e2⟩
  · have hrs := fun (H : Heap) (nx : Nat) => hrs H nx (.inl rfl)
    by_cases hneg : at'.tmod F.length < 0
    · have g1 : ¬ (0 : Int) ≤ at'.tmod F.length := by omega
      have hw1 := hw1 hneg
      simp [ir21, ssB, List.idxOf?_cons, Go.Sx.LV.undef, Go.undef, Go.Sx.callO, Go.Sx.look, Go.Sx.push, Go.Sx.setObj, Go.Sx.setU, Go.Sx.setAll, Go.Sx.appO, Go.Sx.leI_eq, ltF, hh, hl, hg, hid, hlid, hne, hne', hrs, hrem, hw1, g1, hk', hk3, hk4, hk5, hk6, hk7, hk8, hk9, hk10, hk11, hk12, hk13, hk14, hk15, hlen, htk, ht3, hA, hQl, hK0, hF0, hmF, hmF1, hbb, hbb2, hx, hsp, hsp3, g6, g6', g7, g7', bytP_map, bytP_len, byt_len, spA, spB, sp0]
      exact fin _ (nx + 5) (nx + 3) _ rfl (by simp [Go.Sx.look, ltF]) (by simp [Go.Sx.look, ltF, take_byt, hsp]) (by omega) (by omega) (by omega)
    · have g1 : (0 : Int) ≤ at'.tmod F.length := by omega
      have hw2 := hw2 hneg
      simp [ir21, ssB, List.idxOf?_cons, Go.Sx.LV.undef, Go.undef, Go.Sx.callO, Go.Sx.look, Go.Sx.push, Go.Sx.setObj, Go.Sx.setU, Go.Sx.setAll, Go.Sx.appO, Go.Sx.leI_eq, ltF, hh, hl, hg, hid, hlid, hne, hne', hrs, hrem, hw2, g1, hk', hk3, hk4, hk5, hk6, hk7, hk8, hk9, hk10, hk11, hk12, hk13, hk14, hk15, hlen, htk, ht3, hA, hQl, hK0, hF0, hmF, hmF1, hbb, hbb2, hx, hsp, hsp3, g6, g6', g7, g7', bytP_map, bytP_len, byt_len, spA, spB, sp0]
      exact fin _ (nx + 5) (nx + 3) _ rfl (by simp [Go.Sx.look, ltF]) (by simp [Go.Sx.look, ltF, take_byt, hsp]) (by omega) (by omega) (by omega)
  · have hrs := fun (H : Heap) (nx : Nat) h1 h2 => hrs H nx (.inr ⟨id, cp', ex', rfl, h1, h2⟩)
    have k7 : ∀ k, id < nx + k := fun k => by omega
    have d1 : ¬ id = xid := fun e => by
      rw [e, hl] at e1
      exact byt_no (F := F) (i := 0) (by rw [← Go.Sx.Obj.cells.inj (Option.some.inj e1)]; rfl)
    by_cases hneg : at'.tmod F.length < 0
    · have g1 : ¬ (0 : Int) ≤ at'.tmod F.length := by omega
      have hw1 := hw1 hneg
      simp [ir21, ssB, List.idxOf?_cons, Go.Sx.LV.undef, Go.undef, Go.Sx.callO, Go.Sx.look, Go.Sx.push, Go.Sx.setObj, Go.Sx.setU, Go.Sx.setAll, Go.Sx.appO, Go.Sx.leI_eq, ltF, hh, hl, hg, hid, hlid, hne, hne', hrs, hrem, hw1, g1, hk', hk3, hk4, hk5, hk6, hk7, hk8, hk9, hk10, hk11, hk12, hk13, hk14, hk15, hlen, htk, ht3, hA, hQl, hK0, hF0, hmF, hmF1, hbb, hbb2, hx, hsp, hsp3, g6, g6', g7, g7', bytP_map, bytP_len, byt_len, spA, spB, sp0, e1, e2, d1, k7]
      exact fin _ (nx + 5) (nx + 3) _ rfl (by simp [Go.Sx.look, ltF]) (by simp [Go.Sx.look, ltF, take_byt, hsp]) (by omega) (by omega) (by omega)
    · have g1 : (0 : Int) ≤ at'.tmod F.length := by omega
      have hw2 := hw2 hneg
      simp [ir21, ssB, List.idxOf?_cons, Go.Sx.LV.undef, Go.undef, Go.Sx.callO, Go.Sx.look, Go.Sx.push, Go.Sx.setObj, Go.Sx.setU, Go.Sx.setAll, Go.Sx.appO, Go.Sx.leI_eq, ltF, hh, hl, hg, hid, hlid, hne, hne', hrs, hrem, hw2, g1, hk', hk3, hk4, hk5, hk6, hk7, hk8, hk9, hk10, hk11, hk12, hk13, hk14, hk15, hlen, htk, ht3, hA, hQl, hK0, hF0, hmF, hmF1, hbb, hbb2, hx, hsp, hsp3, g6, g6', g7, g7', bytP_map, bytP_len, byt_len, spA, spB, sp0, e1, e2, d1, k7]
      exact fin _ (nx + 5) (nx + 3) _ rfl (by simp [Go.Sx.look, ltF]) (by simp [Go.Sx.look, ltF, take_byt, hsp]) (by omega) (by omega) (by omega)
end turn
end Go.Proofs.YtjmnamichdegaaaGreatDoor
end

section
namespace Go.Proofs.YtjmnamichdegaaaGreatDoor
open Go Go.Sx
set_option linter.unusedSimpArgs false
set_option linter.unusedVariables false

/-- A list that grows, in a heap of its own. -/
def GF (H : Heap) (nx : Nat) (h : Hp) (x : LV) (L : List Fr) : Prop := h.upd = [] ∧ ((x = .p (.s (.slice none 0 0)) ∧ L = []) ∨ ∃ id, x = .arr id 0 L.length 3 L.length false ∧ nx ≤ id ∧ id < nx + h.new.length ∧ Go.Sx.look H nx h id = some (.cells (rr L)))

section clear
variable {H : Heap} {nx : Nat} {xid lid K : Nat} {cs : List LV} {t : Int} {a : Fr} {L : List Fr} {ex : Bool}
theorem low_look {h : Hp} (hu : h.upd = []) {i : Nat} (hi : i < nx) : Go.Sx.look H nx h i = H i := by
  simp [Go.Sx.look, hi, hu, findU]
theorem look_nil {i : Nat} (hi : i < nx) : Go.Sx.look H nx ⟨[], []⟩ i = H i := low_look rfl hi
theorem rcl_skip {N : Nat} {h : Hp} (hu : h.upd = []) {x5 : LV} {j : Nat} (hj : j < K) (hK : K < 2 ^ 31) (h3 : List.take 3 (List.drop (j * 3) cs) = [a.1, .int .i64 a.2, .p (.s (.slice none 0 0))]) (hcs : j * 3 + 3 ≤ cs.length) (hv : Fv nx a.1) (hg : H lid = some (.cells cs)) (hlid : lid < nx) (ht : a.2 = t) :
    ∃ h', runCS ⟨Ω, noG, H, nx⟩ N ir22_0 ⟨[(0, .ref xid 0), (1, .int .i64 t), (5, x5), (12, .arr lid 0 K 3 K ex), (13, .int .i64 K), (14, .int .i64 j)], h⟩ =
      some (.normal, ⟨[(0, .ref xid 0), (1, .int .i64 t), (5, x5), (12, .arr lid 0 K 3 K ex), (13, .int .i64 K), (14, .int .i64 (j + 1 : Nat))], h'⟩) ∧ h'.upd = [] ∧ h.new.length ≤ h'.new.length ∧ (∀ i, i < nx + h.new.length → Go.Sx.look H nx h' i = Go.Sx.look H nx h i) := by
  have h8 : ¬ (K : Int) ≤ j := by omega
  have h8' : (j : Int) < K := by omega
  have hw : IntKind.i64.wrap ((j : Int) + 1) = (j : Int) + 1 := wrap_i64 _ (by omega) (by omega)
  have hl : Go.Sx.look H nx h lid = some (.cells cs) := by rw [low_look hu hlid]; exact hg
  have hln : ∀ k, ¬ lid = nx + (h.new.length + k) := fun k => by omega
  have hln0 : ¬ lid = nx + h.new.length := by omega
  have lt0 : nx + h.new.length < nx + (h.new.length + 1) := by omega
  have nl : ¬ nx + h.new.length < nx := by omega
  refine ⟨Go.Sx.setObj nx (push h (.cells [.p (.s (.slice none 0 0)), .int .i64 0, .p (.s (.slice none 0 0))])) (nx + h.new.length) (some (.cells [a.1, .int .i64 a.2, .p (.s (.slice none 0 0))])), ?_, ?_, ?_, ?_⟩
  · obtain ⟨x, to⟩ := a
    subst ht
    dsimp only at hv h3
    have hsp : ∀ a b c x y z : LV, splice [a, b, c] 0 [x, y, z] = [x, y, z] := fun _ _ _ _ _ _ => rfl
    rcases hv with ⟨F, rfl⟩ | ⟨id, n, cp, ex', rfl, hid⟩
    · simp [ir22_0, ssB, List.idxOf?_cons, Go.Sx.LV.undef, Go.undef, callO_A, aft_nil, aft_one, Go.Sx.splice, Go.Sx.finish, Go.Sx.setAll, Go.Sx.appO, Go.Sx.leI_eq, ltF, h8, h8', hw, hl, hj, hcs, h3, look_push, push_len, setObj_len, look_set', hln, hln0, lt0, hsp]
    · simp [ir22_0, ssB, List.idxOf?_cons, Go.Sx.LV.undef, Go.undef, callO_A, aft_nil, aft_one, Go.Sx.splice, Go.Sx.finish, Go.Sx.setAll, Go.Sx.appO, Go.Sx.leI_eq, ltF, h8, h8', hw, hl, hj, hcs, h3, look_push, push_len, setObj_len, look_set', hln, hln0, lt0, hsp]
  · rw [setObj_upd _ _ _ _ nl, push_upd, hu]
  · rw [setObj_len, push_len]; omega
  · intro i hi
    rw [look_set' (by rw [push_len]; omega), if_neg (by omega), look_push, if_neg (by omega)]

theorem rcl_keep {N : Nat} {h : Hp} {x5 : LV} (g : GF H nx h x5 L) {j : Nat} (hj : j < K) (hK : K < 2 ^ 31) (hL : L.length ≤ j) (hKs : K < 1000) (h3 : List.take 3 (List.drop (j * 3) cs) = [a.1, .int .i64 a.2, .p (.s (.slice none 0 0))]) (hcs : j * 3 + 3 ≤ cs.length) (hv : Fv nx a.1) (hg : H lid = some (.cells cs)) (hlid : lid < nx) (ht : ¬ a.2 = t) :
    ∃ x' h', runCS ⟨Ω, noG, H, nx⟩ N ir22_0 ⟨[(0, .ref xid 0), (1, .int .i64 t), (5, x5), (12, .arr lid 0 K 3 K ex), (13, .int .i64 K), (14, .int .i64 j)], h⟩ =
      some (.normal, ⟨[(0, .ref xid 0), (1, .int .i64 t), (5, x'), (12, .arr lid 0 K 3 K ex), (13, .int .i64 K), (14, .int .i64 (j + 1 : Nat))], h'⟩) ∧ GF H nx h' x' (L ++ [a]) := by
  have hu := g.1
  have h8 : ¬ (K : Int) ≤ j := by omega
  have h8' : (j : Int) < K := by omega
  have hw : IntKind.i64.wrap ((j : Int) + 1) = (j : Int) + 1 := wrap_i64 _ (by omega) (by omega)
  have hl : Go.Sx.look H nx h lid = some (.cells cs) := by rw [low_look hu hlid]; exact hg
  have hln : ∀ k, ¬ lid = nx + (h.new.length + k) := fun k => by omega
  have hln0 : ¬ lid = nx + h.new.length := by omega
  have lt0 : nx + h.new.length < nx + (h.new.length + 1) := by omega
  have nl : ¬ nx + h.new.length < nx := by omega
  have hsp : ∀ a b c x y z : LV, splice [a, b, c] 0 [x, y, z] = [x, y, z] := fun _ _ _ _ _ _ => rfl
  rcases g.2 with ⟨rfl, rfl⟩ | ⟨id, rfl, g1, g2, g3⟩
  · refine ⟨.arr (nx + (h.new.length + 2)) 0 1 3 1 false, push (push (Go.Sx.setObj nx (push h (.cells [.p (.s (.slice none 0 0)), .int .i64 0, .p (.s (.slice none 0 0))])) (nx + h.new.length) (some (.cells [a.1, .int .i64 a.2, .p (.s (.slice none 0 0))]))) (.cells [a.1, .int .i64 a.2, .p (.s (.slice none 0 0))])) (.cells (rr [a])), ?_, ?_, .inr ⟨nx + (h.new.length + 2), rfl, by omega, ?_, ?_⟩⟩
    · obtain ⟨x, to⟩ := a
      dsimp only at hv h3 ht
      rcases hv with ⟨F, rfl⟩ | ⟨id, n, cp, ex', rfl, hid⟩
      · simp [ir22_0, ssB, List.idxOf?_cons, Go.Sx.LV.undef, Go.undef, callO_A, aft_nil, aft_one, Go.Sx.splice, Go.Sx.finish, Go.Sx.setAll, Go.Sx.appO, Go.Sx.leI_eq, ltF, h8, h8', hw, hl, hj, hcs, h3, look_push, push_len, setObj_len, look_set', hln, hln0, lt0, hsp, ht, rr]
      · simp [ir22_0, ssB, List.idxOf?_cons, Go.Sx.LV.undef, Go.undef, callO_A, aft_nil, aft_one, Go.Sx.splice, Go.Sx.finish, Go.Sx.setAll, Go.Sx.appO, Go.Sx.leI_eq, ltF, h8, h8', hw, hl, hj, hcs, h3, look_push, push_len, setObj_len, look_set', hln, hln0, lt0, hsp, ht, rr]
    · rw [push_upd, push_upd, setObj_upd _ _ _ _ nl, push_upd, hu]
    · rw [push_len, push_len, setObj_len, push_len]; omega
    · rw [look_push, push_len, setObj_len, push_len]; simp
  · have hLl := rr_len L
    have hi0 : ¬ id = nx + h.new.length := by omega
    have hi1 : id < nx + (h.new.length + 1) := by omega
    have hin : ¬ id < nx := by omega
    have g6 : (L.length + 1) * 56 ≤ 1099511627776 := by omega
    have g6' : ¬ 1099511627776 < (L.length + 1) * 56 := by omega
    have hi2 : ∀ k, ¬ id = nx + (h.new.length + k) := fun k => by omega
    refine ⟨.arr (nx + (h.new.length + 2)) 0 (L.length + 1) 3 (L.length + 1) false, push (Go.Sx.setObj nx (push (Go.Sx.setObj nx (push h (.cells [.p (.s (.slice none 0 0)), .int .i64 0, .p (.s (.slice none 0 0))])) (nx + h.new.length) (some (.cells [a.1, .int .i64 a.2, .p (.s (.slice none 0 0))]))) (.cells [a.1, .int .i64 a.2, .p (.s (.slice none 0 0))])) id none) (.cells (rr (L ++ [a]))), ?_, ?_, .inr ⟨nx + (h.new.length + 2), by simp, by omega, ?_, ?_⟩⟩
    · obtain ⟨x, to⟩ := a
      dsimp only at hv h3 ht
      have hrr : rr (L ++ [(x, to)]) = rr L ++ [x, .int .i64 to, .p (.s (.slice none 0 0))] := by simp [rr]
      generalize rr L = R at *
      rcases hv with ⟨F, rfl⟩ | ⟨id', n, cp, ex', rfl, hid⟩
      · simp [ir22_0, ssB, List.idxOf?_cons, Go.Sx.LV.undef, Go.undef, callO_A, aft_nil, aft_one, Go.Sx.splice, Go.Sx.finish, Go.Sx.setAll, Go.Sx.appO, Go.Sx.leI_eq, ltF, h8, h8', hw, hl, hj, hcs, h3, look_push, push_len, setObj_len, look_set', hln, hln0, lt0, hsp, ht, hrr, hLl, hi0, hi1, g6, g6', g3, hi2]
      · simp [ir22_0, ssB, List.idxOf?_cons, Go.Sx.LV.undef, Go.undef, callO_A, aft_nil, aft_one, Go.Sx.splice, Go.Sx.finish, Go.Sx.setAll, Go.Sx.appO, Go.Sx.leI_eq, ltF, h8, h8', hw, hl, hj, hcs, h3, look_push, push_len, setObj_len, look_set', hln, hln0, lt0, hsp, ht, hrr, hLl, hi0, hi1, g6, g6', g3, hi2]
    · rw [push_upd, setObj_upd _ _ _ _ hin, push_upd, setObj_upd _ _ _ _ nl, push_upd, hu]
    · rw [push_len, setObj_len, push_len, setObj_len, push_len]; omega
    · rw [look_push, setObj_len, push_len, setObj_len, push_len]; simp
theorem rcl_out {N : Nat} {h : Hp} {x5 x12 : LV} : runCS ⟨Ω, noG, H, nx⟩ N ir22_0 ⟨[(0, .ref xid 0), (1, .int .i64 t), (5, x5), (12, x12), (13, .int .i64 K), (14, .int .i64 K)], h⟩ =
    some (.exit 0, ⟨[(0, .ref xid 0), (1, .int .i64 t), (5, x5), (12, x12), (13, .int .i64 K), (14, .int .i64 K), (15, .bool false)], h⟩) := by
  simp [ir22_0, ssB, List.idxOf?_cons, Go.Sx.LV.undef, Go.undef, Go.Sx.callO, Go.Sx.splice, Go.Sx.finish, Go.Sx.look, Go.Sx.push, Go.Sx.setObj, Go.Sx.setU, Go.Sx.setAll, Go.Sx.appO, Go.Sx.leI_eq, ltF]
theorem rcl_all {N : Nat} (hK : K < 1000) (l : List Fr) (hl : l.length = K) (hv : ∀ a ∈ l, Fv nx a.1) (hg : H lid = some (.cells (rr l))) (hlid : lid < nx) : ∀ (k m j : Nat) (x5 : LV) (h : Hp), GF H nx h x5 (left t (l.take j)) → j + k = K → k < m →
    ∃ x' h', iter (runCS ⟨Ω, noG, H, nx⟩ N ir22_0) m ⟨[(0, .ref xid 0), (1, .int .i64 t), (5, x5), (12, .arr lid 0 K 3 K ex), (13, .int .i64 K), (14, .int .i64 j)], h⟩ =
      some (.exit 0, ⟨[(0, .ref xid 0), (1, .int .i64 t), (5, x'), (12, .arr lid 0 K 3 K ex), (13, .int .i64 K), (14, .int .i64 K), (15, .bool false)], h'⟩) ∧ GF H nx h' x' (left t l) := by
  intro k
  induction k with
  | zero =>
    intro m j x5 h g hj hm
    obtain ⟨m, rfl⟩ : ∃ q, m = q + 1 := ⟨m - 1, by omega⟩
    obtain rfl : j = K := by omega
    refine ⟨x5, h, iter_out rcl_out (by simp), ?_⟩
    rw [List.take_of_length_le (by omega)] at g
    exact g
  | succ k ih =>
    intro m j x5 h g hj hm
    obtain ⟨m, rfl⟩ : ∃ q, m = q + 1 := ⟨m - 1, by omega⟩
    have hjl : j < l.length := by omega
    have hsplit : l = l.take j ++ l[j] :: l.drop (j + 1) := by rw [List.getElem_cons_drop, List.take_append_drop]
    have htl : (l.take j).length = j := by rw [List.length_take]; omega
    have h3 : List.take 3 (List.drop (j * 3) (rr l)) = [l[j].1, .int .i64 l[j].2, .p (.s (.slice none 0 0))] := by
      have := rr_take3 (l.take j) (l.drop (j + 1)) l[j]
      rw [htl, ← hsplit] at this
      exact this
    have htake : l.take (j + 1) = l.take j ++ [l[j]] := by rw [List.take_succ_eq_append_getElem hjl]
    have hleft : left t (l.take (j + 1)) = if l[j].2 = t then left t (l.take j) else left t (l.take j) ++ [l[j]] := by
      rw [htake, left, List.filter_append]
      by_cases e : l[j].2 = t
      · simp [e, left]
      · simp [e, left]
    have hlen : (rr l).length = K * 3 := by rw [rr_len, hl]
    have hLj : (left t (l.take j)).length ≤ j := by have := left_le t (l.take j); omega
    by_cases e : l[j].2 = t
    · obtain ⟨h', e1, e2, e3, e4⟩ := rcl_skip (N := N) (xid := xid) (K := K) (ex := ex) (x5 := x5) g.1 (by omega) (by omega) h3 (by omega) (hv _ (List.getElem_mem hjl)) hg hlid e
      rw [iter_step e1]
      refine ih m (j + 1) x5 h' ?_ (by omega) (by omega)
      rw [hleft, if_pos e]
      refine ⟨e2, ?_⟩
      rcases g.2 with ⟨rfl, q⟩ | ⟨id, rfl, g1, g2, g3⟩
      · exact .inl ⟨rfl, q⟩
      · exact .inr ⟨id, rfl, g1, by omega, by rw [e4 id g2, g3]⟩
    · obtain ⟨x', h', e1, e2⟩ := rcl_keep (N := N) (xid := xid) (K := K) (ex := ex) g (by omega) (by omega) hLj hK h3 (by omega) (hv _ (List.getElem_mem hjl)) hg hlid e
      rw [iter_step e1]
      refine ih m (j + 1) x' h' ?_ (by omega) (by omega)
      rw [hleft, if_neg e]
      exact e2

theorem rclear_0 (y : LV) (hy : ids y = []) (hl : H xid = some (.cells [.p (.s (.slice none 0 0)), y])) (hid : xid < nx) :
    Ω 22 [.ref xid 0, .int .i64 t] H nx = some (.int .i64 0, [(xid, some (.cells [.p (.s (.slice none 0 0)), y]))], []) := by
  refine om_run (ir := ir22) (by kernel_rfl) 1 ?_
  have e1 := iter_out (f := runCS ⟨Ω, noG, H, nx⟩ 1 ir22_0) (n := 0) (rcl_out (xid := xid) (K := 0) (t := t) (h := ⟨[], []⟩) (x5 := .p (.s (.slice none 0 0))) (x12 := .p (.s (.slice none 0 0)))) (by simp)
  simp only [Int.natCast_zero, Int.ofNat_zero] at e1
  have hge : ¬ nx ≤ xid := by omega
  have sp0 : ∀ a b c : LV, splice [a, b] 0 [c] = [c, b] := fun _ _ _ => rfl
  have q : ∀ H, finish false H nx (.int .i64 0) ⟨[(xid, some (.cells [.p (.s (.slice none 0 0)), y]))], []⟩ = some (.int .i64 0, [(xid, some (.cells [.p (.s (.slice none 0 0)), y]))], []) := fun H =>
    finish_low (.inr rfl) (.inl rfl) (by simp [updIds, Go.Sx.Obj.ids, Go.Sx.ids.idsL, Go.Sx.ids, hy]) (by simp [updIds, Go.Sx.Obj.ids, Go.Sx.ids.idsL, Go.Sx.ids, hy])
  simp [ir22, ssB, List.idxOf?_cons, Go.Sx.LV.undef, Go.undef, Go.Sx.callO, Go.Sx.look, Go.Sx.push, Go.Sx.setObj, Go.Sx.setU, Go.Sx.setAll, Go.Sx.appO, Go.Sx.leI_eq, ltF, hl, hid, e1, sp0, q, hge, (by decide : IntKind.i64.wrap 0 = 0)]
theorem rclear_ (l : List Fr) (hs : l.length < 900) (y : LV) (hy : ids y = []) (hv : ∀ a ∈ l, Fv nx a.1) (hlo : Lo nx l) (hl : H xid = some (.cells [.arr lid 0 l.length 3 l.length ex, y])) (hg : H lid = some (.cells (rr l))) (hid : xid < nx) (hlid : lid < nx) (hne : xid ≠ lid) :
    ∃ Y nw, Ω 22 [.ref xid 0, .int .i64 t] H nx = some (.int .i64 ((l.length : Int) - (left t l).length), [(xid, some (.cells [Y, y]))], nw) ∧
      ((left t l = [] ∧ Y = .p (.s (.slice none 0 0)) ∧ nw = []) ∨ (Y = .arr nx 0 (left t l).length 3 (left t l).length false ∧ nw = [some (.cells (rr (left t l)))])) := by
  obtain ⟨x', h', e1, hu, g⟩ := rcl_all (H := H) (nx := nx) (xid := xid) (lid := lid) (K := l.length) (t := t) (ex := ex) (N := l.length + 1) (by omega) l rfl hv hg hlid l.length (l.length + 1) 0 (.p (.s (.slice none 0 0))) ⟨[], []⟩ ⟨rfl, .inl ⟨rfl, rfl⟩⟩ (by omega) (by omega)
  simp only [Int.natCast_zero, Int.ofNat_zero] at e1
  have hge : ¬ nx ≤ xid := by omega
  have hlk : Go.Sx.look H nx h' xid = H xid := low_look hu hid
  have hx := left_le t l
  have hw : IntKind.i64.wrap ((l.length : Int) - (left t l).length) = (l.length : Int) - (left t l).length := wrap_i64 _ (by omega) (by omega)
  have sp0 : ∀ a b c : LV, splice [a, b] 0 [c] = [c, b] := fun _ _ _ => rfl
  have hset : ∀ o, Go.Sx.setObj nx h' xid o = ⟨[(xid, o)], h'.new⟩ := fun o => by simp [Go.Sx.setObj, hid, hu, Go.Sx.setU]
  have hlL : (left t l).length < 900 := by omega
  have hloL : Lo nx (left t l) := fun a ha => hlo a ((List.mem_filter.1 ha).1)
  rcases g with ⟨rfl, hL⟩ | ⟨id, rfl, g1, g2, g3⟩
  · refine ⟨.p (.s (.slice none 0 0)), [], ?_, .inl ⟨hL, rfl, rfl⟩⟩
    refine om_run (ir := ir22) (by kernel_rfl) (l.length + 1) ?_
    have q : ∀ H, finish false H nx (.int .i64 l.length) ⟨[(xid, some (.cells [.p (.s (.slice none 0 0)), y]))], h'.new⟩ = some (.int .i64 l.length, [(xid, some (.cells [.p (.s (.slice none 0 0)), y]))], []) := fun H =>
      finish_low (.inr rfl) (.inl rfl) (by simp [updIds, Go.Sx.Obj.ids, Go.Sx.ids.idsL, Go.Sx.ids, hy]) (by simp [updIds, Go.Sx.Obj.ids, Go.Sx.ids.idsL, Go.Sx.ids, hy])
    rw [hL] at hw ⊢
    simp only [List.length_nil, Int.natCast_zero, Int.ofNat_zero, Int.sub_zero] at hw ⊢
    simp [ir22, ssB, List.idxOf?_cons, Go.Sx.LV.undef, Go.undef, callO_A, aft_nil, setAll_nil, Go.Sx.splice, Go.Sx.appO, Go.Sx.leI_eq, ltF, look_nil, hl, hid, e1, sp0, q, hge, hlk, hset, hw]
  · refine ⟨.arr nx 0 (left t l).length 3 (left t l).length false, [some (.cells (rr (left t l)))], ?_, .inr ⟨rfl, rfl⟩⟩
    refine om_run (ir := ir22) (by kernel_rfl) (l.length + 1) ?_
    have hR := hloL.idsR
    have q := rfin' (H := H) (nx := nx) (xid := xid) (K := (left t l).length) (ex := false) (r := .int .i64 ((l.length : Int) - (left t l).length)) hy hR.1 (by have := hR.2; omega) (fun h => rfl) rfl ⟨[(xid, some (.cells [.arr id 0 (left t l).length 3 (left t l).length false, y]))], h'.new⟩ id rfl (by
      rw [← g3]
      have : ¬ id < nx := by omega
      simp [Go.Sx.look, this]) g1
    simp [ir22, ssB, List.idxOf?_cons, Go.Sx.LV.undef, Go.undef, callO_A, aft_nil, setAll_nil, Go.Sx.splice, Go.Sx.appO, Go.Sx.leI_eq, ltF, look_nil, hl, hid, e1, sp0, q, hge, hlk, hset, hw]
end clear
end Go.Proofs.YtjmnamichdegaaaGreatDoor
end

section
namespace Go.Proofs.YtjmnamichdegaaaGreatDoor
open Go Go.Sx
set_option linter.unusedSimpArgs false
set_option linter.unusedVariables false

abbrev Fm := List UInt8 × Int
/-- A frame that both read alike, and that, when a byte of it is turned, both read alike again. -/
def GoodF (F : List UInt8) : Prop := 2 ≤ F.length ∧ F.length < 2 ^ 30 ∧ ((∃ k f t no, Both F k f t no 0 ∧ ∃ P, Cut P ∧ F = frame P) ∨ ∃ e, e ≠ 0 ∧ Both F 0 0 0 0 e)

inductive AllW (H : Heap) (nx : Nat) : List Fr → List Fm → Prop
  | nil : AllW H nx [] []
  | cons {x : LV} {F : List UInt8} {t : Int} {l : List Fr} {fs : List Fm} : Wh H nx x F → AllW H nx l fs → AllW H nx ((x, t) :: l) ((F, t) :: fs)
def fids (l : List Fr) : List Nat := l.flatMap fun a => ids a.1
theorem fids_cons (a : Fr) (l : List Fr) : fids (a :: l) = ids a.1 ++ fids l := by simp [fids]
theorem fids_app (l m : List Fr) : fids (l ++ m) = fids l ++ fids m := by simp [fids]

section allw
variable {H H' : Heap} {nx nx' : Nat}
theorem AllW.len {l : List Fr} {fs : List Fm} (g : AllW H nx l fs) : l.length = fs.length := by
  induction g with
  | nil => rfl
  | cons _ _ ih => simp [ih]
theorem Wh.mono' {x : LV} {F : List UInt8} (g : Wh H nx x F) (h : ∀ i ∈ Go.Sx.ids x, H' i = H i) (hn : nx ≤ nx') : Wh H' nx' x F := by
  rcases g with rfl | ⟨id, cp, ex, rfl, h1, h2⟩
  · exact .inl rfl
  · exact .inr ⟨id, cp, ex, rfl, by rw [h id (by simp [Go.Sx.ids])]; exact h1, by omega⟩
theorem AllW.mono {l : List Fr} {fs : List Fm} (g : AllW H nx l fs) (h : ∀ i ∈ fids l, H' i = H i) (hn : nx ≤ nx') : AllW H' nx' l fs := by
  induction g with
  | nil => exact .nil
  | cons hw _ ih => exact .cons (hw.mono' (fun i hi => h i (by rw [fids_cons]; exact List.mem_append_left _ hi)) hn) (ih fun i hi => h i (by rw [fids_cons]; exact List.mem_append_right _ hi))
theorem AllW.lt {l : List Fr} {fs : List Fm} (g : AllW H nx l fs) : ∀ i ∈ fids l, i < nx := by
  induction g with
  | nil => simp [fids]
  | cons hw _ ih =>
    intro i hi
    rw [fids_cons] at hi
    rcases List.mem_append.1 hi with h | h
    · exact hw.ids.2 i h
    · exact ih i h
theorem AllW.lo {l : List Fr} {fs : List Fm} (g : AllW H nx l fs) : Lo nx l := by
  induction g with
  | nil => intro a ha; simp at ha
  | cons hw _ ih => exact Lo.cons.2 ⟨hw.ids, ih⟩
theorem AllW.fv {l : List Fr} {fs : List Fm} (g : AllW H nx l fs) : ∀ a ∈ l, Fv nx a.1 := by
  induction g with
  | nil => intro a ha; simp at ha
  | cons hw _ ih =>
    intro a ha
    rcases List.mem_cons.1 ha with rfl | ha
    · exact hw.fv
    · exact ih a ha
theorem AllW.app {l m : List Fr} {fs gs : List Fm} (g : AllW H nx l fs) (g' : AllW H nx m gs) : AllW H nx (l ++ m) (fs ++ gs) := by
  induction g with
  | nil => exact g'
  | cons hw _ ih => exact .cons hw ih
theorem AllW.split {l : List Fr} {fs : List Fm} (g : AllW H nx l fs) : ∀ {i : Nat}, i < l.length → ∃ A x t B A' F B', l = A ++ (x, t) :: B ∧ fs = A' ++ (F, t) :: B' ∧ A.length = i ∧ AllW H nx A A' ∧ Wh H nx x F ∧ AllW H nx B B' := by
  induction g with
  | nil => intro i hi; simp at hi
  | @cons x F t l fs hw g ih =>
    intro i hi
    match i with
    | 0 => exact ⟨[], x, t, l, [], F, fs, rfl, rfl, rfl, .nil, hw, g⟩
    | i + 1 =>
      obtain ⟨A, x', t', B, A', F', B', rfl, rfl, h3, h4, h5, h6⟩ := ih (i := i) (by simpa using hi)
      exact ⟨(x, t) :: A, x', t', B, (F, t) :: A', F', B', rfl, rfl, by simp [h3], .cons hw h4, h5, h6⟩
theorem AllW.left {l : List Fr} {fs : List Fm} (g : AllW H nx l fs) (t : Int) : AllW H nx (left t l) (fs.filter fun f => !(f.2 == t)) := by
  induction g with
  | nil => exact .nil
  | @cons x F t' l fs hw g ih =>
    rw [left_cons, List.filter_cons]
    by_cases e : (t' == t) = true
    · simp only [e, if_true, Bool.not_true]; exact ih
    · simp only [e, if_false, Bool.not_false]; exact .cons hw ih
/-- What holds a frame's bytes, holds nothing else. -/
theorem AllW.apart {l : List Fr} {fs : List Fm} (g : AllW H nx l fs) (hg : ∀ f ∈ fs, GoodF f.1) {i : Nat} (hi : i ∈ fids l) : ∃ F, 2 ≤ F.length ∧ H i = some (.cells (byt F)) := by
  induction g with
  | nil => simp [fids] at hi
  | @cons x F t l fs hw g ih =>
    rw [fids_cons] at hi
    rcases List.mem_append.1 hi with h | h
    · rcases hw with rfl | ⟨id, cp, ex, rfl, h1, h2⟩
      · simp [Go.Sx.ids] at h
      · obtain rfl : i = id := by simpa [Go.Sx.ids] using h
        exact ⟨F, (hg _ List.mem_cons_self).1, h1⟩
    · exact ih (fun f hf => hg f (List.mem_cons_of_mem _ hf)) h
end allw
theorem byt_snd {F : List UInt8} {r : List LV} {x : LV} {n : Int} (hF : 2 ≤ F.length) (h : byt F = x :: .int .i64 n :: r) : False := by
  match F, hF with
  | a :: b :: F, _ => simp [byt] at h
theorem zs_snd (m : Nat) : zs m = [] ∨ ∃ x n r, zs m = x :: .int .i64 n :: r := by
  cases m with
  | zero => exact .inl rfl
  | succ m => exact .inr ⟨_, _, _, rfl⟩
theorem ro_snd (l : List Fr) (m : Nat) {F : List UInt8} (hF : 2 ≤ F.length) (h : byt F = ro l ++ zs m) : False := by
  cases l with
  | nil =>
    rcases zs_snd m with e | ⟨x, n, r, e⟩
    · rw [e] at h
      have := congrArg List.length h
      rw [byt_len] at this
      simp only [ro, List.flatMap_nil, List.append_nil, List.length_nil] at this
      omega
    · exact byt_snd hF (by rw [h, e]; rfl)
  | cons a l => exact byt_snd hF (by rw [h, ro_cons]; rfl)
theorem rr_snd (l : List Fr) {F : List UInt8} (hF : 2 ≤ F.length) (h : byt F = rr l) : False := by
  cases l with
  | nil =>
    have := congrArg List.length h
    rw [byt_len] at this
    simp only [rr, List.flatMap_nil, List.length_nil] at this
    omega
  | cons a l => exact byt_snd hF (by rw [h, rr_cons])

abbrev nilS : LV := .p (.s (.slice none 0 0))
def ft (nid : Nat) (X : LV) (l : List Fr) : List Nat := nid :: (ids X ++ fids l)
/-- What may be written; what holds bytes is never written again. -/
def ct (nid : Nat) (X : LV) : List Nat := nid :: ids X
theorem ct_ft {nid : Nat} {X : LV} {l : List Fr} : ∀ i ∈ ct nid X, i ∈ ft nid X l := fun i hi => by
  simp only [ct, ft, List.mem_cons, List.mem_append] at hi ⊢
  rcases hi with h | h
  · exact .inl h
  · exact .inr (.inl h)

/-- The program's net. -/
structure NN (H : Heap) (nx nid room : Nat) (X : LV) (l : List Fr) (fs : List Fm) (N : Nat) : Prop where
  hid : nid < nx
  hl : H nid = some (.cells [X, .int .i64 room])
  hw : AllW H nx l fs
  good : ∀ f ∈ fs, GoodF f.1
  hx : (X = nilS ∧ l = []) ∨ ∃ lid m ex, X = .arr lid 0 l.length 2 (l.length + m) ex ∧ l.length + m ≤ N ∧ lid < nx ∧ nid ≠ lid ∧ H lid = some (.cells (ro l ++ zs m)) ∧ (ex = true → l = [] ∧ m = 0)
/-- The document's. -/
structure RN (H : Heap) (nx xid room : Nat) (Y : LV) (l : List Fr) (fs : List Fm) (N : Nat) : Prop where
  hid : xid < nx
  hl : H xid = some (.cells [Y, .int .i64 room])
  hw : AllW H nx l fs
  good : ∀ f ∈ fs, GoodF f.1
  hx : (Y = nilS ∧ l = []) ∨ ∃ lid ex, Y = .arr lid 0 l.length 3 l.length ex ∧ l.length ≤ N ∧ lid < nx ∧ xid ≠ lid ∧ H lid = some (.cells (rr l))

section nn
variable {H H' : Heap} {nx nx' nid room N N' : Nat} {X : LV} {l : List Fr} {fs : List Fm}
theorem NN.len (g : NN H nx nid room X l fs N) : l.length ≤ N := by
  rcases g.hx with ⟨_, rfl⟩ | ⟨_, _, _, _, h, _⟩
  · simp
  · omega
theorem RN.len (g : RN H nx nid room X l fs N) : l.length ≤ N := by
  rcases g.hx with ⟨_, rfl⟩ | ⟨_, _, _, h, _⟩
  · simp
  · omega
theorem NN.mono (g : NN H nx nid room X l fs N) (h : ∀ i ∈ ft nid X l, H' i = H i) (hn : nx ≤ nx') (hN : N ≤ N') : NN H' nx' nid room X l fs N' := by
  refine ⟨by have := g.hid; omega, by rw [h nid (by simp [ft])]; exact g.hl, g.hw.mono (fun i hi => h i (by simp [ft, hi])) hn, g.good, ?_⟩
  rcases g.hx with h' | ⟨lid, m, ex, rfl, h1, h2, h3, h4, hex⟩
  · exact .inl h'
  · exact .inr ⟨lid, m, ex, rfl, by omega, by omega, h3, by rw [h lid (by simp [ft, Go.Sx.ids])]; exact h4, hex⟩
theorem RN.mono (g : RN H nx nid room X l fs N) (h : ∀ i ∈ ft nid X l, H' i = H i) (hn : nx ≤ nx') (hN : N ≤ N') : RN H' nx' nid room X l fs N' := by
  refine ⟨by have := g.hid; omega, by rw [h nid (by simp [ft])]; exact g.hl, g.hw.mono (fun i hi => h i (by simp [ft, hi])) hn, g.good, ?_⟩
  rcases g.hx with h' | ⟨lid, m, rfl, h1, h2, h3, h4⟩
  · exact .inl h'
  · exact .inr ⟨lid, m, rfl, by omega, by omega, h3, by rw [h lid (by simp [ft, Go.Sx.ids])]; exact h4⟩
theorem NN.lt (g : NN H nx nid room X l fs N) : ∀ i ∈ ft nid X l, i < nx := by
  intro i hi
  simp only [ft, List.mem_cons, List.mem_append] at hi
  rcases hi with rfl | hi | hi
  · exact g.hid
  · rcases g.hx with ⟨rfl, _⟩ | ⟨lid, m, ex, rfl, h1, h2, _⟩
    · simp [Go.Sx.ids] at hi
    · obtain rfl : i = lid := by simpa [Go.Sx.ids] using hi
      exact h2
  · exact g.hw.lt i hi
theorem RN.lt (g : RN H nx nid room X l fs N) : ∀ i ∈ ft nid X l, i < nx := by
  intro i hi
  simp only [ft, List.mem_cons, List.mem_append] at hi
  rcases hi with rfl | hi | hi
  · exact g.hid
  · rcases g.hx with ⟨rfl, _⟩ | ⟨lid, m, rfl, h1, h2, _⟩
    · simp [Go.Sx.ids] at hi
    · obtain rfl : i = lid := by simpa [Go.Sx.ids] using hi
      exact h2
  · exact g.hw.lt i hi
theorem NN.fne (g : NN H nx nid room X l fs N) : ∀ i ∈ fids l, i ≠ nid ∧ i ∉ ids X := by
  intro i hi
  obtain ⟨F, hF, h1⟩ := g.hw.apart g.good hi
  refine ⟨fun e => ?_, fun e => ?_⟩
  · subst e
    rw [g.hl] at h1
    exact byt_snd hF (Go.Sx.Obj.cells.inj (Option.some.inj h1)).symm
  · rcases g.hx with ⟨rfl, _⟩ | ⟨lid, m, ex, rfl, _, _, _, h4, _⟩
    · simp [Go.Sx.ids] at e
    · obtain rfl : i = lid := by simpa [Go.Sx.ids] using e
      rw [h4] at h1
      exact ro_snd l m hF (Go.Sx.Obj.cells.inj (Option.some.inj h1)).symm
theorem RN.fne (g : RN H nx nid room X l fs N) : ∀ i ∈ fids l, i ≠ nid ∧ i ∉ ids X := by
  intro i hi
  obtain ⟨F, hF, h1⟩ := g.hw.apart g.good hi
  refine ⟨fun e => ?_, fun e => ?_⟩
  · subst e
    rw [g.hl] at h1
    exact byt_snd hF (Go.Sx.Obj.cells.inj (Option.some.inj h1)).symm
  · rcases g.hx with ⟨rfl, _⟩ | ⟨lid, m, rfl, _, _, _, h4⟩
    · simp [Go.Sx.ids] at e
    · obtain rfl : i = lid := by simpa [Go.Sx.ids] using e
      rw [h4] at h1
      exact rr_snd l hF (Go.Sx.Obj.cells.inj (Option.some.inj h1)).symm
theorem NN.sl (g : NN H nx nid room X l fs N) : Sl X l.length := by
  rcases g.hx with ⟨h, rfl⟩ | ⟨lid, m, ex, h, _⟩
  · exact .inl ⟨h, rfl⟩
  · exact .inr ⟨lid, _, _, h⟩
theorem RN.sl (g : RN H nx nid room X l fs N) : RSl X l.length := by
  rcases g.hx with ⟨h, rfl⟩ | ⟨lid, ex, h, _⟩
  · exact .inl ⟨h, rfl⟩
  · exact .inr ⟨lid, _, h⟩
theorem RN.rl (g : RN H nx nid room X l fs N) : RL H nx nid X l := by
  rcases g.hx with ⟨h, rfl⟩ | ⟨lid, ex, h, _, h2, h3, h4⟩
  · exact .inl ⟨h, rfl⟩
  · exact .inr ⟨lid, _, h, h4, h2, h3⟩
end nn

/-- What a call does to the program's net; to the document's. -/
def NDid (f : FuncId) (args : List LV) (H : Heap) (nx nid room : Nat) (X : LV) (l : List Fr) (N : Nat) (r : LV) (fs' : List Fm) : Prop :=
  ∃ u nw X' l', Ω f args H nx = some (r, u, nw) ∧ NN (Go.Sx.look H nx ⟨u, nw⟩) (nx + nw.length) nid room X' l' fs' (N + 1) ∧ (∀ q ∈ u, q.1 ∈ ct nid X ∧ (q.2 ≠ none → q.1 ∈ ct nid X')) ∧ u.length ≤ 2 ∧ (∀ i ∈ ft nid X' l', i ∈ ft nid X l ∨ nx ≤ i) ∧ (∀ i ∈ ct nid X', i ∈ ct nid X ∨ nx ≤ i)
def RDid (f : FuncId) (args : List LV) (H : Heap) (nx nid room : Nat) (X : LV) (l : List Fr) (N : Nat) (r : LV) (fs' : List Fm) : Prop :=
  ∃ u nw X' l', Ω f args H nx = some (r, u, nw) ∧ RN (Go.Sx.look H nx ⟨u, nw⟩) (nx + nw.length) nid room X' l' fs' (N + 1) ∧ (∀ q ∈ u, q.1 ∈ ct nid X ∧ (q.2 ≠ none → q.1 ∈ ct nid X')) ∧ u.length ≤ 2 ∧ (∀ i ∈ ft nid X' l', i ∈ ft nid X l ∨ nx ≤ i) ∧ (∀ i ∈ ct nid X', i ∈ ct nid X ∨ nx ≤ i)

section did
variable {f : FuncId} {args : List LV} {H : Heap} {nx nid room N : Nat} {X : LV} {l : List Fr} {fs : List Fm} {r : LV}
theorem NN.same (g : NN H nx nid room X l fs N) (h : Ω f args H nx = some (r, [], [])) : NDid f args H nx nid room X l N r fs :=
  ⟨[], [], X, l, h, g.mono (fun i hi => by simp [Go.Sx.look, g.lt i hi, findU]) (by simp) (by omega), by simp, by simp, fun i hi => .inl hi, fun i hi => .inl hi⟩
theorem RN.same (g : RN H nx nid room X l fs N) (h : Ω f args H nx = some (r, [], [])) : RDid f args H nx nid room X l N r fs :=
  ⟨[], [], X, l, h, g.mono (fun i hi => by simp [Go.Sx.look, g.lt i hi, findU]) (by simp) (by omega), by simp, by simp, fun i hi => .inl hi, fun i hi => .inl hi⟩
end did
end Go.Proofs.YtjmnamichdegaaaGreatDoor
end

section
namespace Go.Proofs.YtjmnamichdegaaaGreatDoor
open Go Go.Sx
set_option linter.unusedSimpArgs false
set_option linter.unusedVariables false

theorem AllW.split' {H : Heap} {nx : Nat} {F : List UInt8} {t : Int} {B' : List Fm} : ∀ {A' : List Fm} {l : List Fr}, AllW H nx l (A' ++ (F, t) :: B') → ∃ A x B, l = A ++ (x, t) :: B ∧ A.length = A'.length ∧ AllW H nx A A' ∧ Wh H nx x F ∧ AllW H nx B B'
  | [], _, .cons (x := x) (l := l) hw g => ⟨[], x, l, rfl, rfl, .nil, hw, g⟩
  | (F', t') :: A', _, .cons (x := x) (l := l) hw g => by
    obtain ⟨A, y, B, rfl, h1, h2, h3, h4⟩ := AllW.split' g
    exact ⟨(x, t') :: A, y, B, rfl, by simp [h1], .cons hw h2, h3, h4⟩
theorem fids_mid (A B : List Fr) (a : Fr) : fids (A ++ a :: B) = fids A ++ (ids a.1 ++ fids B) := by rw [fids_app, fids_cons]
theorem look_low' {H : Heap} {nx : Nat} {u : Upd} {nw : List (Option Go.Sx.Obj)} {i : Nat} (hi : i < nx) (h : ∀ q ∈ u, q.1 ≠ i) : Go.Sx.look H nx ⟨u, nw⟩ i = H i := by
  simp [Go.Sx.look, hi, findU_none u i h]

section n
variable {H : Heap} {nx nid room N : Nat} {X : LV} {l : List Fr} {fs A' B' : List Fm} {F : List UInt8} {t : Int}

theorem nn_out (g : NN H nx nid room X l fs N) {i : Int} (hi : ¬ (0 ≤ i ∧ i < fs.length)) (at' : Int) (v : UInt8) :
    NDid 13 [.ref nid 0, .int .i64 i] H nx nid room X l N (.int .i64 2) fs ∧
    NDid 11 [.ref nid 0, .int .i64 i] H nx nid room X l N (.tuple [.p (ntz 0 0 0 0), .int .i64 2]) fs ∧
    NDid 14 [.ref nid 0, .int .i64 i] H nx nid room X l N (.int .i64 2) fs ∧
    NDid 15 [.ref nid 0, .int .i64 i, .int .i64 at', .int .u8 v.toNat] H nx nid room X l N (.int .i64 2) fs := by
  rw [← g.hw.len] at hi
  exact ⟨g.same (ndrop_out _ _ _ _ _ _ _ hi g.sl g.hl g.hid), g.same (ntake_out _ _ _ _ _ _ _ hi g.sl g.hl g.hid), g.same (ndouble_out _ _ _ _ _ _ _ hi g.sl g.hl g.hid), g.same (nturn_out _ _ _ _ _ _ _ _ _ hi g.sl g.hl g.hid)⟩

theorem nn_del {A B : List Fr} {x : LV} {lid m : Nat} {f : FuncId} {args : List LV} {r : LV} (g : NN H nx nid room (.arr lid 0 (A.length + 1 + B.length) 2 (A.length + 1 + B.length + m) false) (A ++ (x, t) :: B) fs N) (hm : A.length + 1 + B.length + m ≤ N) (hlid : lid < nx) (hne : nid ≠ lid)
    (gA : AllW H nx A A') (gB : AllW H nx B B') (hg : ∀ f ∈ A' ++ B', GoodF f.1) {u : Upd} (h : Ω f args H nx = some (r, u, [])) (hu : u = [(lid, some (.cells (ro (A ++ B) ++ zs (m + 1)))), (nid, some (.cells [.arr lid 0 (A.length + B.length) 2 (A.length + 1 + B.length + m) false, .int .i64 room]))] ∨
      u = [(nid, some (.cells [.arr lid 0 (A.length + B.length) 2 (A.length + 1 + B.length + m) false, .int .i64 room])), (lid, some (.cells (ro (A ++ B) ++ zs (m + 1))))]) :
    NDid f args H nx nid room (.arr lid 0 (A.length + 1 + B.length) 2 (A.length + 1 + B.length + m) false) (A ++ (x, t) :: B) N r (A' ++ B') := by
  have hne' : ¬ lid = nid := fun e => hne e.symm
  have hfin : ∀ i ∈ fids (A ++ B), i ∈ fids (A ++ (x, t) :: B) := fun i hi => by
    rw [fids_app] at hi
    rw [fids_mid]
    rcases List.mem_append.1 hi with h | h
    · exact List.mem_append_left _ h
    · exact List.mem_append_right _ (List.mem_append_right _ h)
  refine ⟨u, [], .arr lid 0 (A.length + B.length) 2 (A.length + 1 + B.length + m) false, A ++ B, h, ⟨?_, ?_, ?_, hg, .inr ⟨lid, m + 1, false, ?_, ?_, ?_, hne, ?_, fun h => by cases h⟩⟩, ?_, by rcases hu with rfl | rfl <;> simp, ?_, by intro i hi; simp only [ct, List.mem_cons, Go.Sx.ids, List.not_mem_nil, or_false] at hi ⊢; omega⟩
  · have := g.hid; simp; omega
  · rcases hu with rfl | rfl <;> simp [Go.Sx.look, findU, g.hid, hne]
  · refine (gA.app gB).mono (fun i hi => ?_) (by simp)
    have q := g.fne i (hfin i hi)
    simp only [Go.Sx.ids, List.mem_singleton] at q
    refine look_low' (g.hw.lt i (hfin i hi)) fun p hp => ?_
    rcases hu with rfl | rfl <;> (simp only [List.mem_cons, List.not_mem_nil, or_false] at hp; rcases hp with rfl | rfl <;> first | exact fun e => q.1 e.symm | exact fun e => q.2 e.symm)
  · simp; omega
  · simp; omega
  · simp; omega
  · rcases hu with rfl | rfl <;> simp [Go.Sx.look, findU, hlid, hne, hne']
  · intro q hq
    rcases hu with rfl | rfl <;> (simp only [List.mem_cons, List.not_mem_nil, or_false] at hq; rcases hq with rfl | rfl <;> simp [ct, Go.Sx.ids])
  · intro i hi
    simp only [ft, List.mem_cons, List.mem_append, Go.Sx.ids, List.not_mem_nil, or_false] at hi ⊢
    rcases hi with h | h | h
    · exact .inl (.inl h)
    · exact .inl (.inr (.inl h))
    · exact .inl (.inr (.inr (hfin i h)))

theorem nn_drop (g : NN H nx nid room X l (A' ++ (F, t) :: B') N) (hN : N < 400) : NDid 13 [.ref nid 0, .int .i64 A'.length] H nx nid room X l N (.int .i64 0) (A' ++ B') := by
  obtain ⟨A, x, B, rfl, hA, gA, gw, gB⟩ := g.hw.split'
  rcases g.hx with ⟨_, e⟩ | ⟨lid, m, ex, e, h1, h2, h3, h4, hex⟩
  · simp at e
  have hlen : (A ++ (x, t) :: B).length = A.length + 1 + B.length := by simp; omega
  obtain rfl : ex = false := by
    cases ex
    · rfl
    · simpa using (hex rfl).1
  rw [hlen] at e h1
  subst e
  have hlo : Lo nx (A ++ B) := (gA.app gB).lo
  have := ndrop_ nid lid _ A B (x, t) (.int .i64 room) H nx m rfl (by omega) hlo rfl g.hl h4 g.hid h2 h3
  rw [hA] at this
  exact nn_del g h1 h2 h3 gA gB (fun f hf => g.good f (by
    rcases List.mem_append.1 hf with h | h
    · exact List.mem_append_left _ h
    · exact List.mem_append_right _ (List.mem_cons_of_mem _ h))) (by rw [this, hA]) (.inl rfl)
theorem nn_take (g : NN H nx nid room X l (A' ++ (F, t) :: B') N) (hN : N < 400) {k f' t' no e : Int} (hb : Both F k f' t' no e) : NDid 11 [.ref nid 0, .int .i64 A'.length] H nx nid room X l N (.tuple [.p (ntz k f' t' no), .int .i64 e]) (A' ++ B') := by
  obtain ⟨A, x, B, rfl, hA, gA, gw, gB⟩ := g.hw.split'
  rcases g.hx with ⟨_, e⟩ | ⟨lid, m, ex, e', h1, h2, h3, h4, hex⟩
  · simp at e
  have hlen : (A ++ (x, t) :: B).length = A.length + 1 + B.length := by simp; omega
  obtain rfl : ex = false := by
    cases ex
    · rfl
    · simpa using (hex rfl).1
  rw [hlen] at e' h1
  subst e'
  have hlo : Lo nx (A ++ B) := (gA.app gB).lo
  have hgF := g.good (F, t) (by simp)
  have := ntake_ nid lid _ A B (x, t) F (.int .i64 room) k f' t' no e H nx m (by have := hgF.2.1; dsimp only at this; omega) (by have := hgF.1; dsimp only at this; omega) gw hb.1 rfl (by omega) hlo rfl g.hl h4 g.hid h2 h3
  rw [hA] at this
  exact nn_del g h1 h2 h3 gA gB (fun f hf => g.good f (by
    rcases List.mem_append.1 hf with h | h
    · exact List.mem_append_left _ h
    · exact List.mem_append_right _ (List.mem_cons_of_mem _ h))) (by rw [this, hA]) (.inr rfl)

/-- One more, last. -/
theorem nn_add {x : LV} {f : FuncId} {args : List LV} {r : LV} (g : NN H nx nid room X l fs N) (hgF : GoodF F) (hx : ∀ H' nx', (∀ i ∈ ids x, H' i = H i ∧ i ∈ fids l) → nx ≤ nx' → Wh H' nx' x F) (hxl : ∀ i ∈ ids x, i ∈ fids l) {u : Upd} {nw : List (Option Go.Sx.Obj)} (h : Ω f args H nx = some (r, u, nw))
    (hu : (X = nilS ∧ l = [] ∧ u = [(nid, some (.cells [.arr nx 0 1 2 1 false, .int .i64 room]))] ∧ nw = [some (.cells (ro [(x, t)]))]) ∨
      (∃ lid, X = .arr lid 0 l.length 2 l.length false ∧ lid < nx ∧ nid ≠ lid ∧ u = [(lid, none), (nid, some (.cells [.arr nx 0 (l.length + 1) 2 (l.length + 1) false, .int .i64 room]))] ∧ nw = [some (.cells (ro (l ++ [(x, t)])))]) ∨
      (∃ lid m, X = .arr lid 0 l.length 2 (l.length + (m + 1)) false ∧ l.length + (m + 1) ≤ N ∧ lid < nx ∧ nid ≠ lid ∧ u = [(lid, some (.cells (ro (l ++ [(x, t)]) ++ zs m))), (nid, some (.cells [.arr lid 0 (l.length + 1) 2 (l.length + (m + 1)) false, .int .i64 room]))] ∧ nw = []) ∨
      (∃ lid, X = .arr lid 0 0 2 0 true ∧ l = [] ∧ lid < nx ∧ nid ≠ lid ∧ u = [(nid, some (.cells [.arr nx 0 1 2 1 false, .int .i64 room]))] ∧ nw = [some (.cells (ro [(x, t)]))])) :
    NDid f args H nx nid room X l N r (fs ++ [(F, t)]) := by
  have hlN := g.len
  have good' : ∀ f ∈ fs ++ [(F, t)], GoodF f.1 := fun f hf => by
    rcases List.mem_append.1 hf with h | h
    · exact g.good f h
    · obtain rfl : f = (F, t) := by simpa using h
      exact hgF
  have hfx : ∀ i, i ∈ fids (l ++ [(x, t)]) → i ∈ fids l := fun i hi => by
    rw [fids_app] at hi
    rcases List.mem_append.1 hi with h | h
    · exact h
    · exact hxl i (by simpa [fids] using h)
  have hgid := g.hid
  have wa : ∀ (u : Upd) (nw : List (Option Go.Sx.Obj)), (∀ p ∈ u, p.1 = nid ∨ p.1 ∈ ids X) → AllW (Go.Sx.look H nx ⟨u, nw⟩) (nx + nw.length) (l ++ [(x, t)]) (fs ++ [(F, t)]) := fun u nw hu => by
    have hk : ∀ i ∈ fids l, Go.Sx.look H nx ⟨u, nw⟩ i = H i := fun i hi => look_low' (g.hw.lt i hi) fun p hp e => by
      have q := g.fne i hi
      rcases hu p hp with e' | e'
      · exact q.1 (e.symm.trans e')
      · exact q.2 (e ▸ e')
    exact (g.hw.mono hk (by omega)).app (.cons (hx _ _ (fun i hi => ⟨hk i (hxl i hi), hxl i hi⟩) (by omega)) .nil)
  rcases hu with ⟨rfl, rfl, rfl, rfl⟩ | ⟨lid, rfl, h2, h3, rfl, rfl⟩ | ⟨lid, m, rfl, h1, h2, h3, rfl, rfl⟩ | ⟨lid, rfl, rfl, h2, h3, rfl, rfl⟩
  · refine ⟨_, _, .arr nx 0 1 2 1 false, [(x, t)], h, ⟨by simp; omega, by simp [Go.Sx.look, findU, hgid], by have q := wa [(nid, some (.cells [.arr nx 0 1 2 1 false, .int .i64 room]))] [some (.cells (ro [(x, t)]))] (by simp); rwa [List.nil_append] at q, good', .inr ⟨nx, 0, false, by simp, by simp, by simp, by omega, by simp [Go.Sx.look, zs], fun h => by cases h⟩⟩, by simp [ct], by simp, ?_, by intro i hi; simp only [ct, List.mem_cons, Go.Sx.ids, List.not_mem_nil, or_false] at hi ⊢; omega⟩
    intro i hi
    simp only [ft, List.mem_cons, List.mem_append, Go.Sx.ids, List.not_mem_nil, or_false] at hi ⊢
    rcases hi with h | h | h
    · exact .inl (.inl h)
    · exact .inr (by omega)
    · exact .inl (.inr (.inr (hfx i (by simpa using h))))
  · refine ⟨_, _, .arr nx 0 (l.length + 1) 2 (l.length + 1) false, l ++ [(x, t)], h, ⟨by simp; omega, by simp [Go.Sx.look, findU, hgid, h3], wa _ _ (by simp [Go.Sx.ids]), good', .inr ⟨nx, 0, false, by simp, by simp; omega, by simp, by omega, by simp [Go.Sx.look, zs], fun h => by cases h⟩⟩, by simp [ct, Go.Sx.ids], by simp, ?_, by intro i hi; simp only [ct, List.mem_cons, Go.Sx.ids, List.not_mem_nil, or_false] at hi ⊢; omega⟩
    intro i hi
    simp only [ft, List.mem_cons, List.mem_append, Go.Sx.ids, List.not_mem_nil, or_false] at hi ⊢
    rcases hi with h | h | h
    · exact .inl (.inl h)
    · exact .inr (by omega)
    · exact .inl (.inr (.inr (hfx i h)))
  · refine ⟨_, _, .arr lid 0 (l.length + 1) 2 (l.length + (m + 1)) false, l ++ [(x, t)], h, ⟨by simp; omega, by simp [Go.Sx.look, findU, hgid, h3], wa _ _ (by simp [Go.Sx.ids]), good', .inr ⟨lid, m, false, by simp; omega, by simp; omega, by simp; omega, h3, by simp [Go.Sx.look, findU, h2], fun h => by cases h⟩⟩, by simp [ct, Go.Sx.ids], by simp, ?_, by intro i hi; simp only [ct, List.mem_cons, Go.Sx.ids, List.not_mem_nil, or_false] at hi ⊢; omega⟩
    intro i hi
    simp only [ft, List.mem_cons, List.mem_append, Go.Sx.ids, List.not_mem_nil, or_false] at hi ⊢
    rcases hi with h | h | h
    · exact .inl (.inl h)
    · exact .inl (.inr (.inl h))
    · exact .inl (.inr (.inr (hfx i h)))
  · refine ⟨_, _, .arr nx 0 1 2 1 false, [(x, t)], h, ⟨by simp; omega, by simp [Go.Sx.look, findU, hgid], by have q := wa [(nid, some (.cells [.arr nx 0 1 2 1 false, .int .i64 room]))] [some (.cells (ro [(x, t)]))] (by simp); rwa [List.nil_append] at q, good', .inr ⟨nx, 0, false, by simp, by simp, by simp, by omega, by simp [Go.Sx.look, zs], fun h => by cases h⟩⟩, by simp [ct], by simp, ?_, by intro i hi; simp only [ct, List.mem_cons, Go.Sx.ids, List.not_mem_nil, or_false] at hi ⊢; omega⟩
    intro i hi
    simp only [ft, List.mem_cons, List.mem_append, Go.Sx.ids, List.not_mem_nil, or_false] at hi ⊢
    rcases hi with h | h | h
    · exact .inl (.inl h)
    · exact .inr (by omega)
    · exact .inl (.inr (.inr (hfx i (by simpa using h))))

theorem nn_double (g : NN H nx nid room X l (A' ++ (F, t) :: B') N) (hN : N < 400) :
    ((A' ++ (F, t) :: B').length ≥ room → NDid 14 [.ref nid 0, .int .i64 A'.length] H nx nid room X l N (.int .i64 8) (A' ++ (F, t) :: B')) ∧
    ((A' ++ (F, t) :: B').length < room → NDid 14 [.ref nid 0, .int .i64 A'.length] H nx nid room X l N (.int .i64 0) ((A' ++ (F, t) :: B') ++ [(F, t)])) := by
  have hll := g.hw.len
  obtain ⟨A, x, B, rfl, hA, gA, gw, gB⟩ := g.hw.split'
  rcases g.hx with ⟨_, e⟩ | ⟨lid, m, ex, e', h1, h2, h3, h4, hex⟩
  · simp at e
  have hlen : (A ++ (x, t) :: B).length = A.length + 1 + B.length := by simp; omega
  obtain rfl : ex = false := by
    cases ex
    · rfl
    · simpa using (hex rfl).1
  rw [hlen] at e' h1 hll
  subst e'
  have hlo : Lo nx (A ++ (x, t) :: B) := g.hw.lo
  have hgF := g.good (F, t) (by simp)
  have hxl : ∀ i ∈ ids x, i ∈ fids (A ++ (x, t) :: B) := fun i hi => by rw [fids_mid]; exact List.mem_append_right _ (List.mem_append_left _ hi)
  have hx : ∀ H' nx', (∀ i ∈ ids x, H' i = H i ∧ i ∈ fids (A ++ (x, t) :: B)) → nx ≤ nx' → Wh H' nx' x F := fun H' nx' h hn => gw.mono' (fun i hi => (h i hi).1) hn
  refine ⟨fun hr => g.same ?_, fun hr => ?_⟩
  · have := ndouble_full nid lid room H nx A'.length (A.length + 1 + B.length) _ (by omega) (by omega) g.hl g.hid
    exact this
  · match m, h1, h4, g with
    | 0, h1, h4, g =>
      have := ndouble_grow nid lid room A B (x, t) F H nx gw (by omega) (by omega) hlo g.hl h4 g.hid h2 h3
      rw [← hA]
      refine nn_add g hgF hx hxl this (.inr (.inl ⟨lid, ?_, h2, h3, ?_, rfl⟩))
      · rw [hlen]; rfl
      · rw [hlen]
    | m + 1, h1, h4, g =>
      have := ndouble_in nid lid room A B (x, t) F H nx m _ gw (by omega) rfl (by omega) hlo g.hl h4 g.hid h2 h3
      rw [← hA]
      refine nn_add g hgF hx hxl this (.inr (.inr (.inl ⟨lid, m, ?_, ?_, h2, h3, ?_, rfl⟩)))
      · rw [hlen]
      · rw [hlen]; exact h1
      · rw [hlen]

theorem nn_send {kd f t no : Int} (hb : Bts kd f t no F) (hgF : GoodF F) (g : NN H nx nid room X l fs N) (hN : N < 400) :
    (fs.length ≥ room → NDid 12 [.ref nid 0, .p (ntz kd f t no)] H nx nid room X l N (.int .i64 8) fs) ∧
    (fs.length < room → NDid 12 [.ref nid 0, .p (ntz kd f t no)] H nx nid room X l N (.int .i64 0) (fs ++ [(F, t)])) := by
  have hll := g.hw.len
  have hx : ∀ H' nx', (∀ i ∈ ids (LV.p (.sl (bytP F) F.length 1 false)), H' i = H i ∧ i ∈ fids l) → nx ≤ nx' → Wh H' nx' (.p (.sl (bytP F) F.length 1 false)) F := fun _ _ _ _ => .inl rfl
  have hxl : ∀ i ∈ ids (LV.p (.sl (bytP F) F.length 1 false)), i ∈ fids l := fun i hi => by simp [Go.Sx.ids] at hi
  refine ⟨fun hr => g.same (nsend_full nid room l.length F kd f t no H nx hb X g.sl (by omega) g.hl g.hid), fun hr => ?_⟩
  rcases g.hx with ⟨rfl, rfl⟩ | ⟨lid, m, ex, rfl, h1, h2, h3, h4, hex⟩
  · exact nn_add g hgF hx hxl (nsend_nil nid room F kd f t no H nx hb (by omega) g.hl g.hid) (.inl ⟨rfl, rfl, rfl, rfl⟩)
  · cases ex
    case true =>
      obtain ⟨rfl, rfl⟩ := hex rfl
      exact nn_add g hgF hx hxl (nsend_0 nid lid room F kd f t no H nx hb (by omega) g.hl h4 g.hid h2 h3) (.inr (.inr (.inr ⟨lid, rfl, rfl, h2, h3, rfl, rfl⟩)))
    match m, h1, h4, g with
    | 0, h1, h4, g => exact nn_add g hgF hx hxl (nsend_grow nid lid room l F kd f t no H nx hb (by omega) (by omega) g.hw.lo g.hl h4 g.hid h2 h3) (.inr (.inl ⟨lid, rfl, h2, h3, rfl, rfl⟩))
    | m + 1, h1, h4, g => exact nn_add g hgF hx hxl (nsend_in nid lid room l F kd f t no H nx m _ hb (by omega) rfl (by omega) g.hw.lo g.hl h4 g.hid h2 h3) (.inr (.inr (.inl ⟨lid, m, rfl, h1, h2, h3, rfl, rfl⟩)))
theorem nn_send_err {kd f t no : Int} (hb : ∀ (H : Heap) (nx : Nat), Ω 30 [.p (ntz kd f t no)] H nx = some (.tuple [.p (.s (.slice none 0 0)), .int .i64 1], [], [])) (g : NN H nx nid room X l fs N) :
    NDid 12 [.ref nid 0, .p (ntz kd f t no)] H nx nid room X l N (.int .i64 1) fs := g.same (nsend_err nid kd f t no H nx hb X _ g.hl g.hid)

theorem nn_turn_state (at' : Int) (v : UInt8) (g : NN H nx nid room X l (A' ++ (F, t) :: B') N) {k f' t' no e : Int} (he : e ≠ 0) (hb : Both F k f' t' no e) :
    NDid 15 [.ref nid 0, .int .i64 A'.length, .int .i64 at', .int .u8 v.toNat] H nx nid room X l N (.int .i64 12) (A' ++ (F, t) :: B') := by
  refine g.same ?_
  obtain ⟨A, x, B, rfl, hA, gA, gw, gB⟩ := g.hw.split'
  rcases g.hx with ⟨_, e⟩ | ⟨lid, m, ex, e', h1, h2, h3, h4, hex⟩
  · simp at e
  have hlen : (A ++ (x, t) :: B).length = A.length + 1 + B.length := by simp; omega
  obtain rfl : ex = false := by
    cases ex
    · rfl
    · simpa using (hex rfl).1
  rw [hlen] at e' h1
  subst e'
  have hgF := g.good (F, t) (by simp)
  rw [← hA]
  exact nturn_state nid lid _ A B (x, t) F (zs m) (.int .i64 room) k f' t' no e H nx at' v (by have := hgF.2.1; dsimp only at this; omega) (by have := hgF.1; dsimp only at this; omega) gw he hb.1 g.hl h4 g.hid h2
theorem nn_turn (at' : Int) (v b : UInt8) (m : Nat) (g : NN H nx nid room X l (A' ++ (F, t) :: B') N) (hN : N < 400) {k f' t' no : Int} (hb : Both F k f' t' no 0) (hm : at'.emod F.length = m) (hbb : F[m]? = some b) (hg' : GoodF (F.set m (b ^^^ v))) :
    NDid 15 [.ref nid 0, .int .i64 A'.length, .int .i64 at', .int .u8 v.toNat] H nx nid room X l N (.int .i64 0) (A' ++ (F.set m (b ^^^ v), t) :: B') := by
  obtain ⟨A, x, B, rfl, hA, gA, gw, gB⟩ := g.hw.split'
  rcases g.hx with ⟨_, e⟩ | ⟨lid, q, ex, e', h1, h2, h3, h4, hex⟩
  · simp at e
  have hlen : (A ++ (x, t) :: B).length = A.length + 1 + B.length := by simp; omega
  obtain rfl : ex = false := by
    cases ex
    · rfl
    · simpa using (hex rfl).1
  rw [hlen] at e' h1
  subst e'
  have hgF := g.good (F, t) (by simp)
  have hlo : Lo nx (A ++ B) := (gA.app gB).lo
  have hz := ids_zs q
  have := nturn_ nid lid _ A B (x, t) F (zs q) (.int .i64 room) k f' t' no H nx at' v b m (by have := hgF.2.1; dsimp only at this; omega) (by have := hgF.1; dsimp only at this; omega) gw hb.1 hm hbb hlo hz (by omega) g.hl h4 g.hid h2 h3
  rw [← hA]
  have hgid := g.hid
  have hfA : ∀ i ∈ fids A, i ∈ fids (A ++ (x, t) :: B) := fun i hi => by rw [fids_mid]; exact List.mem_append_left _ hi
  have hfB : ∀ i ∈ fids B, i ∈ fids (A ++ (x, t) :: B) := fun i hi => by rw [fids_mid]; exact List.mem_append_right _ (List.mem_append_right _ hi)
  have hk : ∀ i ∈ fids (A ++ (x, t) :: B), Go.Sx.look H nx ⟨[(lid, some (.cells (ro (A ++ (.arr nx 0 F.length 1 F.length false, t) :: B) ++ zs q)))], [some (.cells (byt (F.set m (b ^^^ v))))]⟩ i = H i := fun i hi => look_low' (g.hw.lt i hi) fun p hp e => by
    obtain rfl : p = (lid, some (.cells (ro (A ++ (.arr nx 0 F.length 1 F.length false, t) :: B) ++ zs q))) := by simpa using hp
    have q := g.fne i hi
    simp only [Go.Sx.ids, List.mem_singleton] at q
    exact q.2 e.symm
  refine ⟨_, _, .arr lid 0 (A.length + 1 + B.length) 2 (A.length + 1 + B.length + q) false, A ++ (.arr nx 0 F.length 1 F.length false, t) :: B, this, ⟨by simp; omega, by
      have : ¬ nid = lid := h3
      simp [Go.Sx.look, findU, hgid, this]; exact g.hl, ?_, ?_, .inr ⟨lid, q, false, by simp; omega, by simp; omega, by simp; omega, h3, by simp [Go.Sx.look, findU, h2], fun h => by cases h⟩⟩, by simp [ct, Go.Sx.ids], by simp, ?_, by intro i hi; simp only [ct, List.mem_cons, Go.Sx.ids, List.not_mem_nil, or_false] at hi ⊢; omega⟩
  · refine ((gA.mono (fun i hi => hk i (hfA i hi)) (by simp)).app (.cons (.inr ⟨nx, F.length, false, by simp, by simp [Go.Sx.look], by simp⟩) (gB.mono (fun i hi => hk i (hfB i hi)) (by simp))))
  · intro f hf
    rcases List.mem_append.1 hf with h | h
    · exact g.good f (List.mem_append_left _ h)
    · rcases List.mem_cons.1 h with rfl | h
      · exact hg'
      · exact g.good f (List.mem_append_right _ (List.mem_cons_of_mem _ h))
  · intro i hi
    simp only [ft, List.mem_cons, List.mem_append, Go.Sx.ids, List.not_mem_nil, or_false, fids_mid] at hi ⊢
    rcases hi with h | h | h | h | h
    · exact .inl (.inl h)
    · exact .inl (.inr (.inl h))
    · exact .inl (.inr (.inr (.inl h)))
    · exact .inr (by omega)
    · exact .inl (.inr (.inr (.inr (.inr h))))
theorem left_fids (t : Int) (l : List Fr) : ∀ i ∈ fids (left t l), i ∈ fids l := by
  intro i hi
  simp only [fids, List.mem_flatMap] at hi ⊢
  obtain ⟨a, ha, h⟩ := hi
  exact ⟨a, (List.mem_filter.1 ha).1, h⟩
theorem nn_clear (t : Int) (g : NN H nx nid room X l fs N) (hN : N < 400) :
    NDid 16 [.ref nid 0, .int .i64 t] H nx nid room X l N (.int .i64 ((fs.length : Int) - (fs.filter fun f => !(f.2 == t)).length)) (fs.filter fun f => !(f.2 == t)) := by
  have hll := g.hw.len
  have gl := g.hw.left t
  have hll2 := gl.len
  have good' : ∀ f ∈ fs.filter (fun f => !(f.2 == t)), GoodF f.1 := fun f hf => g.good f (List.mem_filter.1 hf).1
  have hle := left_le t l
  rcases Nat.eq_zero_or_pos l.length with h0 | h0
  · obtain rfl := List.eq_nil_of_length_eq_zero h0
    obtain rfl : fs = [] := List.eq_nil_of_length_eq_zero hll.symm
    have hs := g.sl
    exact g.same (nclear_0 nid t H nx X _ hs g.hl g.hid)
  · rcases g.hx with ⟨_, rfl⟩ | ⟨lid, m, ex, rfl, h1, h2, h3, h4, hex⟩
    · simp at h0
    · obtain rfl : ex = false := by
        cases ex
        · rfl
        · rw [(hex rfl).1] at h0; simp at h0
      obtain ⟨u, e1, e2⟩ := nclear_ nid lid _ l t H nx (.int .i64 room) rfl m h0 rfl (by omega) g.hw.fv g.hw.lo g.hl h4 g.hid h2 h3
      have hgid := g.hid
      have hne' : ¬ lid = nid := fun e => h3 e.symm
      rw [← hll, ← hll2]
      have hk : ∀ i ∈ fids (left t l), Go.Sx.look H nx ⟨u, []⟩ i = H i := fun i hi => by
        have hi' := left_fids t l i hi
        have q := g.fne i hi'
        simp only [Go.Sx.ids, List.mem_singleton] at q
        refine look_low' (g.hw.lt i hi') fun p hp => ?_
        rcases e2 with ⟨_, rfl⟩ | ⟨_, rfl⟩
        · obtain rfl : p = _ := by simpa using hp
          exact fun e => q.1 e.symm
        · simp only [List.mem_cons, List.not_mem_nil, or_false] at hp
          rcases hp with rfl | rfl
          · exact fun e => q.2 e.symm
          · exact fun e => q.1 e.symm
      refine ⟨u, [], .arr lid 0 (left t l).length 2 (l.length + m) false, left t l, e1, ⟨by simp; omega, ?_, gl.mono hk (by simp), good', .inr ⟨lid, l.length - (left t l).length + m, false, by rw [show (left t l).length + (l.length - (left t l).length + m) = l.length + m by omega], by omega, by simp; omega, h3, ?_, fun h => by cases h⟩⟩, ?_, by rcases e2 with ⟨_, rfl⟩ | ⟨_, rfl⟩ <;> simp, ?_, by intro i hi; simp only [ct, List.mem_cons, Go.Sx.ids, List.not_mem_nil, or_false] at hi ⊢; omega⟩
      · rcases e2 with ⟨_, rfl⟩ | ⟨_, rfl⟩ <;> simp [Go.Sx.look, findU, hgid, h3]
      · rcases e2 with ⟨e, rfl⟩ | ⟨_, rfl⟩
        · have := left_none e
          simp [Go.Sx.look, findU, h2, hne', this, h4]
        · simp [Go.Sx.look, findU, h2]
      · intro q hq
        rcases e2 with ⟨_, rfl⟩ | ⟨_, rfl⟩
        · obtain rfl : q = _ := by simpa using hq
          simp [ct]
        · simp only [List.mem_cons, List.not_mem_nil, or_false] at hq
          rcases hq with rfl | rfl <;> simp [ct, Go.Sx.ids]
      · intro i hi
        simp only [ft, List.mem_cons, List.mem_append, Go.Sx.ids, List.not_mem_nil, or_false] at hi ⊢
        rcases hi with h | h | h
        · exact .inl (.inl h)
        · exact .inl (.inr (.inl h))
        · exact .inl (.inr (.inr (left_fids t l i h)))
end n
end Go.Proofs.YtjmnamichdegaaaGreatDoor
end

section
namespace Go.Proofs.YtjmnamichdegaaaGreatDoor
open Go Go.Sx
set_option linter.unusedSimpArgs false
set_option linter.unusedVariables false
section r
variable {H : Heap} {nx nid room N : Nat} {X : LV} {l : List Fr} {fs A' B' : List Fm} {F : List UInt8} {t : Int}

theorem rn_new {l' : List Fr} {fs' : List Fm} {f : FuncId} {args : List LV} {r : LV} {ex : Bool} {nw : List (Option Go.Sx.Obj)} (g : RN H nx nid room X l fs N)
    (h : Ω f args H nx = some (r, [(nid, some (.cells [.arr nx 0 l'.length 3 l'.length ex, .int .i64 room]))], nw)) (h0 : nw[0]? = some (some (.cells (rr l')))) (hN : l'.length ≤ N + 1)
    (hw : ∀ H', (∀ i ∈ fids l, H' i = H i) → (∀ k, 0 < k → H' (nx + k) = (nw[k]?).join) → AllW H' (nx + nw.length) l' fs') (hg : ∀ f ∈ fs', GoodF f.1) (hi : ∀ i ∈ fids l', i ∈ fids l ∨ nx ≤ i) :
    RDid f args H nx nid room X l N r fs' := by
  have hgid := g.hid
  have hlen : 0 < nw.length := (List.getElem?_eq_some_iff.1 h0).1
  refine ⟨_, nw, .arr nx 0 l'.length 3 l'.length ex, l', h, ⟨by omega, by simp [Go.Sx.look, findU, hgid], hw _ ?_ ?_, hg, .inr ⟨nx, ex, rfl, hN, by omega, by omega, ?_⟩⟩, by simp [ct], by simp, ?_, by intro i hi; simp only [ct, List.mem_cons, Go.Sx.ids, List.not_mem_nil, or_false] at hi ⊢; omega⟩
  · intro i hi
    refine look_low' (g.hw.lt i hi) fun p hp e => ?_
    obtain rfl : p = _ := by simpa using hp
    exact (g.fne i hi).1 e.symm
  · intro k hk
    have : ¬ nx + k < nx := by omega
    simp only [Go.Sx.look, this, if_false, Nat.add_sub_cancel_left]
    cases nw[k]? <;> rfl
  · simp [Go.Sx.look, h0]
  · intro i hi'
    simp only [ft, List.mem_cons, List.mem_append, Go.Sx.ids, List.not_mem_nil, or_false] at hi' ⊢
    rcases hi' with h | h | h
    · exact .inl (.inl h)
    · exact .inr (by omega)
    · rcases hi i h with h | h
      · exact .inl (.inr (.inr h))
      · exact .inr h

theorem rn_out (g : RN H nx nid room X l fs N) {i : Int} (hi : ¬ (0 ≤ i ∧ i < fs.length)) (at' : Int) (v : UInt8) :
    RDid 19 [.ref nid 0, .int .i64 i] H nx nid room X l N (.int .i64 2) fs ∧
    RDid 18 [.ref nid 0, .int .i64 i] H nx nid room X l N (.tuple [.p (rn 0 0 0 0), .int .i64 2]) fs ∧
    RDid 20 [.ref nid 0, .int .i64 i] H nx nid room X l N (.int .i64 2) fs ∧
    RDid 21 [.ref nid 0, .int .i64 i, .int .i64 at', .int .u8 v.toNat] H nx nid room X l N (.int .i64 2) fs := by
  rw [← g.hw.len] at hi
  exact ⟨g.same (rdrop_out _ _ _ _ _ _ _ hi g.sl g.hl g.hid), g.same (rtake_out _ _ _ _ _ _ _ hi g.sl g.hl g.hid), g.same (rdouble_out _ _ _ _ _ _ _ hi g.sl g.hl g.hid), g.same (rturn_out _ _ _ _ _ _ _ _ _ hi g.sl g.hl g.hid)⟩

theorem good_del (g : ∀ f ∈ A' ++ (F, t) :: B', GoodF f.1) : ∀ f ∈ A' ++ B', GoodF f.1 := fun f hf => g f (by
  rcases List.mem_append.1 hf with h | h
  · exact List.mem_append_left _ h
  · exact List.mem_append_right _ (List.mem_cons_of_mem _ h))
theorem fids_del {A B : List Fr} {a : Fr} : ∀ i ∈ fids (A ++ B), i ∈ fids (A ++ a :: B) := fun i hi => by
  rw [fids_app] at hi
  rw [fids_mid]
  rcases List.mem_append.1 hi with h | h
  · exact List.mem_append_left _ h
  · exact List.mem_append_right _ (List.mem_append_right _ h)

theorem rn_drop (g : RN H nx nid room X l (A' ++ (F, t) :: B') N) (hN : N < 400) : RDid 19 [.ref nid 0, .int .i64 A'.length] H nx nid room X l N (.int .i64 0) (A' ++ B') := by
  obtain ⟨A, x, B, rfl, hA, gA, gw, gB⟩ := g.hw.split'
  rcases g.hx with ⟨_, e⟩ | ⟨lid, ex, e, h1, h2, h3, h4⟩
  · simp at e
  have hlen : (A ++ (x, t) :: B).length = A.length + 1 + B.length := by simp; omega
  rw [hlen] at e h1
  subst e
  have hlo : Lo nx (A ++ B) := (gA.app gB).lo
  have := rdrop_ nid lid A B (x, t) ex (.int .i64 room) H nx (by omega) hlo rfl g.hl h4 g.hid h2 h3
  rw [← hA]
  rw [← List.length_append] at this
  exact rn_new g this rfl (by rw [List.length_append]; omega) (fun H' hH _ => (gA.app gB).mono (fun i hi => hH i (fids_del i hi)) (by simp)) (good_del g.good) (fun i hi => .inl (fids_del i hi))
theorem rn_take (g : RN H nx nid room X l (A' ++ (F, t) :: B') N) (hN : N < 400) {k f' t' no e : Int} (hb : Both F k f' t' no e) : RDid 18 [.ref nid 0, .int .i64 A'.length] H nx nid room X l N (.tuple [.p (rn k f' t' no), .int .i64 e]) (A' ++ B') := by
  obtain ⟨A, x, B, rfl, hA, gA, gw, gB⟩ := g.hw.split'
  rcases g.hx with ⟨_, e⟩ | ⟨lid, ex, e', h1, h2, h3, h4⟩
  · simp at e
  have hlen : (A ++ (x, t) :: B).length = A.length + 1 + B.length := by simp; omega
  rw [hlen] at e' h1
  subst e'
  have hlo : Lo nx (A ++ B) := (gA.app gB).lo
  have := rtakes_ nid lid A B (x, t) F ex (.int .i64 room) k f' t' no e H nx (by omega) gw hb.2 hlo rfl g.hl h4 g.hid h2 h3
  rw [← hA]
  rw [← List.length_append] at this
  exact rn_new g this rfl (by rw [List.length_append]; omega) (fun H' hH _ => (gA.app gB).mono (fun i hi => hH i (fids_del i hi)) (by simp)) (good_del g.good) (fun i hi => .inl (fids_del i hi))
theorem good_add {fs : List Fm} (g : ∀ f ∈ fs, GoodF f.1) (h : GoodF F) : ∀ f ∈ fs ++ [(F, t)], GoodF f.1 := fun f hf => by
  rcases List.mem_append.1 hf with h' | h'
  · exact g f h'
  · obtain rfl : f = (F, t) := by simpa using h'
    exact h
theorem rn_double (g : RN H nx nid room X l (A' ++ (F, t) :: B') N) (hN : N < 400) :
    ((A' ++ (F, t) :: B').length ≥ room → RDid 20 [.ref nid 0, .int .i64 A'.length] H nx nid room X l N (.int .i64 8) (A' ++ (F, t) :: B')) ∧
    ((A' ++ (F, t) :: B').length < room → RDid 20 [.ref nid 0, .int .i64 A'.length] H nx nid room X l N (.int .i64 0) ((A' ++ (F, t) :: B') ++ [(F, t)])) := by
  have hll := g.hw.len
  obtain ⟨A, x, B, rfl, hA, gA, gw, gB⟩ := g.hw.split'
  rcases g.hx with ⟨_, e⟩ | ⟨lid, ex, e', h1, h2, h3, h4⟩
  · simp at e
  have hlen : (A ++ (x, t) :: B).length = A.length + 1 + B.length := by simp; omega
  rw [hlen] at e' h1 hll
  subst e'
  have hlo : Lo nx (A ++ (x, t) :: B) := g.hw.lo
  have hgF := g.good (F, t) (by simp)
  have hxl : ∀ i ∈ ids x, i ∈ fids (A ++ (x, t) :: B) := fun i hi => by rw [fids_mid]; exact List.mem_append_right _ (List.mem_append_left _ hi)
  rw [← hA]
  refine ⟨fun hr => g.same (rdouble_full nid lid room ex H nx A.length (A.length + 1 + B.length) (by omega) (by omega) g.hl g.hid), fun hr => ?_⟩
  have := rdouble_ nid lid room A B (x, t) ex F H nx gw (by omega) (by omega) hlo g.hl h4 g.hid h2 h3
  have hlen2 : ((A ++ (x, t) :: B) ++ [(x, t)]).length = A.length + 1 + B.length + 1 := by rw [List.length_append, hlen]; rfl
  rw [← hlen2] at this
  exact rn_new g this rfl (by rw [hlen2]; omega) (fun H' hH _ => (g.hw.mono hH (by simp)).app (.cons (gw.mono' (fun i hi => hH i (hxl i hi)) (by simp)) .nil)) (good_add g.good hgF) (fun i hi => by
    rw [fids_app] at hi
    rcases List.mem_append.1 hi with h | h
    · exact .inl h
    · exact .inl (hxl i (by simpa [fids] using h)))
theorem rn_send {kd f t no : Int} (hb : RBts kd f t no F) (hgF : GoodF F) (g : RN H nx nid room X l fs N) (hN : N < 400) :
    (fs.length ≥ room → RDid 24 [.ref nid 0, .p (rn kd f t no)] H nx nid room X l N (.int .i64 8) fs) ∧
    (fs.length < room → RDid 24 [.ref nid 0, .p (rn kd f t no)] H nx nid room X l N (.int .i64 0) (fs ++ [(F, t)])) := by
  have hll := g.hw.len
  have hlN := g.len
  refine ⟨fun hr => g.same (rsend_full nid room X l F kd f t no H nx hb g.rl (by omega) g.hl g.hid), fun hr => ?_⟩
  have := rsend_ nid room X l F kd f t no H nx hb g.rl (by omega) (by omega) g.hw.lo g.hl g.hid
  have hlen2 : (l ++ [((.p (.sl (bytP F) F.length 1 false) : LV), t)]).length = l.length + 1 := by simp
  rw [← hlen2] at this
  exact rn_new g this rfl (by rw [hlen2]; omega) (fun H' hH _ => (g.hw.mono hH (by simp)).app (.cons (.inl rfl) .nil)) (good_add g.good hgF) (fun i hi => by
    rw [fids_app] at hi
    rcases List.mem_append.1 hi with h | h
    · exact .inl h
    · simp [fids, Go.Sx.ids] at h)
theorem rn_send_err {kd f t no : Int} (hb : ∀ (H : Heap) (nx : Nat), Ω 38 [.p (rn kd f t no)] H nx = some (.tuple [.p (.s (.slice none 0 0)), .int .i64 1], [], [])) (g : RN H nx nid room X l fs N) :
    RDid 24 [.ref nid 0, .p (rn kd f t no)] H nx nid room X l N (.int .i64 1) fs := g.same (rsend_err nid kd f t no H nx hb)
theorem rn_turn_state (at' : Int) (v : UInt8) (g : RN H nx nid room X l (A' ++ (F, t) :: B') N) {k f' t' no e : Int} (he : e ≠ 0) (hb : Both F k f' t' no e) :
    RDid 21 [.ref nid 0, .int .i64 A'.length, .int .i64 at', .int .u8 v.toNat] H nx nid room X l N (.int .i64 12) (A' ++ (F, t) :: B') := by
  refine g.same ?_
  obtain ⟨A, x, B, rfl, hA, gA, gw, gB⟩ := g.hw.split'
  rcases g.hx with ⟨_, e⟩ | ⟨lid, ex, e', h1, h2, h3, h4⟩
  · simp at e
  have hlen : (A ++ (x, t) :: B).length = A.length + 1 + B.length := by simp; omega
  rw [hlen] at e' h1
  subst e'
  rw [← hA]
  exact rturn_state nid lid A B (x, t) F ex (.int .i64 room) k f' t' no e H nx at' v gw he hb.2 g.hl h4 g.hid h2
theorem rn_turn (at' : Int) (v b : UInt8) (m : Nat) (g : RN H nx nid room X l (A' ++ (F, t) :: B') N) (hN : N < 390) {k f' t' no : Int} (hb : Both F k f' t' no 0) (hm : at'.emod F.length = m) (hbb : F[m]? = some b) (hg' : GoodF (F.set m (b ^^^ v))) :
    RDid 21 [.ref nid 0, .int .i64 A'.length, .int .i64 at', .int .u8 v.toNat] H nx nid room X l N (.int .i64 0) (A' ++ (F.set m (b ^^^ v), t) :: B') := by
  obtain ⟨A, x, B, rfl, hA, gA, gw, gB⟩ := g.hw.split'
  rcases g.hx with ⟨_, e⟩ | ⟨lid, ex, e', h1, h2, h3, h4⟩
  · simp at e
  have hlen : (A ++ (x, t) :: B).length = A.length + 1 + B.length := by simp; omega
  rw [hlen] at e' h1
  subst e'
  have hgF := g.good (F, t) (by simp)
  have hlo : Lo nx (A ++ B) := (gA.app gB).lo
  have := rturn_ nid lid A B (x, t) F ex (.int .i64 room) k f' t' no H nx at' v b m (by have := hgF.2.1; dsimp only at this; omega) (by have := hgF.1; dsimp only at this; omega) (by omega) gw hb.2 hm hbb hlo rfl g.hl h4 g.hid h2 h3
  rw [← hA]
  have hfA : ∀ i ∈ fids A, i ∈ fids (A ++ (x, t) :: B) := fun i hi => by rw [fids_mid]; exact List.mem_append_left _ hi
  have hfB : ∀ i ∈ fids B, i ∈ fids (A ++ (x, t) :: B) := fun i hi => by rw [fids_mid]; exact List.mem_append_right _ (List.mem_append_right _ hi)
  have hlen2 : (A ++ ((.arr (nx + 1) 0 F.length 1 F.length false : LV), t) :: B).length = A.length + 1 + B.length := by simp; omega
  rw [← hlen2] at this
  refine rn_new g this rfl (by rw [hlen2]; omega) (fun H' hH hH2 => (gA.mono (fun i hi => hH i (hfA i hi)) (by simp)).app (.cons (.inr ⟨nx + 1, F.length, false, by simp, ?_, by simp⟩) (gB.mono (fun i hi => hH i (hfB i hi)) (by simp)))) ?_ ?_
  · rw [hH2 1 (by omega)]; rfl
  · intro f hf
    rcases List.mem_append.1 hf with h | h
    · exact g.good f (List.mem_append_left _ h)
    · rcases List.mem_cons.1 h with rfl | h
      · exact hg'
      · exact g.good f (List.mem_append_right _ (List.mem_cons_of_mem _ h))
  · intro i hi
    simp only [fids_mid, List.mem_append, Go.Sx.ids, List.mem_cons, List.not_mem_nil, or_false] at hi ⊢
    rcases hi with h | h | h
    · exact .inl (.inl h)
    · exact .inr (by omega)
    · exact .inl (.inr (.inr h))
theorem rn_clear (t : Int) (g : RN H nx nid room X l fs N) (hN : N < 400) :
    RDid 22 [.ref nid 0, .int .i64 t] H nx nid room X l N (.int .i64 ((fs.length : Int) - (fs.filter fun f => !(f.2 == t)).length)) (fs.filter fun f => !(f.2 == t)) := by
  have hll := g.hw.len
  have gl := g.hw.left t
  have hll2 := gl.len
  have good' : ∀ f ∈ fs.filter (fun f => !(f.2 == t)), GoodF f.1 := fun f hf => g.good f (List.mem_filter.1 hf).1
  have hle := left_le t l
  have hlN := g.len
  have hgid := g.hid
  rcases g.hx with ⟨rfl, rfl⟩ | ⟨lid, ex, rfl, h1, h2, h3, h4⟩
  · obtain rfl : fs = [] := List.eq_nil_of_length_eq_zero hll.symm
    have := rclear_0 (t := t) (.int .i64 room) rfl g.hl g.hid
    exact ⟨_, _, nilS, [], this, ⟨by simp; omega, by simp [Go.Sx.look, findU, hgid], .nil, by simp, .inl ⟨rfl, rfl⟩⟩, by simp [ct], by simp, fun i hi => .inl hi, fun i hi => .inl hi⟩
  · obtain ⟨Y, nw, e1, e2⟩ := rclear_ (t := t) (ex := ex) l (by omega) (.int .i64 room) rfl g.hw.fv g.hw.lo g.hl h4 g.hid h2 h3
    rw [← hll, ← hll2]
    rcases e2 with ⟨hL, rfl, rfl⟩ | ⟨rfl, rfl⟩
    · rw [hL] at gl e1
      obtain hfs : fs.filter (fun f => !(f.2 == t)) = [] := List.eq_nil_of_length_eq_zero (by rw [← hll2, hL]; rfl)
      rw [hL, hfs]
      refine ⟨_, _, nilS, [], e1, ⟨by simp; omega, by simp [Go.Sx.look, findU, hgid], .nil, by simp, .inl ⟨rfl, rfl⟩⟩, by simp [ct], by simp, fun i hi => .inl ?_, by intro i hi; simp only [ct, List.mem_cons, Go.Sx.ids, List.not_mem_nil, or_false] at hi ⊢; omega⟩
      simp only [ft, List.mem_cons, List.mem_append, Go.Sx.ids, List.not_mem_nil, or_false, fids, List.flatMap_nil] at hi ⊢
      exact .inl hi
    · exact rn_new g e1 rfl (by omega) (fun H' hH _ => gl.mono (fun i hi => hH i (left_fids t l i hi)) (by simp)) good' (fun i hi => .inl (left_fids t l i hi))
end r
end Go.Proofs.YtjmnamichdegaaaGreatDoor
end

section
namespace Go.Proofs.YtjmnamichdegaaaGreatDoor
open Go Go.Sx
set_option linter.unusedSimpArgs false
set_option linter.unusedVariables false

/- Updates. -/
abbrev KU (u : Upd) : Prop := (u.map Prod.fst).Nodup
theorem setU_mem (id : Nat) (o : Option Go.Sx.Obj) : ∀ u : Upd, KU u → KU (setU u id o) ∧ (∀ q ∈ setU u id o, q = (id, o) ∨ (q ∈ u ∧ q.1 ≠ id)) ∧ (setU u id o).length ≤ u.length + 1 ∧ (∀ q ∈ setU u id o, q.1 = id ∨ q.1 ∈ u.map Prod.fst)
  | [], _ => ⟨by simp [KU, setU], by simp [setU], by simp [setU], by simp [setU]⟩
  | (j, p) :: r, hk => by
    have hk' : j ∉ r.map Prod.fst ∧ KU r := by simpa [KU] using hk
    by_cases e : id = j
    · subst e
      simp only [setU, if_true]
      refine ⟨by simpa [KU] using hk', fun q hq => ?_, by simp, fun q hq => ?_⟩
      · rcases List.mem_cons.1 hq with rfl | hq
        · exact .inl rfl
        · exact .inr ⟨List.mem_cons_of_mem _ hq, fun e => hk'.1 (e ▸ List.mem_map_of_mem hq)⟩
      · rcases List.mem_cons.1 hq with rfl | hq
        · exact .inl rfl
        · exact .inr (List.mem_cons_of_mem _ (List.mem_map_of_mem hq))
    · obtain ⟨h1, h2, h3, h4⟩ := setU_mem id o r hk'.2
      simp only [setU, if_neg e]
      refine ⟨?_, fun q hq => ?_, by simpa using h3, fun q hq => ?_⟩
      · simp only [KU, List.map_cons, List.nodup_cons]
        refine ⟨fun hm => ?_, h1⟩
        obtain ⟨q, hq, e'⟩ := List.mem_map.1 hm
        rcases h4 q hq with h | h
        · exact e (by rw [← e', h])
        · exact hk'.1 (by rw [← e']; exact h)
      · rcases List.mem_cons.1 hq with rfl | hq
        · exact .inr ⟨List.mem_cons_self, fun e' => e e'.symm⟩
        · rcases h2 q hq with h | h
          · exact .inl h
          · exact .inr ⟨List.mem_cons_of_mem _ h.1, h.2⟩
      · rcases List.mem_cons.1 hq with rfl | hq
        · exact .inr (by simp)
        · rcases h4 q hq with h | h
          · exact .inl h
          · exact .inr (List.mem_cons_of_mem _ h)
theorem setAll_mem (nx : Nat) (h : Hp) (hk : KU h.upd) : ∀ u : Upd, KU (setAll nx h u).upd ∧ (∀ q ∈ (setAll nx h u).upd, q ∈ u ∨ q ∈ h.upd) ∧ (setAll nx h u).upd.length ≤ h.upd.length + u.length ∧ (∀ q ∈ (setAll nx h u).upd, q ∈ h.upd ∨ q.1 < nx)
  | [] => ⟨hk, fun q hq => .inr hq, by simp [setAll], fun q hq => .inl hq⟩
  | (id, o) :: r => by
    obtain ⟨h1, h2, h3, h4⟩ := setAll_mem nx h hk r
    rw [setAll]
    by_cases e : id < nx
    · simp only [Go.Sx.setObj, e, if_true]
      obtain ⟨g1, g2, g3, g4⟩ := setU_mem id o _ h1
      refine ⟨g1, fun q hq => ?_, by rw [List.length_cons]; omega, fun q hq => ?_⟩
      · rcases g2 q hq with rfl | h
        · exact .inl List.mem_cons_self
        · rcases h2 q h.1 with h | h
          · exact .inl (List.mem_cons_of_mem _ h)
          · exact .inr h
      · rcases g2 q hq with rfl | h
        · exact .inr e
        · exact h4 q h.1
    · simp only [Go.Sx.setObj, e, if_false]
      refine ⟨h1, fun q hq => ?_, by rw [List.length_cons]; omega, h4⟩
      rcases h2 q hq with h | h
      · exact .inl (List.mem_cons_of_mem _ h)
      · exact .inr h
theorem findU_mem : ∀ {u : Upd}, KU u → ∀ q ∈ u, findU u q.1 = some q.2
  | (j, p) :: r, hk, q, hq => by
    have hk' : j ∉ r.map Prod.fst ∧ KU r := by simpa [KU] using hk
    rcases List.mem_cons.1 hq with rfl | hq
    · simp [findU]
    · have : q.1 ≠ j := fun e => hk'.1 (e ▸ List.mem_map_of_mem hq)
      simp only [findU, if_neg this]
      exact findU_mem hk'.2 q hq
theorem findU_in : ∀ {u : Upd} {i : Nat} {o : Option Go.Sx.Obj}, findU u i = some o → (i, o) ∈ u
  | [], _, _, h => by simp [findU] at h
  | (j, p) :: r, i, o, h => by
    simp only [findU] at h
    split at h
    · rename_i e
      obtain rfl := Option.some.inj h
      rw [e]; exact List.mem_cons_self
    · exact List.mem_cons_of_mem _ (findU_in h)
theorem updIds_mem : ∀ {u : Upd} {i : Nat}, i ∈ updIds u → ∃ q ∈ u, ∃ p, q.2 = some p ∧ i ∈ p.ids
  | (id, none) :: r, i, h => by
    obtain ⟨q, hq, h'⟩ := updIds_mem (by simpa [updIds] using h)
    exact ⟨q, List.mem_cons_of_mem _ hq, h'⟩
  | (id, some o) :: r, i, h => by
    simp only [updIds, List.mem_append] at h
    rcases h with h | h
    · exact ⟨(id, some o), List.mem_cons_self, o, rfl, h⟩
    · obtain ⟨q, hq, h'⟩ := updIds_mem h
      exact ⟨q, List.mem_cons_of_mem _ hq, h'⟩
theorem mem_updIds : ∀ {u : Upd} {q : Nat × Option Go.Sx.Obj} {p : Go.Sx.Obj} {i : Nat}, q ∈ u → q.2 = some p → i ∈ p.ids → i ∈ updIds u
  | (id, none) :: r, q, p, i, hq, e, hi => by
    rcases List.mem_cons.1 hq with rfl | hq
    · simp at e
    · simpa [updIds] using mem_updIds hq e hi
  | (id, some o) :: r, q, p, i, hq, e, hi => by
    simp only [updIds, List.mem_append]
    rcases List.mem_cons.1 hq with rfl | hq
    · obtain rfl := Option.some.inj e
      exact .inl hi
    · exact .inr (mem_updIds hq e hi)
theorem updIds_len {M : Nat} : ∀ {u : Upd}, (∀ q ∈ u, ∀ p, q.2 = some p → p.ids.length ≤ M) → (updIds u).length ≤ u.length * M
  | [], _ => by simp [updIds]
  | (id, none) :: r, h => by
    have := updIds_len (u := r) fun q hq => h q (List.mem_cons_of_mem _ hq)
    simp only [updIds, List.length_cons, Nat.add_mul]
    omega
  | (id, some o) :: r, h => by
    have := updIds_len (u := r) fun q hq => h q (List.mem_cons_of_mem _ hq)
    have h1 := h (id, some o) List.mem_cons_self o rfl
    simp only [updIds, List.length_append, List.length_cons, Nat.add_mul]
    omega

/-- What somebody has alone: all that he can reach is his. -/
structure Cl (H : Heap) (S : List Nat) (N : Nat) : Prop where
  shut : ∀ i ∈ S, ∃ o, H i = some o ∧ (∀ k ∈ o.ids, k ∈ S) ∧ o.ids.length ≤ N + 1
  cost : cost H S [] ≤ 2 * (N + 2)
theorem cost_app (lk : Nat → Option Go.Sx.Obj) : ∀ (A B s : List Nat), cost lk (A ++ B) s = cost lk A s + cost lk B s
  | [], B, s => by simp [cost]
  | a :: A, B, s => by simp only [List.cons_append, cost, cost_app lk A B s]; omega
theorem cost_zero (lk : Nat → Option Go.Sx.Obj) : ∀ (A s : List Nat), (∀ i ∈ A, idn lk i = 0) → cost lk A s = 0
  | [], s, _ => rfl
  | a :: A, s, h => by
    simp only [cost, h a List.mem_cons_self, cost_zero lk A s fun i hi => h i (List.mem_cons_of_mem _ hi)]
    split <;> rfl
theorem cost_filter (lk : Nat → Option Go.Sx.Obj) (p : Nat → Bool) : ∀ (A s : List Nat), cost lk (A.filter p) s ≤ cost lk A s
  | [], s => Nat.le_refl _
  | a :: A, s => by
    have := cost_filter lk p A s
    rw [List.filter_cons]
    split
    · simp only [cost]; omega
    · simp only [cost]; omega
theorem ids_ro : ∀ l : List Fr, ids.idsL (ro l) = fids l
  | [] => rfl
  | a :: l => by rw [ro_cons, fids_cons, ← ids_ro l]; simp [Go.Sx.ids.idsL, Go.Sx.ids]
theorem ids_rr : ∀ l : List Fr, ids.idsL (rr l) = fids l
  | [] => rfl
  | a :: l => by rw [rr_cons, fids_cons, ← ids_rr l]; simp [Go.Sx.ids.idsL, Go.Sx.ids]
section cl
variable {H : Heap} {nx nid room N : Nat} {X : LV} {l : List Fr} {fs : List Fm}
theorem fids_len (g : AllW H nx l fs) : (fids l).length ≤ l.length := by
  have := g.lo.ids_len
  rw [ids_ro] at this
  exact this
theorem cl_of (hl : H nid = some (.cells [X, .int .i64 room])) (hw : AllW H nx l fs) (hg : ∀ f ∈ fs, GoodF f.1) (hN : l.length ≤ N)
    (hx : (X = nilS ∧ l = []) ∨ ∃ lid len sz cap ex cs, X = .arr lid 0 len sz cap ex ∧ H lid = some (.cells cs) ∧ ids.idsL cs = fids l) : Cl H (ft nid X l) N := by
  have hfl := fids_len hw
  have hf : ∀ i ∈ fids l, ∃ o, H i = some o ∧ o.ids = [] := fun i hi => by
    obtain ⟨F, _, h⟩ := hw.apart hg hi
    exact ⟨_, h, by simp [Go.Sx.Obj.ids, ids_byt]⟩
  have hfi : ∀ i ∈ fids l, idn H i = 0 := fun i hi => by
    obtain ⟨o, h1, h2⟩ := hf i hi
    simp [idn, h1, h2]
  have hX : (ids X).length ≤ 1 := by
    rcases hx with ⟨rfl, _⟩ | ⟨lid, _, _, _, _, cs, rfl, _, _⟩ <;> simp [Go.Sx.ids]
  refine ⟨fun i hi => ?_, ?_⟩
  · simp only [ft, List.mem_cons, List.mem_append] at hi
    rcases hi with rfl | hi | hi
    · refine ⟨_, hl, fun k hk => ?_, ?_⟩
      · have : k ∈ ids X := by simpa [Go.Sx.Obj.ids, Go.Sx.ids.idsL, Go.Sx.ids] using hk
        simp [ft, this]
      · simp [Go.Sx.Obj.ids, Go.Sx.ids.idsL, Go.Sx.ids]; omega
    · rcases hx with ⟨rfl, _⟩ | ⟨lid, _, _, _, _, cs, rfl, h, hc⟩
      · simp [Go.Sx.ids] at hi
      · obtain rfl : i = lid := by simpa [Go.Sx.ids] using hi
        refine ⟨_, h, fun k hk => ?_, ?_⟩
        · simp only [Go.Sx.Obj.ids, hc] at hk
          simp [ft, hk]
        · simp only [Go.Sx.Obj.ids, hc]; omega
    · obtain ⟨o, h1, h2⟩ := hf i hi
      exact ⟨o, h1, by simp [h2], by simp [h2]⟩
  · have e : ft nid X l = [nid] ++ (ids X ++ fids l) := rfl
    have h1 : idn H nid ≤ 1 := by simp [idn, hl, Go.Sx.Obj.ids, Go.Sx.ids.idsL, Go.Sx.ids]; omega
    rw [e, cost_app, cost_app, cost_zero H (fids l) [] hfi]
    have h2 : cost H (ids X) [] ≤ N := by
      rcases hx with ⟨rfl, _⟩ | ⟨lid, _, _, _, _, cs, rfl, h, hc⟩
      · simp [Go.Sx.ids, cost]
      · simp [Go.Sx.ids, cost, idn, h, Go.Sx.Obj.ids, hc]; omega
    simp [cost]; omega
theorem NN.cl (g : NN H nx nid room X l fs N) : Cl H (ft nid X l) N := cl_of g.hl g.hw g.good g.len (by
  rcases g.hx with h | ⟨lid, m, ex, h, _, _, _, h4, _⟩
  · exact .inl h
  · exact .inr ⟨lid, _, _, _, _, _, h, h4, by rw [ids_app, ids_ro, ids_zs, List.append_nil]⟩)
theorem RN.cl (g : RN H nx nid room X l fs N) : Cl H (ft nid X l) N := cl_of g.hl g.hw g.good g.len (by
  rcases g.hx with h | ⟨lid, m, h, _, _, _, h4⟩
  · exact .inl h
  · exact .inr ⟨lid, _, _, _, _, _, h, h4, ids_rr l⟩)
theorem conn_of (hl : H nid = some (.cells [X, .int .i64 room])) (hx : (X = nilS ∧ l = []) ∨ ∃ lid len sz cap ex cs, X = .arr lid 0 len sz cap ex ∧ H lid = some (.cells cs) ∧ ids.idsL cs = fids l)
    {P : Nat → Prop} (h0 : P nid) (hP : ∀ i ∈ ft nid X l, P i → ∀ o, H i = some o → ∀ k ∈ o.ids, k ∈ ft nid X l → P k) : ∀ i ∈ ft nid X l, P i := by
  have h1 : ∀ i ∈ ids X, P i := fun i hi => hP nid (by simp [ft]) h0 _ hl i (by simpa [Go.Sx.Obj.ids, Go.Sx.ids.idsL, Go.Sx.ids] using hi) (by simp [ft, hi])
  intro i hi
  simp only [ft, List.mem_cons, List.mem_append] at hi
  rcases hi with rfl | hi | hi
  · exact h0
  · exact h1 i hi
  · rcases hx with ⟨_, rfl⟩ | ⟨lid, _, _, _, _, cs, rfl, h, hc⟩
    · simp [fids] at hi
    · exact hP lid (by simp [ft, Go.Sx.ids]) (h1 lid (by simp [Go.Sx.ids])) _ h i (by simpa [Go.Sx.Obj.ids, hc] using hi) (by simp [ft, hi])
/-- Whoever has the net, can reach all of it. -/
theorem NN.conn (g : NN H nx nid room X l fs N) {P : Nat → Prop} (h0 : P nid) (hP : ∀ i ∈ ft nid X l, P i → ∀ o, H i = some o → ∀ k ∈ o.ids, k ∈ ft nid X l → P k) : ∀ i ∈ ft nid X l, P i := conn_of g.hl (by
  rcases g.hx with h | ⟨lid, m, ex, h, _, _, _, h4, _⟩
  · exact .inl h
  · exact .inr ⟨lid, _, _, _, _, _, h, h4, by rw [ids_app, ids_ro, ids_zs, List.append_nil]⟩) h0 hP
theorem RN.conn (g : RN H nx nid room X l fs N) {P : Nat → Prop} (h0 : P nid) (hP : ∀ i ∈ ft nid X l, P i → ∀ o, H i = some o → ∀ k ∈ o.ids, k ∈ ft nid X l → P k) : ∀ i ∈ ft nid X l, P i := conn_of g.hl (by
  rcases g.hx with h | ⟨lid, m, h, _, _, _, h4⟩
  · exact .inl h
  · exact .inr ⟨lid, _, _, _, _, _, h, h4, ids_rr l⟩) h0 hP
end cl

/-- A call, in any order of evaluation. -/
theorem callO_cl {c : Ctx} {h : Hp} {dr : Bool} {f : FuncId} {args : List LV} {r : LV} {S : List Nat} {N : Nat} {P : Heap → Upd → List (Option Go.Sx.Obj) → Prop} (hN : N ≤ 200) (cl : Cl (Go.Sx.look c.H c.nx h) S N) (lt : ∀ i ∈ S, i < c.nx + h.new.length) (root : ∀ i ∈ ids.idsL args, i ∈ S)
    (hroot : (ids.idsL args).length ≤ 2) (conn : ∀ T : List Nat, (∀ i ∈ ids.idsL args, i ∈ T) → (∀ i ∈ S, i ∈ T → ∀ o, Go.Sx.look c.H c.nx h i = some o → ∀ k ∈ o.ids, k ∈ S → k ∈ T) → ∀ i ∈ S, i ∈ T)
    (op : ∀ H', (∀ i ∈ S, H' i = Go.Sx.look c.H c.nx h i) → ∃ u nw, c.O f args H' (c.nx + h.new.length) = some (r, u, nw) ∧ P H' u nw) :
    ∃ H' T u nw, (∀ i ∈ S, H' i = Go.Sx.look c.H c.nx h i) ∧ callO c dr h f args = some ⟨r, aft c.nx h u nw, T, true⟩ ∧ (∀ i ∈ T, i ∈ S) ∧ P H' u nw := by
  cases dr with
  | false =>
    obtain ⟨u, nw, h1, h2⟩ := op _ fun _ _ => rfl
    refine ⟨_, [], u, nw, fun _ _ => rfl, ?_, by simp, h2⟩
    simp only [callO, Bool.false_eq_true, if_false, h1]
    rfl
  | true =>
    obtain ⟨T, hT, g⟩ := reach_tot (Go.Sx.look c.H c.nx h) S (fun i hi o ho k hk _ => by
      obtain ⟨o', h1, h2, _⟩ := cl.shut i hi
      rw [h1] at ho
      obtain rfl := Option.some.inj ho
      exact h2 k hk) 1000 (ids.idsL args) [] (fun i hi _ => root i hi) (by have := cl.cost; omega)
    have live : ∀ i ∈ S, Go.Sx.look c.H c.nx h i ≠ none := fun i hi => by
      obtain ⟨o', h1, _⟩ := cl.shut i hi
      rw [h1]; simp
    have hTS : ∀ i ∈ T, i ∈ S := fun i hi => ((g.from' i hi).resolve_left (by simp)).1
    have hST : ∀ i ∈ S, i ∈ T := conn T (fun i hi => g.td i hi (live i (root i hi))) fun i hi hT o ho k hk hS => ((g.shut i hT).resolve_left (by simp)) o ho k hk (live k hS)
    obtain ⟨u, nw, h1, h2⟩ := op (fun id => if T.contains id then Go.Sx.look c.H c.nx h id else none) fun i hi => by simp [hST i hi]
    refine ⟨_, T, u, nw, fun i hi => ?_, ?_, hTS, h2⟩
    · simp [hST i hi]
    · have hall : ((ids.idsL args ++ T.flatMap fun id => match Go.Sx.look c.H c.nx h id with
          | some o => o.ids
          | none => []).all fun id => decide (id < c.nx + h.new.length)) = true := by
        rw [List.all_eq_true]
        intro i hi
        rw [decide_eq_true_iff]
        rcases List.mem_append.1 hi with h' | h'
        · exact lt i (root i h')
        · obtain ⟨k, hk, h'⟩ := List.mem_flatMap.1 h'
          obtain ⟨o', q1, q2, _⟩ := cl.shut k (hTS k hk)
          simp only [q1] at h'
          exact lt i (q2 i h')
      simp only [callO, if_true, hT, h1]
      split
      · rfl
      · rename_i hn
        exact absurd hall hn

/-- What a call has done to what was there. -/
structure After (H : Heap) (nx : Nat) (h h' : Hp) (S S' : List Nat) : Prop where
  len : h.new.length ≤ h'.new.length
  same : ∀ i, i < nx + h.new.length → i ∉ S → Go.Sx.look H nx h' i = Go.Sx.look H nx h i
  sub : ∀ i ∈ S', i ∈ S ∨ nx + h.new.length ≤ i
  ku : KU h.upd → KU h'.upd
  upd : KU h.upd → ∀ q ∈ h'.upd, q ∈ h.upd ∨ (q.1 < nx ∧ q.1 ∈ S ∧ (q.2 ≠ none → q.1 ∈ S'))
  cnt : KU h.upd → h'.upd.length ≤ h.upd.length + 2
theorem after_aft {H : Heap} {nx : Nat} {h : Hp} {u : Upd} {nw : List (Option Go.Sx.Obj)} {S S' : List Nat} (lt : ∀ i ∈ S, i < nx + h.new.length) (hu : ∀ q ∈ u, q.1 ∈ S ∧ (q.2 ≠ none → q.1 ∈ S')) (hn : u.length ≤ 2) (hs : ∀ i ∈ S', i ∈ S ∨ nx + h.new.length ≤ i) : After H nx h (aft nx h u nw) S S' := by
  refine ⟨by rw [aft_len]; omega, fun i hi hS => ?_, hs, fun hk => (setAll_mem nx h hk u).1, fun hk q hq => ?_, fun hk => Nat.le_trans (setAll_mem nx h hk u).2.2.1 (by omega)⟩
  · rw [look_aft (fun q hq => lt _ (hu q hq).1)]
    exact look_low' hi fun q hq e => hS (e ▸ (hu q hq).1)
  · have hm := (setAll_mem nx h hk u).2.1 q hq
    rcases (setAll_mem nx h hk u).2.2.2 q hq with h' | h'
    · exact .inl h'
    · rcases hm with h2 | h2
      · exact .inr ⟨h', hu q h2⟩
      · exact .inl h2
theorem look_agree {H H' : Heap} {nx : Nat} {u : Upd} {nw : List (Option Go.Sx.Obj)} {S : List Nat} (h : ∀ i ∈ S, H' i = H i) : ∀ i, i ∈ S ∨ nx ≤ i → Go.Sx.look H nx ⟨u, nw⟩ i = Go.Sx.look H' nx ⟨u, nw⟩ i := fun i hi => by
  by_cases e : i < nx
  · simp only [Go.Sx.look, e, if_true, h i (hi.resolve_right (by omega))]
  · simp only [Go.Sx.look, e, if_false]
section calls
variable {c : Ctx} {h : Hp} {dr : Bool} {f : FuncId} {xs : List LV} {r : LV} {nid room N : Nat} {X : LV} {l : List Fr} {fs fs' : List Fm}
theorem nn_call (hO : c.O = Ω) (hN : N ≤ 200) (ha : ids.idsL xs = []) (g : NN (Go.Sx.look c.H c.nx h) (c.nx + h.new.length) nid room X l fs N) (op : ∀ H', NN H' (c.nx + h.new.length) nid room X l fs N → NDid f (.ref nid 0 :: xs) H' (c.nx + h.new.length) nid room X l N r fs') :
    ∃ T h' X' l', callO c dr h f (.ref nid 0 :: xs) = some ⟨r, h', T, true⟩ ∧ (∀ i ∈ T, i ∈ ft nid X l) ∧ NN (Go.Sx.look c.H c.nx h') (c.nx + h'.new.length) nid room X' l' fs' (N + 1) ∧ After c.H c.nx h h' (ct nid X) (ct nid X') ∧ (∀ i ∈ ft nid X' l', i ∈ ft nid X l ∨ c.nx + h.new.length ≤ i) := by
  have hids : ids.idsL (.ref nid 0 :: xs) = [nid] := by simp [Go.Sx.ids.idsL, Go.Sx.ids, ha]
  obtain ⟨H', T, u, nw, h1, h2, h3, X', l', h4, h5, h6, h7, h8⟩ := callO_cl (dr := dr) (f := f) (args := .ref nid 0 :: xs) (r := r)
    (P := fun H' u nw => ∃ X' l', NN (Go.Sx.look H' (c.nx + h.new.length) ⟨u, nw⟩) (c.nx + h.new.length + nw.length) nid room X' l' fs' (N + 1) ∧ (∀ q ∈ u, q.1 ∈ ct nid X ∧ (q.2 ≠ none → q.1 ∈ ct nid X')) ∧ u.length ≤ 2 ∧ (∀ i ∈ ft nid X' l', i ∈ ft nid X l ∨ c.nx + h.new.length ≤ i) ∧ (∀ i ∈ ct nid X', i ∈ ct nid X ∨ c.nx + h.new.length ≤ i))
    hN g.cl g.lt (by rw [hids]; simp [ft]) (by rw [hids]; simp) (fun T hT hP => g.conn (P := (· ∈ T)) (hT nid (by rw [hids]; simp)) hP) (fun H' hH' => by
      obtain ⟨u, nw, X', l', q1, q2, q3, q4, q5⟩ := op H' (g.mono hH' (Nat.le_refl _) (Nat.le_refl _))
      exact ⟨u, nw, by rw [hO]; exact q1, X', l', q2, q3, q4, q5⟩)
  refine ⟨T, _, X', l', h2, h3, ?_, after_aft (fun i hi => g.lt i (ct_ft i hi)) h5 h6 h8, h7⟩
  refine h4.mono (fun i hi => ?_) (by rw [aft_len]; omega) (Nat.le_refl _)
  rw [look_aft (fun q hq => g.lt _ (ct_ft _ (h5 q hq).1))]
  exact look_agree h1 i (h7 i hi)
theorem rn_call (hO : c.O = Ω) (hN : N ≤ 200) (ha : ids.idsL xs = []) (g : RN (Go.Sx.look c.H c.nx h) (c.nx + h.new.length) nid room X l fs N) (op : ∀ H', RN H' (c.nx + h.new.length) nid room X l fs N → RDid f (.ref nid 0 :: xs) H' (c.nx + h.new.length) nid room X l N r fs') :
    ∃ T h' X' l', callO c dr h f (.ref nid 0 :: xs) = some ⟨r, h', T, true⟩ ∧ (∀ i ∈ T, i ∈ ft nid X l) ∧ RN (Go.Sx.look c.H c.nx h') (c.nx + h'.new.length) nid room X' l' fs' (N + 1) ∧ After c.H c.nx h h' (ct nid X) (ct nid X') ∧ (∀ i ∈ ft nid X' l', i ∈ ft nid X l ∨ c.nx + h.new.length ≤ i) := by
  have hids : ids.idsL (.ref nid 0 :: xs) = [nid] := by simp [Go.Sx.ids.idsL, Go.Sx.ids, ha]
  obtain ⟨H', T, u, nw, h1, h2, h3, X', l', h4, h5, h6, h7, h8⟩ := callO_cl (dr := dr) (f := f) (args := .ref nid 0 :: xs) (r := r)
    (P := fun H' u nw => ∃ X' l', RN (Go.Sx.look H' (c.nx + h.new.length) ⟨u, nw⟩) (c.nx + h.new.length + nw.length) nid room X' l' fs' (N + 1) ∧ (∀ q ∈ u, q.1 ∈ ct nid X ∧ (q.2 ≠ none → q.1 ∈ ct nid X')) ∧ u.length ≤ 2 ∧ (∀ i ∈ ft nid X' l', i ∈ ft nid X l ∨ c.nx + h.new.length ≤ i) ∧ (∀ i ∈ ct nid X', i ∈ ct nid X ∨ c.nx + h.new.length ≤ i))
    hN g.cl g.lt (by rw [hids]; simp [ft]) (by rw [hids]; simp) (fun T hT hP => g.conn (P := (· ∈ T)) (hT nid (by rw [hids]; simp)) hP) (fun H' hH' => by
      obtain ⟨u, nw, X', l', q1, q2, q3, q4, q5⟩ := op H' (g.mono hH' (Nat.le_refl _) (Nat.le_refl _))
      exact ⟨u, nw, by rw [hO]; exact q1, X', l', q2, q3, q4, q5⟩)
  refine ⟨T, _, X', l', h2, h3, ?_, after_aft (fun i hi => g.lt i (ct_ft i hi)) h5 h6 h8, h7⟩
  refine h4.mono (fun i hi => ?_) (by rw [aft_len]; omega) (Nat.le_refl _)
  rw [look_aft (fun q hq => g.lt _ (ct_ft _ (h5 q hq).1))]
  exact look_agree h1 i (h7 i hi)
end calls
end Go.Proofs.YtjmnamichdegaaaGreatDoor
end

section
namespace Go.Proofs.YtjmnamichdegaaaGreatDoor
open Go Go.Sx
set_option linter.unusedSimpArgs false
set_option linter.unusedVariables false

section left
variable {H : Heap} {nx nid room N m : Nat} {X : LV} {l : List Fr} {fs : List Fm} {h : Hp} {u : Upd} {n : List (Option Go.Sx.Obj)} {ρ : Nat → Nat} {S : List Nat}
abbrev rnL (ρ : Nat → Nat) (l : List Fr) : List Fr := l.map fun a => (rnm ρ a.1, a.2)
theorem look_findU {i : Nat} {o : Option Go.Sx.Obj} (hi : i < nx) (h1 : findU h.upd i = some o) : Go.Sx.look H nx h i = o := by simp [Go.Sx.look, hi, h1]
theorem look_findN {i : Nat} (hi : i < nx) (h1 : findU h.upd i = none) : Go.Sx.look H nx h i = H i := by simp [Go.Sx.look, hi, h1]
theorem left_key (L : Left H nx h u n ρ S) {F : List Nat} (hF : ∀ i ∈ F, i < nx ∨ i ∈ S) (old : ∀ i ∈ F, i < nx → findU h.upd i = none → ∀ o, H i = some o → ∀ k ∈ o.ids, k < nx) : ∀ i ∈ F, ∀ o, Go.Sx.look H nx h i = some o → Go.Sx.look H nx ⟨u, n⟩ (ρ i) = some (rnmO ρ o) := by
  intro i hi o ho
  rcases Nat.lt_or_ge i nx with h1 | h1
  · rw [L.low i h1]
    cases hf : findU h.upd i with
    | none =>
      rw [look_findN h1 hf] at ho
      rw [L.old i h1 hf, ho, rnmO_id ρ o fun k hk => L.low k (old i hi h1 hf o ho k hk)]
    | some p =>
      rw [look_findU h1 hf] at ho
      rw [L.set i p h1 hf, ho]; rfl
  · rw [L.new i ((hF i hi).resolve_left (by omega)), ho]; rfl
theorem left_reach (roots : ∀ i ∈ updIds h.upd, i < nx ∨ i ∈ S) (shut : ∀ i ∈ S, ∀ o, Go.Sx.look H nx h i = some o → ∀ k ∈ o.ids, k < nx ∨ k ∈ S) {F : List Nat} (old : ∀ i ∈ F, i < nx → findU h.upd i = none → ∀ o, H i = some o → ∀ k ∈ o.ids, k < nx) :
    ∀ i ∈ F, (i < nx ∨ i ∈ S) → ∀ o, Go.Sx.look H nx h i = some o → ∀ k ∈ o.ids, k ∈ F → k < nx ∨ k ∈ S := by
  intro i hi hP o ho k hk _
  rcases Nat.lt_or_ge i nx with h1 | h1
  · cases hf : findU h.upd i with
    | none =>
      rw [look_findN h1 hf] at ho
      exact .inl (old i hi h1 hf o ho k hk)
    | some p =>
      rw [look_findU h1 hf] at ho
      exact roots k (mem_updIds (findU_in hf) ho hk)
  · exact shut i (hP.resolve_left (by omega)) o ho k hk
theorem rnL_ro (ρ : Nat → Nat) (l : List Fr) : (ro l).map (rnm ρ) = ro (rnL ρ l) := by
  induction l with
  | nil => rfl
  | cons a l ih =>
    rw [ro_cons, List.map_cons, List.map_cons, ih]
    show _ = ro ((rnm ρ a.1, a.2) :: rnL ρ l)
    rw [ro_cons]; rfl
theorem rnL_rr (ρ : Nat → Nat) (l : List Fr) : (rr l).map (rnm ρ) = rr (rnL ρ l) := by
  induction l with
  | nil => rfl
  | cons a l ih =>
    rw [rr_cons, List.map_cons, List.map_cons, List.map_cons, ih]
    show _ = rr ((rnm ρ a.1, a.2) :: rnL ρ l)
    rw [rr_cons]; rfl
theorem rnm_zs (ρ : Nat → Nat) : ∀ m, (zs m).map (rnm ρ) = zs m
  | 0 => rfl
  | m + 1 => by rw [zs, List.map_cons, List.map_cons, rnm_zs ρ m]; rfl
theorem rnmO_byt (ρ : Nat → Nat) (F : List UInt8) : rnmO ρ (.cells (byt F)) = .cells (byt F) := rnmO_id _ _ (by simp [Go.Sx.Obj.ids, ids_byt])
theorem left_wh {H1 H2 : Heap} {n1 n2 : Nat} {x : LV} {F : List UInt8} (g : Wh H1 n1 x F) (key : ∀ i ∈ ids x, ∀ o, H1 i = some o → H2 (ρ i) = some (rnmO ρ o)) (top : ∀ i ∈ ids x, ρ i < n2) : Wh H2 n2 (rnm ρ x) F ∧ ids (rnm ρ x) = (ids x).map ρ := by
  rcases g with rfl | ⟨id, cp, ex, rfl, h1, h2⟩
  · exact ⟨.inl rfl, rfl⟩
  · refine ⟨.inr ⟨ρ id, cp, ex, rfl, ?_, top id (by simp [Go.Sx.ids])⟩, rfl⟩
    rw [key id (by simp [Go.Sx.ids]) _ h1, rnmO_byt]
theorem left_allw {H1 H2 : Heap} {n1 n2 : Nat} (g : AllW H1 n1 l fs) (key : ∀ i ∈ fids l, ∀ o, H1 i = some o → H2 (ρ i) = some (rnmO ρ o)) (top : ∀ i ∈ fids l, ρ i < n2) : AllW H2 n2 (rnL ρ l) fs ∧ fids (rnL ρ l) = (fids l).map ρ := by
  induction g with
  | nil => exact ⟨.nil, rfl⟩
  | @cons x F t l fs hw g ih =>
    obtain ⟨h1, h2⟩ := ih (fun i hi => key i (by rw [fids_cons]; exact List.mem_append_right _ hi)) (fun i hi => top i (by rw [fids_cons]; exact List.mem_append_right _ hi))
    obtain ⟨h3, h4⟩ := left_wh (ρ := ρ) (H2 := H2) (n2 := n2) hw (fun i hi => key i (by rw [fids_cons]; exact List.mem_append_left _ hi)) (fun i hi => top i (by rw [fids_cons]; exact List.mem_append_left _ hi))
    refine ⟨.cons h3 h1, ?_⟩
    show fids ((rnm ρ x, t) :: rnL ρ l) = _
    rw [fids_cons, fids_cons, List.map_append, h2, h4]
theorem left_ft {Y : LV} {l' : List Fr} (h1 : ids Y = (ids X).map ρ) (h2 : fids l' = (fids l).map ρ) (h3 : ρ nid = nid) : ft nid Y l' = (ft nid X l).map ρ := by
  simp [ft, h1, h2, h3]
theorem NN.left (g : NN (Go.Sx.look H nx h) m nid room X l fs N) (hnid : nid < nx) (L : Left H nx h u n ρ S) (roots : ∀ i ∈ updIds h.upd, i < nx ∨ i ∈ S) (shut : ∀ i ∈ S, ∀ o, Go.Sx.look H nx h i = some o → ∀ k ∈ o.ids, k < nx ∨ k ∈ S)
    (old : ∀ i ∈ ft nid X l, i < nx → findU h.upd i = none → ∀ o, H i = some o → ∀ k ∈ o.ids, k < nx) :
    (∀ i ∈ ft nid X l, i < nx ∨ i ∈ S) ∧ NN (Go.Sx.look H nx ⟨u, n⟩) (nx + n.length) nid room (rnm ρ X) (rnL ρ l) fs N ∧ ft nid (rnm ρ X) (rnL ρ l) = (ft nid X l).map ρ ∧ ct nid (rnm ρ X) = (ct nid X).map ρ := by
  have h1 : ∀ i ∈ ft nid X l, i < nx ∨ i ∈ S := g.conn (P := fun i => i < nx ∨ i ∈ S) (.inl hnid) (left_reach roots shut old)
  have key := left_key L h1 old
  have top : ∀ i ∈ ft nid X l, ρ i < nx + n.length := fun i hi => L.top i (h1 i hi)
  have hρ : ρ nid = nid := L.low nid hnid
  obtain ⟨a1, a2⟩ := left_allw (ρ := ρ) (H2 := Go.Sx.look H nx ⟨u, n⟩) (n2 := nx + n.length) g.hw (fun i hi => key i (by simp [ft, hi])) (fun i hi => top i (by simp [ft, hi]))
  have hll : (rnL ρ l).length = l.length := List.length_map _
  have hl := key nid (by simp [ft]) _ g.hl
  rw [hρ] at hl
  have hX : ids (rnm ρ X) = (ids X).map ρ := by
    rcases g.hx with ⟨h, _⟩ | ⟨lid, q, ex, h, _⟩ <;> rw [h] <;> rfl
  refine ⟨h1, ⟨by omega, hl, a1, g.good, ?_⟩, left_ft hX a2 hρ, by simp [ct, hX, hρ]⟩
  rcases g.hx with ⟨rfl, rfl⟩ | ⟨lid, q, ex, rfl, b1, b2, b3, b4, hex⟩
  · exact .inl ⟨rfl, rfl⟩
  · refine .inr ⟨ρ lid, q, ex, by rw [hll]; rfl, by rw [hll]; exact b1, top lid (by simp [ft, Go.Sx.ids]), fun e => ?_, ?_, fun e => ⟨by rw [(hex e).1]; rfl, (hex e).2⟩⟩
    · exact b3 (L.inj nid lid (.inl hnid) (h1 lid (by simp [ft, Go.Sx.ids])) (by rw [hρ]; exact e))
    · rw [key lid (by simp [ft, Go.Sx.ids]) _ b4, rnmO, List.map_append, rnL_ro, rnm_zs]
theorem RN.left (g : RN (Go.Sx.look H nx h) m nid room X l fs N) (hnid : nid < nx) (L : Left H nx h u n ρ S) (roots : ∀ i ∈ updIds h.upd, i < nx ∨ i ∈ S) (shut : ∀ i ∈ S, ∀ o, Go.Sx.look H nx h i = some o → ∀ k ∈ o.ids, k < nx ∨ k ∈ S)
    (old : ∀ i ∈ ft nid X l, i < nx → findU h.upd i = none → ∀ o, H i = some o → ∀ k ∈ o.ids, k < nx) :
    (∀ i ∈ ft nid X l, i < nx ∨ i ∈ S) ∧ RN (Go.Sx.look H nx ⟨u, n⟩) (nx + n.length) nid room (rnm ρ X) (rnL ρ l) fs N ∧ ft nid (rnm ρ X) (rnL ρ l) = (ft nid X l).map ρ ∧ ct nid (rnm ρ X) = (ct nid X).map ρ := by
  have h1 : ∀ i ∈ ft nid X l, i < nx ∨ i ∈ S := g.conn (P := fun i => i < nx ∨ i ∈ S) (.inl hnid) (left_reach roots shut old)
  have key := left_key L h1 old
  have top : ∀ i ∈ ft nid X l, ρ i < nx + n.length := fun i hi => L.top i (h1 i hi)
  have hρ : ρ nid = nid := L.low nid hnid
  obtain ⟨a1, a2⟩ := left_allw (ρ := ρ) (H2 := Go.Sx.look H nx ⟨u, n⟩) (n2 := nx + n.length) g.hw (fun i hi => key i (by simp [ft, hi])) (fun i hi => top i (by simp [ft, hi]))
  have hll : (rnL ρ l).length = l.length := List.length_map _
  have hl := key nid (by simp [ft]) _ g.hl
  rw [hρ] at hl
  have hX : ids (rnm ρ X) = (ids X).map ρ := by
    rcases g.hx with ⟨h, _⟩ | ⟨lid, q, h, _⟩ <;> rw [h] <;> rfl
  refine ⟨h1, ⟨by omega, hl, a1, g.good, ?_⟩, left_ft hX a2 hρ, by simp [ct, hX, hρ]⟩
  rcases g.hx with ⟨rfl, rfl⟩ | ⟨lid, q, rfl, b1, b2, b3, b4⟩
  · exact .inl ⟨rfl, rfl⟩
  · refine .inr ⟨ρ lid, q, by rw [hll]; rfl, by rw [hll]; exact b1, top lid (by simp [ft, Go.Sx.ids]), fun e => ?_, ?_⟩
    · exact b3 (L.inj nid lid (.inl hnid) (h1 lid (by simp [ft, Go.Sx.ids])) (by rw [hρ]; exact e))
    · rw [key lid (by simp [ft, Go.Sx.ids]) _ b4, rnmO, rnL_rr]
end left

/-- Both nets, side by side. -/
structure JJ (H : Heap) (nx nid xid room : Nat) (X : LV) (l : List Fr) (Y : LV) (m : List Fr) (fs : List Fm) (N : Nat) : Prop where
  n : NN H nx nid room X l fs N
  x : RN H nx xid room Y m fs N
  apart : ∀ i ∈ ft nid X l, i ∉ ft xid Y m
def JDid (a : PV) (H : Heap) (nx nid xid room : Nat) (X : LV) (l : List Fr) (Y : LV) (m : List Fr) (N : Nat) (fs' : List Fm) : Prop :=
  ∃ u nw X' l' Y' m', Ω 7 [.ref nid 0, .ref xid 0, .p a] H nx = some (.bool true, u, nw) ∧ JJ (Go.Sx.look H nx ⟨u, nw⟩) (nx + nw.length) nid xid room X' l' Y' m' fs' (N + 1) ∧
    (∀ q ∈ u, q.1 ∈ ct nid X ∨ q.1 ∈ ct xid Y) ∧ (∀ i ∈ ft nid X' l', i ∈ ft nid X l ∨ nx ≤ i) ∧ (∀ i ∈ ft xid Y' m', i ∈ ft xid Y m ∨ nx ≤ i) ∧ (∀ i ∈ ct nid X', i ∈ ct nid X ∨ nx ≤ i) ∧ (∀ i ∈ ct xid Y', i ∈ ct xid Y ∨ nx ≤ i)

section fin
variable {H : Heap} {nx nid xid room N M m1 : Nat} {X X' Y Y' : LV} {l l' m m' : List Fr} {fs fs' : List Fm} {h : Hp}
theorem jj_fin (g0 : JJ H nx nid xid room X l Y m fs N) (g : JJ (Go.Sx.look H nx h) m1 nid xid room X' l' Y' m' fs' M) (hM : M ≤ 100) (ku : KU h.upd) (low : ∀ q ∈ h.upd, q.1 < nx ∧ (q.1 ∈ ct nid X ∨ q.1 ∈ ct xid Y) ∧ (q.2 ≠ none → q.1 ∈ ct nid X' ∨ q.1 ∈ ct xid Y')) (cnt : h.upd.length ≤ 4)
    (s1 : ∀ i ∈ ft nid X' l', i ∈ ft nid X l ∨ nx ≤ i) (s2 : ∀ i ∈ ft xid Y' m', i ∈ ft xid Y m ∨ nx ≤ i) (s3 : ∀ i ∈ ct nid X', i ∈ ct nid X ∨ nx ≤ i) (s4 : ∀ i ∈ ct xid Y', i ∈ ct xid Y ∨ nx ≤ i) :
    ∃ u nw X'' l'' Y'' m'', finish false H nx (.bool true) h = some (.bool true, u, nw) ∧ JJ (Go.Sx.look H nx ⟨u, nw⟩) (nx + nw.length) nid xid room X'' l'' Y'' m'' fs' M ∧
      (∀ q ∈ u, q.1 ∈ ct nid X ∨ q.1 ∈ ct xid Y) ∧ (∀ i ∈ ft nid X'' l'', i ∈ ft nid X l ∨ nx ≤ i) ∧ (∀ i ∈ ft xid Y'' m'', i ∈ ft xid Y m ∨ nx ≤ i) ∧ (∀ i ∈ ct nid X'', i ∈ ct nid X ∨ nx ≤ i) ∧ (∀ i ∈ ct xid Y'', i ∈ ct xid Y ∨ nx ≤ i) := by
  have cn := g.n.cl
  have cx := g.x.cl
  obtain ⟨F, hF⟩ : ∃ F, F = ft nid X' l' ++ ft xid Y' m' := ⟨_, rfl⟩
  have shutF : ∀ i ∈ F, ∃ o, Go.Sx.look H nx h i = some o ∧ (∀ k ∈ o.ids, k ∈ F) ∧ o.ids.length ≤ M + 1 := fun i hi => by
    rw [hF] at hi
    rcases List.mem_append.1 hi with hi | hi
    · obtain ⟨o, h1, h2, h3⟩ := cn.shut i hi
      exact ⟨o, h1, fun k hk => by rw [hF]; exact List.mem_append_left _ (h2 k hk), h3⟩
    · obtain ⟨o, h1, h2, h3⟩ := cx.shut i hi
      exact ⟨o, h1, fun k hk => by rw [hF]; exact List.mem_append_right _ (h2 k hk), h3⟩
  have live : ∀ q ∈ h.upd, ∀ p, q.2 = some p → q.1 ∈ F ∧ Go.Sx.look H nx h q.1 = some p := fun q hq p hp => by
    obtain ⟨a1, _, a2⟩ := low q hq
    refine ⟨?_, ?_⟩
    · rw [hF]
      rcases a2 (by rw [hp]; simp) with h' | h'
      · exact List.mem_append_left _ (ct_ft _ h')
      · exact List.mem_append_right _ (ct_ft _ h')
    · rw [look_findU a1 (findU_mem ku q hq), hp]
  have hcF : cost (Go.Sx.look H nx h) F [] ≤ 4 * (M + 2) := by
    rw [hF, cost_app]
    have := cn.cost
    have := cx.cost
    omega
  have hcD := cost_filter (Go.Sx.look H nx h) (fun i => decide (nx ≤ i)) F []
  have hul := updIds_len (u := h.upd) (M := M + 1) fun q hq p hp => by
    obtain ⟨b1, b2⟩ := live q hq p hp
    obtain ⟨o, c1, _, c3⟩ := shutF _ b1
    rw [b2] at c1
    obtain rfl := Option.some.inj c1
    exact c3
  have hmul : h.upd.length * (M + 1) ≤ 4 * (M + 1) := Nat.mul_le_mul_right _ cnt
  have hD : ∀ i ∈ F, i < nx ∨ i ∈ F.filter (fun i => decide (nx ≤ i)) := fun i hi => by
    rcases Nat.lt_or_ge i nx with h' | h'
    · exact .inl h'
    · exact .inr (List.mem_filter.2 ⟨hi, by simpa using h'⟩)
  obtain ⟨ρ, u, nw, S, e1, L, _, r1, r2⟩ := finish_tot (own := false) (H := H) (nx := nx) (r := .bool true) (h := h) (F.filter fun i => decide (nx ≤ i)) (.inr ⟨rfl, rfl⟩)
    (fun i hi => by
      simp only [Go.Sx.ids, List.nil_append] at hi
      obtain ⟨q, hq, p, hp, hi'⟩ := updIds_mem hi
      obtain ⟨b1, b2⟩ := live q hq p hp
      obtain ⟨o, c1, c2, _⟩ := shutF _ b1
      rw [b2] at c1
      obtain rfl := Option.some.inj c1
      exact hD i (c2 i hi'))
    (fun i hi => by
      obtain ⟨h1, h2⟩ := List.mem_filter.1 hi
      obtain ⟨o, c1, c2, _⟩ := shutF i h1
      exact ⟨by simpa using h2, o, c1, fun k hk => hD k (c2 k hk)⟩)
    (by simp only [Go.Sx.ids, List.length_nil]; omega)
  have roots : ∀ i ∈ updIds h.upd, i < nx ∨ i ∈ S := fun i hi => r1 i (by simpa [Go.Sx.ids] using hi)
  have oldN : ∀ i ∈ ft nid X' l', i < nx → findU h.upd i = none → ∀ o, H i = some o → ∀ k ∈ o.ids, k < nx := fun i hi h1 _ o ho k hk => by
    obtain ⟨o', c1, c2, _⟩ := g0.n.cl.shut i ((s1 i hi).resolve_right (by omega))
    rw [ho] at c1
    obtain rfl := Option.some.inj c1
    exact g0.n.lt k (c2 k hk)
  have oldX : ∀ i ∈ ft xid Y' m', i < nx → findU h.upd i = none → ∀ o, H i = some o → ∀ k ∈ o.ids, k < nx := fun i hi h1 _ o ho k hk => by
    obtain ⟨o', c1, c2, _⟩ := g0.x.cl.shut i ((s2 i hi).resolve_right (by omega))
    rw [ho] at c1
    obtain rfl := Option.some.inj c1
    exact g0.x.lt k (c2 k hk)
  obtain ⟨n1, n2, n3, n4⟩ := g.n.left g0.n.hid L roots r2 oldN
  obtain ⟨x1, x2, x3, x4⟩ := g.x.left g0.x.hid L roots r2 oldX
  have sub : ∀ {A B : List Nat}, (∀ i ∈ A, i ∈ B ∨ nx ≤ i) → (∀ i ∈ A, i < nx ∨ i ∈ S) → ∀ i ∈ A.map ρ, i ∈ B ∨ nx ≤ i := fun hAB hA i hi => by
    obtain ⟨j, hj, rfl⟩ := List.mem_map.1 hi
    rcases Nat.lt_or_ge j nx with h' | h'
    · rw [L.low j h']
      exact .inl ((hAB j hj).resolve_right (by omega))
    · exact .inr (L.ge j ((hA j hj).resolve_left (by omega)))
  refine ⟨u, nw, rnm ρ X', rnL ρ l', rnm ρ Y', rnL ρ m', e1, ⟨n2, x2, fun i hi hx => ?_⟩, fun q hq => ?_, ?_, ?_, ?_, ?_⟩
  · rw [n3] at hi
    rw [x3] at hx
    obtain ⟨a, ha, rfl⟩ := List.mem_map.1 hi
    obtain ⟨b, hb, e⟩ := List.mem_map.1 hx
    exact g.apart a ha (L.inj b a (x1 b hb) (n1 a ha) e ▸ hb)
  · obtain ⟨p, hp, e⟩ := L.keys q hq
    rw [e]
    exact (low p hp).2.1
  · rw [n3]; exact sub s1 n1
  · rw [x3]; exact sub s2 x1
  · rw [n4]; exact sub s3 fun i hi => n1 i (ct_ft i hi)
  · rw [x4]; exact sub s4 fun i hi => x1 i (ct_ft i hi)
end fin
end Go.Proofs.YtjmnamichdegaaaGreatDoor
end

section
namespace Go.Proofs.YtjmnamichdegaaaGreatDoor
open Go Go.Sx
set_option linter.unusedSimpArgs false
set_option linter.unusedVariables false

theorem fs_split (fs : List Fm) (i : Int) (hi : 0 ≤ i ∧ i < fs.length) : ∃ A F t B, fs = A ++ (F, t) :: B ∧ i = (A.length : Nat) := by
  obtain ⟨k, rfl⟩ : ∃ k : Nat, i = k := ⟨i.toNat, by omega⟩
  have hk : k < fs.length := by omega
  refine ⟨fs.take k, fs[k].1, fs[k].2, fs.drop (k + 1), ?_, ?_⟩
  · rw [List.getElem_cons_drop, List.take_append_drop]
  · rw [List.length_take]; omega
def OpN (f : FuncId) (xs : List LV) (room : Nat) (fs : List Fm) (r : LV) (fs' : List Fm) : Prop := ∀ {H nx nid X l N}, NN H nx nid room X l fs N → N < 390 → NDid f (.ref nid 0 :: xs) H nx nid room X l N r fs'
def OpR (f : FuncId) (xs : List LV) (room : Nat) (fs : List Fm) (r : LV) (fs' : List Fm) : Prop := ∀ {H nx nid X l N}, RN H nx nid room X l fs N → N < 390 → RDid f (.ref nid 0 :: xs) H nx nid room X l N r fs'

theorem op_drop (fs : List Fm) (i : Int) (room : Nat) : ∃ (r : Int) (fs' : List Fm), OpN 13 [.int .i64 i] room fs (.int .i64 r) fs' ∧ OpR 19 [.int .i64 i] room fs (.int .i64 r) fs' := by
  by_cases hi : 0 ≤ i ∧ i < fs.length
  · obtain ⟨A, F, t, B, rfl, rfl⟩ := fs_split fs i hi
    exact ⟨0, A ++ B, fun g hN => nn_drop g (by omega), fun g hN => rn_drop g (by omega)⟩
  · exact ⟨2, fs, fun g hN => (nn_out g hi 0 0).1, fun g hN => (rn_out g hi 0 0).1⟩
theorem op_take (fs : List Fm) (hg : ∀ f ∈ fs, GoodF f.1) (i : Int) (room : Nat) : ∃ (k f t no e : Int) (fs' : List Fm), OpN 11 [.int .i64 i] room fs (.tuple [.p (ntz k f t no), .int .i64 e]) fs' ∧ OpR 18 [.int .i64 i] room fs (.tuple [.p (rn k f t no), .int .i64 e]) fs' := by
  by_cases hi : 0 ≤ i ∧ i < fs.length
  · obtain ⟨A, F, t, B, rfl, rfl⟩ := fs_split fs i hi
    obtain ⟨k, f, t', no, e, hb⟩ : ∃ k f t no e, Both F k f t no e := by
      rcases (hg (F, t) (by simp)).2.2 with ⟨k, f, t, no, h, _⟩ | ⟨e, _, h⟩
      · exact ⟨k, f, t, no, 0, h⟩
      · exact ⟨0, 0, 0, 0, e, h⟩
    exact ⟨k, f, t', no, e, A ++ B, fun g hN => nn_take g (by omega) hb, fun g hN => rn_take g (by omega) hb⟩
  · exact ⟨0, 0, 0, 0, 2, fs, fun g hN => (nn_out g hi 0 0).2.1, fun g hN => (rn_out g hi 0 0).2.1⟩
theorem op_double (fs : List Fm) (i : Int) (room : Nat) : ∃ (r : Int) (fs' : List Fm), OpN 14 [.int .i64 i] room fs (.int .i64 r) fs' ∧ OpR 20 [.int .i64 i] room fs (.int .i64 r) fs' := by
  by_cases hi : 0 ≤ i ∧ i < fs.length
  · obtain ⟨A, F, t, B, rfl, rfl⟩ := fs_split fs i hi
    by_cases hr : (A ++ (F, t) :: B).length ≥ room
    · exact ⟨8, _, fun g hN => (nn_double g (by omega)).1 hr, fun g hN => (rn_double g (by omega)).1 hr⟩
    · exact ⟨0, _, fun g hN => (nn_double g (by omega)).2 (by omega), fun g hN => (rn_double g (by omega)).2 (by omega)⟩
  · exact ⟨2, fs, fun g hN => (nn_out g hi 0 0).2.2.1, fun g hN => (rn_out g hi 0 0).2.2.1⟩
theorem set_self' {F : List UInt8} {m : Nat} {b : UInt8} (h : F[m]? = some b) : F.set m b = F := by
  obtain ⟨h1, h2⟩ := List.getElem?_eq_some_iff.1 h
  rw [← h2]; exact List.set_getElem_self h1
theorem good_turn {F : List UInt8} (hg : GoodF F) {k f t no : Int} (hb : Both F k f t no 0) (hc : ∃ P, Cut P ∧ F = frame P) {m : Nat} {b : UInt8} (h : F[m]? = some b) (v : UInt8) : GoodF (F.set m (b ^^^ v)) := by
  by_cases e : b ^^^ v = b
  · rw [e, set_self' h]; exact hg
  · obtain ⟨P, hP, rfl⟩ := hc
    obtain ⟨e', h1, h2⟩ := both_turned P hP m b (b ^^^ v) h e
    exact ⟨by rw [List.length_set]; exact hg.1, by rw [List.length_set]; exact hg.2.1, .inr ⟨e', h1, h2⟩⟩
theorem op_turn (fs : List Fm) (hg : ∀ f ∈ fs, GoodF f.1) (i at' : Int) (v : UInt8) (room : Nat) : ∃ (r : Int) (fs' : List Fm), OpN 15 [.int .i64 i, .int .i64 at', .int .u8 v.toNat] room fs (.int .i64 r) fs' ∧ OpR 21 [.int .i64 i, .int .i64 at', .int .u8 v.toNat] room fs (.int .i64 r) fs' := by
  by_cases hi : 0 ≤ i ∧ i < fs.length
  · obtain ⟨A, F, t, B, rfl, rfl⟩ := fs_split fs i hi
    have hgF := hg (F, t) (by simp)
    rcases hgF.2.2 with ⟨k, f, t', no, h, hc⟩ | ⟨e, h1, h⟩
    · dsimp only at h hc
      have h2 := hgF.1
      dsimp only at h2
      have hm0 := Int.emod_nonneg at' (show (F.length : Int) ≠ 0 by omega)
      have hm1 := Int.emod_lt_of_pos at' (show (0 : Int) < F.length by omega)
      obtain ⟨m, hm⟩ : ∃ m : Nat, at' % (F.length : Int) = m := ⟨(at' % (F.length : Int)).toNat, by omega⟩
      have hmF : m < F.length := by omega
      have hbb := List.getElem?_eq_getElem hmF
      exact ⟨0, _, fun g hN => nn_turn at' v _ m g (by omega) h hm hbb (good_turn hgF h hc hbb v), fun g hN => rn_turn at' v _ m g (by omega) h hm hbb (good_turn hgF h hc hbb v)⟩
    · exact ⟨12, _, fun g hN => nn_turn_state at' v g h1 h, fun g hN => rn_turn_state at' v g h1 h⟩
  · exact ⟨2, fs, fun g hN => (nn_out g hi at' v).2.2.2, fun g hN => (rn_out g hi at' v).2.2.2⟩
theorem op_clear (fs : List Fm) (t : Int) (room : Nat) : ∃ (r : Int) (fs' : List Fm), OpN 16 [.int .i64 t] room fs (.int .i64 r) fs' ∧ OpR 22 [.int .i64 t] room fs (.int .i64 r) fs' :=
  ⟨_, _, fun g hN => nn_clear t g (by omega), fun g hN => rn_clear t g (by omega)⟩
theorem op_send (fs : List Fm) (k f t no : Int) (hk : (k = 7 ∧ 0 ≤ no ∧ no < 2 ^ 64) ∨ (k = 5 ∧ no = 0)) (room : Nat) : ∃ (r : Int) (fs' : List Fm), OpN 12 [.p (ntz k f t no)] room fs (.int .i64 r) fs' ∧ OpR 24 [.p (rn k f t no)] room fs (.int .i64 r) fs' := by
  by_cases h : 0 ≤ f ∧ f < 12 ∧ 0 ≤ t ∧ t < 12 ∧ f ≠ t
  · obtain ⟨F, h1, h2, h3⟩ : ∃ F, Bts k f t no F ∧ RBts k f t no F ∧ GoodF F := by
      obtain ⟨f', rfl⟩ : ∃ f' : Nat, f = f' := ⟨f.toNat, by omega⟩
      obtain ⟨t', rfl⟩ : ∃ t' : Nat, t = t' := ⟨t.toNat, by omega⟩
      rcases hk with ⟨rfl, h4, h5⟩ | ⟨rfl, rfl⟩
      · obtain ⟨n', rfl⟩ : ∃ n' : Nat, no = n' := ⟨no.toNat, by omega⟩
        have hv := vnum_len n' (by omega)
        refine ⟨frame (pay f' t' n'), fun H nx => bytes_ f' t' n' (by omega) (by omega) (by omega) (by omega) H nx, fun H nx => rbytes7 f' t' n' (by omega) (by omega) (by omega) (by omega) H nx, ?_, ?_, .inl ⟨7, f', t', n', both_7 f' t' n' (by omega) (by omega) (by omega) (by omega), _, cut7 f' t' n' (by omega), rfl⟩⟩
        · rw [frame_len]; omega
        · rw [frame_len]; simp [pay]; omega
      · refine ⟨frame (pay5 f' t'), fun H nx => bytes5_ f' t' (by omega) (by omega) (by omega) H nx, fun H nx => rbytes5 f' t' (by omega) (by omega) (by omega) H nx, ?_, ?_, .inl ⟨5, f', t', 0, both_5 f' t' (by omega) (by omega) (by omega), _, cut5 f' t', rfl⟩⟩
        · rw [frame_len]; omega
        · rw [frame_len]; simp [pay5]
    by_cases hr : fs.length ≥ room
    · exact ⟨8, _, fun g hN => (nn_send h1 h3 g (by omega)).1 hr, fun g hN => (rn_send h2 h3 g (by omega)).1 hr⟩
    · exact ⟨0, _, fun g hN => (nn_send h1 h3 g (by omega)).2 (by omega), fun g hN => (rn_send h2 h3 g (by omega)).2 (by omega)⟩
  · have hk' : k = 5 ∨ k = 7 := by rcases hk with h | h <;> simp [h.1]
    exact ⟨1, fs, fun g hN => nn_send_err (fun H nx => bytes_outz k f t no hk' h H nx) g, fun g hN => rn_send_err (fun H nx => rbytes_out k f t no hk' h H nx) g⟩

/- The act's text, in parts. -/
def seqL : IRC → IRC
  | .seq a _ => a
  | x => x
def seqR : IRC → IRC
  | .seq _ b => b
  | x => x
abbrev actP (d f t no i at' b : Int) (nr : Bool) : PV := .agg [.s (.int .u8 d), .s (.int .i64 f), .s (.int .i64 t), .s (.int .u64 no), .s (.int .i64 i), .s (.int .i64 at'), .s (.int .u8 b), .s (.bool nr)]
abbrev actC (d f t no i at' b : Int) (nr : Bool) : List LV := [.int .u8 d, .int .i64 f, .int .i64 t, .int .u64 no, .int .i64 i, .int .i64 at', .int .u8 b, .bool nr]
abbrev actH (d f t no i at' b : Int) (nr : Bool) : Hp := ⟨[], [some (.cells (actC d f t no i at' b nr))]⟩
def doA : IRC := seqL ir7.body
def doB : IRC := seqL (seqR ir7.body)
def doC : IRC := seqR (seqR ir7.body)
theorem do_parts : ir7.body = .seq doA (.seq doB doC) := rfl

section act
variable {H : Heap} {nx nid xid room N : Nat} {X Y : LV} {l m : List Fr} {fs : List Fm} {d f t no i at' b : Int} {nr : Bool}
theorem do_a (n : Nat) : runCS ⟨Ω, noG, H, nx⟩ n doA ⟨[(0, .ref nid 0), (1, .ref xid 0), (2, .p (actP d f t no i at' b nr))], ⟨[], []⟩⟩ = some (.normal, ⟨[(0, .ref nid 0), (1, .ref xid 0), (5, .ref nx 0)], actH d f t no i at' b nr⟩) := by
  simp [doA, seqL, ir7, ssB, List.idxOf?_cons, Go.Sx.LV.undef, Go.undef, Go.Sx.callO, Go.Sx.splice, Go.Sx.finish, Go.Sx.look, Go.Sx.push, Go.Sx.setObj, Go.Sx.setU, Go.Sx.setAll, Go.Sx.appO, Go.Sx.leI_eq, ltF]
theorem do_b (n : Nat) (k : Nat) (hk : k < 1000) (y : LV) (hl : H xid = some (.cells [Y, y])) (hY : RSl Y k) (hid : xid < nx) : ∃ i' E, runCS ⟨Ω, noG, H, nx⟩ n doB ⟨[(0, .ref nid 0), (1, .ref xid 0), (5, .ref nx 0)], actH d f t no i at' b nr⟩ = some (.normal, ⟨(0, .ref nid 0) :: (1, .ref xid 0) :: (5, .ref nx 0) :: E, actH d f t no i' at' b nr⟩) := by
  cases nr with
  | false =>
    refine ⟨i, [(21, .bool false)], ?_⟩
    simp [doB, seqL, seqR, ir7, ssB, List.idxOf?_cons, Go.Sx.LV.undef, Go.undef, Go.Sx.callO, Go.Sx.splice, Go.Sx.finish, Go.Sx.look, Go.Sx.push, Go.Sx.setObj, Go.Sx.setU, Go.Sx.setAll, Go.Sx.appO, Go.Sx.leI_eq, ltF]
  | true =>
    rcases hY with ⟨rfl, rfl⟩ | ⟨lid, ex, rfl⟩
    · refine ⟨i, [(21, .bool false)], ?_⟩
      simp [doB, seqL, seqR, ir7, ssB, List.idxOf?_cons, Go.Sx.LV.undef, Go.undef, Go.Sx.callO, Go.Sx.splice, Go.Sx.finish, Go.Sx.look, Go.Sx.push, Go.Sx.setObj, Go.Sx.setU, Go.Sx.setAll, Go.Sx.appO, Go.Sx.leI_eq, ltF, hl, hid]
    · rcases Nat.eq_zero_or_pos k with rfl | hk
      · refine ⟨i, [(21, .bool false)], ?_⟩
        simp [doB, seqL, seqR, ir7, ssB, List.idxOf?_cons, Go.Sx.LV.undef, Go.undef, Go.Sx.callO, Go.Sx.splice, Go.Sx.finish, Go.Sx.look, Go.Sx.push, Go.Sx.setObj, Go.Sx.setU, Go.Sx.setAll, Go.Sx.appO, Go.Sx.leI_eq, ltF, hl, hid]
      · refine ⟨IntKind.i64.wrap ((IntKind.u64.wrap i).tmod k), [], ?_⟩
        have hw : IntKind.u64.wrap (k : Int) = k := wrap_u64n k (by omega)
        have hr := binI_rem .u64 (IntKind.u64.wrap i) k (by omega)
        have h0 : ¬ (k : Int) ≤ 0 := by omega
        have h0' : ¬ k = 0 := by omega
        have hx : ∀ q, xid < nx + q := fun q => by omega
        have hx2 : ¬ xid = nx := by omega
        have sp : ∀ a b c d e f g h z : LV, splice [a, b, c, d, e, f, g, h] 4 [z] = [a, b, c, d, z, f, g, h] := fun _ _ _ _ _ _ _ _ _ => rfl
        simp [doB, seqL, seqR, ir7, ssB, List.idxOf?_cons, Go.Sx.LV.undef, Go.undef, Go.Sx.callO, Go.Sx.finish, Go.Sx.look, Go.Sx.push, Go.Sx.setObj, Go.Sx.setU, Go.Sx.setAll, Go.Sx.appO, Go.Sx.leI_eq, ltF, sp, hl, hid, hw, hr, h0, h0', hk, hx, hx2]

/-- Between the two calls. -/
structure Mid (H : Heap) (nx nid xid room N : Nat) (X : LV) (l : List Fr) (Y : LV) (m : List Fr) (fs : List Fm) (h0 h : Hp) (X' : LV) (l' : List Fr) (fs' : List Fm) : Prop where
  nn : NN (Go.Sx.look H nx h) (nx + h.new.length) nid room X' l' fs' (N + 1)
  rn : RN (Go.Sx.look H nx h) (nx + h.new.length) xid room Y m fs N
  keep : ∀ i, nx ≤ i → i < nx + h0.new.length → Go.Sx.look H nx h i = Go.Sx.look H nx h0 i
  len : h0.new.length ≤ h.new.length
  ku : KU h.upd
  low : ∀ q ∈ h.upd, q.1 < nx ∧ q.1 ∈ ct nid X ∧ (q.2 ≠ none → q.1 ∈ ct nid X')
  cnt : h.upd.length ≤ 2
  sub : ∀ i ∈ ft nid X' l', i ∈ ft nid X l ∨ nx ≤ i
  apart : ∀ i ∈ ft nid X' l', i ∉ ft xid Y m
  csub : ∀ i ∈ ct nid X', i ∈ ct nid X ∨ nx ≤ i
structure Fin' (H : Heap) (nx nid xid room N : Nat) (X : LV) (l : List Fr) (Y : LV) (m : List Fr) (h0 h : Hp) (X' : LV) (l' : List Fr) (Y' : LV) (m' : List Fr) (fs' : List Fm) : Prop where
  jj : JJ (Go.Sx.look H nx h) (nx + h.new.length) nid xid room X' l' Y' m' fs' (N + 1)
  keep : ∀ i, nx ≤ i → i < nx + h0.new.length → Go.Sx.look H nx h i = Go.Sx.look H nx h0 i
  len : h0.new.length ≤ h.new.length
  ku : KU h.upd
  low : ∀ q ∈ h.upd, q.1 < nx ∧ (q.1 ∈ ct nid X ∨ q.1 ∈ ct xid Y) ∧ (q.2 ≠ none → q.1 ∈ ct nid X' ∨ q.1 ∈ ct xid Y')
  cnt : h.upd.length ≤ 4
  s1 : ∀ i ∈ ft nid X' l', i ∈ ft nid X l ∨ nx ≤ i
  s2 : ∀ i ∈ ft xid Y' m', i ∈ ft xid Y m ∨ nx ≤ i
  s3 : ∀ i ∈ ct nid X', i ∈ ct nid X ∨ nx ≤ i
  s4 : ∀ i ∈ ct xid Y', i ∈ ct xid Y ∨ nx ≤ i
theorem JJ.grow {h0 : Hp} (g : JJ H nx nid xid room X l Y m fs N) (hu : h0.upd = []) : JJ (Go.Sx.look H nx h0) (nx + h0.new.length) nid xid room X l Y m fs N :=
  ⟨g.n.mono (fun i hi => low_look hu (g.n.lt i hi)) (by omega) (Nat.le_refl _), g.x.mono (fun i hi => low_look hu (g.x.lt i hi)) (by omega) (Nat.le_refl _), g.apart⟩
theorem call1 {h0 : Hp} {dr : Bool} {f1 : FuncId} {xs : List LV} {r : LV} {fs' : List Fm} (g : JJ H nx nid xid room X l Y m fs N) (hu : h0.upd = []) (hN : N < 100) (ha : ids.idsL xs = []) (op : OpN f1 xs room fs r fs') :
    ∃ T h X' l', callO ⟨Ω, noG, H, nx⟩ dr h0 f1 (.ref nid 0 :: xs) = some ⟨r, h, T, true⟩ ∧ (∀ i ∈ T, i < nx) ∧ Mid H nx nid xid room N X l Y m fs h0 h X' l' fs' := by
  have g1 := g.grow hu
  obtain ⟨T, h, X', l', e, hT, gn, af, sub'⟩ := nn_call (c := ⟨Ω, noG, H, nx⟩) (h := h0) (dr := dr) (f := f1) (xs := xs) (r := r) rfl (by omega) ha g1.n fun H' g' => op g' (by omega)
  have hk0 : KU h0.upd := by simp [hu, KU]
  have sub : ∀ i ∈ ft nid X' l', i ∈ ft nid X l ∨ nx ≤ i := fun i hi => (sub' i hi).imp id fun h => by dsimp only at h; omega
  refine ⟨T, h, X', l', e, fun i hi => g.n.lt i (hT i hi), ⟨gn, ?_, fun i h1 h2 => af.same i h2 fun hi => ?_, af.len, af.ku hk0, fun q hq => ?_, ?_, sub, fun i hi hx => ?_, fun i hi => (af.sub i hi).imp id fun h => by dsimp only at h; omega⟩⟩
  · refine g1.x.mono (fun i hi => af.same i (g1.x.lt i hi) fun hn => g.apart i (ct_ft i hn) hi) ?_ (Nat.le_refl _)
    have := af.len; omega
  · have := g.n.lt i (ct_ft i hi); omega
  · rcases af.upd hk0 q hq with h | h
    · rw [hu] at h; simp at h
    · exact ⟨h.1, h.2.1, h.2.2⟩
  · have := af.cnt hk0; rw [hu] at this; simpa using this
  · rcases sub i hi with h | h
    · exact g.apart i h hx
    · have := g.x.lt i hx; omega

theorem Mid.bump {h0 h h' : Hp} {X' : LV} {l' : List Fr} {fs' : List Fm} (g : Mid H nx nid xid room N X l Y m fs h0 h X' l' fs') (hu : h'.upd = h.upd) (hl : h.new.length ≤ h'.new.length) (hs : ∀ i, i < nx + h.new.length → Go.Sx.look H nx h' i = Go.Sx.look H nx h i) : Mid H nx nid xid room N X l Y m fs h0 h' X' l' fs' :=
  ⟨g.nn.mono (fun i hi => hs i (g.nn.lt i hi)) (by omega) (Nat.le_refl _), g.rn.mono (fun i hi => hs i (g.rn.lt i hi)) (by omega) (Nat.le_refl _), fun i h1 h2 => by rw [hs i (by have := g.len; omega), g.keep i h1 h2], by have := g.len; omega, by rw [hu]; exact g.ku, by rw [hu]; exact g.low, by rw [hu]; exact g.cnt, g.sub, g.apart, g.csub⟩
theorem Fin'.bump {h0 h h' : Hp} {X' Y' : LV} {l' m' : List Fr} {fs' : List Fm} (g : Fin' H nx nid xid room N X l Y m h0 h X' l' Y' m' fs') (hu : h'.upd = h.upd) (hl : h.new.length ≤ h'.new.length) (hs : ∀ i, i < nx + h.new.length → Go.Sx.look H nx h' i = Go.Sx.look H nx h i) : Fin' H nx nid xid room N X l Y m h0 h' X' l' Y' m' fs' :=
  ⟨⟨g.jj.n.mono (fun i hi => hs i (g.jj.n.lt i hi)) (by omega) (Nat.le_refl _), g.jj.x.mono (fun i hi => hs i (g.jj.x.lt i hi)) (by omega) (Nat.le_refl _), g.jj.apart⟩, fun i h1 h2 => by rw [hs i (by have := g.len; omega), g.keep i h1 h2], by have := g.len; omega, by rw [hu]; exact g.ku, by rw [hu]; exact g.low, by rw [hu]; exact g.cnt, g.s1, g.s2, g.s3, g.s4⟩
theorem call2 {h0 h : Hp} {dr : Bool} {f2 : FuncId} {xs : List LV} {r : LV} {fs' : List Fm} {X' : LV} {l' : List Fr} (g : JJ H nx nid xid room X l Y m fs N) (gm : Mid H nx nid xid room N X l Y m fs h0 h X' l' fs') (hN : N < 100) (ha : ids.idsL xs = []) (op : OpR f2 xs room fs r fs') :
    ∃ T h' Y' m', callO ⟨Ω, noG, H, nx⟩ dr h f2 (.ref xid 0 :: xs) = some ⟨r, h', T, true⟩ ∧ (∀ i ∈ T, i < nx) ∧ Fin' H nx nid xid room N X l Y m h0 h' X' l' Y' m' fs' := by
  obtain ⟨T, h', Y', m', e, hT, gx, af, sub'⟩ := rn_call (c := ⟨Ω, noG, H, nx⟩) (h := h) (dr := dr) (f := f2) (xs := xs) (r := r) rfl (by omega) ha gm.rn fun H' g' => op g' (by omega)
  have s2 : ∀ i ∈ ft xid Y' m', i ∈ ft xid Y m ∨ nx ≤ i := fun i hi => (sub' i hi).imp id fun h => by dsimp only at h; omega
  have same : ∀ i, i < nx + h.new.length → i ∉ ct xid Y → Go.Sx.look H nx h' i = Go.Sx.look H nx h i := af.same
  have len : h.new.length ≤ h'.new.length := af.len
  refine ⟨T, h', Y', m', e, fun i hi => g.x.lt i (hT i hi), ⟨⟨?_, gx, fun i hi hx => ?_⟩, fun i h1 h2 => ?_, by have := gm.len; omega, af.ku gm.ku, fun q hq => ?_, ?_, gm.sub, s2, gm.csub, fun i hi => (af.sub i hi).imp id fun h => by dsimp only at h; omega⟩⟩
  · exact gm.nn.mono (fun i hi => same i (gm.nn.lt i hi) fun hx => gm.apart i hi (ct_ft i hx)) (by omega) (Nat.le_refl _)
  · rcases sub' i hx with h | h
    · exact gm.apart i hi h
    · have := gm.nn.lt i hi; dsimp only at h; omega
  · rw [same i (by have := gm.len; omega) (fun hi => by have := g.x.lt i (ct_ft i hi); omega), gm.keep i h1 h2]
  · rcases af.upd gm.ku q hq with h | h
    · obtain ⟨q1, q2, q3⟩ := gm.low q h
      exact ⟨q1, .inl q2, fun hn => .inl (q3 hn)⟩
    · exact ⟨h.1, .inr h.2.1, fun hn => .inr (h.2.2 hn)⟩
  · have := af.cnt gm.ku; have := gm.cnt; omega
/-- The whole of an act, of its last part. -/
theorem do_end (g : JJ H nx nid xid room X l Y m fs N) (hN : N < 99) (h0 : Hp) (hC : ∀ i' E, ∃ h X' l' Y' m' fs', runCS ⟨Ω, noG, H, nx⟩ 0 doC ⟨(0, .ref nid 0) :: (1, .ref xid 0) :: (5, .ref nx 0) :: E, actH d f t no i' at' b nr⟩ = some (.ret, ⟨[(6, .bool true)], h⟩) ∧
    Fin' H nx nid xid room N X l Y m (actH d f t no i' at' b nr) h X' l' Y' m' fs') : ∃ fs', JDid (actP d f t no i at' b nr) H nx nid xid room X l Y m N fs' := by
  obtain ⟨i', E, eB⟩ := do_b (nid := nid) (d := d) (f := f) (t := t) (no := no) (i := i) (at' := at') (b := b) (nr := nr) 0 m.length (by have := g.x.len; omega) _ g.x.hl g.x.sl g.x.hid
  obtain ⟨h, X', l', Y', m', fs', eC, gf⟩ := hC i' E
  obtain ⟨u, nw, X'', l'', Y'', m'', e, q1, q2, q3, q4, q5, q6⟩ := jj_fin g gf.jj (by omega) gf.ku gf.low gf.cnt gf.s1 gf.s2 gf.s3 gf.s4
  refine ⟨fs', u, nw, X'', l'', Y'', m'', ?_, q1, q2, q3, q4, q5, q6⟩
  refine om_run (ir := ir7) (by kernel_rfl) 0 ?_
  rw [runF_S, do_parts, runCS_seq]
  have hp : ir7.params = [0, 1, 2] := rfl
  have hr : ir7.results = [(6, none)] := rfl
  have ho : ir7.own = false := rfl
  rw [hp, hr, ho]
  have eA := do_a (H := H) (nx := nx) (nid := nid) (xid := xid) (d := d) (f := f) (t := t) (no := no) (i := i) (at' := at') (b := b) (nr := nr) 0
  simp only [List.length_cons, List.length_nil, List.zip_cons_cons, List.zip_nil_right, if_true, Nat.zero_add, Nat.reduceAdd]
  rw [eA]
  simp only []
  rw [runCS_seq, eB]
  simp only []
  rw [eC]
  simp only [resVs, resV, Sx.get, if_true, oneL]
  exact e
end act
end Go.Proofs.YtjmnamichdegaaaGreatDoor
end

section
namespace Go.Proofs.YtjmnamichdegaaaGreatDoor
open Go Go.Sx
set_option linter.unusedSimpArgs false
set_option linter.unusedVariables false

section act
variable {H : Heap} {nx nid xid room N : Nat} {X Y : LV} {l m : List Fr} {fs : List Fm} {d f t no i at' b : Int} {nr : Bool}
theorem rem8 (d : Nat) : binI .rem .u8 (d : Int) 8 = some (.int .u8 (d % 8 : Nat)) := rem_nat .u8 d 8 (by decide)
theorem int_eq_self (r : Int) : (r == r) = true := by simp
theorem do_4 (d : Nat) (hd : d % 8 = 4) (g : JJ H nx nid xid room X l Y m fs N) (hN : N < 99) (i' : Int) (E : Env) : ∃ h X' l' Y' m' fs', runCS ⟨Ω, noG, H, nx⟩ 0 doC ⟨(0, .ref nid 0) :: (1, .ref xid 0) :: (5, .ref nx 0) :: E, actH d f t no i' at' b nr⟩ = some (.ret, ⟨[(6, .bool true)], h⟩) ∧
    Fin' H nx nid xid room N X l Y m (actH d f t no i' at' b nr) h X' l' Y' m' fs' := by
  obtain ⟨r, fs', o1, o2⟩ := op_drop fs i' room
  obtain ⟨T1, h1, X', l', e1, t1, gm⟩ := call1 (h0 := actH d f t no i' at' b nr) (dr := true) g rfl (by omega) rfl o1
  obtain ⟨T2, h2, Y', m', e2, t2, gf⟩ := call2 (dr := true) g gm (by omega) rfl o2
  have b1 := gm.keep nx (Nat.le_refl _) (by simp)
  have b2 : Go.Sx.look H nx (actH d f t no i' at' b nr) nx = some (.cells (actC d f t no i' at' b nr)) := by simp [Go.Sx.look]
  rw [b2] at b1
  have l1 := gm.len
  have l2 := gf.len
  have n1 : ∀ x ∈ T1, ¬ x = nx := fun x hx => by have := t1 x hx; omega
  have n2 : ∀ x ∈ T2, ¬ x = nx := fun x hx => by have := t2 x hx; omega
  have k1 : 0 < h1.new.length := by simp at l1; omega
  have k2 : 0 < h2.new.length := by simp at l2; omega
  have m1 : nx ∉ T1 := fun hx => by have := t1 _ hx; omega
  have m2 : nx ∉ T2 := fun hx => by have := t2 _ hx; omega
  refine ⟨h2, X', l', Y', m', fs', ?_, gf⟩
  have hr := rem8 d
  rw [hd] at hr
  simp [doC, seqR, ir7, ssB, List.idxOf?_cons, Go.Sx.LV.undef, Go.undef, Go.Sx.appO, Go.Sx.leI_eq, ltF, b2, hr, e1, e2, b1, eq_true n1, eq_true n2, m1, m2, k1, k2]
theorem do_5 (d : Nat) (hd : d % 8 = 5) (g : JJ H nx nid xid room X l Y m fs N) (hN : N < 99) (i' : Int) (E : Env) : ∃ h X' l' Y' m' fs', runCS ⟨Ω, noG, H, nx⟩ 0 doC ⟨(0, .ref nid 0) :: (1, .ref xid 0) :: (5, .ref nx 0) :: E, actH d f t no i' at' b nr⟩ = some (.ret, ⟨[(6, .bool true)], h⟩) ∧
    Fin' H nx nid xid room N X l Y m (actH d f t no i' at' b nr) h X' l' Y' m' fs' := by
  obtain ⟨r, fs', o1, o2⟩ := op_double fs i' room
  obtain ⟨T1, h1, X', l', e1, t1, gm⟩ := call1 (h0 := actH d f t no i' at' b nr) (dr := true) g rfl (by omega) rfl o1
  obtain ⟨T2, h2, Y', m', e2, t2, gf⟩ := call2 (dr := true) g gm (by omega) rfl o2
  have b1 := gm.keep nx (Nat.le_refl _) (by simp)
  have b2 : Go.Sx.look H nx (actH d f t no i' at' b nr) nx = some (.cells (actC d f t no i' at' b nr)) := by simp [Go.Sx.look]
  rw [b2] at b1
  have l1 := gm.len
  have l2 := gf.len
  have n1 : ∀ x ∈ T1, ¬ x = nx := fun x hx => by have := t1 x hx; omega
  have n2 : ∀ x ∈ T2, ¬ x = nx := fun x hx => by have := t2 x hx; omega
  have k1 : 0 < h1.new.length := by simp at l1; omega
  have k2 : 0 < h2.new.length := by simp at l2; omega
  have m1 : nx ∉ T1 := fun hx => by have := t1 _ hx; omega
  have m2 : nx ∉ T2 := fun hx => by have := t2 _ hx; omega
  refine ⟨h2, X', l', Y', m', fs', ?_, gf⟩
  have hr := rem8 d
  rw [hd] at hr
  simp [doC, seqR, ir7, ssB, List.idxOf?_cons, Go.Sx.LV.undef, Go.undef, Go.Sx.appO, Go.Sx.leI_eq, ltF, b2, hr, e1, e2, b1, eq_true n1, eq_true n2, m1, m2, k1, k2]
theorem do_7 (d : Nat) (hd : d % 8 = 7) (g : JJ H nx nid xid room X l Y m fs N) (hN : N < 99) (i' : Int) (E : Env) : ∃ h X' l' Y' m' fs', runCS ⟨Ω, noG, H, nx⟩ 0 doC ⟨(0, .ref nid 0) :: (1, .ref xid 0) :: (5, .ref nx 0) :: E, actH d f t no i' at' b nr⟩ = some (.ret, ⟨[(6, .bool true)], h⟩) ∧
    Fin' H nx nid xid room N X l Y m (actH d f t no i' at' b nr) h X' l' Y' m' fs' := by
  obtain ⟨r, fs', o1, o2⟩ := op_clear fs t room
  obtain ⟨T1, h1, X', l', e1, t1, gm⟩ := call1 (h0 := actH d f t no i' at' b nr) (dr := true) g rfl (by omega) rfl o1
  obtain ⟨T2, h2, Y', m', e2, t2, gf⟩ := call2 (dr := true) g gm (by omega) rfl o2
  have b1 := gm.keep nx (Nat.le_refl _) (by simp)
  have b2 : Go.Sx.look H nx (actH d f t no i' at' b nr) nx = some (.cells (actC d f t no i' at' b nr)) := by simp [Go.Sx.look]
  rw [b2] at b1
  have l1 := gm.len
  have l2 := gf.len
  have n1 : ∀ x ∈ T1, ¬ x = nx := fun x hx => by have := t1 x hx; omega
  have n2 : ∀ x ∈ T2, ¬ x = nx := fun x hx => by have := t2 x hx; omega
  have k1 : 0 < h1.new.length := by simp at l1; omega
  have k2 : 0 < h2.new.length := by simp at l2; omega
  have m1 : nx ∉ T1 := fun hx => by have := t1 _ hx; omega
  have m2 : nx ∉ T2 := fun hx => by have := t2 _ hx; omega
  refine ⟨h2, X', l', Y', m', fs', ?_, gf⟩
  have hr := rem8 d
  rw [hd] at hr
  simp [doC, seqR, ir7, ssB, List.idxOf?_cons, Go.Sx.LV.undef, Go.undef, Go.Sx.appO, Go.Sx.leI_eq, ltF, b2, hr, e1, e2, b1, eq_true n1, eq_true n2, m1, m2, k1, k2]
theorem do_6 (d : Nat) (hd : d % 8 = 6) (g : JJ H nx nid xid room X l Y m fs N) (hN : N < 99) (i' : Int) (E : Env) (v : UInt8) : ∃ h X' l' Y' m' fs', runCS ⟨Ω, noG, H, nx⟩ 0 doC ⟨(0, .ref nid 0) :: (1, .ref xid 0) :: (5, .ref nx 0) :: E, actH d f t no i' at' v.toNat nr⟩ = some (.ret, ⟨[(6, .bool true)], h⟩) ∧
    Fin' H nx nid xid room N X l Y m (actH d f t no i' at' v.toNat nr) h X' l' Y' m' fs' := by
  obtain ⟨r, fs', o1, o2⟩ := op_turn fs g.n.good i' at' v room
  obtain ⟨T1, h1, X', l', e1, t1, gm⟩ := call1 (h0 := actH d f t no i' at' v.toNat nr) (dr := true) g rfl (by omega) rfl o1
  obtain ⟨T2, h2, Y', m', e2, t2, gf⟩ := call2 (dr := true) g gm (by omega) rfl o2
  have b1 := gm.keep nx (Nat.le_refl _) (by simp)
  have b2 : Go.Sx.look H nx (actH d f t no i' at' v.toNat nr) nx = some (.cells (actC d f t no i' at' v.toNat nr)) := by simp [Go.Sx.look]
  rw [b2] at b1
  have l1 := gm.len
  have l2 := gf.len
  have n1 : ∀ x ∈ T1, ¬ x = nx := fun x hx => by have := t1 x hx; omega
  have n2 : ∀ x ∈ T2, ¬ x = nx := fun x hx => by have := t2 x hx; omega
  have k1 : 0 < h1.new.length := by simp at l1; omega
  have k2 : 0 < h2.new.length := by simp at l2; omega
  have m1 : nx ∉ T1 := fun hx => by have := t1 _ hx; omega
  have m2 : nx ∉ T2 := fun hx => by have := t2 _ hx; omega
  refine ⟨h2, X', l', Y', m', fs', ?_, gf⟩
  have hr := rem8 d
  rw [hd] at hr
  simp [doC, seqR, ir7, ssB, List.idxOf?_cons, Go.Sx.LV.undef, Go.undef, Go.Sx.appO, Go.Sx.leI_eq, ltF, b2, hr, e1, e2, b1, eq_true n1, eq_true n2, m1, m2, k1, k2]
abbrev ntzC (k f t no : Int) : List LV := [.int .i64 k, .int .i64 f, .int .i64 t, .int .u64 0, .int .i64 0, .bool false, .int .u64 0, .p (.s (.pointer none)), .p (.s (.slice none 0 0)), .int .u64 0, .int .i64 0, .int .i64 0, .bool false, .p (.s (.pointer none)), .int .u64 no]
abbrev rnZ : List LV := [.int .i64 0, .int .i64 0, .int .i64 0, .int .u64 0, .int .i64 0, .bool false, .p (.s (.pointer none)), .p (.s (.slice none 0 0)), .int .u64 0, .int .i64 0, .int .i64 0, .p (.s (.pointer none)), .int .u64 0, .p (.s (.slice none 0 0))]
abbrev rnC (k f t no : Int) : List LV := [.int .i64 k, .int .i64 f, .int .i64 t, .int .u64 0, .int .i64 0, .bool false, .p (.imm [.s (.int .u64 0), .s (.pointer none), .s (.pointer none)] 0), .p (.s (.slice none 0 0)), .int .u64 0, .int .i64 0, .int .i64 0, .p (.imm [.s (.int .i64 0), .s (.pointer none), .s (.pointer none)] 0), .int .u64 no, .p (.s (.slice none 0 0))]
abbrev boxed (nx : Nat) (h : Hp) (z c : List LV) : Hp := Go.Sx.setObj nx (push h (.cells z)) (nx + h.new.length) (some (.cells c))
theorem boxed_upd (h : Hp) (z c : List LV) : (boxed nx h z c).upd = h.upd := by rw [setObj_upd _ _ _ _ (by omega), push_upd]
theorem boxed_len (h : Hp) (z c : List LV) : (boxed nx h z c).new.length = h.new.length + 1 := by rw [setObj_len, push_len]
theorem boxed_look (h : Hp) (z c : List LV) (i : Nat) : Go.Sx.look H nx (boxed nx h z c) i = if i = nx + h.new.length then some (.cells c) else Go.Sx.look H nx h i := by
  rw [look_set' (by rw [push_len]; omega), look_push]
  split <;> rfl
theorem sp15 (a1 a2 a3 a4 a5 a6 a7 a8 a9 a10 a11 a12 a13 a14 a15 b1 b2 b3 b4 b5 b6 b7 b8 b9 b10 b11 b12 b13 b14 b15 : LV) : splice [a1, a2, a3, a4, a5, a6, a7, a8, a9, a10, a11, a12, a13, a14, a15] 0 [b1, b2, b3, b4, b5, b6, b7, b8, b9, b10, b11, b12, b13, b14, b15] = [b1, b2, b3, b4, b5, b6, b7, b8, b9, b10, b11, b12, b13, b14, b15] := rfl
theorem sp14 (a1 a2 a3 a4 a5 a6 a7 a8 a9 a10 a11 a12 a13 a14 b1 b2 b3 b4 b5 b6 b7 b8 b9 b10 b11 b12 b13 b14 : LV) : splice [a1, a2, a3, a4, a5, a6, a7, a8, a9, a10, a11, a12, a13, a14] 0 [b1, b2, b3, b4, b5, b6, b7, b8, b9, b10, b11, b12, b13, b14] = [b1, b2, b3, b4, b5, b6, b7, b8, b9, b10, b11, b12, b13, b14] := rfl
theorem do_3 (d : Nat) (hd : d % 8 = 3) (g : JJ H nx nid xid room X l Y m fs N) (hN : N < 99) (i' : Int) (E : Env) : ∃ h X' l' Y' m' fs', runCS ⟨Ω, noG, H, nx⟩ 0 doC ⟨(0, .ref nid 0) :: (1, .ref xid 0) :: (5, .ref nx 0) :: E, actH d f t no i' at' b nr⟩ = some (.ret, ⟨[(6, .bool true)], h⟩) ∧
    Fin' H nx nid xid room N X l Y m (actH d f t no i' at' b nr) h X' l' Y' m' fs' := by
  obtain ⟨k, f', t', no', e, fs', o1, o2⟩ := op_take fs g.n.good i' room
  obtain ⟨T1, h1, X', l', e1, t1, gm⟩ := call1 (h0 := actH d f t no i' at' b nr) (dr := false) g rfl (by omega) rfl o1
  have gm' := gm.bump (h' := boxed nx h1 (ntzC 0 0 0 0) (ntzC k f' t' no')) (boxed_upd _ _ _) (by rw [boxed_len]; omega) (fun i hi => by rw [boxed_look, if_neg (by omega)])
  have gm2 : Mid H nx nid xid room N X l Y m fs (boxed nx h1 (ntzC 0 0 0 0) (ntzC k f' t' no')) (boxed nx h1 (ntzC 0 0 0 0) (ntzC k f' t' no')) X' l' fs' := ⟨gm'.nn, gm'.rn, fun _ _ _ => rfl, Nat.le_refl _, gm'.ku, gm'.low, gm'.cnt, gm'.sub, gm'.apart, gm'.csub⟩
  obtain ⟨T2, h2, Y', m', e2, t2, gf⟩ := call2 (dr := false) g gm2 (by omega) rfl o2
  have b2 : Go.Sx.look H nx (actH d f t no i' at' b nr) nx = some (.cells (actC d f t no i' at' b nr)) := by simp [Go.Sx.look]
  have l1 := gm.len
  simp only [List.length_cons, List.length_nil] at l1
  have l2 := gf.len
  rw [boxed_len] at l2
  have b0 := gm.keep nx (Nat.le_refl _) (by simp)
  rw [b2] at b0
  have b1 : Go.Sx.look H nx (boxed nx h1 (ntzC 0 0 0 0) (ntzC k f' t' no')) nx = some (.cells (actC d f t no i' at' b nr)) := by rw [boxed_look, if_neg (by omega), b0]
  have c1 : Go.Sx.look H nx (push h1 (.cells (ntzC 0 0 0 0))) (nx + h1.new.length) = some (.cells (ntzC 0 0 0 0)) := by rw [look_push, if_pos rfl]
  have c2 : Go.Sx.look H nx (push h2 (.cells rnZ)) (nx + h2.new.length) = some (.cells rnZ) := by rw [look_push, if_pos rfl]
  have c3 : Go.Sx.look H nx (boxed nx h2 rnZ (rnC k f' t' no')) (nx + h2.new.length) = some (.cells (rnC k f' t' no')) := by rw [boxed_look, if_pos rfl]
  have c4 : Go.Sx.look H nx (boxed nx h2 rnZ (rnC k f' t' no')) (nx + h1.new.length) = some (.cells (ntzC k f' t' no')) := by
    rw [boxed_look, if_neg (by omega), gf.keep (nx + h1.new.length) (by omega) (by rw [boxed_len]; omega), boxed_look, if_pos rfl]
  have gf1 : Fin' H nx nid xid room N X l Y m (actH d f t no i' at' b nr) h2 X' l' Y' m' fs' := ⟨gf.jj, fun q q1 q2 => by rw [gf.keep q q1 (by rw [boxed_len]; simp only [List.length_cons, List.length_nil] at q2; omega), gm'.keep q q1 q2], by simp only [List.length_cons, List.length_nil]; omega, gf.ku, gf.low, gf.cnt, gf.s1, gf.s2, gf.s3, gf.s4⟩
  have gf' := gf1.bump (h' := boxed nx h2 rnZ (rnC k f' t' no')) (boxed_upd _ _ _) (by rw [boxed_len]; omega) (fun i hi => by rw [boxed_look, if_neg (by omega)])
  refine ⟨_, X', l', Y', m', fs', ?_, gf'⟩
  have hr := rem8 d
  rw [hd] at hr
  have hp1 := push_len h1 (.cells (ntzC 0 0 0 0))
  simp [doC, seqR, ir7, ssB, List.idxOf?_cons, Go.Sx.LV.undef, Go.undef, Go.Sx.appO, Go.Sx.leI_eq, ltF, b2, hr, e1, e2, b1, c1, c2, c3, c4, sp15, sp14]
theorem do_2 (d : Nat) (hd : d % 8 = 2) (hno : 0 ≤ no ∧ no < 2 ^ 64) (g : JJ H nx nid xid room X l Y m fs N) (hN : N < 99) (i' : Int) (E : Env) : ∃ h X' l' Y' m' fs', runCS ⟨Ω, noG, H, nx⟩ 0 doC ⟨(0, .ref nid 0) :: (1, .ref xid 0) :: (5, .ref nx 0) :: E, actH d f t no i' at' b nr⟩ = some (.ret, ⟨[(6, .bool true)], h⟩) ∧
    Fin' H nx nid xid room N X l Y m (actH d f t no i' at' b nr) h X' l' Y' m' fs' := by
  obtain ⟨r, fs', o1, o2⟩ := op_send fs 5 f t 0 (by first | exact .inl ⟨rfl, hno⟩ | exact .inr ⟨rfl, rfl⟩) room
  obtain ⟨T1, h1, X', l', e1, t1, gm⟩ := call1 (h0 := ⟨[], [some (.cells (actC d f t no i' at' b nr)), some (.cells (rnC 5 f t 0))]⟩) (dr := true) g rfl (by omega) rfl o1
  obtain ⟨T2, h2, Y', m', e2, t2, gf⟩ := call2 (dr := true) g gm (by omega) rfl o2
  have b1 := gm.keep (nx + 1) (by omega) (by simp)
  have b2 : Go.Sx.look H nx (actH d f t no i' at' b nr) nx = some (.cells (actC d f t no i' at' b nr)) := by simp [Go.Sx.look]
  have b3 : ∀ z, Go.Sx.look H nx ⟨[], [some (.cells (actC d f t no i' at' b nr)), z]⟩ nx = some (.cells (actC d f t no i' at' b nr)) := fun z => by simp [Go.Sx.look]
  have b4 : ∀ z, Go.Sx.look H nx ⟨[], [some (.cells (actC d f t no i' at' b nr)), z]⟩ (nx + 1) = z := fun z => by simp [Go.Sx.look, ltF]
  rw [b4] at b1
  have p1 : ∀ z, push (actH d f t no i' at' b nr) z = ⟨[], [some (.cells (actC d f t no i' at' b nr)), some z]⟩ := fun z => rfl
  have p2 : ∀ y z, Go.Sx.setObj nx ⟨[], [some (.cells (actC d f t no i' at' b nr)), y]⟩ (nx + 1) z = ⟨[], [some (.cells (actC d f t no i' at' b nr)), z]⟩ := fun y z => by simp [Go.Sx.setObj, ltF]
  have l1 := gm.len
  have l2 := gf.len
  have n1 : ∀ x ∈ T1, ¬ x = nx + 1 := fun x hx => by have := t1 x hx; omega
  have n2 : ∀ x ∈ T2, ¬ x = nx + 1 := fun x hx => by have := t2 x hx; omega
  have k1 : 1 < h1.new.length := by simp at l1; omega
  have k2 : 1 < h2.new.length := by simp at l2; omega
  have m1 : nx + 1 ∉ T1 := fun hx => by have := t1 _ hx; omega
  have m2 : nx + 1 ∉ T2 := fun hx => by have := t2 _ hx; omega
  have gf1 : Fin' H nx nid xid room N X l Y m (actH d f t no i' at' b nr) h2 X' l' Y' m' fs' := ⟨gf.jj, fun q q1 q2 => by
    obtain rfl : q = nx := by simp at q2; omega
    rw [gf.keep q q1 (by simp), b2, b3], by simp; omega, gf.ku, gf.low, gf.cnt, gf.s1, gf.s2, gf.s3, gf.s4⟩
  refine ⟨h2, X', l', Y', m', fs', ?_, gf1⟩
  have hr := rem8 d
  have hn := fun H nx => rnew_ 7 f t H nx
  have hc : ∀ h, callO ⟨Ω, noG, H, nx⟩ false h 23 [.int .i64 7, .int .i64 f, .int .i64 t] = some ⟨.p (rn 7 f t 0), h, [], true⟩ := fun h => by
    simp only [callO, Bool.false_eq_true, if_false, hn, setAll_nil]
    simp
  have s12 : ∀ a1 a2 a3 a4 a5 a6 a7 a8 a9 a10 a11 a12 a13 a14 z : LV, splice [a1, a2, a3, a4, a5, a6, a7, a8, a9, a10, a11, a12, a13, a14] 12 [z] = [a1, a2, a3, a4, a5, a6, a7, a8, a9, a10, a11, a12, z, a14] := fun _ _ _ _ _ _ _ _ _ _ _ _ _ _ _ => rfl
  have s0 : ∀ a1 a2 a3 a4 a5 a6 a7 a8 a9 a10 a11 a12 a13 a14 z : LV, splice [a1, a2, a3, a4, a5, a6, a7, a8, a9, a10, a11, a12, a13, a14] 0 [z] = [z, a2, a3, a4, a5, a6, a7, a8, a9, a10, a11, a12, a13, a14] := fun _ _ _ _ _ _ _ _ _ _ _ _ _ _ _ => rfl
  rw [hd] at hr
  simp [doC, seqR, ir7, ssB, List.idxOf?_cons, Go.Sx.LV.undef, Go.undef, Go.Sx.appO, Go.Sx.leI_eq, ltF, b2, hr, e1, e2, b1, b3, b4, p1, p2, hc, s12, s0, sp14, eq_true n1, eq_true n2, m1, m2, k1, k2]

theorem do_7s (d : Nat) (hd : d % 8 < 2) (hno : 0 ≤ no ∧ no < 2 ^ 64) (g : JJ H nx nid xid room X l Y m fs N) (hN : N < 99) (i' : Int) (E : Env) : ∃ h X' l' Y' m' fs', runCS ⟨Ω, noG, H, nx⟩ 0 doC ⟨(0, .ref nid 0) :: (1, .ref xid 0) :: (5, .ref nx 0) :: E, actH d f t no i' at' b nr⟩ = some (.ret, ⟨[(6, .bool true)], h⟩) ∧
    Fin' H nx nid xid room N X l Y m (actH d f t no i' at' b nr) h X' l' Y' m' fs' := by
  obtain ⟨r, fs', o1, o2⟩ := op_send fs 7 f t no (by first | exact .inl ⟨rfl, hno⟩ | exact .inr ⟨rfl, rfl⟩) room
  obtain ⟨T1, h1, X', l', e1, t1, gm⟩ := call1 (h0 := ⟨[], [some (.cells (actC d f t no i' at' b nr)), some (.cells (rnC 7 f t no))]⟩) (dr := true) g rfl (by omega) rfl o1
  obtain ⟨T2, h2, Y', m', e2, t2, gf⟩ := call2 (dr := true) g gm (by omega) rfl o2
  have b1 := gm.keep (nx + 1) (by omega) (by simp)
  have b2 : Go.Sx.look H nx (actH d f t no i' at' b nr) nx = some (.cells (actC d f t no i' at' b nr)) := by simp [Go.Sx.look]
  have b3 : ∀ z, Go.Sx.look H nx ⟨[], [some (.cells (actC d f t no i' at' b nr)), z]⟩ nx = some (.cells (actC d f t no i' at' b nr)) := fun z => by simp [Go.Sx.look]
  have b4 : ∀ z, Go.Sx.look H nx ⟨[], [some (.cells (actC d f t no i' at' b nr)), z]⟩ (nx + 1) = z := fun z => by simp [Go.Sx.look, ltF]
  rw [b4] at b1
  have p1 : ∀ z, push (actH d f t no i' at' b nr) z = ⟨[], [some (.cells (actC d f t no i' at' b nr)), some z]⟩ := fun z => rfl
  have p2 : ∀ y z, Go.Sx.setObj nx ⟨[], [some (.cells (actC d f t no i' at' b nr)), y]⟩ (nx + 1) z = ⟨[], [some (.cells (actC d f t no i' at' b nr)), z]⟩ := fun y z => by simp [Go.Sx.setObj, ltF]
  have l1 := gm.len
  have l2 := gf.len
  have n1 : ∀ x ∈ T1, ¬ x = nx + 1 := fun x hx => by have := t1 x hx; omega
  have n2 : ∀ x ∈ T2, ¬ x = nx + 1 := fun x hx => by have := t2 x hx; omega
  have k1 : 1 < h1.new.length := by simp at l1; omega
  have k2 : 1 < h2.new.length := by simp at l2; omega
  have m1 : nx + 1 ∉ T1 := fun hx => by have := t1 _ hx; omega
  have m2 : nx + 1 ∉ T2 := fun hx => by have := t2 _ hx; omega
  have gf1 : Fin' H nx nid xid room N X l Y m (actH d f t no i' at' b nr) h2 X' l' Y' m' fs' := ⟨gf.jj, fun q q1 q2 => by
    obtain rfl : q = nx := by simp at q2; omega
    rw [gf.keep q q1 (by simp), b2, b3], by simp; omega, gf.ku, gf.low, gf.cnt, gf.s1, gf.s2, gf.s3, gf.s4⟩
  refine ⟨h2, X', l', Y', m', fs', ?_, gf1⟩
  have hr := rem8 d
  have hn := fun H nx => rnew_ 7 f t H nx
  have hc : ∀ h, callO ⟨Ω, noG, H, nx⟩ false h 23 [.int .i64 7, .int .i64 f, .int .i64 t] = some ⟨.p (rn 7 f t 0), h, [], true⟩ := fun h => by
    simp only [callO, Bool.false_eq_true, if_false, hn, setAll_nil]
    simp
  have s12 : ∀ a1 a2 a3 a4 a5 a6 a7 a8 a9 a10 a11 a12 a13 a14 z : LV, splice [a1, a2, a3, a4, a5, a6, a7, a8, a9, a10, a11, a12, a13, a14] 12 [z] = [a1, a2, a3, a4, a5, a6, a7, a8, a9, a10, a11, a12, z, a14] := fun _ _ _ _ _ _ _ _ _ _ _ _ _ _ _ => rfl
  have s0 : ∀ a1 a2 a3 a4 a5 a6 a7 a8 a9 a10 a11 a12 a13 a14 z : LV, splice [a1, a2, a3, a4, a5, a6, a7, a8, a9, a10, a11, a12, a13, a14] 0 [z] = [z, a2, a3, a4, a5, a6, a7, a8, a9, a10, a11, a12, a13, a14] := fun _ _ _ _ _ _ _ _ _ _ _ _ _ _ _ => rfl
  have q3 : ¬ d % 8 = 3 := by omega
  have q4 : ¬ d % 8 = 4 := by omega
  have q5 : ¬ d % 8 = 5 := by omega
  have q6 : ¬ d % 8 = 6 := by omega
  have q7 : ¬ d % 8 = 7 := by omega
  have q2 : ¬ d % 8 = 2 := by omega
  generalize d % 8 = dd at *
  have q3' : ¬ (dd : Int) = 3 := by omega
  have q4' : ¬ (dd : Int) = 4 := by omega
  have q5' : ¬ (dd : Int) = 5 := by omega
  have q6' : ¬ (dd : Int) = 6 := by omega
  have q7' : ¬ (dd : Int) = 7 := by omega
  have q2' : ¬ (dd : Int) = 2 := by omega
  simp [doC, seqR, ir7, ssB, List.idxOf?_cons, Go.Sx.LV.undef, Go.undef, Go.Sx.appO, Go.Sx.leI_eq, ltF, b2, hr, e1, e2, b1, b3, b4, p1, p2, hc, s12, s0, sp14, eq_true n1, eq_true n2, m1, m2, k1, k2, q2', q3', q4', q5', q6', q7']

end act
end Go.Proofs.YtjmnamichdegaaaGreatDoor
end
