/- What the proof of the claim leans on, part 6 of 6: the value machine, the functions as it has them, their specifications. No condition. -/
import Derived.Test.YtppeggedcaabkaaGreatDoorB5
set_option linter.all false
set_option linter.unnecessarySimpa false
set_option linter.unusedSimpArgs false
set_option linter.unusedVariables false
set_option linter.constructorNameAsVariable false
section
namespace Go.Proofs.YtppeggedcaabkaaGreatDoor
open Go Go.Sx
set_option linter.unusedSimpArgs false
set_option linter.unusedVariables false

/-- A note. -/
structure Nte where
  kind : Int
  fr : Int
  to : Int
  ses : Nat
  seq : Int
  last : Bool
  ev : Ev
  ents : List Ent
  gift : Gft
  no : Nat
abbrev Nte.cells (fl : Bool) (x : Nte) : List PV := [.s (.int .i64 x.kind), .s (.int .i64 x.fr), .s (.int .i64 x.to), .s (.int .u64 x.ses), .s (.int .i64 x.seq), .s (.bool x.last), .s (.int .u64 x.ev.n), x.ev.ptr, entP (Ent.row fl) 5 x.ents,
  .s (.int .u64 x.gift.no), .s (.int .i64 x.gift.fr), .s (.int .i64 x.gift.to), .s (.bool x.gift.sh.all), x.gift.sh.ptr, .s (.int .u64 x.no)]
abbrev Nte.pv (fl : Bool) (x : Nte) : PV := .agg (x.cells fl)
theorem isPart_ (h p v : Int) (hv : binI .and .i64 h p = some (.int .i64 v)) (b : Bool) (id : Nat) (H : Heap) (nx : Nat) (hl : H id = some (.cells [.int .i64 h])) (hid : id < nx) :
    Ω 84 [.int .i64 p, .bool b, .ref id 0] H nx = some (.bool (decide (0 < v) || b), [], []) := by
  refine om_run (ir := ir84) (by kernel_rfl) 0 ?_
  by_cases h0 : 0 < v
  · have h1 : ¬ v ≤ 0 := by omega
    simp [ir84, ssB, List.idxOf?_cons, Go.Sx.LV.undef, Go.undef, Go.Sx.callO, Go.Sx.splice, Go.Sx.finish, Go.Sx.look, Go.Sx.push, Go.Sx.setObj, Go.Sx.setU, Go.Sx.setAll, Go.Sx.appO, Go.Sx.leI_eq, ltF, hl, hid, hv, h0, h1]
  · have h1 : v ≤ 0 := by omega
    simp [ir84, ssB, List.idxOf?_cons, Go.Sx.LV.undef, Go.undef, Go.Sx.callO, Go.Sx.splice, Go.Sx.finish, Go.Sx.look, Go.Sx.push, Go.Sx.setObj, Go.Sx.setU, Go.Sx.setAll, Go.Sx.appO, Go.Sx.leI_eq, ltF, hl, hid, hv, h0, h1]
/-- May a version be told? -/
def toldB (n : Nte) (x : Ent) : Bool := (!x.v.gone || !x.v.nm) && Ev.leqb x.v.ev n.ev
theorem told1_ (x : Ent) (n : Nte) (fl fl2 : Bool) (hx : x.v.ev.max < 2 ^ 63) (hn : n.ev.max < 2 ^ 63) (id : Nat) (H : Heap) (nx : Nat) (hl : H id = some (.cells (pc (n.cells fl2)))) (hid : id < nx) :
    Ω 88 [.p (.agg (x.row fl)), .ref id 0] H nx = some (.bool (!toldB n x), [], []) := by
  refine om_run (ir := ir88) (by kernel_rfl) 0 ?_
  have r := vsnRight_ x.v fl
  have l := evLeq' x.v.ev n.ev hx hn
  have ne : ¬ id = nx := by omega
  have hk : ∀ k, id < nx + k := fun k => by omega
  unfold toldB
  rw [Nte.cells] at hl
  simp only [pc_cons, pc_nil] at hl
  generalize (!x.v.gone || !x.v.nm) = a at *
  generalize Ev.leqb x.v.ev n.ev = b at *
  cases a
  · simp [ir88, ssB, List.idxOf?_cons, Go.Sx.LV.undef, Go.undef, Go.Sx.callO, Go.Sx.splice, Go.Sx.finish, Go.Sx.look, Go.Sx.push, Go.Sx.setObj, Go.Sx.setU, Go.Sx.setAll, Go.Sx.appO, Go.Sx.leI_eq, ltF, hl, hid, ne, hk, r, l]
  · cases b <;> simp [ir88, ssB, List.idxOf?_cons, Go.Sx.LV.undef, Go.undef, Go.Sx.callO, Go.Sx.splice, Go.Sx.finish, Go.Sx.look, Go.Sx.push, Go.Sx.setObj, Go.Sx.setU, Go.Sx.setAll, Go.Sx.appO, Go.Sx.leI_eq, ltF, hl, hid, ne, hk, r, l]
section
variable {H : Heap} {nx : Nat} {h : Hp}
abbrev tfn (id : Nat) : LV := .fn 88 [] [.ref id 0]
theorem ix_step (N : Nat) (L : List Ent) (fl ff fl2 : Bool) (n : Nte) (j : Nat) (x : Ent) (hj : L[j]? = some x) (hL : L.length < 2 ^ 31) (hx : x.v.ev.max < 2 ^ 63) (hn : n.ev.max < 2 ^ 63) (id : Nat) (hl : Go.Sx.look H nx h id = some (.cells (pc (n.cells fl2)))) (hid : id < nx + h.new.length) :
    runCS ⟨Ω, noG, H, nx⟩ N ir144_0 ⟨[(0, .p (.sl (rows (Ent.row fl) L) L.length 5 ff)), (1, tfn id), (7, .int .i64 L.length), (8, .int .i64 j)], h⟩ =
      if toldB n x then some (.normal, ⟨[(0, .p (.sl (rows (Ent.row fl) L) L.length 5 ff)), (1, tfn id), (7, .int .i64 L.length), (8, .int .i64 (j + 1 : Nat))], h⟩) else some (.ret, ⟨[(4, .int .i64 j)], h⟩) := by
  obtain ⟨hjl, _⟩ := List.getElem?_eq_some_iff.1 hj
  have hr := rows_at (Ent.row fl) 5 (fun _ => rfl) L j x hj
  have hrl := rows_len (Ent.row fl) 5 (fun _ => rfl) L
  have g1 : ¬ (L.length : Int) ≤ j := by omega
  have w1 : IntKind.i64.wrap ((j : Int) + 1) = (j : Int) + 1 := wrap_i64 _ (by omega) (by omega)
  have hle : j * 5 + 5 ≤ (rows (Ent.row fl) L).length := by rw [hrl]; omega
  have t := told1_ x n fl fl2 hx hn id (Go.Sx.look H nx h) (nx + h.new.length) hl hid
  generalize toldB n x = b at *
  generalize rows (Ent.row fl) L = R at *
  have tk : List.take 5 (List.drop (j * 5) (List.map LV.p R)) = pc (Ent.row fl x) := by rw [← List.map_drop, ← List.map_take, hr]; rfl
  cases b <;> simp [ir144_0, ssB, List.idxOf?_cons, Go.Sx.LV.undef, Go.undef, callO_A, aft_nil, setAll_nil, Go.Sx.splice, Go.Sx.leI_eq, ltF, g1, w1, hjl, tk, pc_cons, pc_nil, hle, t]
theorem ix_out (N n : Nat) (y f : LV) : runCS ⟨Ω, noG, H, nx⟩ N ir144_0 ⟨[(0, y), (1, f), (7, .int .i64 n), (8, .int .i64 n)], h⟩ = some (.exit 0, ⟨[(0, y), (1, f), (7, .int .i64 n), (8, .int .i64 n), (9, .bool false)], h⟩) := by
  simp [ir144_0, ssB, List.idxOf?_cons, Go.Sx.LV.undef, Go.undef, callO_A, aft_nil, setAll_nil, Go.Sx.splice, Go.Sx.leI_eq, ltF]
theorem ix_loop (N : Nat) (L : List Ent) (fl ff fl2 : Bool) (n : Nte) (hL : L.length < 2 ^ 31) (hx : ∀ x ∈ L, x.v.ev.max < 2 ^ 63) (hn : n.ev.max < 2 ^ 63) (id : Nat) (hl : Go.Sx.look H nx h id = some (.cells (pc (n.cells fl2)))) (hid : id < nx + h.new.length) : ∀ (d j m : Nat), j + d = L.length → d < m →
    (((L.drop j).all (toldB n) = true ∧ iter (runCS ⟨Ω, noG, H, nx⟩ N ir144_0) m ⟨[(0, .p (.sl (rows (Ent.row fl) L) L.length 5 ff)), (1, tfn id), (7, .int .i64 L.length), (8, .int .i64 j)], h⟩ =
      some (.exit 0, ⟨[(0, .p (.sl (rows (Ent.row fl) L) L.length 5 ff)), (1, tfn id), (7, .int .i64 L.length), (8, .int .i64 L.length), (9, .bool false)], h⟩)) ∨
     ((L.drop j).all (toldB n) = false ∧ ∃ k : Nat, iter (runCS ⟨Ω, noG, H, nx⟩ N ir144_0) m ⟨[(0, .p (.sl (rows (Ent.row fl) L) L.length 5 ff)), (1, tfn id), (7, .int .i64 L.length), (8, .int .i64 j)], h⟩ = some (.ret, ⟨[(4, .int .i64 k)], h⟩))) := by
  intro d
  induction d with
  | zero =>
    intro j m hj hm
    obtain ⟨m, rfl⟩ : ∃ r, m = r + 1 := ⟨m - 1, by omega⟩
    obtain rfl : j = L.length := by omega
    exact .inl ⟨by simp, iter_out (ix_out N _ _ _) (by simp)⟩
  | succ d ih =>
    intro j m hj hm
    obtain ⟨m, rfl⟩ : ∃ r, m = r + 1 := ⟨m - 1, by omega⟩
    have hjl : j < L.length := by omega
    have hd : L.drop j = L[j] :: L.drop (j + 1) := List.drop_eq_getElem_cons hjl
    have e := ix_step N L fl ff fl2 n j L[j] (List.getElem?_eq_getElem hjl) hL (hx _ (List.getElem_mem hjl)) hn id hl hid
    rw [hd, List.all_cons]
    by_cases ht : toldB n L[j] = true
    · rw [if_pos ht] at e
      rw [iter_step e, ht, Bool.true_and]
      exact ih (j + 1) m (by omega) (by omega)
    · rw [if_neg ht] at e
      refine .inr ⟨by simp [ht], j, iter_out e (by simp)⟩
end
theorem contains_ (L : List Ent) (fl fl2 : Bool) (n : Nte) (hL : L.length < 2 ^ 31) (hx : ∀ x ∈ L, x.v.ev.max < 2 ^ 63) (hn : n.ev.max < 2 ^ 63) (id : Nat) (H : Heap) (nx : Nat) (hl : H id = some (.cells (pc (n.cells fl2)))) (hid : id < nx) :
    Ω 87 [.p (entP (Ent.row fl) 5 L), tfn id] H nx = some (.bool (!L.all (toldB n)), [], []) := by
  have ix : ∀ (H : Heap) (nx : Nat), H id = some (.cells (pc (n.cells fl2))) → id < nx → ∃ v : Int, Ω 144 [.p (entP (Ent.row fl) 5 L), tfn id] H nx = some (.int .i64 v, [], []) ∧ decide (0 ≤ v) = !L.all (toldB n) := by
    intro H nx hl hid
    have hlk : Go.Sx.look H nx ⟨[], []⟩ id = some (.cells (pc (n.cells fl2))) := by simp [Go.Sx.look, findU, hid, hl]
    by_cases h0 : L = []
    · subst h0
      refine ⟨-1, ?_, by simp⟩
      refine om_run (ir := ir144) (by kernel_rfl) 1 ?_
      have lp := fun h y f => iter_out (n := 0) (ix_out (H := H) (nx := nx) (h := h) 1 0 y f) (by simp)
      have c0 : ((0 : Nat) : Int) = 0 := rfl
      simp only [c0] at lp
      simp [ir144, ssB, List.idxOf?_cons, Go.Sx.LV.undef, Go.undef, Go.Sx.callO, Go.Sx.splice, Go.Sx.finish, Go.Sx.look, Go.Sx.push, Go.Sx.setObj, Go.Sx.setU, Go.Sx.setAll, Go.Sx.appO, Go.Sx.leI_eq, ltF, entP, lp]
    · rw [entP, if_neg h0]
      have lp := ix_loop (H := H) (nx := nx) (h := ⟨[], []⟩) (L.length + 1) L fl false fl2 n hL hx hn id hlk (by simpa using hid) L.length 0 (L.length + 1) (by omega) (by omega)
      rw [List.drop_zero] at lp
      have c0 : ((0 : Nat) : Int) = 0 := rfl
      simp only [c0] at lp
      rcases lp with ⟨ha, e⟩ | ⟨ha, k, e⟩
      · refine ⟨-1, om_run (ir := ir144) (by kernel_rfl) (L.length + 1) ?_, by simp [ha]⟩
        generalize rows (Ent.row fl) L = R at *
        simp [ir144, ssB, List.idxOf?_cons, Go.Sx.LV.undef, Go.undef, Go.Sx.callO, Go.Sx.splice, Go.Sx.finish, Go.Sx.look, Go.Sx.push, Go.Sx.setObj, Go.Sx.setU, Go.Sx.setAll, Go.Sx.appO, Go.Sx.leI_eq, ltF, e]
      · refine ⟨k, om_run (ir := ir144) (by kernel_rfl) (L.length + 1) ?_, by simp [ha]⟩
        generalize rows (Ent.row fl) L = R at *
        simp [ir144, ssB, List.idxOf?_cons, Go.Sx.LV.undef, Go.undef, Go.Sx.callO, Go.Sx.splice, Go.Sx.finish, Go.Sx.look, Go.Sx.push, Go.Sx.setObj, Go.Sx.setU, Go.Sx.setAll, Go.Sx.appO, Go.Sx.leI_eq, ltF, e]
  refine om_run (ir := ir87) (by kernel_rfl) 0 ?_
  obtain ⟨v, e, hv⟩ := ix (Go.Sx.look H nx ⟨[], []⟩) nx (by simp [Go.Sx.look, findU, hid, hl]) hid
  rw [← hv]
  generalize entP (Ent.row fl) 5 L = z at *
  have f := fun b => fin_p H nx (.s (.bool b)) ⟨[], []⟩ rfl
  simp [ir87, ssB, List.idxOf?_cons, Go.Sx.LV.undef, Go.undef, callO_A, aft_nil, setAll_nil, Go.Sx.splice, Go.Sx.leI_eq, ltF, e, f]
theorem told_ (n : Nte) (fl : Bool) (hL : n.ents.length < 2 ^ 31) (hx : ∀ x ∈ n.ents, x.v.ev.max < 2 ^ 63) (hn : n.ev.max < 2 ^ 63) (H : Heap) (nx : Nat) :
    Ω 41 [.p (n.pv fl)] H nx = some (.bool (n.ents.all (toldB n)), [], []) := by
  refine om_run (ir := ir41) (by kernel_rfl) 0 ?_
  have c := fun H nx id hl hid => contains_ n.ents fl fl n hL hx hn id H nx hl hid
  generalize n.ents.all (toldB n) = b at *
  simp only [Nte.cells, pc_cons, pc_nil] at c
  simp only [Nte.pv, Nte.cells]
  generalize entP (Ent.row fl) 5 n.ents = z at *
  cases b <;> simp [ir41, ssB, List.idxOf?_cons, Go.Sx.LV.undef, Go.undef, Go.Sx.callO, Go.Sx.splice, Go.Sx.finish, Go.Sx.look, Go.Sx.push, Go.Sx.setObj, Go.Sx.setU, Go.Sx.setAll, Go.Sx.appO, Go.Sx.leI_eq, ltF, c]
end Go.Proofs.YtppeggedcaabkaaGreatDoor
end

section
namespace Go.Proofs.YtppeggedcaabkaaGreatDoor
open Go Go.Sx
set_option linter.unusedSimpArgs false
set_option linter.unusedVariables false

def noneB (e : Ev) : Bool := Ev.leqb e (.leaf 0) && Ev.leqb (.leaf 0) e
def plainB (g : Gft) : Bool := decide (g.no = 0) && (decide (g.fr = 0) && (decide (g.to = 0) && decide (g.sh = .zero)))
/-- A part: does the kind have it, or is it empty? -/
def partB (h p : Int) (b : Bool) : Bool := match binI .and .i64 h p with
  | some (.int _ v) => decide (0 < v) || b
  | _ => false
def Nte.zeroB (h : Int) (x : Nte) : Bool := partB h 1 (decide (x.ses = 0)) && (partB h 2 (decide (x.seq = 0)) && (partB h 16 (!x.last) && (partB h 8 (noneB x.ev) && (partB h 4 x.ents.isEmpty && (partB h 32 (plainB x.gift) && partB h 64 (decide (x.no = 0)))))))
theorem part_ (h p : Int) (hv : ∃ v, binI .and .i64 h p = some (.int .i64 v)) (b : Bool) (id : Nat) (H : Heap) (nx : Nat) (hl : H id = some (.cells [.int .i64 h])) (hid : id < nx) :
    Ω 84 [.int .i64 p, .bool b, .ref id 0] H nx = some (.bool (partB h p b), [], []) := by
  obtain ⟨v, hv⟩ := hv
  rw [isPart_ h p v hv b id H nx hl hid, partB, hv]
end Go.Proofs.YtppeggedcaabkaaGreatDoor
end

section
namespace Go.Sx
open Go

/-- An answer handed on. -/
def bindK {α β : Type} (o : Option α) (f : α → Option β) : Option β := match o with
  | some x => f x
  | none => none
@[congr] theorem bindK_congr {α β : Type} {o o' : Option α} {f : α → Option β} (h : o = o') : bindK o f = bindK o' f := by rw [h]
theorem bindK_some {α β : Type} (x : α) (f : α → Option β) : bindK (some x) f = f x := rfl
theorem bindK_none {α β : Type} (f : α → Option β) : bindK none f = none := rfl
theorem bindK_ite {α β : Type} (p : Prop) [Decidable p] (a b : Option α) (f : α → Option β) : bindK (if p then a else b) f = if p then bindK a f else bindK b f := by split <;> rfl

/-- Is it carried out? -/
def wsel {α : Type} (o : Option Bool) (a b : Option α) : Option α := match o with
  | some true => a
  | some false => b
  | none => none
@[congr] theorem wsel_congr {α : Type} {o o' : Option Bool} {a b : Option α} (h : o = o') : wsel o a b = wsel o' a b := by rw [h]
theorem wsel_true {α : Type} (a b : Option α) : wsel (some true) a b = a := rfl
theorem wsel_false {α : Type} (a b : Option α) : wsel (some false) a b = b := rfl
theorem wsel_none {α : Type} (a b : Option α) : wsel none a b = none := rfl
theorem wsel_bool {α : Type} (x : Bool) (a b : Option α) : wsel (some x) a b = if x = true then a else b := by cases x <;> rfl

def seqK (p : Ex × St) (k : St → Option (Ex × St)) : Option (Ex × St) := match p with
  | (.normal, st) => k st
  | r => some r
@[congr] theorem seqK_congr {p p' : Ex × St} {k : St → Option (Ex × St)} (h : p = p') : seqK p k = seqK p' k := by rw [h]
theorem seqK_normal (st : St) (k : St → Option (Ex × St)) : seqK (.normal, st) k = k st := rfl
theorem seqK_exit (j : Nat) (st : St) (k : St → Option (Ex × St)) : seqK (.exit j, st) k = some (.exit j, st) := rfl
theorem seqK_ret (st : St) (k : St → Option (Ex × St)) : seqK (.ret, st) k = some (.ret, st) := rfl
theorem seqK_goto (j : Nat) (st : St) (k : St → Option (Ex × St)) : seqK (.goto j, st) k = some (.goto j, st) := rfl
def blkK (id : Nat) (p : Ex × St) : Option (Ex × St) := match p with
  | (.exit j, st) => if j = id then some (.normal, st) else some (.exit j, st)
  | r => some r
theorem blkK_normal (id : Nat) (st : St) : blkK id (.normal, st) = some (.normal, st) := rfl
theorem blkK_exit (id j : Nat) (st : St) : blkK id (.exit j, st) = if j = id then some (.normal, st) else some (.exit j, st) := rfl
theorem blkK_ret (id : Nat) (st : St) : blkK id (.ret, st) = some (.ret, st) := rfl
theorem blkK_goto (id j : Nat) (st : St) : blkK id (.goto j, st) = some (.goto j, st) := rfl
def finK (f : IRF) (H : Heap) (nx : Nat) (p : Ex × St) : Option (LV × Upd × List (Option Obj)) := match p with
  | (.exit _, _) => none
  | (.goto _, _) => none
  | (_, st) => match resVs H nx st f.results with
    | some l => finish f.own H nx (oneL l) st.h
    | none => none
theorem finK_normal (f : IRF) (H : Heap) (nx : Nat) (st : St) : finK f H nx (.normal, st) = match resVs H nx st f.results with
    | some l => finish f.own H nx (oneL l) st.h
    | none => none := rfl
theorem finK_ret (f : IRF) (H : Heap) (nx : Nat) (st : St) : finK f H nx (.ret, st) = match resVs H nx st f.results with
    | some l => finish f.own H nx (oneL l) st.h
    | none => none := rfl

theorem keep_nil (env : Env) : keep [] env = [] := rfl
theorem keep_cons (t : Nat) (l : List Nat) (env : Env) : keep (t :: l) env = (t, get env t) :: keep l env := rfl
/-- What a slot holds that is filled on a condition. -/
def condU (x : Bool) (v : LV) : LV := if x then v else .undef
theorem condU_true (v : LV) : condU true v = v := rfl
theorem condU_false (v : LV) : condU false v = .undef := rfl
/-- A condition: this slot is so. -/
def gd (b x : Bool) : Bool := x == b
theorem gd_tt : gd true true = true := rfl
theorem gd_tf : gd true false = false := rfl
theorem gd_ft : gd false true = false := rfl
theorem gd_ff : gd false false = true := rfl
section
variable {β : Type}
def wselV (v : LV) (b : Bool) (E : Option Res) (K : LV → Hp → Option β) (h : Hp) : Option β := match v with
  | .p (.s (.bool x)) => if x == b then bindK E fun x => K x.v x.h else K .undef h
  | .p (.s (.tuple _)) => K .undef h
  | _ => none
@[congr] theorem wselV_congr {v v' : LV} {b : Bool} {E : Option Res} {K : LV → Hp → Option β} {h : Hp} (e : v = v') : wselV v b E K h = wselV v' b E K h := by rw [e]
def wselG (g : Option (Nat × Bool)) (env : Env) (E : Option Res) (K : LV → Hp → Option β) (h : Hp) : Option β := match g with
  | none => bindK E fun x => K x.v x.h
  | some (t, b) => wselV (get env t) b E K h
def wsel1 (x : Bool) (E : Option Res) (K : LV → Hp → Option β) (h : Hp) : Option β := if x then bindK E fun x => K x.v x.h else K .undef h
def wsel2 (x y : Bool) (E : Option Res) (K : LV → Hp → Option β) (h : Hp) : Option β := if x && y then bindK E fun x => K x.v x.h else K .undef h
def wsel3 (x y z : Bool) (E : Option Res) (K : LV → Hp → Option β) (h : Hp) : Option β := if x && (y && z) then bindK E fun x => K x.v x.h else K .undef h
@[congr] theorem wsel1_congr {x x' : Bool} {E E' : Option Res} {K : LV → Hp → Option β} {h : Hp} (hx : x = x') (hE : x' = true → E = E') : wsel1 x E K h = wsel1 x' E' K h := by
  subst hx
  cases x with
  | false => rfl
  | true => rw [hE rfl]
@[congr] theorem wsel2_congr {x x' y y' : Bool} {E E' : Option Res} {K : LV → Hp → Option β} {h : Hp} (hx : x = x') (hy : y = y') (hE : x' = true → y' = true → E = E') : wsel2 x y E K h = wsel2 x' y' E' K h := by
  subst hx hy
  cases x
  · rfl
  · cases y
    · rfl
    · rw [hE rfl rfl]
@[congr] theorem wsel3_congr {x x' y y' z z' : Bool} {E E' : Option Res} {K : LV → Hp → Option β} {h : Hp} (hx : x = x') (hy : y = y') (hz : z = z') (hE : x' = true → y' = true → z' = true → E = E') : wsel3 x y z E K h = wsel3 x' y' z' E' K h := by
  subst hx hy hz
  cases x
  · rfl
  · cases y
    · rfl
    · cases z
      · rfl
      · rw [hE rfl rfl rfl]
theorem wselG_none (env : Env) (E : Option Res) (K : LV → Hp → Option β) (h : Hp) : wselG none env E K h = bindK E fun x => K x.v x.h := rfl
theorem wselG_some (t : Nat) (b : Bool) (env : Env) (E : Option Res) (K : LV → Hp → Option β) (h : Hp) : wselG (some (t, b)) env E K h = wselV (get env t) b E K h := rfl
theorem wselV_bool (x b : Bool) (E : Option Res) (K : LV → Hp → Option β) (h : Hp) : wselV (.p (.s (.bool x))) b E K h = wsel1 (gd b x) E K h := rfl
theorem wselV_undef (a : Array Value) (b : Bool) (E : Option Res) (K : LV → Hp → Option β) (h : Hp) : wselV (.p (.s (.tuple a))) b E K h = K .undef h := rfl
theorem wselV_cond (y x b : Bool) (E : Option Res) (K : LV → Hp → Option β) (h : Hp) : wselV (condU y (.p (.s (.bool x)))) b E K h = wsel2 y (gd b x) E K h := by cases y <;> rfl
theorem wselV_cond2 (y z x b : Bool) (E : Option Res) (K : LV → Hp → Option β) (h : Hp) : wselV (condU y (condU z (.p (.s (.bool x))))) b E K h = wsel3 y z (gd b x) E K h := by cases y <;> cases z <;> rfl
theorem wsel1_true (E : Option Res) (K : LV → Hp → Option β) (h : Hp) : wsel1 true E K h = bindK E fun x => K x.v x.h := rfl
theorem wsel1_false (E : Option Res) (K : LV → Hp → Option β) (h : Hp) : wsel1 false E K h = K .undef h := rfl
theorem wsel2_l (x : Bool) (E : Option Res) (K : LV → Hp → Option β) (h : Hp) : wsel2 true x E K h = wsel1 x E K h := rfl
theorem wsel2_r (x : Bool) (E : Option Res) (K : LV → Hp → Option β) (h : Hp) : wsel2 x true E K h = wsel1 x E K h := by cases x <;> rfl
theorem wsel2_fl (x : Bool) (E : Option Res) (K : LV → Hp → Option β) (h : Hp) : wsel2 false x E K h = K .undef h := rfl
theorem wsel2_fr (x : Bool) (E : Option Res) (K : LV → Hp → Option β) (h : Hp) : wsel2 x false E K h = K .undef h := by cases x <;> rfl
theorem wsel3_1 (x y : Bool) (E : Option Res) (K : LV → Hp → Option β) (h : Hp) : wsel3 true x y E K h = wsel2 x y E K h := rfl
theorem wsel3_2 (x y : Bool) (E : Option Res) (K : LV → Hp → Option β) (h : Hp) : wsel3 x true y E K h = wsel2 x y E K h := by cases x <;> cases y <;> rfl
theorem wsel3_3 (x y : Bool) (E : Option Res) (K : LV → Hp → Option β) (h : Hp) : wsel3 x y true E K h = wsel2 x y E K h := by cases x <;> cases y <;> rfl
theorem wsel3_f (x y : Bool) (E : Option Res) (K : LV → Hp → Option β) (h : Hp) : wsel3 x y false E K h = K .undef h := by cases x <;> cases y <;> rfl
theorem wsel1_pure (x : Bool) (v : LV) (t : List Nat) (m : Bool) (K : LV → Hp → Option β) (h : Hp) : wsel1 x (some ⟨v, h, t, m⟩) K h = K (condU x v) h := by cases x <;> rfl
theorem wsel2_pure (x y : Bool) (v : LV) (t : List Nat) (m : Bool) (K : LV → Hp → Option β) (h : Hp) : wsel2 x y (some ⟨v, h, t, m⟩) K h = K (condU x (condU y v)) h := by cases x <;> cases y <;> rfl
theorem wsel3_pure (x y z : Bool) (v : LV) (t : List Nat) (m : Bool) (K : LV → Hp → Option β) (h : Hp) : wsel3 x y z (some ⟨v, h, t, m⟩) K h = K (condU x (condU y (condU z v))) h := by cases x <;> cases y <;> cases z <;> rfl
theorem wsel1_split (x : Bool) (E : Option Res) (K : LV → Hp → Option β) (h : Hp) : wsel1 x E K h = if x = true then bindK E (fun x => K x.v x.h) else K .undef h := by cases x <;> rfl
end
/-- One of two. -/
def pickV (t : Bool) (x y : LV) : LV := if t then x else y
theorem pickV_true (x y : LV) : pickV true x y = x := rfl
theorem pickV_false (x y : LV) : pickV false x y = y := rfl
theorem pickV_bb (t a b : Bool) : pickV t (.p (.s (.bool a))) (.p (.s (.bool b))) = .p (.s (.bool (bif t then a else b))) := by cases t <;> rfl
theorem pickV_and (t a b : Bool) : pickV t (condU (gd true t) (.p (.s (.bool a)))) (.p (.s (.bool b))) = .p (.s (.bool (bif t then a else b))) := by cases t <;> rfl
theorem pickV_or (t a b : Bool) : pickV t (.p (.s (.bool a))) (condU (gd false t) (.p (.s (.bool b)))) = .p (.s (.bool (bif t then a else b))) := by cases t <;> rfl
def pickO (c x y : LV) (h : Hp) : Option Res := match c with
  | .p (.s (.bool t)) => some ⟨pickV t x y, h, [], false⟩
  | _ => none
theorem pickO_bool (t : Bool) (x y : LV) (h : Hp) : pickO (.p (.s (.bool t))) x y h = some ⟨pickV t x y, h, [], false⟩ := rfl
theorem evOp_pick (c : Ctx) (dr : Bool) (env : Env) (h : Hp) (b x y : Opd) : evOp c dr env h (.pick b x y) = pickO (opd c env b) (opd c env x) (opd c env y) h := by
  simp only [evOp]
  rfl
theorem iteR (p : Prop) [Decidable p] (a b : Bool) (u : Upd) (n : List (Option Obj)) : (if p then some ((.p (.s (.bool a)) : LV), u, n) else some (.p (.s (.bool b)), u, n)) = some (.p (.s (.bool (if p then a else b))), u, n) := by split <;> rfl

theorem runOpsS_consX (c : Ctx) (o : IROper) (r : List IROper) (env : Env) (h : Hp) : runOpsS c (o :: r) env h =
    wselG o.guard env (evOp c false env h o.op) (fun v h' => runOpsS c r (putD env o.dst v) h') h := by
  rw [runOpsS_cons]
  cases hg : o.guard with
  | none => simp only [wants, wselG, bindK]; cases evOp c false env h o.op <;> rfl
  | some q =>
    obtain ⟨t, b⟩ := q
    simp only [wants, wselG, wselV]
    generalize get env t = v
    cases v with
    | p x =>
      cases x with
      | s w =>
        cases w with
        | bool x => cases x <;> cases b <;> first | rfl | (cases evOp c false env h o.op <;> rfl)
        | _ => rfl
      | _ => rfl
    | _ => rfl
theorem runOpsS_consY (c : Ctx) (d : Option Nat) (op : IROp) (g : Option (Nat × Bool)) (r : List IROper) (env : Env) (h : Hp) : runOpsS c (⟨d, op, g⟩ :: r) env h =
    wselG g env (evOp c false env h op) (fun v h' => runOpsS c r (putD env d v) h') h := runOpsS_consX c ⟨d, op, g⟩ r env h
theorem runOpsS_consI (c : Ctx) (o : IROper) (r : List IROper) (env : Env) (h : Hp) : runOpsS c (o :: r) env h =
    wsel (wants env o.guard) (bindK (evOp c false env h o.op) fun x => runOpsS c r (putD env o.dst x.v) x.h) (runOpsS c r (putD env o.dst .undef) h) := by
  rw [runOpsS_cons]
  cases wants env o.guard with
  | none => rfl
  | some b =>
    cases b with
    | false => rfl
    | true =>
      cases evOp c false env h o.op <;> rfl
theorem runOpsTS_consI (c : Ctx) (o : IROper) (r : List IROper) (env : Env) (h : Hp) : runOpsTS c (o :: r) env h =
    wsel (wants env o.guard) (bindK (evOp c true env h o.op) fun x => bindK (runOpsTS c r (putD env o.dst x.v) x.h) fun q => some (⟨x.tch, x.md, c.nx + h.new.length, c.nx + x.h.new.length, o.op.slots ++ gslot o.guard, o.dst⟩ :: q.1, q.2))
      (bindK (runOpsTS c r (putD env o.dst .undef) h) fun q => some (⟨[], false, c.nx + h.new.length, c.nx + h.new.length, gslot o.guard, o.dst⟩ :: q.1, q.2)) := by
  rw [runOpsTS_cons]
  cases wants env o.guard with
  | none => rfl
  | some b =>
    cases b with
    | false =>
      simp only [wsel, bindK]
      cases runOpsTS c r (putD env o.dst .undef) h with
      | none => rfl
      | some q => obtain ⟨a, b, d⟩ := q; rfl
    | true =>
      simp only [wsel]
      cases evOp c true env h o.op with
      | none => rfl
      | some x =>
        simp only [bindK]
        cases runOpsTS c r (putD env o.dst x.v) x.h with
        | none => rfl
        | some q => obtain ⟨a, b, d⟩ := q; rfl

section
variable (c : Ctx) (n : Nat) (st : St)
theorem runCS_regI (ops : List IROper) (live : List Nat) : runCS c n (.region ops none live) st = bindK (runOpsS c ops st.env st.h) fun p => some (.normal, ⟨keep live p.1, p.2⟩) := by
  rw [runCS_reg]
  unfold bindK
  cases runOpsS c ops st.env st.h with
  | none => rfl
  | some p => rfl
theorem runCS_drawI (ops : List IROper) (before live : List Nat) : runCS c n (.region ops (some before) live) st = bindK (runOpsTS c ops st.env st.h) fun q => if indepD q.1 before then some (.normal, ⟨keep live q.2.1, q.2.2⟩) else none := by
  rw [runCS_draw]
  unfold bindK
  cases runOpsTS c ops st.env st.h with
  | none => rfl
  | some p => rfl
theorem runCS_seqI (a b : IRC) : runCS c n (.seq a b) st = bindK (runCS c n a st) fun p => seqK p fun st' => runCS c n b st' := by
  rw [runCS_seq]
  unfold bindK seqK
  cases runCS c n a st with
  | none => rfl
  | some p => obtain ⟨e, s⟩ := p; cases e <;> rfl
theorem runCS_blockI (id : Nat) (a : IRC) : runCS c n (.block id a) st = bindK (runCS c n a st) (blkK id) := by
  rw [runCS_block]
  unfold bindK blkK
  cases runCS c n a st with
  | none => rfl
  | some p => obtain ⟨e, s⟩ := p; cases e <;> rfl
end

def condK (v : LV) (a b : Option (Ex × St)) : Option (Ex × St) := match v with
  | .p (.s (.bool t)) => if t then a else b
  | _ => none
@[congr] theorem condK_congr {v v' : LV} {a b : Option (Ex × St)} (h : v = v') : condK v a b = condK v' a b := by rw [h]
theorem condK_true (a b : Option (Ex × St)) : condK (.p (.s (.bool true))) a b = a := rfl
theorem condK_false (a b : Option (Ex × St)) : condK (.p (.s (.bool false))) a b = b := rfl
/-- Both ways of a test that is not known. -/
def iteK {α : Type} (t : Bool) (a b : α) : α := if t then a else b
@[congr] theorem iteK_congr {α : Type} {t t' : Bool} {a a' b b' : α} (h : t = t') (ha : a = a') (hb : b = b') : iteK t a b = iteK t' a' b' := by rw [h, ha, hb]
theorem iteK_true {α : Type} (a b : α) : iteK true a b = a := rfl
theorem iteK_false {α : Type} (a b : α) : iteK false a b = b := rfl
theorem iteK_eq {α : Type} (t : Bool) (a b : α) : iteK t a b = if t = true then a else b := rfl
theorem iteK_R (t a b : Bool) (u : Upd) (n : List (Option Obj)) : iteK t (some ((.p (.s (.bool a)) : LV), u, n)) (some (.p (.s (.bool b)), u, n)) = some (.p (.s (.bool (bif t then a else b))), u, n) := by cases t <;> rfl
theorem iteK_self {α : Type} (t : Bool) (a : α) : iteK t a a = a := by cases t <;> rfl
theorem bindK_iteK {α β : Type} (t : Bool) (a b : Option α) (f : α → Option β) : bindK (iteK t a b) f = iteK t (bindK a f) (bindK b f) := by cases t <;> rfl
theorem condK_bool (t : Bool) (a b : Option (Ex × St)) : condK (.p (.s (.bool t))) a b = iteK t a b := rfl
theorem runCS_condI (c : Ctx) (n : Nat) (st : St) (x : Opd) (a b : IRC) : runCS c n (.cond x a b) st = condK (opd c st.env x) (runCS c n a st) (runCS c n b st) := by rw [runCS_cond]; rfl
theorem runF_I (O : Oracle) (G : Nat → Option (List PV)) (n : Nat) (f : IRF) (args : List LV) (H : Heap) (nx : Nat) : runF O G n f args H nx =
    if args.length = f.params.length then bindK (runCS ⟨O, G, H, nx⟩ n f.body ⟨f.params.zip args, ⟨[], []⟩⟩) (finK f H nx) else none := by
  rw [runF_S]
  unfold bindK finK
  split
  · cases runCS ⟨O, G, H, nx⟩ n f.body ⟨f.params.zip args, ⟨[], []⟩⟩ with
    | none => rfl
    | some p => obtain ⟨e, s⟩ := p; cases e <;> rfl
  · rfl

/-- A loop of so many rounds. -/
theorem iter_inv {f : St → Option (Ex × St)} {S : Nat → St} {n : Nat} {r : Ex × St} (hs : ∀ j, j < n → f (S j) = some (.normal, S (j + 1))) (he : f (S n) = some r) (hr : r.1 ≠ .normal) {m : Nat} (hm : n < m) : iter f m (S 0) = some r := by
  have key : ∀ (d j m : Nat), j + d = n → d < m → iter f m (S j) = some r := by
    intro d
    induction d with
    | zero =>
      intro j m hj hm
      obtain ⟨m, rfl⟩ : ∃ q, m = q + 1 := ⟨m - 1, by omega⟩
      obtain rfl : j = n := by omega
      simp only [iter, he]
      obtain ⟨e, s⟩ := r
      cases e <;> first | rfl | exact absurd rfl hr
    | succ d ih =>
      intro j m hj hm
      obtain ⟨m, rfl⟩ : ∃ q, m = q + 1 := ⟨m - 1, by omega⟩
      simp only [iter, hs j (by omega)]
      exact ih (j + 1) m (by omega) (by omega)
  exact key n 0 m (by omega) hm
/-- A loop over a list that is left at the first of which something isn't so. -/
theorem iter_all {α : Type} {f : St → Option (Ex × St)} {S : Nat → St} {L : List α} {q : α → Bool} {E R : Ex × St} (hs : ∀ j x, L[j]? = some x → f (S j) = if q x = true then some (.normal, S (j + 1)) else some R) (he : f (S L.length) = some E) (hR : R.1 ≠ .normal) (hE : E.1 ≠ .normal) {m : Nat} (hm : L.length < m) :
    iter f m (S 0) = if L.all q = true then some E else some R := by
  have key : ∀ (d j m : Nat), j + d = L.length → d < m → iter f m (S j) = if (L.drop j).all q = true then some E else some R := by
    intro d
    induction d with
    | zero =>
      intro j m hj hm
      obtain ⟨m, rfl⟩ : ∃ q, m = q + 1 := ⟨m - 1, by omega⟩
      obtain rfl : j = L.length := by omega
      rw [List.drop_length]
      simp only [iter, he, List.all_nil, if_true]
      obtain ⟨e, s⟩ := E
      cases e <;> first | rfl | exact absurd rfl hE
    | succ d ih =>
      intro j m hj hm
      obtain ⟨m, rfl⟩ : ∃ q, m = q + 1 := ⟨m - 1, by omega⟩
      have hjl : j < L.length := by omega
      have e := hs j L[j] (List.getElem?_eq_getElem hjl)
      rw [List.drop_eq_getElem_cons hjl, List.all_cons]
      by_cases hq : q L[j] = true
      · rw [if_pos hq] at e
        simp only [iter, e, hq, Bool.true_and]
        exact ih (j + 1) m (by omega) (by omega)
      · rw [if_neg hq] at e
        simp only [iter, e]
        have hq' : q L[j] = false := by simpa using hq
        rw [hq', Bool.false_and, if_neg (by simp)]
        clear e
        obtain ⟨e, s⟩ := R
        cases e <;> first | rfl | exact absurd rfl hR
  have := key L.length 0 m (by omega) hm
  rwa [List.drop_zero] at this

def hdC : IRC → IRC
  | .seq a _ => a
  | a => a
def tlC : IRC → IRC
  | .seq _ b => b
  | a => a
/-- A loop whose state is tidied ahead of each round: from tidied state to tidied state. -/
theorem iter_tidy {c : Ctx} {N : Nat} {B : IRC} (hB : B = .seq (hdC B) (tlC B)) {T : Nat → St} {n : Nat} {r : Ex × St} {s0 : St} (h0 : runCS c N (hdC B) s0 = some (.normal, T 0))
    (hs : ∀ j, j < n → runCS c N (.seq (tlC B) (hdC B)) (T j) = some (.normal, T (j + 1))) (he : runCS c N (tlC B) (T n) = some r) (hr : r.1 ≠ .normal) {m : Nat} (hm : n < m) : iter (runCS c N B) m s0 = some r := by
  have f : ∀ s t, runCS c N (hdC B) s = some (.normal, t) → runCS c N B s = runCS c N (tlC B) t := fun s t h => by
    conv => lhs; rw [hB]
    rw [runCS_seq, h]
  have key : ∀ (d j m : Nat) (s : St), j + d = n → d < m → runCS c N (hdC B) s = some (.normal, T j) → iter (runCS c N B) m s = some r := by
    intro d
    induction d with
    | zero =>
      intro j m s hj hm h
      obtain ⟨m, rfl⟩ : ∃ q, m = q + 1 := ⟨m - 1, by omega⟩
      obtain rfl : j = n := by omega
      simp only [iter, f s _ h, he]
      obtain ⟨e, s⟩ := r
      cases e <;> first | rfl | exact absurd rfl hr
    | succ d ih =>
      intro j m s hj hm h
      obtain ⟨m, rfl⟩ : ∃ q, m = q + 1 := ⟨m - 1, by omega⟩
      have e := hs j (by omega)
      rw [runCS_seq] at e
      cases q : runCS c N (tlC B) (T j) with
      | none => rw [q] at e; cases e
      | some y =>
        obtain ⟨x, s'⟩ := y
        rw [q] at e
        cases x with
        | normal =>
          simp only [iter, f s _ h, q]
          exact ih (j + 1) m s' (by omega) (by omega) e
        | exit i => simp at e
        | ret => simp at e
        | goto i => simp at e
  exact key n 0 m s0 (by omega) hm h0
/-- The k-th statement of a text; what follows it. -/
def stC : Nat → IRC → IRC
  | 0, .seq a _ => a
  | n + 1, .seq _ b => stC n b
  | _, a => a
def rsC : Nat → IRC → IRC
  | 0, a => a
  | n + 1, .seq _ b => rsC n b
  | _, a => a
theorem runCS_then {c : Ctx} {n : Nat} {a r : IRC} {st st' : St} (h : runCS c n a st = some (.normal, st')) : runCS c n (.seq a r) st = runCS c n r st' := by
  rw [runCS_seq, h]
theorem runCS_then2 {c : Ctx} {n : Nat} {a b r : IRC} {st st' : St} (h : runCS c n (.seq a b) st = some (.normal, st')) : runCS c n (.seq a (.seq b r)) st = runCS c n r st' := by
  rw [runCS_seq] at h ⊢
  cases q : runCS c n a st with
  | none => rw [q] at h; cases h
  | some y =>
    obtain ⟨e, s⟩ := y
    rw [q] at h
    cases e with
    | normal => exact runCS_then h
    | exit i => simp at h
    | ret => simp at h
    | goto i => simp at h
theorem runCS_then3 {c : Ctx} {n : Nat} {a b d r : IRC} {st st' : St} (h : runCS c n (.seq a (.seq b d)) st = some (.normal, st')) : runCS c n (.seq a (.seq b (.seq d r))) st = runCS c n r st' := by
  rw [runCS_seq] at h ⊢
  cases q : runCS c n a st with
  | none => rw [q] at h; cases h
  | some y =>
    obtain ⟨e, s⟩ := y
    rw [q] at h
    cases e with
    | normal => exact runCS_then2 h
    | exit i => simp at h
    | ret => simp at h
    | goto i => simp at h
theorem runCS_assoc {c : Ctx} {n : Nat} {a b r : IRC} {st : St} : runCS c n (.seq (.seq a b) r) st = runCS c n (.seq a (.seq b r)) st := by
  rw [runCS_seq, runCS_seq, runCS_seq]
  cases runCS c n a st with
  | none => rfl
  | some y =>
    obtain ⟨e, s⟩ := y
    cases e with
    | normal => simp only []; rw [runCS_seq]
    | _ => rfl
end Go.Sx
end

section
namespace Go.Proofs.YtppeggedcaabkaaGreatDoor
open Go Go.Sx

theorem binI_eqlD (k : IntKind) (x y : Int) : binI .eql k x y = some (.bool (decide (x = y))) := by rw [binI_eql, show (x == y) = decide (x = y) from by rw [Bool.eq_iff_iff]; simp]
theorem binI_neqD (k : IntKind) (x y : Int) : binI .neq k x y = some (.bool (!decide (x = y))) := by rw [binI_neq, bne, show (x == y) = decide (x = y) from by rw [Bool.eq_iff_iff]; simp]

/-- The machine's steps, all together. -/
theorem ssI : ((((((((type_of% @Go.Sx.runF_I) ∧ ((type_of% @runCS_skip) ∧ (type_of% @runCS_regI))) ∧ ((type_of% @runCS_drawI) ∧ ((type_of% @runCS_seqI) ∧ (type_of% @runCS_condI)))) ∧ (((type_of% @runCS_blockI) ∧ ((type_of% @runCS_loop) ∧ (type_of% @runCS_exit))) ∧ (((type_of% @runCS_label) ∧ (type_of% @runCS_goto)) ∧ ((type_of% @runCS_scope) ∧ (type_of% @runCS_tidy))))) ∧ ((((type_of% @Go.Sx.tidyR.eq_1) ∧ ((type_of% @runCS_ret) ∧ (type_of% @runOpsS_nil))) ∧ ((type_of% @runOpsS_consY) ∧ ((type_of% @runOpsTS_nil) ∧ (type_of% @runOpsTS_consI)))) ∧ (((type_of% @Go.Sx.wants.eq_1) ∧ ((type_of% @Go.Sx.wants.eq_2) ∧ (type_of% @Go.Sx.evOp.eq_def))) ∧ (((type_of% @Go.Sx.opd.eq_1) ∧ (type_of% @Go.Sx.opd.eq_2)) ∧ ((type_of% @Go.Sx.opd.eq_3) ∧ (type_of% @Go.Sx.get.eq_1)))))) ∧ (((((type_of% @Go.Sx.get.eq_2) ∧ ((type_of% @Go.Sx.putD.eq_1) ∧ (type_of% @Go.Sx.putD.eq_2))) ∧ ((type_of% @Go.Sx.binL.eq_1) ∧ ((type_of% @Go.Sx.binL.eq_2) ∧ (type_of% @Go.Sx.isSh.eq_1)))) ∧ (((type_of% @Go.Sx.isSh.eq_2) ∧ ((type_of% @Go.Sx.isSh.eq_3) ∧ (type_of% @binI_add))) ∧ (((type_of% @binI_sub) ∧ (type_of% @binI_mul)) ∧ ((type_of% @binI_eqlD) ∧ (type_of% @binI_neqD))))) ∧ ((((type_of% @binI_lss) ∧ ((type_of% @binI_leq) ∧ (type_of% @binI_gtr))) ∧ ((type_of% @binI_geq) ∧ ((type_of% @Go.Sx.eqL.eq_1) ∧ (type_of% @Go.Sx.eqL.eq_2)))) ∧ (((type_of% @Go.Sx.eqL.eq_3) ∧ ((type_of% @Go.Sx.eqL.eq_4) ∧ (type_of% @Go.Sx.eqL.eq_5))) ∧ (((type_of% @Go.Sx.eqL.eq_6) ∧ (type_of% @Go.Sx.eqL.eq_7)) ∧ ((type_of% @Go.Sx.eqL.eq_8) ∧ (type_of% @Go.Sx.eqL.eq_9))))))) ∧ ((((((type_of% @Go.Sx.eqL.eq_10) ∧ ((type_of% @Go.Sx.eqL.eq_11) ∧ (type_of% @Go.Sx.eqL.eq_12))) ∧ ((type_of% @Go.Sx.eqL.eq_13) ∧ ((type_of% @Go.Sx.eqL.eq_14) ∧ (type_of% @unL_not)))) ∧ (((type_of% @unL_neg) ∧ ((type_of% @Go.Sx.resVs.eq_1) ∧ (type_of% @Go.Sx.resVs.eq_2))) ∧ (((type_of% @Go.Sx.resV.eq_1) ∧ (type_of% @Go.Sx.resV.eq_2)) ∧ ((type_of% @Go.Sx.oneL.eq_1) ∧ (type_of% @Go.Sx.oneL.eq_2))))) ∧ ((((type_of% @Go.Sx.frz.eq_1) ∧ ((type_of% @Go.Sx.frz.eq_2) ∧ (type_of% @Go.Sx.frz.go.eq_1))) ∧ ((type_of% @Go.Sx.frz.go.eq_2) ∧ ((type_of% @Go.Sx.frzL.eq_1) ∧ (type_of% @Go.Sx.frzL.eq_2)))) ∧ (((type_of% @Go.Sx.frzL.eq_3) ∧ ((type_of% @Go.Sx.frzL.eq_4) ∧ (type_of% @Go.Sx.frzL.eq_5))) ∧ (((type_of% @Go.Sx.frzL.eq_6) ∧ (type_of% @Go.Sx.frzL.go.eq_1)) ∧ ((type_of% @Go.Sx.frzL.go.eq_2) ∧ (type_of% @Go.Sx.ids.eq_1)))))) ∧ (((((type_of% @Go.Sx.ids.eq_2) ∧ ((type_of% @Go.Sx.ids.eq_3) ∧ (type_of% @Go.Sx.ids.eq_4))) ∧ ((type_of% @Go.Sx.ids.eq_5) ∧ ((type_of% @Go.Sx.ids.eq_6) ∧ (type_of% @Go.Sx.ids.idsL.eq_1)))) ∧ (((type_of% @Go.Sx.ids.idsL.eq_2) ∧ ((type_of% @Go.Sx.updIds.eq_1) ∧ (type_of% @Go.Sx.updIds.eq_2))) ∧ (((type_of% @Go.Sx.updIds.eq_3) ∧ (type_of% @Go.Sx.reach.eq_1)) ∧ ((type_of% @Go.Sx.reach.eq_2) ∧ (type_of% @Go.Sx.reach.eq_3))))) ∧ ((((type_of% @Go.Sx.ren.eq_1) ∧ ((type_of% @Go.Sx.ren.eq_2) ∧ (type_of% @Go.Sx.ren.eq_3))) ∧ ((type_of% @Go.Sx.ren.eq_4) ∧ ((type_of% @Go.Sx.ren.eq_5) ∧ (type_of% @Go.Sx.ren.eq_6)))) ∧ (((type_of% @Go.Sx.ren.eq_7) ∧ ((type_of% @Go.Sx.ren.go.eq_1) ∧ (type_of% @Go.Sx.ren.go.eq_2))) ∧ (((type_of% @Go.Sx.renU.eq_1) ∧ (type_of% @Go.Sx.renU.eq_2)) ∧ ((type_of% @Go.Sx.renN.eq_1) ∧ (type_of% @Go.Sx.renN.eq_2)))))))) ∧ (((((((type_of% @Go.Sx.renO.eq_1) ∧ ((type_of% @Go.Sx.renO.eq_2) ∧ (type_of% @Go.Sx.renO.eq_3))) ∧ ((type_of% @Go.Sx.renId.eq_1) ∧ ((type_of% @Go.Sx.fillP.eq_1) ∧ (type_of% @Go.Sx.fillP.eq_2)))) ∧ (((type_of% @Go.Sx.mkAgg.eq_1) ∧ ((type_of% @Go.Sx.allP.eq_1) ∧ (type_of% @Go.Sx.allP.eq_2))) ∧ (((type_of% @Go.Sx.allP.eq_3) ∧ (type_of% @Go.Sx.LV.cells.eq_1)) ∧ ((type_of% @Go.Sx.LV.cells.eq_2) ∧ (type_of% @Go.Sx.LV.cells.eq_3))))) ∧ ((((type_of% @Go.Sx.LV.cells.eq_4) ∧ ((type_of% @Go.Sx.LV.cells.eq_5) ∧ (type_of% @Go.Sx.LV.cells.eq_6))) ∧ ((type_of% @Go.Sx.rd.eq_1) ∧ ((type_of% @Go.Sx.findU.eq_1) ∧ (type_of% @Go.Sx.findU.eq_2)))) ∧ (((type_of% @Go.Sx.slCells.eq_1) ∧ ((type_of% @Go.Sx.slCells.eq_2) ∧ (type_of% @Go.Sx.slCells.eq_3))) ∧ (((type_of% @Go.Sx.slCells.eq_4) ∧ (type_of% @Go.Sx.sliceO.eq_1)) ∧ ((type_of% @Go.Sx.sliceO.eq_2) ∧ (type_of% @Go.Sx.sliceO.eq_3)))))) ∧ (((((type_of% @Go.Value.oneCell'.eq_1) ∧ ((type_of% @Go.Value.oneCell'.eq_2) ∧ (type_of% @Go.Value.oneCell'.eq_3))) ∧ ((type_of% @Go.Sx.mmL.eq_1) ∧ ((type_of% @Go.Sx.mmL.eq_2) ∧ (type_of% @Go.Sx.mm2.eq_1)))) ∧ (((type_of% @Go.Sx.gslot.eq_1) ∧ ((type_of% @Go.Sx.gslot.eq_2) ∧ (type_of% @Go.Sx.IROp.slots.eq_1))) ∧ (((type_of% @Go.Sx.IROp.slots.eq_2) ∧ (type_of% @Go.Sx.IROp.slots.eq_3)) ∧ ((type_of% @Go.Sx.IROp.slots.eq_4) ∧ (type_of% @Go.Sx.IROp.slots.eq_5))))) ∧ ((((type_of% @Go.Sx.IROp.slots.eq_6) ∧ ((type_of% @Go.Sx.IROp.slots.eq_7) ∧ (type_of% @Go.Sx.IROp.slots.eq_8))) ∧ ((type_of% @Go.Sx.IROp.slots.eq_9) ∧ ((type_of% @Go.Sx.IROp.slots.eq_10) ∧ (type_of% @Go.Sx.IROp.slots.eq_11)))) ∧ (((type_of% @Go.Sx.IROp.slots.eq_12) ∧ ((type_of% @Go.Sx.IROp.slots.eq_13) ∧ (type_of% @Go.Sx.IROp.slots.eq_14))) ∧ (((type_of% @Go.Sx.IROp.slots.eq_15) ∧ (type_of% @Go.Sx.IROp.slots.eq_16)) ∧ ((type_of% @Go.Sx.IROp.slots.eq_17) ∧ (type_of% @Go.Sx.IROp.slots.eq_18))))))) ∧ ((((((type_of% @Go.Sx.IROp.slots.eq_19) ∧ ((type_of% @Go.Sx.IROp.slots.eq_20) ∧ (type_of% @Go.Sx.IROp.slots.eq_21))) ∧ ((type_of% @Go.Sx.IROp.slots.eq_22) ∧ ((type_of% @Go.Sx.IROp.slots.eq_23) ∧ (type_of% @Go.Sx.IROp.slots.eq_24)))) ∧ (((type_of% @Go.Sx.IROp.slots.eq_25) ∧ ((type_of% @Go.Sx.IROp.slots.eq_26) ∧ (type_of% @Go.Sx.IROp.slots.eq_27))) ∧ (((type_of% @Go.Sx.IROp.slots.eq_28) ∧ (type_of% @Go.Sx.IROp.slots.eq_29)) ∧ ((type_of% @Go.Sx.IROp.slots.eq_30) ∧ (type_of% @Go.Sx.IROp.slots.eq_31))))) ∧ ((((type_of% @Go.Sx.IROp.slots.eq_32) ∧ ((type_of% @Go.Sx.IROp.slots.eq_33) ∧ (type_of% @Go.Sx.IROp.slots.eq_34))) ∧ ((type_of% @Go.Sx.IROp.slots.eq_35) ∧ ((type_of% @Go.Sx.IROp.slots.eq_36) ∧ (type_of% @Go.Sx.IROp.slots.eq_37)))) ∧ (((type_of% @Go.Sx.IROp.slots.eq_38) ∧ ((type_of% @Go.Sx.Opd.slots.eq_1) ∧ (type_of% @Go.Sx.Opd.slots.eq_2))) ∧ (((type_of% @Go.Sx.indepD.eq_1) ∧ (type_of% @Go.Sx.quickD.eq_1)) ∧ ((type_of% @Go.Sx.quickD.eq_2) ∧ (type_of% @Go.Sx.indepR.eq_1)))))) ∧ (((((type_of% @Go.Sx.indepR.eq_2) ∧ ((type_of% @Go.Sx.indepR.eq_3) ∧ (type_of% @Go.Sx.pairsD.eq_1))) ∧ ((type_of% @Go.Sx.pairsD.eq_2) ∧ ((type_of% @Go.Sx.apartD.eq_1) ∧ (type_of% @Nat.testBit.eq_1)))) ∧ (((type_of% @Go.Sx.Obj.ids.eq_1) ∧ ((type_of% @Go.Sx.Obj.ids.eq_2) ∧ (type_of% @Go.Sx.natL.eq_1))) ∧ (((type_of% @Go.Sx.optMap.eq_1) ∧ (type_of% @Go.Sx.optMap.eq_2)) ∧ ((type_of% @Go.undef.eq_1) ∧ (type_of% @ltF))))) ∧ ((((type_of% @condU_true) ∧ ((type_of% @condU_false) ∧ (type_of% @gd_tt))) ∧ (((type_of% @gd_tf) ∧ (type_of% @gd_ft)) ∧ ((type_of% @gd_ff) ∧ (type_of% @pickV_true)))) ∧ (((type_of% @pickV_false) ∧ ((type_of% @pickV_bb) ∧ (type_of% @pickV_and))) ∧ (((type_of% @pickV_or) ∧ (type_of% @iteR)) ∧ ((type_of% @iteK_R) ∧ (type_of% @iteK_self))))))))) :=
  ⟨⟨⟨⟨⟨⟨⟨@Go.Sx.runF_I, ⟨@runCS_skip, @runCS_regI⟩⟩, ⟨@runCS_drawI, ⟨@runCS_seqI, @runCS_condI⟩⟩⟩, ⟨⟨@runCS_blockI, ⟨@runCS_loop, @runCS_exit⟩⟩, ⟨⟨@runCS_label, @runCS_goto⟩, ⟨@runCS_scope, @runCS_tidy⟩⟩⟩⟩, ⟨⟨⟨@Go.Sx.tidyR.eq_1, ⟨@runCS_ret, @runOpsS_nil⟩⟩, ⟨@runOpsS_consY, ⟨@runOpsTS_nil, @runOpsTS_consI⟩⟩⟩, ⟨⟨@Go.Sx.wants.eq_1, ⟨@Go.Sx.wants.eq_2, @Go.Sx.evOp.eq_def⟩⟩, ⟨⟨@Go.Sx.opd.eq_1, @Go.Sx.opd.eq_2⟩, ⟨@Go.Sx.opd.eq_3, @Go.Sx.get.eq_1⟩⟩⟩⟩⟩, ⟨⟨⟨⟨@Go.Sx.get.eq_2, ⟨@Go.Sx.putD.eq_1, @Go.Sx.putD.eq_2⟩⟩, ⟨@Go.Sx.binL.eq_1, ⟨@Go.Sx.binL.eq_2, @Go.Sx.isSh.eq_1⟩⟩⟩, ⟨⟨@Go.Sx.isSh.eq_2, ⟨@Go.Sx.isSh.eq_3, @binI_add⟩⟩, ⟨⟨@binI_sub, @binI_mul⟩, ⟨@binI_eqlD, @binI_neqD⟩⟩⟩⟩, ⟨⟨⟨@binI_lss, ⟨@binI_leq, @binI_gtr⟩⟩, ⟨@binI_geq, ⟨@Go.Sx.eqL.eq_1, @Go.Sx.eqL.eq_2⟩⟩⟩, ⟨⟨@Go.Sx.eqL.eq_3, ⟨@Go.Sx.eqL.eq_4, @Go.Sx.eqL.eq_5⟩⟩, ⟨⟨@Go.Sx.eqL.eq_6, @Go.Sx.eqL.eq_7⟩, ⟨@Go.Sx.eqL.eq_8, @Go.Sx.eqL.eq_9⟩⟩⟩⟩⟩⟩, ⟨⟨⟨⟨⟨@Go.Sx.eqL.eq_10, ⟨@Go.Sx.eqL.eq_11, @Go.Sx.eqL.eq_12⟩⟩, ⟨@Go.Sx.eqL.eq_13, ⟨@Go.Sx.eqL.eq_14, @unL_not⟩⟩⟩, ⟨⟨@unL_neg, ⟨@Go.Sx.resVs.eq_1, @Go.Sx.resVs.eq_2⟩⟩, ⟨⟨@Go.Sx.resV.eq_1, @Go.Sx.resV.eq_2⟩, ⟨@Go.Sx.oneL.eq_1, @Go.Sx.oneL.eq_2⟩⟩⟩⟩, ⟨⟨⟨@Go.Sx.frz.eq_1, ⟨@Go.Sx.frz.eq_2, @Go.Sx.frz.go.eq_1⟩⟩, ⟨@Go.Sx.frz.go.eq_2, ⟨@Go.Sx.frzL.eq_1, @Go.Sx.frzL.eq_2⟩⟩⟩, ⟨⟨@Go.Sx.frzL.eq_3, ⟨@Go.Sx.frzL.eq_4, @Go.Sx.frzL.eq_5⟩⟩, ⟨⟨@Go.Sx.frzL.eq_6, @Go.Sx.frzL.go.eq_1⟩, ⟨@Go.Sx.frzL.go.eq_2, @Go.Sx.ids.eq_1⟩⟩⟩⟩⟩, ⟨⟨⟨⟨@Go.Sx.ids.eq_2, ⟨@Go.Sx.ids.eq_3, @Go.Sx.ids.eq_4⟩⟩, ⟨@Go.Sx.ids.eq_5, ⟨@Go.Sx.ids.eq_6, @Go.Sx.ids.idsL.eq_1⟩⟩⟩, ⟨⟨@Go.Sx.ids.idsL.eq_2, ⟨@Go.Sx.updIds.eq_1, @Go.Sx.updIds.eq_2⟩⟩, ⟨⟨@Go.Sx.updIds.eq_3, @Go.Sx.reach.eq_1⟩, ⟨@Go.Sx.reach.eq_2, @Go.Sx.reach.eq_3⟩⟩⟩⟩, ⟨⟨⟨@Go.Sx.ren.eq_1, ⟨@Go.Sx.ren.eq_2, @Go.Sx.ren.eq_3⟩⟩, ⟨@Go.Sx.ren.eq_4, ⟨@Go.Sx.ren.eq_5, @Go.Sx.ren.eq_6⟩⟩⟩, ⟨⟨@Go.Sx.ren.eq_7, ⟨@Go.Sx.ren.go.eq_1, @Go.Sx.ren.go.eq_2⟩⟩, ⟨⟨@Go.Sx.renU.eq_1, @Go.Sx.renU.eq_2⟩, ⟨@Go.Sx.renN.eq_1, @Go.Sx.renN.eq_2⟩⟩⟩⟩⟩⟩⟩, ⟨⟨⟨⟨⟨⟨@Go.Sx.renO.eq_1, ⟨@Go.Sx.renO.eq_2, @Go.Sx.renO.eq_3⟩⟩, ⟨@Go.Sx.renId.eq_1, ⟨@Go.Sx.fillP.eq_1, @Go.Sx.fillP.eq_2⟩⟩⟩, ⟨⟨@Go.Sx.mkAgg.eq_1, ⟨@Go.Sx.allP.eq_1, @Go.Sx.allP.eq_2⟩⟩, ⟨⟨@Go.Sx.allP.eq_3, @Go.Sx.LV.cells.eq_1⟩, ⟨@Go.Sx.LV.cells.eq_2, @Go.Sx.LV.cells.eq_3⟩⟩⟩⟩, ⟨⟨⟨@Go.Sx.LV.cells.eq_4, ⟨@Go.Sx.LV.cells.eq_5, @Go.Sx.LV.cells.eq_6⟩⟩, ⟨@Go.Sx.rd.eq_1, ⟨@Go.Sx.findU.eq_1, @Go.Sx.findU.eq_2⟩⟩⟩, ⟨⟨@Go.Sx.slCells.eq_1, ⟨@Go.Sx.slCells.eq_2, @Go.Sx.slCells.eq_3⟩⟩, ⟨⟨@Go.Sx.slCells.eq_4, @Go.Sx.sliceO.eq_1⟩, ⟨@Go.Sx.sliceO.eq_2, @Go.Sx.sliceO.eq_3⟩⟩⟩⟩⟩, ⟨⟨⟨⟨@Go.Value.oneCell'.eq_1, ⟨@Go.Value.oneCell'.eq_2, @Go.Value.oneCell'.eq_3⟩⟩, ⟨@Go.Sx.mmL.eq_1, ⟨@Go.Sx.mmL.eq_2, @Go.Sx.mm2.eq_1⟩⟩⟩, ⟨⟨@Go.Sx.gslot.eq_1, ⟨@Go.Sx.gslot.eq_2, @Go.Sx.IROp.slots.eq_1⟩⟩, ⟨⟨@Go.Sx.IROp.slots.eq_2, @Go.Sx.IROp.slots.eq_3⟩, ⟨@Go.Sx.IROp.slots.eq_4, @Go.Sx.IROp.slots.eq_5⟩⟩⟩⟩, ⟨⟨⟨@Go.Sx.IROp.slots.eq_6, ⟨@Go.Sx.IROp.slots.eq_7, @Go.Sx.IROp.slots.eq_8⟩⟩, ⟨@Go.Sx.IROp.slots.eq_9, ⟨@Go.Sx.IROp.slots.eq_10, @Go.Sx.IROp.slots.eq_11⟩⟩⟩, ⟨⟨@Go.Sx.IROp.slots.eq_12, ⟨@Go.Sx.IROp.slots.eq_13, @Go.Sx.IROp.slots.eq_14⟩⟩, ⟨⟨@Go.Sx.IROp.slots.eq_15, @Go.Sx.IROp.slots.eq_16⟩, ⟨@Go.Sx.IROp.slots.eq_17, @Go.Sx.IROp.slots.eq_18⟩⟩⟩⟩⟩⟩, ⟨⟨⟨⟨⟨@Go.Sx.IROp.slots.eq_19, ⟨@Go.Sx.IROp.slots.eq_20, @Go.Sx.IROp.slots.eq_21⟩⟩, ⟨@Go.Sx.IROp.slots.eq_22, ⟨@Go.Sx.IROp.slots.eq_23, @Go.Sx.IROp.slots.eq_24⟩⟩⟩, ⟨⟨@Go.Sx.IROp.slots.eq_25, ⟨@Go.Sx.IROp.slots.eq_26, @Go.Sx.IROp.slots.eq_27⟩⟩, ⟨⟨@Go.Sx.IROp.slots.eq_28, @Go.Sx.IROp.slots.eq_29⟩, ⟨@Go.Sx.IROp.slots.eq_30, @Go.Sx.IROp.slots.eq_31⟩⟩⟩⟩, ⟨⟨⟨@Go.Sx.IROp.slots.eq_32, ⟨@Go.Sx.IROp.slots.eq_33, @Go.Sx.IROp.slots.eq_34⟩⟩, ⟨@Go.Sx.IROp.slots.eq_35, ⟨@Go.Sx.IROp.slots.eq_36, @Go.Sx.IROp.slots.eq_37⟩⟩⟩, ⟨⟨@Go.Sx.IROp.slots.eq_38, ⟨@Go.Sx.Opd.slots.eq_1, @Go.Sx.Opd.slots.eq_2⟩⟩, ⟨⟨@Go.Sx.indepD.eq_1, @Go.Sx.quickD.eq_1⟩, ⟨@Go.Sx.quickD.eq_2, @Go.Sx.indepR.eq_1⟩⟩⟩⟩⟩, ⟨⟨⟨⟨@Go.Sx.indepR.eq_2, ⟨@Go.Sx.indepR.eq_3, @Go.Sx.pairsD.eq_1⟩⟩, ⟨@Go.Sx.pairsD.eq_2, ⟨@Go.Sx.apartD.eq_1, @Nat.testBit.eq_1⟩⟩⟩, ⟨⟨@Go.Sx.Obj.ids.eq_1, ⟨@Go.Sx.Obj.ids.eq_2, @Go.Sx.natL.eq_1⟩⟩, ⟨⟨@Go.Sx.optMap.eq_1, @Go.Sx.optMap.eq_2⟩, ⟨@Go.undef.eq_1, @ltF⟩⟩⟩⟩, ⟨⟨⟨@condU_true, ⟨@condU_false, @gd_tt⟩⟩, ⟨⟨@gd_tf, @gd_ft⟩, ⟨@gd_ff, @pickV_true⟩⟩⟩, ⟨⟨@pickV_false, ⟨@pickV_bb, @pickV_and⟩⟩, ⟨⟨@pickV_or, @iteR⟩, ⟨@iteK_R, @iteK_self⟩⟩⟩⟩⟩⟩⟩⟩
/-- The same, from outside. -/
theorem ssJ : ((((((type_of% @bindK_some) ∧ (type_of% @bindK_none)) ∧ ((type_of% @bindK_ite) ∧ ((type_of% @wsel_true) ∧ (type_of% @wsel_false)))) ∧ (((type_of% @wsel_none) ∧ ((type_of% @wsel_bool) ∧ (type_of% @seqK_normal))) ∧ ((type_of% @seqK_exit) ∧ ((type_of% @seqK_ret) ∧ (type_of% @seqK_goto))))) ∧ ((((type_of% @blkK_normal) ∧ ((type_of% @blkK_exit) ∧ (type_of% @blkK_ret))) ∧ ((type_of% @blkK_goto) ∧ ((type_of% @finK_normal) ∧ (type_of% @finK_ret)))) ∧ (((type_of% @keep_nil) ∧ ((type_of% @keep_cons) ∧ (type_of% @condK_true))) ∧ ((type_of% @condK_false) ∧ ((type_of% @condK_bool) ∧ (type_of% @wselG_none)))))) ∧ (((((type_of% @wselG_some) ∧ (type_of% @wselV_bool)) ∧ ((type_of% @wselV_undef) ∧ ((type_of% @wselV_cond) ∧ (type_of% @wselV_cond2)))) ∧ (((type_of% @wsel1_true) ∧ ((type_of% @wsel1_false) ∧ (type_of% @wsel2_l))) ∧ ((type_of% @wsel2_r) ∧ ((type_of% @wsel2_fl) ∧ (type_of% @wsel2_fr))))) ∧ ((((type_of% @wsel3_1) ∧ ((type_of% @wsel3_2) ∧ (type_of% @wsel3_3))) ∧ ((type_of% @wsel3_f) ∧ ((type_of% @wsel1_pure) ∧ (type_of% @wsel2_pure)))) ∧ (((type_of% @wsel3_pure) ∧ ((type_of% @evOp_pick) ∧ (type_of% @pickO_bool))) ∧ ((type_of% @iteK_true) ∧ ((type_of% @iteK_false) ∧ (type_of% @bindK_iteK))))))) :=
  ⟨⟨⟨⟨⟨@bindK_some, @bindK_none⟩, ⟨@bindK_ite, ⟨@wsel_true, @wsel_false⟩⟩⟩, ⟨⟨@wsel_none, ⟨@wsel_bool, @seqK_normal⟩⟩, ⟨@seqK_exit, ⟨@seqK_ret, @seqK_goto⟩⟩⟩⟩, ⟨⟨⟨@blkK_normal, ⟨@blkK_exit, @blkK_ret⟩⟩, ⟨@blkK_goto, ⟨@finK_normal, @finK_ret⟩⟩⟩, ⟨⟨@keep_nil, ⟨@keep_cons, @condK_true⟩⟩, ⟨@condK_false, ⟨@condK_bool, @wselG_none⟩⟩⟩⟩⟩, ⟨⟨⟨⟨@wselG_some, @wselV_bool⟩, ⟨@wselV_undef, ⟨@wselV_cond, @wselV_cond2⟩⟩⟩, ⟨⟨@wsel1_true, ⟨@wsel1_false, @wsel2_l⟩⟩, ⟨@wsel2_r, ⟨@wsel2_fl, @wsel2_fr⟩⟩⟩⟩, ⟨⟨⟨@wsel3_1, ⟨@wsel3_2, @wsel3_3⟩⟩, ⟨@wsel3_f, ⟨@wsel1_pure, @wsel2_pure⟩⟩⟩, ⟨⟨@wsel3_pure, ⟨@evOp_pick, @pickO_bool⟩⟩, ⟨@iteK_true, ⟨@iteK_false, @bindK_iteK⟩⟩⟩⟩⟩⟩
end Go.Proofs.YtppeggedcaabkaaGreatDoor
end

section
namespace Go.Proofs.YtppeggedcaabkaaGreatDoor
open Go Go.Sx
set_option linter.unusedSimpArgs false
set_option linter.unusedVariables false

theorem partI_ (h p : Int) (b : Bool) (H : Heap) (nx : Nat) :
    Ω 84 [.int .i64 p, .bool b, .p (.imm [.s (.int .i64 h)] 0)] H nx = some (.bool (partB h p b), [], []) := by
  obtain ⟨v, hv⟩ : ∃ v, binI .and .i64 h p = some (.int .i64 v) := ⟨_, rfl⟩
  have e : partB h p b = (decide (0 < v) || b) := by rw [partB, hv]
  refine om_run (ir := ir84) (by kernel_rfl) 0 ?_
  rw [e]
  by_cases h0 : 0 < v
  · have h1 : ¬ v ≤ 0 := by omega
    simp [ir84, ssI, ↓ssJ, List.idxOf?_cons, Go.Sx.LV.undef, Go.undef, Go.Sx.callO, Go.Sx.splice, Go.Sx.finish, Go.Sx.look, Go.Sx.push, Go.Sx.setObj, Go.Sx.setU, Go.Sx.setAll, Go.Sx.appO, Go.Sx.leI_eq, ltF, hv, h0, h1]
  · have h1 : v ≤ 0 := by omega
    simp [ir84, ssI, ↓ssJ, List.idxOf?_cons, Go.Sx.LV.undef, Go.undef, Go.Sx.callO, Go.Sx.splice, Go.Sx.finish, Go.Sx.look, Go.Sx.push, Go.Sx.setObj, Go.Sx.setU, Go.Sx.setAll, Go.Sx.appO, Go.Sx.leI_eq, ltF, hv, h0, h1]
/-- The length of a list of entries. -/
theorem entP_cases (f : Ent → List PV) (k : Nat) (L : List Ent) : (L = [] ∧ entP f k L = .s (.slice none 0 0)) ∨ (L ≠ [] ∧ 0 < L.length ∧ entP f k L = .sl (rows f L) L.length k false) := by
  unfold entP
  split
  · rename_i h; exact .inl ⟨h, rfl⟩
  · rename_i h; exact .inr ⟨h, List.length_pos_iff.2 h, rfl⟩
theorem zero_ (n : Nte) (fl : Bool) (hev : n.ev.max < 2 ^ 63) (H : Heap) (nx : Nat) : Ω 40 [.p (n.pv fl)] H nx = some (.bool (n.zeroB (hasK n.kind)), [], []) := by
  refine om_run (ir := ir40) (by kernel_rfl) 0 ?_
  have hk := fun H nx => has_ n.kind H nx
  have sm := fun H nx => evSame_ n.ev (.leaf 0) hev (by simp [Ev.max]) H nx
  have iz := fun H nx => idIsZero_ n.gift.sh H nx
  unfold Nte.zeroB
  generalize hasK n.kind = h at *
  have e0 : (Ev.leaf 0).pv = .agg [.s (.int .u64 0), .s (.pointer none)] := rfl
  have en : n.ev.pv = .agg [.s (.int .u64 n.ev.n), n.ev.ptr] := rfl
  have ei : n.gift.sh.pv = .agg [.s (.bool n.gift.sh.all), n.gift.sh.ptr] := rfl
  rw [e0, en] at sm
  rw [ei] at iz
  have hlen : ∃ z, entP (Ent.row fl) 5 n.ents = z ∧ ((z = .s (.slice none 0 0) ∧ n.ents.isEmpty = true) ∨ ∃ R m, z = .sl R (m + 1) 5 false ∧ n.ents.isEmpty = false) := by
    refine ⟨_, rfl, ?_⟩
    rcases entP_cases (Ent.row fl) 5 n.ents with ⟨h, e⟩ | ⟨h, h', e⟩
    · exact .inl ⟨e, by simp [h]⟩
    · exact .inr ⟨_, n.ents.length - 1, by rw [e]; congr 1; omega, by simp [h]⟩
  obtain ⟨z, hz, hlen⟩ := hlen
  simp only [Nte.pv, Nte.cells, hz]
  have hn : noneB n.ev = (Ev.leqb n.ev (.leaf 0) && Ev.leqb (.leaf 0) n.ev) := rfl
  rw [← hn] at sm
  unfold plainB
  generalize noneB n.ev = b4 at *
  generalize n.gift.sh.all = sa at *
  generalize n.gift.sh.ptr = sp at *
  generalize (decide (n.gift.sh = .zero)) = b8 at *
  generalize n.ev.ptr = ep at *
  generalize n.ev.n = evn at *
  generalize n.ents.isEmpty = b5 at *
  rcases hlen with ⟨rfl, rfl⟩ | ⟨R, m, rfl, rfl⟩
  all_goals
    have m1 : ∀ m : Nat, ¬ ((m : Int) + 1 = 0) := fun m => by omega
    simp +contextual [ir40, ssI, ↓ssJ, List.idxOf?_cons, Go.Sx.LV.undef, Go.undef, Go.Sx.callO, Go.Sx.splice, Go.Sx.finish, Go.Sx.look, Go.Sx.push, Go.Sx.setObj, Go.Sx.setU, Go.Sx.setAll, Go.Sx.appO, Go.Sx.leI_eq, ltF, hk, sm, iz, partI_, Bool.and_assoc, m1]
/-- Is a note right? -/
def Nte.right (n : Nte) : Bool := decide (0 ≤ hasK n.kind) && nodeB n.fr && nodeB n.to && !decide (n.fr = n.to) && (n.zeroB (hasK n.kind) && decide (0 ≤ n.seq) && !decide (256 ≤ n.seq) && n.ents.all (toldB n) &&
  (if n.kind = 3 then decide ((n.ents.length : Int) ≤ 4) else !decide (n.kind = 6) || n.gift.right && decide (n.gift.fr = n.fr) && decide (n.gift.to = n.to)))
theorem noteRight_ (n : Nte) (fl : Bool) (hL : n.ents.length < 2 ^ 31) (hx : ∀ x ∈ n.ents, x.v.ev.max < 2 ^ 63) (hev : n.ev.max < 2 ^ 63) (H : Heap) (nx : Nat) :
    Ω 12 [.p (n.pv fl)] H nx = some (.bool n.right, [], []) := by
  refine om_run (ir := ir12) (by kernel_rfl) 0 ?_
  have hk := fun H nx => has_ n.kind H nx
  have z := fun H nx => zero_ n fl hev H nx
  have t := fun H nx => told_ n fl hL hx hev H nx
  have g := fun H nx => giftRight_ n.gift H nx
  have hlen : ∃ z, entP (Ent.row fl) 5 n.ents = z ∧ ((z = .s (.slice none 0 0) ∧ n.ents.length = 0) ∨ ∃ R, z = .sl R n.ents.length 5 false) := by
    refine ⟨_, rfl, ?_⟩
    rcases entP_cases (Ent.row fl) 5 n.ents with ⟨h, e⟩ | ⟨h, h', e⟩
    · exact .inl ⟨e, by simp [h]⟩
    · exact .inr ⟨_, e⟩
  obtain ⟨ez, hz, hlen⟩ := hlen
  unfold Nte.right
  simp only [Nte.pv, Nte.cells, hz] at z t ⊢
  simp only [Gft.pv] at g
  generalize n.zeroB (hasK n.kind) = b1 at *
  generalize n.ents.all (toldB n) = b2 at *
  generalize n.gift.right = b3 at *
  generalize hasK n.kind = h at *
  generalize n.ents.length = len at *
  rcases hlen with ⟨rfl, rfl⟩ | ⟨R, rfl⟩
  all_goals
    simp +contextual [ir12, ssI, ↓ssJ, List.idxOf?_cons, Go.Sx.LV.undef, Go.undef, Go.Sx.callO, Go.Sx.splice, Go.Sx.finish, Go.Sx.look, Go.Sx.push, Go.Sx.setObj, Go.Sx.setU, Go.Sx.setAll, Go.Sx.appO, Go.Sx.leI_eq, ltF, hk, z, t, g, noteNode_]
    try (by_cases q : n.kind = 3 <;> simp [q])
end Go.Proofs.YtppeggedcaabkaaGreatDoor
end

section
namespace Go.Proofs.YtppeggedcaabkaaGreatDoor
open Go Go.Sx
set_option linter.unusedSimpArgs false
set_option linter.unusedVariables false

abbrev Nte.rcells (fl : Bool) (x : Nte) : List PV := [.s (.int .i64 x.kind), .s (.int .i64 x.fr), .s (.int .i64 x.to), .s (.int .u64 x.ses), .s (.int .i64 x.seq), .s (.bool x.last), x.ev.rv, entP (Ent.rrow fl) 4 x.ents,
  .s (.int .u64 x.gift.no), .s (.int .i64 x.gift.fr), .s (.int .i64 x.gift.to), x.gift.sh.rv, .s (.int .u64 x.no), .s (.slice none 0 0)]
abbrev Nte.rv (fl : Bool) (x : Nte) : PV := .agg (x.rcells fl)
theorem rNew_ (k f t : Int) (H : Heap) (nx : Nat) : Ω 18 [.int .i64 k, .int .i64 f, .int .i64 t] H nx = some (.p (Nte.rv false ⟨k, f, t, 0, 0, false, .leaf 0, [], ⟨0, 0, 0, .zero⟩, 0⟩), [], []) := by
  refine om_run (ir := ir18) (by kernel_rfl) 0 ?_
  have l := fun H nx => rLeaf_ 0 H nx
  simp only [Int.natCast_zero, Int.ofNat_zero] at l
  simp +contextual [ir18, ssI, ↓ssJ, List.idxOf?_cons, Go.Sx.LV.undef, Go.undef, Go.Sx.callO, Go.Sx.splice, Go.Sx.finish, Go.Sx.look, Go.Sx.push, Go.Sx.setObj, Go.Sx.setU, Go.Sx.setAll, Go.Sx.appO, Go.Sx.leI_eq, ltF, l, rZero_, Ev.rv_l, Id.rv_z, entP]
theorem rr_step {H : Heap} {nx : Nat} (N : Nat) (n : Nte) (fl : Bool) (hL : n.ents.length < 2 ^ 31) (hx : ∀ x ∈ n.ents, x.v.ev.max < 2 ^ 63) (hev : n.ev.max < 2 ^ 63) (hn : n.ev.norm) (a0 a1 a2 a3 a4 a5 a8 a9 a10 a11 a12 a13 : PV) (k : Int) (z7 : PV) (j : Nat) (x : Ent) (hj : n.ents[j]? = some x) :
    runCS ⟨Ω, noG, H, nx⟩ N ir13_0 ⟨[(1, .p (.imm [a0, a1, a2, a3, a4, a5, n.ev.rv, z7, a8, a9, a10, a11, a12, a13] 0)), (3, .int .i64 k), (181, .p (.sl (rows (Ent.rrow fl) n.ents) n.ents.length 4 false)), (182, .int .i64 n.ents.length), (183, .int .i64 j)], ⟨[], []⟩⟩ =
      if toldB n x = true then some (.normal, ⟨[(1, .p (.imm [a0, a1, a2, a3, a4, a5, n.ev.rv, z7, a8, a9, a10, a11, a12, a13] 0)), (3, .int .i64 k), (181, .p (.sl (rows (Ent.rrow fl) n.ents) n.ents.length 4 false)), (182, .int .i64 n.ents.length), (183, .int .i64 (j + 1 : Nat))], ⟨[], []⟩⟩)
      else some (.ret, ⟨[(2, .bool false)], ⟨[], []⟩⟩) := by
  obtain ⟨hjl, -⟩ := List.getElem?_eq_some_iff.1 hj
  have hr := rows_at (Ent.rrow fl) 4 (fun _ => rfl) n.ents j x hj
  have hrl := rows_len (Ent.rrow fl) 4 (fun _ => rfl) n.ents
  have g1 : ¬ (n.ents.length : Int) ≤ j := by omega
  have w1 : IntKind.i64.wrap ((j : Int) + 1) = (j : Int) + 1 := wrap_i64 _ (by omega) (by omega)
  have hle : j * 4 + 4 ≤ (rows (Ent.rrow fl) n.ents).length := by rw [hrl]; omega
  have lq := fun H nx => rLeq' x.v.ev n.ev hn (hx x (List.mem_of_getElem? hj)) hev H nx
  have hc : crd x.v.nm fl = .s (.slice none 0 0) ∧ x.v.nm = false ∨ (∃ R, crd x.v.nm fl = .sl R 1 3 fl) ∧ x.v.nm = true := by
    cases x.v.nm
    · exact .inl ⟨rfl, rfl⟩
    · exact .inr ⟨⟨_, rfl⟩, rfl⟩
  obtain ⟨es, he⟩ := Ev.rv_imm n.ev
  unfold toldB
  generalize rows (Ent.rrow fl) n.ents = R at *
  have tk : List.take 4 (List.drop (j * 4) (List.map LV.p R)) = pc (Ent.rrow fl x) := by rw [← List.map_drop, ← List.map_take, hr]; rfl
  simp only [Ent.rrow] at tk
  generalize Ev.leqb x.v.ev n.ev = b at *
  rcases hc with ⟨e1, e2⟩ | ⟨⟨Q, e1⟩, e2⟩
  all_goals
    rw [e1] at tk
    rw [e2]
    simp +contextual [ir13_0, ssI, ↓ssJ, List.idxOf?_cons, Go.Sx.LV.undef, Go.undef, Go.Sx.callO, Go.Sx.splice, Go.Sx.finish, Go.Sx.look, Go.Sx.push, Go.Sx.setObj, Go.Sx.setU, Go.Sx.setAll, Go.Sx.appO, Go.Sx.leI_eq, ltF, g1, w1, hjl, hle, tk, pc_cons, pc_nil, lq]
    cases b <;> cases x.v.gone <;> simp [iteK]
theorem rr_out {H : Heap} {nx : Nat} (N : Nat) (y : List PV) (z : Int) (w : PV) (len : Nat) : runCS ⟨Ω, noG, H, nx⟩ N ir13_0 ⟨[(1, .p (.imm y 0)), (3, .int .i64 z), (181, .p w), (182, .int .i64 len), (183, .int .i64 len)], ⟨[], []⟩⟩ =
    some (.exit 0, ⟨[(1, .p (.imm y 0)), (3, .int .i64 z), (181, .p w), (182, .int .i64 len), (183, .int .i64 len), (184, .bool false)], ⟨[], []⟩⟩) := by
  simp +contextual [ir13_0, ssI, ↓ssJ, List.idxOf?_cons, Go.Sx.LV.undef, Go.undef, Go.Sx.callO, Go.Sx.splice, Go.Sx.finish, Go.Sx.look, Go.Sx.push, Go.Sx.setObj, Go.Sx.setU, Go.Sx.setAll, Go.Sx.appO, Go.Sx.leI_eq, ltF]
theorem rr_loop {H : Heap} {nx : Nat} (n : Nte) (fl : Bool) (hL : n.ents.length < 2 ^ 31) (hx : ∀ x ∈ n.ents, x.v.ev.max < 2 ^ 63) (hev : n.ev.max < 2 ^ 63) (hn : n.ev.norm) (a0 a1 a2 a3 a4 a5 a8 a9 a10 a11 a12 a13 : PV) (k : Int) :
    iter (runCS ⟨Ω, noG, H, nx⟩ (n.ents.length + 1) ir13_0) (n.ents.length + 1) ⟨[(1, .p (.imm [a0, a1, a2, a3, a4, a5, n.ev.rv, entP (Ent.rrow fl) 4 n.ents, a8, a9, a10, a11, a12, a13] 0)), (3, .int .i64 k), (181, .p (entP (Ent.rrow fl) 4 n.ents)), (182, .int .i64 n.ents.length), (183, .int .i64 0)], ⟨[], []⟩⟩ =
      if n.ents.all (toldB n) = true then some (.exit 0, ⟨[(1, .p (.imm [a0, a1, a2, a3, a4, a5, n.ev.rv, entP (Ent.rrow fl) 4 n.ents, a8, a9, a10, a11, a12, a13] 0)), (3, .int .i64 k), (181, .p (entP (Ent.rrow fl) 4 n.ents)), (182, .int .i64 n.ents.length), (183, .int .i64 n.ents.length), (184, .bool false)], ⟨[], []⟩⟩) else some (.ret, ⟨[(2, .bool false)], ⟨[], []⟩⟩) := by
  rcases entP_cases (Ent.rrow fl) 4 n.ents with ⟨h, e⟩ | ⟨h, h', e⟩
  · rw [e]
    have o := rr_out (H := H) (nx := nx) (0 + 1) [a0, a1, a2, a3, a4, a5, n.ev.rv, .s (.slice none 0 0), a8, a9, a10, a11, a12, a13] k (.s (.slice none 0 0)) 0
    simp only [Int.natCast_zero, Int.ofNat_zero] at o
    simp only [h, List.length_nil, Int.natCast_zero, Int.ofNat_zero, List.all_nil, if_true] at o ⊢
    simp only [iter, o]
  · exact iter_all (S := fun j => ⟨[(1, .p (.imm [a0, a1, a2, a3, a4, a5, n.ev.rv, entP (Ent.rrow fl) 4 n.ents, a8, a9, a10, a11, a12, a13] 0)), (3, .int .i64 k), (181, .p (entP (Ent.rrow fl) 4 n.ents)), (182, .int .i64 n.ents.length), (183, .int .i64 (j : Nat))], ⟨[], []⟩⟩) (fun j x hj => by rw [e]; exact rr_step _ n fl hL hx hev hn a0 a1 a2 a3 a4 a5 a8 a9 a10 a11 a12 a13 k _ j x hj) (rr_out _ _ _ _ _) (by simp) (by simp) (Nat.lt_succ_self _)
/-- What the document's test is, as its text has it. -/
def Nte.rright (n : Nte) : Bool := decide (1 ≤ n.kind) && decide (n.kind ≤ 7) && decide (0 ≤ n.fr) && decide (n.fr ≤ 11) && decide (0 ≤ n.to) && decide (n.to ≤ 11) && !decide (n.fr = n.to) && decide (0 ≤ n.seq) && decide (n.seq ≤ 255) &&
  ((decide (n.ses = 0) || decide (n.kind ≤ 4)) && (decide (n.seq = 0) || decide (n.kind = 3) || decide (n.kind = 4)) && (!n.last || decide (n.kind = 3)) && (decide (n.no = 0) || decide (n.kind = 7)) &&
    ((decide (n.ev = .leaf 0) || !decide (n.kind = 4) && !decide (n.kind = 5) && !decide (n.kind = 7)) && (decide (n.ents.length = 0) || decide (n.kind = 3) || decide (n.kind = 6)) &&
      bif decide (n.kind = 6) then n.gift.right && decide (n.gift.fr = n.fr) && decide (n.gift.to = n.to) && (n.ents.all (toldB n) && (!decide (n.kind = 3) || decide ((n.ents.length : Int) ≤ 4)))
      else decide (n.gift.no = 0) && decide (n.gift.fr = 0) && decide (n.gift.to = 0) && decide (n.gift.sh = .zero) && (n.ents.all (toldB n) && (!decide (n.kind = 3) || decide ((n.ents.length : Int) ≤ 4)))))
set_option maxHeartbeats 1000000 in
theorem rNoteRight_ (n : Nte) (fl : Bool) (hL : n.ents.length < 2 ^ 31) (hx : ∀ x ∈ n.ents, x.v.ev.max < 2 ^ 63) (hev : n.ev.max < 2 ^ 63) (hn : n.ev.norm) (H : Heap) (nx : Nat) :
    Ω 13 [.p (n.rv fl)] H nx = some (.bool n.rright, [], []) := by
  refine om_run (ir := ir13) (by kernel_rfl) (n.ents.length + 1) ?_
  have lp := rr_loop (H := H) (nx := nx) n fl hL hx hev hn
  have g := fun H nx => rgiftRight_ n.gift H nx
  have hlen : ∃ z, entP (Ent.rrow fl) 4 n.ents = z ∧ ((z = .s (.slice none 0 0) ∧ n.ents.length = 0) ∨ ∃ R, z = .sl R n.ents.length 4 false) := by
    refine ⟨_, rfl, ?_⟩
    rcases entP_cases (Ent.rrow fl) 4 n.ents with ⟨h, e⟩ | ⟨h, h', e⟩
    · exact .inl ⟨e, by simp [h]⟩
    · exact .inr ⟨_, e⟩
  obtain ⟨ez, hz, hlen⟩ := hlen
  have hev' : ∃ (m : Nat) (p q : PV), n.ev.rv = .imm [.s (.int .u64 m), p, q] 0 ∧ ((p = .s (.pointer none) ∧ decide (n.ev = .leaf 0) = decide (m = 0)) ∨ ∃ cs, p = .imm cs 0 ∧ decide (n.ev = .leaf 0) = false) := by
    cases n.ev with
    | leaf m => exact ⟨m, _, _, Ev.rv_l m, .inl ⟨rfl, by simp⟩⟩
    | node m l r =>
      obtain ⟨cs, hc⟩ := Ev.rv_imm l
      exact ⟨m, _, _, Ev.rv_n m l r, .inr ⟨cs, hc, by simp⟩⟩
  have hsh : ∃ (k : Int) (p q : PV), n.gift.sh.rv = .imm [.s (.int .i64 k), p, q] 0 ∧ decide (k = 0) = decide (n.gift.sh = .zero) := by
    cases n.gift.sh with
    | zero => exact ⟨0, _, _, Id.rv_z, rfl⟩
    | one => exact ⟨1, _, _, Id.rv_o, rfl⟩
    | node l r => exact ⟨2, _, _, Id.rv_n l r, by simp⟩
  obtain ⟨m, p, q, e1, e2⟩ := hev'
  obtain ⟨k, p', q', e3, e4⟩ := hsh
  unfold Nte.rright
  rw [← e4]
  simp only [Nte.rv, Nte.rcells, hz, e1, e3] at lp ⊢
  simp only [Gft.rv, e3] at g
  generalize hA : n.ents.all (toldB n) = b2 at *
  generalize hB : n.gift.right = b3 at *
  generalize n.ents.length = len at *
  rcases e2 with ⟨rfl, e2⟩ | ⟨cs, rfl, e2⟩ <;> rcases hlen with ⟨rfl, rfl⟩ | ⟨R, rfl⟩
  all_goals
    try simp only [Int.natCast_zero, Int.ofNat_zero] at lp
    simp +contextual (maxSteps := 1000000) [ir13, ssI, ↓ssJ, List.idxOf?_cons, Go.Sx.LV.undef, Go.undef, Go.Sx.callO, Go.Sx.splice, Go.Sx.finish, Go.Sx.look, Go.Sx.push, Go.Sx.setObj, Go.Sx.setU, Go.Sx.setAll, Go.Sx.appO, Go.Sx.leI_eq, ltF, lp, g]
    try simp [e2]
theorem leq0 : ∀ (d : Nat) (e : Ev), e.depth ≤ d → e.norm → Ev.leq d e (.leaf 0) = true → e = .leaf 0
  | 0, .leaf m, _, _, h => by simp [Ev.leq, Ev.n] at h; rw [h]
  | 0, .node n l r, hd, _, _ => by simp [Ev.depth] at hd
  | d + 1, .leaf m, _, _, h => by simp [Ev.leq, Ev.n] at h; rw [h]
  | d + 1, .node n l r, hd, hn, h => by
    obtain ⟨h1, h2, h3, h4⟩ := hn
    have hd' : (Ev.node n l r).depth = 1 + Max.max l.depth r.depth := rfl
    simp only [Ev.leq] at h
    split at h
    · cases h
    · rename_i h0
      have n0 : n = 0 := by
        simp [Ev.n, Ev.isLeaf] at h0; exact h0
      subst n0
      have u0 : ∀ e : Ev, e.up 0 = e := fun e => by cases e <;> simp [Ev.up]
      rw [u0, u0] at h
      have hl : ((Ev.leaf 0).left.up (Ev.leaf 0).n) = .leaf 0 := rfl
      have hr : ((Ev.leaf 0).right.up (Ev.leaf 0).n) = .leaf 0 := rfl
      rw [hl, hr, Bool.and_eq_true] at h
      have a := leq0 d l (by omega) h1 h.1
      have b := leq0 d r (by omega) h2 h.2
      subst a b
      exact absurd ⟨rfl, rfl, rfl⟩ h4
theorem noneB_eq (e : Ev) (h : e.norm) : noneB e = decide (e = .leaf 0) := by
  rw [Bool.eq_iff_iff, decide_eq_true_iff]
  unfold noneB
  constructor
  · intro q
    rw [Bool.and_eq_true] at q
    exact leq0 _ e (Nat.le_refl _) h q.1
  · rintro rfl; rfl
def zB (h : Int) (a b c d e f g : Bool) : Bool := partB h 1 a && (partB h 2 b && (partB h 16 c && (partB h 8 d && (partB h 4 e && (partB h 32 f && partB h 64 g)))))
theorem zB_9 : ∀ a b c d e f g, zB 9 a b c d e f g = (b && c && e && f && g) := by decide
theorem zB_31 : ∀ a b c d e f g, zB 31 a b c d e f g = (f && g) := by decide
theorem zB_3 : ∀ a b c d e f g, zB 3 a b c d e f g = (c && d && e && f && g) := by decide
theorem zB_0 : ∀ a b c d e f g, zB 0 a b c d e f g = (a && b && c && d && e && f && g) := by decide
theorem zB_44 : ∀ a b c d e f g, zB 44 a b c d e f g = (a && b && c && g) := by decide
theorem zB_64 : ∀ a b c d e f g, zB 64 a b c d e f g = (a && b && c && d && e && f) := by decide
theorem rright_eq (n : Nte) (hn : n.ev.norm) : n.rright = n.right := by
  have hz : n.zeroB (hasK n.kind) = zB (hasK n.kind) (decide (n.ses = 0)) (decide (n.seq = 0)) (!n.last) (noneB n.ev) n.ents.isEmpty (plainB n.gift) (decide (n.no = 0)) := rfl
  unfold Nte.rright Nte.right
  rw [hz, noneB_eq _ hn]
  unfold plainB nodeB
  have hl : n.ents.isEmpty = decide (n.ents.length = 0) := by cases n.ents <;> simp
  rw [hl]
  have i1 : decide (n.fr ≤ 11) = decide (n.fr < 12) := decide_eq_decide.2 (by omega)
  have i2 : decide (n.to ≤ 11) = decide (n.to < 12) := decide_eq_decide.2 (by omega)
  have i3 : decide (n.seq ≤ 255) = !decide (256 ≤ n.seq) := by rw [← decide_not]; exact decide_eq_decide.2 (by omega)
  rw [i1, i2, i3]
  generalize decide (n.ev = .leaf 0) = b1
  generalize decide (n.gift.sh = .zero) = b2
  generalize n.ents.all (toldB n) = b3
  generalize n.gift.right = b4
  generalize decide (n.fr = n.to) = b5
  generalize (decide (0 ≤ n.fr)) = b6
  generalize (decide (n.fr < 12)) = b7
  generalize (decide (0 ≤ n.to)) = b8
  generalize (decide (n.to < 12)) = b9
  generalize (decide (0 ≤ n.seq)) = b10
  generalize (decide (256 ≤ n.seq)) = b11
  generalize decide (n.gift.fr = n.fr) = b12
  generalize decide (n.gift.to = n.to) = b13
  generalize decide (n.ses = 0) = b14
  generalize decide (n.seq = 0) = b15
  generalize n.last = b16
  generalize decide (n.no = 0) = b17
  generalize decide (n.gift.no = 0) = b18
  generalize decide (n.gift.fr = 0) = b19
  generalize decide (n.gift.to = 0) = b20
  generalize decide ((n.ents.length : Int) ≤ 4) = b21
  generalize decide (n.ents.length = 0) = b22
  generalize n.kind = k
  by_cases h1 : k = 1
  · subst h1; simp [hasK, zB_9]; try ac_rfl
  by_cases h2 : k = 2
  · subst h2; simp [hasK, zB_9]; try ac_rfl
  by_cases h3 : k = 3
  · subst h3; simp [hasK, zB_31]; try ac_rfl
  by_cases h4 : k = 4
  · subst h4; simp [hasK, zB_3]; try ac_rfl
  by_cases h5 : k = 5
  · subst h5; simp [hasK, zB_0]; try ac_rfl
  by_cases h6 : k = 6
  · subst h6; simp [hasK, zB_44]; try ac_rfl
  by_cases h7 : k = 7
  · subst h7; simp [hasK, zB_64]; try ac_rfl
  have e : (decide (1 ≤ k) && decide (k ≤ 7)) = false := by
    rw [Bool.and_eq_false_iff, decide_eq_false_iff_not, decide_eq_false_iff_not]
    omega
  have e' : hasK k = -1 := by simp [hasK, h1, h2, h3, h4, h5, h6, h7]
  rw [e, e']; simp
end Go.Proofs.YtppeggedcaabkaaGreatDoor
end

section
namespace Go.Proofs.YtppeggedcaabkaaGreatDoor
open Go Go.Sx
set_option linter.unusedSimpArgs false
set_option linter.unusedVariables false

theorem sum_any {H : Heap} {nx : Nat} (l : List UInt8) (h0 : 0 < l.length) (h30 : l.length < 2 ^ 30) (id cp : Nat) (ex : Bool) (h1 : H id = some (.cells (byt (le4 (BitVec.ofNat 32 l.length)) ++ byt l))) (h2 : id < nx) :
    Ω 78 [.arr id 0 (4 + l.length) 1 cp ex] H nx = some (.int .u32 (nv (crc (le4 (BitVec.ofNat 32 l.length) ++ l))), [], []) := by
  have := sum_ (le4 (BitVec.ofNat 32 l.length) ++ l) (by simp [le4]; omega) id cp ex H nx (by rw [byt_app]; exact h1) h2
  have e : (le4 (BitVec.ofNat 32 l.length) ++ l).length = 4 + l.length := by simp [le4]; omega
  rwa [e] at this
/-- The frame of bytes that nobody writes. -/
theorem frameP_ (l : List UInt8) (fl : Bool) (h0 : 0 < l.length) (h30 : l.length < 2 ^ 30) (H : Heap) (nx : Nat) :
    Ω 31 [.p (.sl (bytP l) l.length 1 fl)] H nx = some (.arr nx 0 (frame l).length 1 (frame l).length false, [], [some (.cells (byt (frame l)))]) := by
  rw [frame_len]
  refine om_run (ir := ir31) (by kernel_rfl) 0 ?_
  have hs := fun id cp ex (H : Heap) (nx : Nat) h1 h2 => sum_any (H := H) (nx := nx) l h0 h30 id cp ex h1 h2
  have hb : ∀ (x : BitVec 32), byt (le4 x) = [.int .u8 (low x).toNat, .int .u8 (low (x >>> 8)).toNat, .int .u8 (low (x >>> 16)).toNat, .int .u8 (low (x >>> 24)).toNat] := fun x => rfl
  have hne : ¬ l.length = 0 := by omega
  have hla := fun id H nx h1 h2 => lay_arr (low (BitVec.ofNat 32 l.length)) (low (BitVec.ofNat 32 l.length >>> 8)) (low (BitVec.ofNat 32 l.length >>> 16)) (low (BitVec.ofNat 32 l.length >>> 24)) (crc (le4 (BitVec.ofNat 32 l.length) ++ l)) id H nx h1 h2
  simp only [byt_app, hb] at hs
  simp only [byt_app, hb, byt_cons, byt_nil] at hla
  have h41 : ¬ 1099511627776 < 4 + l.length := by omega
  have h42 : ¬ 1099511627776 < 8 + l.length := by omega
  have hk : ∀ k, nx < nx + (k + 1) := fun k => by omega
  have hk2 : ∀ k, nx + k < nx + (k + 1) := fun k => by omega
  have hw := wrap_len l.length
  simp [ir31, ssB, List.idxOf?_cons, Go.Sx.LV.undef, Go.undef, Go.Sx.callO, Go.Sx.splice, Go.Sx.finish, Go.Sx.look, Go.Sx.push, Go.Sx.setObj, Go.Sx.setU, Go.Sx.setAll, Go.Sx.appO, Go.Sx.leI_eq, ltF, hk, hk2, hw, lay_nil, byt_len, bytP_len, take_byt, ids_byt, ren_byt, ids_app, ren_app, allP_byt, allP_app, bytP_map, bytP_len, hs, hla, hb, hne, h41, h42, frame]
  rw [byt_app, byt_app, hb, hb]
  rfl
/-- A number of a byte. -/
def u8 (x : Int) : UInt8 := UInt8.ofNat x.toNat
theorem u8_wrap (x : Int) (h0 : 0 ≤ x) (h1 : x < 256) : IntKind.u8.wrap x = ((u8 x).toNat : Int) := by
  have : IntKind.u8.wrap x = x % 256 := by simp [IntKind.wrap, IntKind.signed, IntKind.bits]
  rw [this, u8]
  simp
  omega
def bit (b : Bool) : UInt8 := if b then 1 else 0
/-- What a note says behind its first three bytes. -/
def Nte.rest (n : Nte) : List UInt8 :=
  if n.kind = 1 ∨ n.kind = 2 then vnum n.ses ++ txt (pack (evBits n.ev))
  else if n.kind = 3 then vnum n.ses ++ [u8 n.seq] ++ [bit n.last] ++ txt (pack (evBits n.ev)) ++ vnum n.ents.length ++ entB n.ents
  else if n.kind = 4 then vnum n.ses ++ [u8 n.seq]
  else if n.kind = 6 then n.gift.bytes ++ txt (pack (evBits n.ev)) ++ vnum n.ents.length ++ entB n.ents
  else if n.kind = 7 then vnum n.no
  else []
def Nte.body (n : Nte) : List UInt8 := [u8 n.kind, u8 n.fr, u8 n.to] ++ n.rest
def Nte.ans (n : Nte) : LV := if n.right = true then .tuple [.p (.sl (bytP (frame n.body)) (frame n.body).length 1 false), .int .i64 0] else .tuple [.p (.s (.slice none 0 0)), .int .i64 1]
/-- May its bytes be made? -/
structure Nte.Fit (n : Nte) : Prop where
  ses : n.ses < 2 ^ 64
  no : n.no < 2 ^ 64
  gno : n.gift.no < 2 ^ 64
  gsh : (idBits n.gift.sh).length < 2 ^ 16
  ev : n.ev.max < 2 ^ 62
  bits : (evBits n.ev).length < 2 ^ 16
  norm : n.ev.norm
  len : n.ents.length < 50
  ents : ∀ x ∈ n.ents, x.fit
  max : ∀ x ∈ n.ents, x.v.ev.max < 2 ^ 62
  size : (entB n.ents).length < 2 ^ 19
  enorm : ∀ x ∈ n.ents, x.v.ev.norm
theorem ands : (binI .and .i64 9 1 = some (.int .i64 1)) ∧ (binI .and .i64 9 2 = some (.int .i64 0)) ∧ (binI .and .i64 9 16 = some (.int .i64 0)) ∧ (binI .and .i64 9 32 = some (.int .i64 0)) ∧ (binI .and .i64 9 8 = some (.int .i64 8)) ∧ (binI .and .i64 9 4 = some (.int .i64 0)) ∧ (binI .and .i64 9 64 = some (.int .i64 0)) ∧ (binI .and .i64 31 1 = some (.int .i64 1)) ∧ (binI .and .i64 31 2 = some (.int .i64 2)) ∧ (binI .and .i64 31 16 = some (.int .i64 16)) ∧ (binI .and .i64 31 32 = some (.int .i64 0)) ∧ (binI .and .i64 31 8 = some (.int .i64 8)) ∧ (binI .and .i64 31 4 = some (.int .i64 4)) ∧ (binI .and .i64 31 64 = some (.int .i64 0)) ∧ (binI .and .i64 3 1 = some (.int .i64 1)) ∧ (binI .and .i64 3 2 = some (.int .i64 2)) ∧ (binI .and .i64 3 16 = some (.int .i64 0)) ∧ (binI .and .i64 3 32 = some (.int .i64 0)) ∧ (binI .and .i64 3 8 = some (.int .i64 0)) ∧ (binI .and .i64 3 4 = some (.int .i64 0)) ∧ (binI .and .i64 3 64 = some (.int .i64 0)) ∧ (binI .and .i64 0 1 = some (.int .i64 0)) ∧ (binI .and .i64 0 2 = some (.int .i64 0)) ∧ (binI .and .i64 0 16 = some (.int .i64 0)) ∧ (binI .and .i64 0 32 = some (.int .i64 0)) ∧ (binI .and .i64 0 8 = some (.int .i64 0)) ∧ (binI .and .i64 0 4 = some (.int .i64 0)) ∧ (binI .and .i64 0 64 = some (.int .i64 0)) ∧ (binI .and .i64 44 1 = some (.int .i64 0)) ∧ (binI .and .i64 44 2 = some (.int .i64 0)) ∧ (binI .and .i64 44 16 = some (.int .i64 0)) ∧ (binI .and .i64 44 32 = some (.int .i64 32)) ∧ (binI .and .i64 44 8 = some (.int .i64 8)) ∧ (binI .and .i64 44 4 = some (.int .i64 4)) ∧ (binI .and .i64 44 64 = some (.int .i64 0)) ∧ (binI .and .i64 64 1 = some (.int .i64 0)) ∧ (binI .and .i64 64 2 = some (.int .i64 0)) ∧ (binI .and .i64 64 16 = some (.int .i64 0)) ∧ (binI .and .i64 64 32 = some (.int .i64 0)) ∧ (binI .and .i64 64 8 = some (.int .i64 0)) ∧ (binI .and .i64 64 4 = some (.int .i64 0)) ∧ (binI .and .i64 64 64 = some (.int .i64 64)) :=
  ⟨rfl, rfl, rfl, rfl, rfl, rfl, rfl, rfl, rfl, rfl, rfl, rfl, rfl, rfl, rfl, rfl, rfl, rfl, rfl, rfl, rfl, rfl, rfl, rfl, rfl, rfl, rfl, rfl, rfl, rfl, rfl, rfl, rfl, rfl, rfl, rfl, rfl, rfl, rfl, rfl, rfl, rfl⟩
theorem right_parts {n : Nte} (hr : n.right = true) : (0 ≤ n.fr ∧ n.fr < 12) ∧ (0 ≤ n.to ∧ n.to < 12) ∧ (0 ≤ n.seq ∧ n.seq < 256) := by
  simp only [Nte.right, nodeB, Bool.and_eq_true, decide_eq_true_eq, Bool.not_eq_true', decide_eq_false_iff_not] at hr
  obtain ⟨⟨⟨⟨_, a⟩, b⟩, _⟩, ⟨⟨⟨_, c⟩, d⟩, _⟩, _⟩ := hr
  omega
theorem noteBytes_12 (n : Nte) (fl : Bool) (k : Int) (hk : n.kind = k) (hk2 : k = 1 ∨ k = 2) (hf : n.Fit) (hr : n.right = true) (H : Heap) (nx : Nat) : Ω 9 [.p (n.pv fl)] H nx = some (n.ans, [], []) := by
  refine om_run (ir := ir9) (by kernel_rfl) 0 ?_
  have r := fun H nx => noteRight_ n fl (by have := hf.len; omega) (fun x hx => by have := hf.max x hx; omega) (by have := hf.ev; omega) H nx
  rw [hr] at r
  obtain ⟨⟨f0, f1⟩, ⟨t0, t1⟩, ⟨s0, s1⟩⟩ := right_parts hr
  have wf := u8_wrap n.fr f0 (by omega)
  have wt := u8_wrap n.to t0 (by omega)
  have ws := u8_wrap n.seq s0 (by omega)
  have ce := fun H nx => codeEvent_ n.ev (by have := hf.ev; omega) (by have := hf.bits; omega) H nx
  have pl := pack_len (evBits n.ev)
  have hb := hf.bits
  have vl := vnum_len n.ses hf.ses
  have vn := vnum_len n.no hf.no
  have e1 : (Ev.pv n.ev) = .agg [.s (.int .u64 n.ev.n), n.ev.ptr] := rfl
  rw [e1] at ce
  have tl : (txt (pack (evBits n.ev))).length ≤ (pack (evBits n.ev)).length + 10 := by
    have := vnum_len (pack (evBits n.ev)).length (by omega)
    rw [txt, List.length_append]; omega
  unfold Nte.ans Nte.body Nte.rest
  rw [if_pos hr]
  generalize pack (evBits n.ev) = E at *
  have bb := bytesL_byt E
  have kk : ∀ k : Int, 0 ≤ k → k < 8 → IntKind.u8.wrap k = ((u8 k).toNat : Int) := fun k h0 h1 => u8_wrap k h0 (by omega)
  have k0 : ∀ k, nx < nx + (k + 1) := fun k => by omega
  have k1 : ∀ k m, nx + k < nx + m ↔ k < m := fun k m => by omega
  have hl : ∀ k : UInt8, ([k, u8 n.fr, u8 n.to] ++ vnum n.ses ++ txt E).length < 2 ^ 18 := fun k => by simp; omega
  have n1 : ∀ (k : UInt8) (H : Heap) (nx id : Nat), H id = some (.cells (byt [k, u8 n.fr, u8 n.to])) → id < nx → Ω 26 [.arr id 0 3 1 3 true, .int .u64 n.ses] H nx = _ := fun k H nx id h1 h2 => numB_ (.whole' (F := [k, u8 n.fr, u8 n.to]) rfl h1 h2) n.ses hf.ses (by simp)
  have t1 : ∀ (k : UInt8) (H : Heap) (nx id : Nat), H id = some (.cells (byt ([k, u8 n.fr, u8 n.to] ++ vnum n.ses))) → id < nx → Ω 28 [.arr id 0 ([k, u8 n.fr, u8 n.to] ++ vnum n.ses).length 1 ([k, u8 n.fr, u8 n.to] ++ vnum n.ses).length false, bstr E] H nx = _ := fun k H nx id h1 h2 => textB_ (.whole h1 h2) E (by simp; omega) (by omega)
  have g1 : ∀ (k : UInt8) (H : Heap) (nx id : Nat), H id = some (.cells (byt ([k, u8 n.fr, u8 n.to] ++ vnum n.ses ++ txt E))) → id < nx → Ω 31 [.arr id 0 ([k, u8 n.fr, u8 n.to] ++ vnum n.ses ++ txt E).length 1 ([k, u8 n.fr, u8 n.to] ++ vnum n.ses ++ txt E).length false] H nx = _ := fun k H nx id h1 h2 => frame_' _ (by simp) (by have := hl k; omega) id _ _ H nx h1 h2
  simp only [Nte.pv, Nte.cells] at r ⊢
  generalize entP (Ent.row fl) 5 n.ents = z at *
  generalize n.ev.ptr = ep at *
  generalize n.ev.n = en at *
  have hh : hasK k = 9 := by rcases hk2 with rfl | rfl <;> rfl
  rw [hk] at r ⊢
  have w := kk k (by omega) (by omega)
  have n1 := n1 (u8 k)
  have t1 := t1 (u8 k)
  have g1 := g1 (u8 k)
  have hl := hl (u8 k)
  rw [if_pos hk2, ← List.append_assoc]
  simp only [byt_cons, byt_nil] at n1
  generalize [u8 k, u8 n.fr, u8 n.to] ++ vnum n.ses ++ txt E = P2 at *
  generalize [u8 k, u8 n.fr, u8 n.to] ++ vnum n.ses = P1 at *
  have h20 : (P2.length : Int) ≤ 1048576 := by omega
  generalize frame P2 = F at *
  simp [ir9, ssI, ↓ssJ, List.idxOf?_cons, Go.Sx.LV.undef, Go.undef, Go.Sx.callO, Go.Sx.splice, Go.Sx.finish, Go.Sx.look, Go.Sx.push, Go.Sx.setObj, Go.Sx.setU, Go.Sx.setAll, Go.Sx.appO, Go.Sx.leI_eq, ltF, has_, hh, r, wf, wt, w, n1, t1, g1, ce, bb, ands, byt_len, bytP_len, take_byt, ids_byt, ren_byt, ids_app, ren_app, allP_byt, allP_app, bytP_map, bytP_len, h20, k0, k1]
theorem noteBytes_3 (n : Nte) (fl : Bool) (hk : n.kind = 3) (hf : n.Fit) (hr : n.right = true) (H : Heap) (nx : Nat) : Ω 9 [.p (n.pv fl)] H nx = some (n.ans, [], []) := by
  refine om_run (ir := ir9) (by kernel_rfl) 0 ?_
  have r := fun H nx => noteRight_ n fl (by have := hf.len; omega) (fun x hx => by have := hf.max x hx; omega) (by have := hf.ev; omega) H nx
  rw [hr] at r
  obtain ⟨⟨f0, f1⟩, ⟨t0, t1⟩, ⟨s0, s1⟩⟩ := right_parts hr
  have wf := u8_wrap n.fr f0 (by omega)
  have wt := u8_wrap n.to t0 (by omega)
  have ws := u8_wrap n.seq s0 (by omega)
  have ce := fun H nx => codeEvent_ n.ev (by have := hf.ev; omega) (by have := hf.bits; omega) H nx
  have pl := pack_len (evBits n.ev)
  have hb := hf.bits
  have vl := vnum_len n.ses hf.ses
  have vn := vnum_len n.no hf.no
  have e1 : (Ev.pv n.ev) = .agg [.s (.int .u64 n.ev.n), n.ev.ptr] := rfl
  rw [e1] at ce
  have tl : (txt (pack (evBits n.ev))).length ≤ (pack (evBits n.ev)).length + 10 := by
    have := vnum_len (pack (evBits n.ev)).length (by omega)
    rw [txt, List.length_append]; omega
  unfold Nte.ans Nte.body Nte.rest
  rw [if_pos hr]
  generalize pack (evBits n.ev) = E at *
  have bb := bytesL_byt E
  have kk : ∀ k : Int, 0 ≤ k → k < 8 → IntKind.u8.wrap k = ((u8 k).toNat : Int) := fun k h0 h1 => u8_wrap k h0 (by omega)
  have k0 : ∀ k, nx < nx + (k + 1) := fun k => by omega
  have k1 : ∀ k m, nx + k < nx + m ↔ k < m := fun k m => by omega
  have w := kk 3 (by omega) (by omega)
  have hls := hf.size
  have hlen := hf.len
  have vc := vnum_len n.ents.length (by omega)
  have hl : ([u8 3, u8 n.fr, u8 n.to] ++ vnum n.ses ++ [u8 n.seq] ++ [bit n.last] ++ txt E ++ vnum n.ents.length ++ entB n.ents).length < 2 ^ 20 := by simp; omega
  have n1 : ∀ (H : Heap) (nx id : Nat), H id = some (.cells (byt [u8 3, u8 n.fr, u8 n.to])) → id < nx → Ω 26 [.arr id 0 3 1 3 true, .int .u64 n.ses] H nx = _ := fun H nx id h1 h2 => numB_ (.whole' (F := [u8 3, u8 n.fr, u8 n.to]) rfl h1 h2) n.ses hf.ses (by simp)
  have t1 : ∀ (H : Heap) (nx id : Nat), H id = some (.cells (byt ([u8 3, u8 n.fr, u8 n.to] ++ vnum n.ses ++ [u8 n.seq] ++ [bit n.last]))) → id < nx → Ω 28 [.arr id 0 ([u8 3, u8 n.fr, u8 n.to] ++ vnum n.ses ++ [u8 n.seq] ++ [bit n.last]).length 1 ([u8 3, u8 n.fr, u8 n.to] ++ vnum n.ses ++ [u8 n.seq] ++ [bit n.last]).length false, bstr E] H nx = _ := fun H nx id h1 h2 => textB_ (.whole h1 h2) E (by simp; omega) (by omega)
  have p1 : ∀ (H : Heap) (nx id : Nat), H id = some (.cells (byt ([u8 3, u8 n.fr, u8 n.to] ++ vnum n.ses ++ [u8 n.seq] ++ [bit n.last] ++ txt E))) → id < nx → Ω 30 [.arr id 0 ([u8 3, u8 n.fr, u8 n.to] ++ vnum n.ses ++ [u8 n.seq] ++ [bit n.last] ++ txt E).length 1 ([u8 3, u8 n.fr, u8 n.to] ++ vnum n.ses ++ [u8 n.seq] ++ [bit n.last] ++ txt E).length false, .p (entP (Ent.row fl) 5 n.ents)] H nx = _ := fun H nx id h1 h2 => putEntries_ (.whole h1 h2) n.ents fl (by omega) hf.ents (by simp; omega)
  have g1 : ∀ (H : Heap) (nx : Nat), _ = _ := fun H nx => frameP_ ([u8 3, u8 n.fr, u8 n.to] ++ vnum n.ses ++ [u8 n.seq] ++ [bit n.last] ++ txt E ++ vnum n.ents.length ++ entB n.ents) false (by simp) (by omega) H nx
  simp only [Nte.pv, Nte.cells] at r ⊢
  generalize hz : entP (Ent.row fl) 5 n.ents = z at *
  generalize n.ev.ptr = ep at *
  generalize n.ev.n = en at *
  rw [hk] at r ⊢
  rw [if_neg (by omega), if_pos rfl]
  simp only [← List.append_assoc]
  simp only [byt_cons, byt_nil] at n1
  rw [byt_app ([u8 3, u8 n.fr, u8 n.to] ++ vnum n.ses ++ [u8 n.seq]), byt_app ([u8 3, u8 n.fr, u8 n.to] ++ vnum n.ses)] at t1
  generalize [u8 3, u8 n.fr, u8 n.to] ++ vnum n.ses ++ [u8 n.seq] ++ [bit n.last] ++ txt E ++ vnum n.ents.length ++ entB n.ents = P4 at *
  generalize [u8 3, u8 n.fr, u8 n.to] ++ vnum n.ses ++ [u8 n.seq] ++ [bit n.last] ++ txt E = P2 at *
  generalize hP1' : [u8 3, u8 n.fr, u8 n.to] ++ vnum n.ses = P1 at *
  have h20 : (P4.length : Int) ≤ 1048576 := by omega
  have hP1 : P1.length < 2 ^ 20 := by have := congrArg List.length hP1'; simp at this; omega
  have hq : ¬ 1099511627776 < P1.length + 1 := by omega
  have hq2 : ¬ 1099511627776 < P1.length + 1 + 1 := by omega
  generalize frame P4 = F at *
  cases hb2 : n.last
  all_goals
    rw [hb2] at r t1
    have eb : (bit false).toNat = 0 ∧ (bit true).toNat = 1 := ⟨rfl, rfl⟩
    simp [byt_cons, byt_nil, eb] at t1
    simp [ir9, ssI, ↓ssJ, List.idxOf?_cons, Go.Sx.LV.undef, Go.undef, Go.Sx.callO, Go.Sx.splice, Go.Sx.finish, Go.Sx.look, Go.Sx.push, Go.Sx.setObj, Go.Sx.setU, Go.Sx.setAll, Go.Sx.appO, Go.Sx.leI_eq, ltF, has_, hasK, r, wf, wt, ws, w, n1, t1, p1, g1, hq, hq2, ce, bb, ands, byt_len, bytP_len, take_byt, ids_byt, ren_byt, ids_app, ren_app, allP_byt, allP_app, bytP_map, bytP_len, h20, k0, k1]
theorem noteBytes_4 (n : Nte) (fl : Bool) (hk : n.kind = 4) (hf : n.Fit) (hr : n.right = true) (H : Heap) (nx : Nat) : Ω 9 [.p (n.pv fl)] H nx = some (n.ans, [], []) := by
  refine om_run (ir := ir9) (by kernel_rfl) 0 ?_
  have r := fun H nx => noteRight_ n fl (by have := hf.len; omega) (fun x hx => by have := hf.max x hx; omega) (by have := hf.ev; omega) H nx
  rw [hr] at r
  obtain ⟨⟨f0, f1⟩, ⟨t0, t1⟩, ⟨s0, s1⟩⟩ := right_parts hr
  have wf := u8_wrap n.fr f0 (by omega)
  have wt := u8_wrap n.to t0 (by omega)
  have ws := u8_wrap n.seq s0 (by omega)
  have ce := fun H nx => codeEvent_ n.ev (by have := hf.ev; omega) (by have := hf.bits; omega) H nx
  have pl := pack_len (evBits n.ev)
  have hb := hf.bits
  have vl := vnum_len n.ses hf.ses
  have vn := vnum_len n.no hf.no
  have e1 : (Ev.pv n.ev) = .agg [.s (.int .u64 n.ev.n), n.ev.ptr] := rfl
  rw [e1] at ce
  have tl : (txt (pack (evBits n.ev))).length ≤ (pack (evBits n.ev)).length + 10 := by
    have := vnum_len (pack (evBits n.ev)).length (by omega)
    rw [txt, List.length_append]; omega
  unfold Nte.ans Nte.body Nte.rest
  rw [if_pos hr]
  generalize pack (evBits n.ev) = E at *
  have bb := bytesL_byt E
  have kk : ∀ k : Int, 0 ≤ k → k < 8 → IntKind.u8.wrap k = ((u8 k).toNat : Int) := fun k h0 h1 => u8_wrap k h0 (by omega)
  have k0 : ∀ k, nx < nx + (k + 1) := fun k => by omega
  have k1 : ∀ k m, nx + k < nx + m ↔ k < m := fun k m => by omega
  have w := kk 4 (by omega) (by omega)
  have hl : ([u8 4, u8 n.fr, u8 n.to] ++ vnum n.ses ++ [u8 n.seq]).length < 2 ^ 20 := by simp; omega
  have n1 : ∀ (H : Heap) (nx id : Nat), H id = some (.cells (byt [u8 4, u8 n.fr, u8 n.to])) → id < nx → Ω 26 [.arr id 0 3 1 3 true, .int .u64 n.ses] H nx = _ := fun H nx id h1 h2 => numB_ (.whole' (F := [u8 4, u8 n.fr, u8 n.to]) rfl h1 h2) n.ses hf.ses (by simp)
  have g1 : ∀ (H : Heap) (nx id : Nat), H id = some (.cells (byt ([u8 4, u8 n.fr, u8 n.to] ++ vnum n.ses ++ [u8 n.seq]))) → id < nx → Ω 31 [.arr id 0 ([u8 4, u8 n.fr, u8 n.to] ++ vnum n.ses ++ [u8 n.seq]).length 1 ([u8 4, u8 n.fr, u8 n.to] ++ vnum n.ses ++ [u8 n.seq]).length false] H nx = _ := fun H nx id h1 h2 => frame_' _ (by simp) (by omega) id _ _ H nx h1 h2
  simp only [Nte.pv, Nte.cells] at r ⊢
  generalize hz : entP (Ent.row fl) 5 n.ents = z at *
  generalize n.ev.ptr = ep at *
  generalize n.ev.n = en at *
  rw [hk] at r ⊢
  rw [if_neg (by omega), if_neg (by omega), if_pos rfl]
  simp only [← List.append_assoc]
  simp only [byt_cons, byt_nil] at n1
  rw [byt_app ([u8 4, u8 n.fr, u8 n.to] ++ vnum n.ses)] at g1
  generalize hP2 : [u8 4, u8 n.fr, u8 n.to] ++ vnum n.ses ++ [u8 n.seq] = P2 at *
  have e2 : P2.length = ([u8 4, u8 n.fr, u8 n.to] ++ vnum n.ses).length + 1 := by rw [← hP2]; simp
  generalize hP1' : [u8 4, u8 n.fr, u8 n.to] ++ vnum n.ses = P1 at *
  have h20 : (P2.length : Int) ≤ 1048576 := by omega
  rw [e2] at g1 h20
  simp only [byt_cons, byt_nil] at g1
  have hP1 : P1.length < 2 ^ 20 := by have := congrArg List.length hP1'; simp at this; omega
  have hq : ¬ 1099511627776 < P1.length + 1 := by omega
  generalize frame P2 = F at *
  simp only [Int.natCast_add, Int.natCast_one] at h20
  simp [ir9, ssI, ↓ssJ, List.idxOf?_cons, Go.Sx.LV.undef, Go.undef, Go.Sx.callO, Go.Sx.splice, Go.Sx.finish, Go.Sx.look, Go.Sx.push, Go.Sx.setObj, Go.Sx.setU, Go.Sx.setAll, Go.Sx.appO, Go.Sx.leI_eq, ltF, has_, hasK, r, wf, wt, ws, w, n1, g1, hq, ce, bb, ands, byt_len, bytP_len, take_byt, ids_byt, ren_byt, ids_app, ren_app, allP_byt, allP_app, bytP_map, bytP_len, h20, k0, k1]
theorem noteBytes_5 (n : Nte) (fl : Bool) (hk : n.kind = 5) (hf : n.Fit) (hr : n.right = true) (H : Heap) (nx : Nat) : Ω 9 [.p (n.pv fl)] H nx = some (n.ans, [], []) := by
  refine om_run (ir := ir9) (by kernel_rfl) 0 ?_
  have r := fun H nx => noteRight_ n fl (by have := hf.len; omega) (fun x hx => by have := hf.max x hx; omega) (by have := hf.ev; omega) H nx
  rw [hr] at r
  obtain ⟨⟨f0, f1⟩, ⟨t0, t1⟩, ⟨s0, s1⟩⟩ := right_parts hr
  have wf := u8_wrap n.fr f0 (by omega)
  have wt := u8_wrap n.to t0 (by omega)
  have ws := u8_wrap n.seq s0 (by omega)
  have ce := fun H nx => codeEvent_ n.ev (by have := hf.ev; omega) (by have := hf.bits; omega) H nx
  have pl := pack_len (evBits n.ev)
  have hb := hf.bits
  have vl := vnum_len n.ses hf.ses
  have vn := vnum_len n.no hf.no
  have e1 : (Ev.pv n.ev) = .agg [.s (.int .u64 n.ev.n), n.ev.ptr] := rfl
  rw [e1] at ce
  have tl : (txt (pack (evBits n.ev))).length ≤ (pack (evBits n.ev)).length + 10 := by
    have := vnum_len (pack (evBits n.ev)).length (by omega)
    rw [txt, List.length_append]; omega
  unfold Nte.ans Nte.body Nte.rest
  rw [if_pos hr]
  generalize pack (evBits n.ev) = E at *
  have bb := bytesL_byt E
  have kk : ∀ k : Int, 0 ≤ k → k < 8 → IntKind.u8.wrap k = ((u8 k).toNat : Int) := fun k h0 h1 => u8_wrap k h0 (by omega)
  have k0 : ∀ k, nx < nx + (k + 1) := fun k => by omega
  have k1 : ∀ k m, nx + k < nx + m ↔ k < m := fun k m => by omega
  have w := kk 5 (by omega) (by omega)
  have g1 : ∀ (H : Heap) (nx id : Nat), H id = some (.cells (byt [u8 5, u8 n.fr, u8 n.to])) → id < nx → Ω 31 [.arr id 0 3 1 3 true] H nx = _ := fun H nx id h1 h2 => frame_' [u8 5, u8 n.fr, u8 n.to] (by simp) (by simp) id 3 true H nx h1 h2
  simp only [Nte.pv, Nte.cells] at r ⊢
  generalize hz : entP (Ent.row fl) 5 n.ents = z at *
  generalize n.ev.ptr = ep at *
  generalize n.ev.n = en at *
  rw [hk] at r ⊢
  rw [if_neg (by omega), if_neg (by omega), if_neg (by omega), if_neg (by omega), if_neg (by omega), List.append_nil]
  simp only [byt_cons, byt_nil] at g1
  have h20 : (3 : Int) ≤ 1048576 := by omega
  generalize frame [u8 5, u8 n.fr, u8 n.to] = F at *
  simp [ir9, ssI, ↓ssJ, List.idxOf?_cons, Go.Sx.LV.undef, Go.undef, Go.Sx.callO, Go.Sx.splice, Go.Sx.finish, Go.Sx.look, Go.Sx.push, Go.Sx.setObj, Go.Sx.setU, Go.Sx.setAll, Go.Sx.appO, Go.Sx.leI_eq, ltF, has_, hasK, r, wf, wt, ws, w, g1, ce, bb, ands, byt_len, bytP_len, take_byt, ids_byt, ren_byt, ids_app, ren_app, allP_byt, allP_app, bytP_map, bytP_len, h20, k0, k1]
theorem noteBytes_6 (n : Nte) (fl : Bool) (hk : n.kind = 6) (hf : n.Fit) (hr : n.right = true) (H : Heap) (nx : Nat) : Ω 9 [.p (n.pv fl)] H nx = some (n.ans, [], []) := by
  refine om_run (ir := ir9) (by kernel_rfl) 0 ?_
  have r := fun H nx => noteRight_ n fl (by have := hf.len; omega) (fun x hx => by have := hf.max x hx; omega) (by have := hf.ev; omega) H nx
  rw [hr] at r
  obtain ⟨⟨f0, f1⟩, ⟨t0, t1⟩, ⟨s0, s1⟩⟩ := right_parts hr
  have wf := u8_wrap n.fr f0 (by omega)
  have wt := u8_wrap n.to t0 (by omega)
  have ws := u8_wrap n.seq s0 (by omega)
  have ce := fun H nx => codeEvent_ n.ev (by have := hf.ev; omega) (by have := hf.bits; omega) H nx
  have pl := pack_len (evBits n.ev)
  have hb := hf.bits
  have vl := vnum_len n.ses hf.ses
  have vn := vnum_len n.no hf.no
  have e1 : (Ev.pv n.ev) = .agg [.s (.int .u64 n.ev.n), n.ev.ptr] := rfl
  rw [e1] at ce
  have tl : (txt (pack (evBits n.ev))).length ≤ (pack (evBits n.ev)).length + 10 := by
    have := vnum_len (pack (evBits n.ev)).length (by omega)
    rw [txt, List.length_append]; omega
  unfold Nte.ans Nte.body Nte.rest
  rw [if_pos hr]
  generalize pack (evBits n.ev) = E at *
  have bb := bytesL_byt E
  have kk : ∀ k : Int, 0 ≤ k → k < 8 → IntKind.u8.wrap k = ((u8 k).toNat : Int) := fun k h0 h1 => u8_wrap k h0 (by omega)
  have k0 : ∀ k, nx < nx + (k + 1) := fun k => by omega
  have k1 : ∀ k m, nx + k < nx + m ↔ k < m := fun k m => by omega
  have w := kk 6 (by omega) (by omega)
  have hg : n.gift.right = true := by
    have := hr
    simp [Nte.right, hk] at this
    exact this.2.2.1.1
  obtain ⟨_, gf, gt, g2, g3, g4, g5⟩ := Gft.right_lt hg
  have hls := hf.size
  have hlen := hf.len
  have hsh := hf.gsh
  have vc := vnum_len n.ents.length (by omega)
  have hgb : n.gift.bytes.length < 2 ^ 18 := by
    have a1 := vnum_len n.gift.no hf.gno
    have a2 := vnum_len gf (by omega)
    have a3 := vnum_len gt (by omega)
    have a4 := pack_len (idBits n.gift.sh)
    have a5 := vnum_len (pack (idBits n.gift.sh)).length (by omega)
    unfold Gft.bytes
    rw [g2, g3]
    simp [txt]
    omega
  have hl : ([u8 6, u8 n.fr, u8 n.to] ++ n.gift.bytes ++ txt E ++ vnum n.ents.length ++ entB n.ents).length < 2 ^ 20 := by simp; omega
  have eg : n.gift = ⟨n.gift.no, gf, gt, n.gift.sh⟩ := by rw [← g2, ← g3]
  have q1 : ∀ (H : Heap) (nx id : Nat), H id = some (.cells (byt [u8 6, u8 n.fr, u8 n.to])) → id < nx → Ω 27 [.arr id 0 3 1 3 true, .p (Gft.pv n.gift)] H nx = some (.p (.sl (bytP ([u8 6, u8 n.fr, u8 n.to] ++ n.gift.bytes)) ([u8 6, u8 n.fr, u8 n.to] ++ n.gift.bytes).length 1 false), [], []) := fun H nx id h1 h2 => by
    have := putGift_ (.whole' (n := 3) (cp := 3) (ex := true) (F := [u8 6, u8 n.fr, u8 n.to]) rfl h1 h2) n.gift.no gf gt n.gift.sh hf.gno g4 g5 (by simp) (by omega)
    rw [← eg] at this
    exact this
  have t1 : ∀ (H : Heap) (nx : Nat), Ω 28 [.p (.sl (bytP ([u8 6, u8 n.fr, u8 n.to] ++ n.gift.bytes)) ([u8 6, u8 n.fr, u8 n.to] ++ n.gift.bytes).length 1 false), bstr E] H nx = _ := fun H nx => textB_ (.sl ([u8 6, u8 n.fr, u8 n.to] ++ n.gift.bytes) false) E (by simp; omega) (by omega)
  have p1 : ∀ (H : Heap) (nx id : Nat), H id = some (.cells (byt ([u8 6, u8 n.fr, u8 n.to] ++ n.gift.bytes ++ txt E))) → id < nx → Ω 30 [.arr id 0 ([u8 6, u8 n.fr, u8 n.to] ++ n.gift.bytes ++ txt E).length 1 ([u8 6, u8 n.fr, u8 n.to] ++ n.gift.bytes ++ txt E).length false, .p (entP (Ent.row fl) 5 n.ents)] H nx = _ := fun H nx id h1 h2 => putEntries_ (.whole h1 h2) n.ents fl (by omega) hf.ents (by simp; omega)
  have g1 : ∀ (H : Heap) (nx : Nat), _ = _ := fun H nx => frameP_ ([u8 6, u8 n.fr, u8 n.to] ++ n.gift.bytes ++ txt E ++ vnum n.ents.length ++ entB n.ents) false (by simp) (by omega) H nx
  simp only [Nte.pv, Nte.cells] at r ⊢
  generalize hz : entP (Ent.row fl) 5 n.ents = z at *
  generalize n.ev.ptr = ep at *
  generalize n.ev.n = en at *
  rw [hk] at r ⊢
  rw [if_neg (by omega), if_neg (by omega), if_neg (by omega), if_pos rfl]
  simp only [← List.append_assoc]
  simp only [byt_cons, byt_nil] at q1
  generalize [u8 6, u8 n.fr, u8 n.to] ++ n.gift.bytes ++ txt E ++ vnum n.ents.length ++ entB n.ents = P4 at *
  generalize [u8 6, u8 n.fr, u8 n.to] ++ n.gift.bytes ++ txt E = P2 at *
  generalize [u8 6, u8 n.fr, u8 n.to] ++ n.gift.bytes = P1 at *
  have h20 : (P4.length : Int) ≤ 1048576 := by omega
  generalize frame P4 = F at *
  simp [ir9, ssI, ↓ssJ, List.idxOf?_cons, Go.Sx.LV.undef, Go.undef, Go.Sx.callO, Go.Sx.splice, Go.Sx.finish, Go.Sx.look, Go.Sx.push, Go.Sx.setObj, Go.Sx.setU, Go.Sx.setAll, Go.Sx.appO, Go.Sx.leI_eq, ltF, has_, hasK, r, wf, wt, ws, w, q1, t1, p1, g1, ce, bb, ands, byt_len, bytP_len, take_byt, ids_byt, ren_byt, ids_app, ren_app, allP_byt, allP_app, bytP_map, bytP_len, h20, k0, k1]
theorem noteBytes_7 (n : Nte) (fl : Bool) (hk : n.kind = 7) (hf : n.Fit) (hr : n.right = true) (H : Heap) (nx : Nat) : Ω 9 [.p (n.pv fl)] H nx = some (n.ans, [], []) := by
  refine om_run (ir := ir9) (by kernel_rfl) 0 ?_
  have r := fun H nx => noteRight_ n fl (by have := hf.len; omega) (fun x hx => by have := hf.max x hx; omega) (by have := hf.ev; omega) H nx
  rw [hr] at r
  obtain ⟨⟨f0, f1⟩, ⟨t0, t1⟩, ⟨s0, s1⟩⟩ := right_parts hr
  have wf := u8_wrap n.fr f0 (by omega)
  have wt := u8_wrap n.to t0 (by omega)
  have ws := u8_wrap n.seq s0 (by omega)
  have ce := fun H nx => codeEvent_ n.ev (by have := hf.ev; omega) (by have := hf.bits; omega) H nx
  have pl := pack_len (evBits n.ev)
  have hb := hf.bits
  have vl := vnum_len n.ses hf.ses
  have vn := vnum_len n.no hf.no
  have e1 : (Ev.pv n.ev) = .agg [.s (.int .u64 n.ev.n), n.ev.ptr] := rfl
  rw [e1] at ce
  have tl : (txt (pack (evBits n.ev))).length ≤ (pack (evBits n.ev)).length + 10 := by
    have := vnum_len (pack (evBits n.ev)).length (by omega)
    rw [txt, List.length_append]; omega
  unfold Nte.ans Nte.body Nte.rest
  rw [if_pos hr]
  generalize pack (evBits n.ev) = E at *
  have bb := bytesL_byt E
  have kk : ∀ k : Int, 0 ≤ k → k < 8 → IntKind.u8.wrap k = ((u8 k).toNat : Int) := fun k h0 h1 => u8_wrap k h0 (by omega)
  have k0 : ∀ k, nx < nx + (k + 1) := fun k => by omega
  have k1 : ∀ k m, nx + k < nx + m ↔ k < m := fun k m => by omega
  have w := kk 7 (by omega) (by omega)
  have hl : ([u8 7, u8 n.fr, u8 n.to] ++ vnum n.no).length < 2 ^ 20 := by simp; omega
  have n1 : ∀ (H : Heap) (nx id : Nat), H id = some (.cells (byt [u8 7, u8 n.fr, u8 n.to])) → id < nx → Ω 26 [.arr id 0 3 1 3 true, .int .u64 n.no] H nx = _ := fun H nx id h1 h2 => numB_ (.whole' (F := [u8 7, u8 n.fr, u8 n.to]) rfl h1 h2) n.no hf.no (by simp)
  have g1 : ∀ (H : Heap) (nx id : Nat), H id = some (.cells (byt ([u8 7, u8 n.fr, u8 n.to] ++ vnum n.no))) → id < nx → Ω 31 [.arr id 0 ([u8 7, u8 n.fr, u8 n.to] ++ vnum n.no).length 1 ([u8 7, u8 n.fr, u8 n.to] ++ vnum n.no).length false] H nx = _ := fun H nx id h1 h2 => frame_' _ (by simp) (by omega) id _ _ H nx h1 h2
  simp only [Nte.pv, Nte.cells] at r ⊢
  generalize hz : entP (Ent.row fl) 5 n.ents = z at *
  generalize n.ev.ptr = ep at *
  generalize n.ev.n = en at *
  rw [hk] at r ⊢
  rw [if_neg (by omega), if_neg (by omega), if_neg (by omega), if_neg (by omega), if_pos rfl]
  simp only [byt_cons, byt_nil] at n1
  generalize [u8 7, u8 n.fr, u8 n.to] ++ vnum n.no = P2 at *
  have h20 : (P2.length : Int) ≤ 1048576 := by omega
  generalize frame P2 = F at *
  simp [ir9, ssI, ↓ssJ, List.idxOf?_cons, Go.Sx.LV.undef, Go.undef, Go.Sx.callO, Go.Sx.splice, Go.Sx.finish, Go.Sx.look, Go.Sx.push, Go.Sx.setObj, Go.Sx.setU, Go.Sx.setAll, Go.Sx.appO, Go.Sx.leI_eq, ltF, has_, hasK, r, wf, wt, ws, w, n1, g1, ce, bb, ands, byt_len, bytP_len, take_byt, ids_byt, ren_byt, ids_app, ren_app, allP_byt, allP_app, bytP_map, bytP_len, h20, k0, k1]
theorem noteBytes_no (n : Nte) (fl : Bool) (hL : n.ents.length < 2 ^ 31) (hx : ∀ x ∈ n.ents, x.v.ev.max < 2 ^ 63) (hev : n.ev.max < 2 ^ 63) (hr : n.right = false) (H : Heap) (nx : Nat) : Ω 9 [.p (n.pv fl)] H nx = some (n.ans, [], []) := by
  refine om_run (ir := ir9) (by kernel_rfl) 0 ?_
  have r := fun H nx => noteRight_ n fl hL hx hev H nx
  rw [hr] at r
  unfold Nte.ans
  rw [hr]
  simp only [Nte.pv, Nte.cells] at r ⊢
  generalize entP (Ent.row fl) 5 n.ents = z at *
  simp [ir9, ssI, ↓ssJ, List.idxOf?_cons, Go.Sx.LV.undef, Go.undef, Go.Sx.callO, Go.Sx.splice, Go.Sx.finish, Go.Sx.look, Go.Sx.push, Go.Sx.setObj, Go.Sx.setU, Go.Sx.setAll, Go.Sx.appO, Go.Sx.leI_eq, ltF, r]
theorem right_kind {n : Nte} (h : n.right = true) : n.kind = 1 ∨ n.kind = 2 ∨ n.kind = 3 ∨ n.kind = 4 ∨ n.kind = 5 ∨ n.kind = 6 ∨ n.kind = 7 := by
  have h0 : 0 ≤ hasK n.kind := by
    simp only [Nte.right, Bool.and_eq_true, decide_eq_true_eq] at h
    exact h.1.1.1.1
  unfold hasK at h0
  omega
theorem noteBytes_ (n : Nte) (fl : Bool) (hf : n.Fit) (H : Heap) (nx : Nat) : Ω 9 [.p (n.pv fl)] H nx = some (n.ans, [], []) := by
  cases hr : n.right with
  | false => exact noteBytes_no n fl (by have := hf.len; omega) (fun x hx => by have := hf.max x hx; omega) (by have := hf.ev; omega) hr H nx
  | true =>
    rcases right_kind hr with h | h | h | h | h | h | h
    · exact noteBytes_12 n fl 1 h (.inl rfl) hf hr H nx
    · exact noteBytes_12 n fl 2 h (.inr rfl) hf hr H nx
    · exact noteBytes_3 n fl h hf hr H nx
    · exact noteBytes_4 n fl h hf hr H nx
    · exact noteBytes_5 n fl h hf hr H nx
    · exact noteBytes_6 n fl h hf hr H nx
    · exact noteBytes_7 n fl h hf hr H nx
end Go.Proofs.YtppeggedcaabkaaGreatDoor
end

section
namespace Go.Proofs.YtppeggedcaabkaaGreatDoor
open Go Go.Sx
set_option linter.unusedSimpArgs false
set_option linter.unusedVariables false

theorem join5 {H : Heap} {nx : Nat} {x y z w v : LV} {F G K M V : List UInt8} (f : Bs H nx x F) (g : Bs H nx y G) (k : Bs H nx z K) (m : Bs H nx w M) (v' : Bs H nx v V) (h30 : F.length + G.length + K.length + M.length + V.length < 2 ^ 31) (aid : Nat) (ha : H aid = some (.cells [x, y, z, w, v])) (haid : aid < nx) :
    Ω 36 [.arr aid 0 5 1 5 true] H nx = some (sum' (F ++ G ++ K ++ M ++ V), [], []) := by
  have := rjoin_ [x, y, z, w, v] [F, G, K, M, V] H nx aid 5 true ha haid (.cons f (.cons g (.cons k (.cons m (.cons v' .nil))))) (by simp) (by simp; omega)
  simpa using this
theorem rNoteBytes_no (n : Nte) (fl : Bool) (hf : n.Fit) (hr : n.right = false) (H : Heap) (nx : Nat) : Ω 10 [.p (n.rv fl)] H nx = some (n.ans, [], []) := by
  refine om_run (ir := ir10) (by kernel_rfl) 0 ?_
  have r := fun H nx => rNoteRight_ n fl (by have := hf.len; omega) (fun x hx => by have := hf.max x hx; omega) (by have := hf.ev; omega) hf.norm H nx
  rw [rright_eq n hf.norm, hr] at r
  unfold Nte.ans
  rw [hr]
  simp only [Nte.rv, Nte.rcells] at r ⊢
  generalize entP (Ent.rrow fl) 4 n.ents = z at *
  simp [ir10, ssI, ↓ssJ, List.idxOf?_cons, Go.Sx.LV.undef, Go.undef, Go.Sx.callO, Go.Sx.splice, Go.Sx.finish, Go.Sx.look, Go.Sx.push, Go.Sx.setObj, Go.Sx.setU, Go.Sx.setAll, Go.Sx.appO, Go.Sx.leI_eq, ltF, r]
/-- What the kinds share. -/
theorem rb_pre (n : Nte) (fl : Bool) (hf : n.Fit) (hr : n.right = true) : (∀ H nx, Ω 13 [.p (n.rv fl)] H nx = some (.bool true, [], [])) ∧ (∀ H nx, Ω 32 [.int .u64 n.ses] H nx = some (.arr nx 0 (vnum n.ses).length 1 (vnum n.ses).length (decide (n.ses < 128)), [], [some (.cells (byt (vnum n.ses)))])) ∧
    (∀ H nx, Ω 35 [.p (.s (.slice none 0 0)), .p n.ev.rv] H nx = some (blV (evBits n.ev), [], [])) ∧ (∀ H nx, Ω 34 [blV (evBits n.ev)] H nx = some (.p (.sl (bytP (pack (evBits n.ev))) (pack (evBits n.ev)).length 1 false), [], [])) ∧
    (∀ H nx, Ω 33 [bstr (pack (evBits n.ev))] H nx = some (.arr nx 0 (txt (pack (evBits n.ev))).length 1 (txt (pack (evBits n.ev))).length (pack (evBits n.ev)).isEmpty, [], [some (.cells (byt (txt (pack (evBits n.ev)))))])) := by
  have hb := hf.bits
  have hp := pack_len (evBits n.ev)
  refine ⟨fun H nx => ?_, fun H nx => rNum_ n.ses hf.ses H nx, fun H nx => ?_, fun H nx => rbits_ _ ?_ (by omega) H nx, fun H nx => ?_⟩
  · rw [rNoteRight_ n fl (by have := hf.len; omega) (fun x hx => by have := hf.max x hx; omega) (by have := hf.ev; omega) hf.norm H nx, rright_eq n hf.norm, hr]
  · have := rEvent_ n.ev hf.norm (by have := hf.ev; omega) (.p (.s (.slice none 0 0))) [] .nil (by simp; omega) H nx
    simpa using this
  · exact evBits_pos n.ev
  · exact rTextB_ _ (by omega) H nx
theorem rNoteBytes_12 (n : Nte) (fl : Bool) (k : Int) (hk : n.kind = k) (hk2 : k = 1 ∨ k = 2) (hf : n.Fit) (hr : n.right = true) (H : Heap) (nx : Nat) : Ω 10 [.p (n.rv fl)] H nx = some (n.ans, [], []) := by
  refine om_run (ir := ir10) (by kernel_rfl) 0 ?_
  obtain ⟨r, nu, ev, bt, tx⟩ := rb_pre n fl hf hr
  obtain ⟨⟨f0, f1⟩, ⟨t0, t1⟩, ⟨s0, s1⟩⟩ := right_parts hr
  have wf := u8_wrap n.fr f0 (by omega)
  have wt := u8_wrap n.to t0 (by omega)
  have ws := u8_wrap n.seq s0 (by omega)
  have pl := pack_len (evBits n.ev)
  have hb := hf.bits
  have vl := vnum_len n.ses hf.ses
  have vn := vnum_len n.no hf.no
  have tl : (txt (pack (evBits n.ev))).length ≤ (pack (evBits n.ev)).length + 10 := by
    have := vnum_len (pack (evBits n.ev)).length (by omega)
    rw [txt, List.length_append]; omega
  unfold Nte.ans Nte.body Nte.rest
  rw [if_pos hr]
  have k0 : ∀ k, nx < nx + (k + 1) := fun k => by omega
  have k1 : ∀ k m, nx + k < nx + m ↔ k < m := fun k m => by omega
  have hp0 : ∀ k, bytP [u8 k, u8 n.fr, u8 n.to] = [.s (.int .u8 (u8 k).toNat), .s (.int .u8 (u8 n.fr).toNat), .s (.int .u8 (u8 n.to).toNat)] := fun k => rfl
  have bb := bytesL_byt (pack (evBits n.ev))
  obtain ⟨es, he⟩ := Ev.rv_imm n.ev
  have w := u8_wrap k (by omega) (by omega)
  simp only [Nte.rv, Nte.rcells, he] at r ev ⊢
  rw [hk] at r ⊢
  rw [if_pos hk2, ← List.append_assoc]
  generalize hE : txt (pack (evBits n.ev)) = T at *
  generalize (pack (evBits n.ev)).isEmpty = be at *
  generalize pack (evBits n.ev) = E at *
  generalize evBits n.ev = B at *
  generalize hS : vnum n.ses = S at *
  generalize decide (n.ses < 128) = bs at *
  generalize entP (Ent.rrow fl) 4 n.ents = z at *
  have j1 : ∀ (H : Heap) (nx aid : Nat), H aid = some (.cells [.p (.sl (bytP [u8 k, u8 n.fr, u8 n.to]) 3 1 true), .p (.sl (bytP S) S.length 1 bs), .p (.sl (bytP T) T.length 1 be)]) → aid < nx → Ω 36 [.arr aid 0 3 1 3 true] H nx = some (.p (.sl (bytP ([u8 k, u8 n.fr, u8 n.to] ++ S ++ T)) ([u8 k, u8 n.fr, u8 n.to] ++ S ++ T).length 1 false), [], []) := fun H nx aid h1 h2 => by
    rw [join3 (.sl [u8 k, u8 n.fr, u8 n.to] true) (.sl S bs) (.sl T be) (by simp; omega) aid h1 h2, sum'_ne (by simp)]
  have g1 : ∀ (H : Heap) (nx : Nat), Ω 17 [.p (.sl (bytP ([u8 k, u8 n.fr, u8 n.to] ++ S ++ T)) ([u8 k, u8 n.fr, u8 n.to] ++ S ++ T).length 1 false)] H nx = _ := fun H nx => rframe_ (.sl _ false) (by simp; omega)
  rw [hp0] at j1
  have h20 : (([u8 k, u8 n.fr, u8 n.to] ++ S ++ T).length : Int) ≤ 1048576 := by simp only [List.length_append, List.length_cons, List.length_nil]; omega
  generalize [u8 k, u8 n.fr, u8 n.to] ++ S ++ T = P2 at *
  generalize frame P2 = F at *
  rcases hk2 with rfl | rfl
  all_goals
    simp [ir10, ssI, ↓ssJ, List.idxOf?_cons, Go.Sx.LV.undef, Go.undef, Go.Sx.callO, Go.Sx.splice, Go.Sx.finish, Go.Sx.look, Go.Sx.push, Go.Sx.setObj, Go.Sx.setU, Go.Sx.setAll, Go.Sx.appO, Go.Sx.leI_eq, ltF, r, nu, ev, bt, tx, wf, wt, ws, w, bb, byt_len, bytP_len, take_byt, ids_byt, ren_byt, ids_app, ren_app, allP_byt, allP_app, bytP_map, bytP_len, h20, k0, k1, allP_byt, j1, g1]
theorem rNoteBytes_4 (n : Nte) (fl : Bool) (hk : n.kind = 4) (hf : n.Fit) (hr : n.right = true) (H : Heap) (nx : Nat) : Ω 10 [.p (n.rv fl)] H nx = some (n.ans, [], []) := by
  refine om_run (ir := ir10) (by kernel_rfl) 0 ?_
  obtain ⟨r, nu, ev, bt, tx⟩ := rb_pre n fl hf hr
  obtain ⟨⟨f0, f1⟩, ⟨t0, t1⟩, ⟨s0, s1⟩⟩ := right_parts hr
  have wf := u8_wrap n.fr f0 (by omega)
  have wt := u8_wrap n.to t0 (by omega)
  have ws := u8_wrap n.seq s0 (by omega)
  have pl := pack_len (evBits n.ev)
  have hb := hf.bits
  have vl := vnum_len n.ses hf.ses
  have vn := vnum_len n.no hf.no
  have tl : (txt (pack (evBits n.ev))).length ≤ (pack (evBits n.ev)).length + 10 := by
    have := vnum_len (pack (evBits n.ev)).length (by omega)
    rw [txt, List.length_append]; omega
  unfold Nte.ans Nte.body Nte.rest
  rw [if_pos hr]
  have k0 : ∀ k, nx < nx + (k + 1) := fun k => by omega
  have k1 : ∀ k m, nx + k < nx + m ↔ k < m := fun k m => by omega
  have hp0 : ∀ k, bytP [u8 k, u8 n.fr, u8 n.to] = [.s (.int .u8 (u8 k).toNat), .s (.int .u8 (u8 n.fr).toNat), .s (.int .u8 (u8 n.to).toNat)] := fun k => rfl
  have bb := bytesL_byt (pack (evBits n.ev))
  obtain ⟨es, he⟩ := Ev.rv_imm n.ev
  have w := u8_wrap 4 (by omega) (by omega)
  have hls := hf.size
  have hlen := hf.len
  simp only [Nte.rv, Nte.rcells, he] at r ev ⊢
  rw [hk] at r ⊢
  rw [if_neg (by omega), if_neg (by omega), if_pos rfl, ← List.append_assoc]
  generalize hE : txt (pack (evBits n.ev)) = T at *
  generalize (pack (evBits n.ev)).isEmpty = be at *
  generalize pack (evBits n.ev) = E at *
  generalize evBits n.ev = B at *
  generalize hS : vnum n.ses = S at *
  generalize decide (n.ses < 128) = bs at *
  generalize entP (Ent.rrow fl) 4 n.ents = z at *
  have j1 : ∀ (H : Heap) (nx aid : Nat), H aid = some (.cells [.p (.sl (bytP [u8 4, u8 n.fr, u8 n.to]) 3 1 true), .p (.sl (bytP S) S.length 1 bs), .p (.sl (bytP [u8 n.seq]) 1 1 true)]) → aid < nx → Ω 36 [.arr aid 0 3 1 3 true] H nx = some (.p (.sl (bytP ([u8 4, u8 n.fr, u8 n.to] ++ S ++ [u8 n.seq])) ([u8 4, u8 n.fr, u8 n.to] ++ S ++ [u8 n.seq]).length 1 false), [], []) := fun H nx aid h1 h2 => by
    rw [join3 (.sl [u8 4, u8 n.fr, u8 n.to] true) (.sl S bs) (.sl [u8 n.seq] true) (by simp; omega) aid h1 h2, sum'_ne (by simp)]
  have g1 : ∀ (H : Heap) (nx : Nat), Ω 17 [.p (.sl (bytP ([u8 4, u8 n.fr, u8 n.to] ++ S ++ [u8 n.seq])) ([u8 4, u8 n.fr, u8 n.to] ++ S ++ [u8 n.seq]).length 1 false)] H nx = _ := fun H nx => rframe_ (.sl _ false) (by simp; omega)
  have h20 : (([u8 4, u8 n.fr, u8 n.to] ++ S ++ [u8 n.seq]).length : Int) ≤ 1048576 := by simp only [List.length_append, List.length_cons, List.length_nil]; omega
  have e1 : bytP [u8 n.seq] = [.s (.int .u8 (u8 n.seq).toNat)] := rfl
  rw [e1] at j1
  rw [hp0] at j1
  generalize [u8 4, u8 n.fr, u8 n.to] ++ S ++ [u8 n.seq] = P2 at *
  generalize frame P2 = F at *
  simp [ir10, ssI, ↓ssJ, List.idxOf?_cons, Go.Sx.LV.undef, Go.undef, Go.Sx.callO, Go.Sx.splice, Go.Sx.finish, Go.Sx.look, Go.Sx.push, Go.Sx.setObj, Go.Sx.setU, Go.Sx.setAll, Go.Sx.appO, Go.Sx.leI_eq, ltF, r, nu, ev, bt, tx, wf, wt, ws, w, bb, byt_len, bytP_len, take_byt, ids_byt, ren_byt, ids_app, ren_app, allP_byt, allP_app, bytP_map, bytP_len, h20, k0, k1, allP_byt, j1, g1]
theorem rNoteBytes_5 (n : Nte) (fl : Bool) (hk : n.kind = 5) (hf : n.Fit) (hr : n.right = true) (H : Heap) (nx : Nat) : Ω 10 [.p (n.rv fl)] H nx = some (n.ans, [], []) := by
  refine om_run (ir := ir10) (by kernel_rfl) 0 ?_
  obtain ⟨r, nu, ev, bt, tx⟩ := rb_pre n fl hf hr
  obtain ⟨⟨f0, f1⟩, ⟨t0, t1⟩, ⟨s0, s1⟩⟩ := right_parts hr
  have wf := u8_wrap n.fr f0 (by omega)
  have wt := u8_wrap n.to t0 (by omega)
  have ws := u8_wrap n.seq s0 (by omega)
  have pl := pack_len (evBits n.ev)
  have hb := hf.bits
  have vl := vnum_len n.ses hf.ses
  have vn := vnum_len n.no hf.no
  have tl : (txt (pack (evBits n.ev))).length ≤ (pack (evBits n.ev)).length + 10 := by
    have := vnum_len (pack (evBits n.ev)).length (by omega)
    rw [txt, List.length_append]; omega
  unfold Nte.ans Nte.body Nte.rest
  rw [if_pos hr]
  have k0 : ∀ k, nx < nx + (k + 1) := fun k => by omega
  have k1 : ∀ k m, nx + k < nx + m ↔ k < m := fun k m => by omega
  have hp0 : ∀ k, bytP [u8 k, u8 n.fr, u8 n.to] = [.s (.int .u8 (u8 k).toNat), .s (.int .u8 (u8 n.fr).toNat), .s (.int .u8 (u8 n.to).toNat)] := fun k => rfl
  have bb := bytesL_byt (pack (evBits n.ev))
  obtain ⟨es, he⟩ := Ev.rv_imm n.ev
  have w := u8_wrap 5 (by omega) (by omega)
  have hls := hf.size
  have hlen := hf.len
  simp only [Nte.rv, Nte.rcells, he] at r ev ⊢
  rw [hk] at r ⊢
  rw [if_neg (by omega), if_neg (by omega), if_neg (by omega), if_neg (by omega), if_neg (by omega), List.append_nil]
  generalize hE : txt (pack (evBits n.ev)) = T at *
  generalize (pack (evBits n.ev)).isEmpty = be at *
  generalize pack (evBits n.ev) = E at *
  generalize evBits n.ev = B at *
  generalize hS : vnum n.ses = S at *
  generalize decide (n.ses < 128) = bs at *
  generalize entP (Ent.rrow fl) 4 n.ents = z at *
  have g1 : ∀ (H : Heap) (nx : Nat), Ω 17 [.p (.sl (bytP [u8 5, u8 n.fr, u8 n.to]) 3 1 true)] H nx = _ := fun H nx => rframe_ (.sl [u8 5, u8 n.fr, u8 n.to] true) (by simp)
  rw [hp0] at g1
  have h20 : (3 : Int) ≤ 1048576 := by omega
  generalize frame [u8 5, u8 n.fr, u8 n.to] = F at *
  simp [ir10, ssI, ↓ssJ, List.idxOf?_cons, Go.Sx.LV.undef, Go.undef, Go.Sx.callO, Go.Sx.splice, Go.Sx.finish, Go.Sx.look, Go.Sx.push, Go.Sx.setObj, Go.Sx.setU, Go.Sx.setAll, Go.Sx.appO, Go.Sx.leI_eq, ltF, r, nu, ev, bt, tx, wf, wt, ws, w, bb, byt_len, bytP_len, take_byt, ids_byt, ren_byt, ids_app, ren_app, allP_byt, allP_app, bytP_map, bytP_len, h20, k0, k1, allP_byt, g1]
theorem rNoteBytes_3 (n : Nte) (fl : Bool) (hk : n.kind = 3) (hf : n.Fit) (hr : n.right = true) (H : Heap) (nx : Nat) : Ω 10 [.p (n.rv fl)] H nx = some (n.ans, [], []) := by
  refine om_run (ir := ir10) (by kernel_rfl) 0 ?_
  obtain ⟨r, nu, ev, bt, tx⟩ := rb_pre n fl hf hr
  obtain ⟨⟨f0, f1⟩, ⟨t0, t1⟩, ⟨s0, s1⟩⟩ := right_parts hr
  have wf := u8_wrap n.fr f0 (by omega)
  have wt := u8_wrap n.to t0 (by omega)
  have ws := u8_wrap n.seq s0 (by omega)
  have pl := pack_len (evBits n.ev)
  have hb := hf.bits
  have vl := vnum_len n.ses hf.ses
  have vn := vnum_len n.no hf.no
  have tl : (txt (pack (evBits n.ev))).length ≤ (pack (evBits n.ev)).length + 10 := by
    have := vnum_len (pack (evBits n.ev)).length (by omega)
    rw [txt, List.length_append]; omega
  unfold Nte.ans Nte.body Nte.rest
  rw [if_pos hr]
  have k0 : ∀ k, nx < nx + (k + 1) := fun k => by omega
  have k1 : ∀ k m, nx + k < nx + m ↔ k < m := fun k m => by omega
  have hp0 : ∀ k, bytP [u8 k, u8 n.fr, u8 n.to] = [.s (.int .u8 (u8 k).toNat), .s (.int .u8 (u8 n.fr).toNat), .s (.int .u8 (u8 n.to).toNat)] := fun k => rfl
  have bb := bytesL_byt (pack (evBits n.ev))
  obtain ⟨es, he⟩ := Ev.rv_imm n.ev
  have w := u8_wrap 3 (by omega) (by omega)
  have hls := hf.size
  have hlen := hf.len
  simp only [Nte.rv, Nte.rcells, he] at r ev ⊢
  rw [hk] at r ⊢
  rw [if_neg (by omega), if_pos rfl]
  have vc := vnum_len n.ents.length (by omega)
  have en := fun H nx => rEntries_ n.ents fl (by omega) (fun x hx => ⟨hf.ents x hx, hf.enorm x hx⟩) (by omega) H nx
  have eX : vnum n.ses ++ [u8 n.seq] ++ [bit n.last] ++ txt (pack (evBits n.ev)) ++ vnum n.ents.length ++ entB n.ents = vnum n.ses ++ [u8 n.seq, bit n.last] ++ txt (pack (evBits n.ev)) ++ (vnum n.ents.length ++ entB n.ents) := by simp
  rw [eX]
  have hX : (vnum n.ents.length ++ entB n.ents).length < 2 ^ 19 + 20 := by simp; omega
  generalize vnum n.ents.length ++ entB n.ents = X at *
  generalize hE : txt (pack (evBits n.ev)) = T at *
  generalize (pack (evBits n.ev)).isEmpty = be at *
  generalize pack (evBits n.ev) = E at *
  generalize evBits n.ev = B at *
  generalize hS : vnum n.ses = S at *
  generalize decide (n.ses < 128) = bs at *
  generalize entP (Ent.rrow fl) 4 n.ents = z at *
  simp only [← List.append_assoc]
  generalize n.ents.isEmpty = bx at *
  have j1 : ∀ (H : Heap) (nx aid : Nat), H aid = some (.cells [.p (.sl (bytP [u8 3, u8 n.fr, u8 n.to]) 3 1 true), .p (.sl (bytP S) S.length 1 bs), .p (.sl (bytP [u8 n.seq, bit n.last]) 2 1 true), .p (.sl (bytP T) T.length 1 be), .p (.sl (bytP X) X.length 1 bx)]) → aid < nx → Ω 36 [.arr aid 0 5 1 5 true] H nx = some (.p (.sl (bytP ([u8 3, u8 n.fr, u8 n.to] ++ S ++ [u8 n.seq, bit n.last] ++ T ++ X)) ([u8 3, u8 n.fr, u8 n.to] ++ S ++ [u8 n.seq, bit n.last] ++ T ++ X).length 1 false), [], []) := fun H nx aid h1 h2 => by
    rw [join5 (.sl [u8 3, u8 n.fr, u8 n.to] true) (.sl S bs) (.sl [u8 n.seq, bit n.last] true) (.sl T be) (.sl X bx) (by simp; omega) aid h1 h2, sum'_ne (by simp)]
  have g1 : ∀ (H : Heap) (nx : Nat), Ω 17 [.p (.sl (bytP ([u8 3, u8 n.fr, u8 n.to] ++ S ++ [u8 n.seq, bit n.last] ++ T ++ X)) ([u8 3, u8 n.fr, u8 n.to] ++ S ++ [u8 n.seq, bit n.last] ++ T ++ X).length 1 false)] H nx = _ := fun H nx => rframe_ (.sl _ false) (by simp; omega)
  have h20 : (([u8 3, u8 n.fr, u8 n.to] ++ S ++ [u8 n.seq, bit n.last] ++ T ++ X).length : Int) ≤ 1048576 := by simp only [List.length_append, List.length_cons, List.length_nil]; omega
  have e1 : bytP [u8 n.seq, bit n.last] = [.s (.int .u8 (u8 n.seq).toNat), .s (.int .u8 (bit n.last).toNat)] := rfl
  rw [e1] at j1
  rw [hp0] at j1
  generalize [u8 3, u8 n.fr, u8 n.to] ++ S ++ [u8 n.seq, bit n.last] ++ T ++ X = P2 at *
  generalize frame P2 = F at *
  have eb : (bit false).toNat = 0 ∧ (bit true).toNat = 1 := ⟨rfl, rfl⟩
  cases hb2 : n.last
  all_goals
    rw [hb2] at r j1
    simp only [eb, Int.natCast_zero, Int.ofNat_zero, Int.natCast_one] at j1
    simp [ir10, ssI, ↓ssJ, List.idxOf?_cons, Go.Sx.LV.undef, Go.undef, Go.Sx.callO, Go.Sx.splice, Go.Sx.finish, Go.Sx.look, Go.Sx.push, Go.Sx.setObj, Go.Sx.setU, Go.Sx.setAll, Go.Sx.appO, Go.Sx.leI_eq, ltF, r, nu, ev, bt, tx, wf, wt, ws, w, bb, byt_len, bytP_len, take_byt, ids_byt, ren_byt, ids_app, ren_app, allP_byt, allP_app, bytP_map, bytP_len, h20, k0, k1, allP_byt, j1, g1, en]
theorem rNoteBytes_6 (n : Nte) (fl : Bool) (hk : n.kind = 6) (hf : n.Fit) (hr : n.right = true) (H : Heap) (nx : Nat) : Ω 10 [.p (n.rv fl)] H nx = some (n.ans, [], []) := by
  refine om_run (ir := ir10) (by kernel_rfl) 0 ?_
  obtain ⟨r, nu, ev, bt, tx⟩ := rb_pre n fl hf hr
  obtain ⟨⟨f0, f1⟩, ⟨t0, t1⟩, ⟨s0, s1⟩⟩ := right_parts hr
  have wf := u8_wrap n.fr f0 (by omega)
  have wt := u8_wrap n.to t0 (by omega)
  have ws := u8_wrap n.seq s0 (by omega)
  have pl := pack_len (evBits n.ev)
  have hb := hf.bits
  have vl := vnum_len n.ses hf.ses
  have vn := vnum_len n.no hf.no
  have tl : (txt (pack (evBits n.ev))).length ≤ (pack (evBits n.ev)).length + 10 := by
    have := vnum_len (pack (evBits n.ev)).length (by omega)
    rw [txt, List.length_append]; omega
  unfold Nte.ans Nte.body Nte.rest
  rw [if_pos hr]
  have k0 : ∀ k, nx < nx + (k + 1) := fun k => by omega
  have k1 : ∀ k m, nx + k < nx + m ↔ k < m := fun k m => by omega
  have hp0 : ∀ k, bytP [u8 k, u8 n.fr, u8 n.to] = [.s (.int .u8 (u8 k).toNat), .s (.int .u8 (u8 n.fr).toNat), .s (.int .u8 (u8 n.to).toNat)] := fun k => rfl
  have bb := bytesL_byt (pack (evBits n.ev))
  obtain ⟨es, he⟩ := Ev.rv_imm n.ev
  have w := u8_wrap 6 (by omega) (by omega)
  have hls := hf.size
  have hlen := hf.len
  simp only [Nte.rv, Nte.rcells, he] at r ev ⊢
  rw [hk] at r ⊢
  rw [if_neg (by omega), if_neg (by omega), if_neg (by omega), if_pos rfl]
  have hg : n.gift.right = true := by
    have := hr
    simp [Nte.right, hk] at this
    exact this.2.2.1.1
  obtain ⟨_, gf, gt, g2, g3, g4, g5⟩ := Gft.right_lt hg
  have hsh := hf.gsh
  have eg : n.gift = ⟨n.gift.no, gf, gt, n.gift.sh⟩ := by rw [← g2, ← g3]
  have pg : ∀ H nx, Ω 38 [.p (Gft.rv n.gift)] H nx = some (.p (.sl (bytP n.gift.bytes) n.gift.bytes.length 1 false), [], []) := fun H nx => by
    have := rputGift_ n.gift.no gf gt n.gift.sh hf.gno g4 g5 (by omega) H nx
    rw [← eg] at this
    exact this
  have hgb : n.gift.bytes.length < 2 ^ 18 := by
    have a1 := vnum_len n.gift.no hf.gno
    have a2 := vnum_len gf (by omega)
    have a3 := vnum_len gt (by omega)
    have a4 := pack_len (idBits n.gift.sh)
    have a5 := vnum_len (pack (idBits n.gift.sh)).length (by omega)
    unfold Gft.bytes
    rw [g2, g3]
    simp [txt]
    omega
  have vc := vnum_len n.ents.length (by omega)
  have en := fun H nx => rEntries_ n.ents fl (by omega) (fun x hx => ⟨hf.ents x hx, hf.enorm x hx⟩) (by omega) H nx
  have eX : n.gift.bytes ++ txt (pack (evBits n.ev)) ++ vnum n.ents.length ++ entB n.ents = n.gift.bytes ++ txt (pack (evBits n.ev)) ++ (vnum n.ents.length ++ entB n.ents) := by simp
  rw [eX]
  have hX : (vnum n.ents.length ++ entB n.ents).length < 2 ^ 19 + 20 := by simp; omega
  generalize vnum n.ents.length ++ entB n.ents = X at *
  generalize n.gift.bytes = Q at *
  generalize hE : txt (pack (evBits n.ev)) = T at *
  generalize (pack (evBits n.ev)).isEmpty = be at *
  generalize pack (evBits n.ev) = E at *
  generalize evBits n.ev = B at *
  generalize hS : vnum n.ses = S at *
  generalize decide (n.ses < 128) = bs at *
  generalize entP (Ent.rrow fl) 4 n.ents = z at *
  simp only [← List.append_assoc]
  generalize n.ents.isEmpty = bx at *
  have j1 : ∀ (H : Heap) (nx aid : Nat), H aid = some (.cells [.p (.sl (bytP [u8 6, u8 n.fr, u8 n.to]) 3 1 true), .p (.sl (bytP Q) Q.length 1 false), .p (.sl (bytP T) T.length 1 be), .p (.sl (bytP X) X.length 1 bx)]) → aid < nx → Ω 36 [.arr aid 0 4 1 4 true] H nx = some (.p (.sl (bytP ([u8 6, u8 n.fr, u8 n.to] ++ Q ++ T ++ X)) ([u8 6, u8 n.fr, u8 n.to] ++ Q ++ T ++ X).length 1 false), [], []) := fun H nx aid h1 h2 => by
    rw [join4 (.sl [u8 6, u8 n.fr, u8 n.to] true) (.sl Q false) (.sl T be) (.sl X bx) (by simp; omega) aid h1 h2, sum'_ne (by simp)]
  have g1 : ∀ (H : Heap) (nx : Nat), Ω 17 [.p (.sl (bytP ([u8 6, u8 n.fr, u8 n.to] ++ Q ++ T ++ X)) ([u8 6, u8 n.fr, u8 n.to] ++ Q ++ T ++ X).length 1 false)] H nx = _ := fun H nx => rframe_ (.sl _ false) (by simp; omega)
  have h20 : (([u8 6, u8 n.fr, u8 n.to] ++ Q ++ T ++ X).length : Int) ≤ 1048576 := by simp only [List.length_append, List.length_cons, List.length_nil]; omega
  rw [hp0] at j1
  generalize [u8 6, u8 n.fr, u8 n.to] ++ Q ++ T ++ X = P2 at *
  generalize frame P2 = F at *
  simp [ir10, ssI, ↓ssJ, List.idxOf?_cons, Go.Sx.LV.undef, Go.undef, Go.Sx.callO, Go.Sx.splice, Go.Sx.finish, Go.Sx.look, Go.Sx.push, Go.Sx.setObj, Go.Sx.setU, Go.Sx.setAll, Go.Sx.appO, Go.Sx.leI_eq, ltF, r, nu, ev, bt, tx, wf, wt, ws, w, bb, byt_len, bytP_len, take_byt, ids_byt, ren_byt, ids_app, ren_app, allP_byt, allP_app, bytP_map, bytP_len, h20, k0, k1, allP_byt, j1, g1, en, pg]
theorem rNoteBytes_7 (n : Nte) (fl : Bool) (hk : n.kind = 7) (hf : n.Fit) (hr : n.right = true) (H : Heap) (nx : Nat) : Ω 10 [.p (n.rv fl)] H nx = some (n.ans, [], []) := by
  refine om_run (ir := ir10) (by kernel_rfl) 0 ?_
  obtain ⟨r, nu, ev, bt, tx⟩ := rb_pre n fl hf hr
  obtain ⟨⟨f0, f1⟩, ⟨t0, t1⟩, ⟨s0, s1⟩⟩ := right_parts hr
  have wf := u8_wrap n.fr f0 (by omega)
  have wt := u8_wrap n.to t0 (by omega)
  have ws := u8_wrap n.seq s0 (by omega)
  have pl := pack_len (evBits n.ev)
  have hb := hf.bits
  have vl := vnum_len n.ses hf.ses
  have vn := vnum_len n.no hf.no
  have tl : (txt (pack (evBits n.ev))).length ≤ (pack (evBits n.ev)).length + 10 := by
    have := vnum_len (pack (evBits n.ev)).length (by omega)
    rw [txt, List.length_append]; omega
  unfold Nte.ans Nte.body Nte.rest
  rw [if_pos hr]
  have k0 : ∀ k, nx < nx + (k + 1) := fun k => by omega
  have k1 : ∀ k m, nx + k < nx + m ↔ k < m := fun k m => by omega
  have hp0 : ∀ k, bytP [u8 k, u8 n.fr, u8 n.to] = [.s (.int .u8 (u8 k).toNat), .s (.int .u8 (u8 n.fr).toNat), .s (.int .u8 (u8 n.to).toNat)] := fun k => rfl
  have bb := bytesL_byt (pack (evBits n.ev))
  obtain ⟨es, he⟩ := Ev.rv_imm n.ev
  have w := u8_wrap 7 (by omega) (by omega)
  have hls := hf.size
  have hlen := hf.len
  simp only [Nte.rv, Nte.rcells, he] at r ev ⊢
  rw [hk] at r ⊢
  rw [if_neg (by omega), if_neg (by omega), if_neg (by omega), if_neg (by omega), if_pos rfl]
  have nn := fun H nx => rNum_ n.no hf.no H nx
  generalize decide (n.no < 128) = bn at *
  generalize vnum n.no = V at *
  generalize hE : txt (pack (evBits n.ev)) = T at *
  generalize (pack (evBits n.ev)).isEmpty = be at *
  generalize pack (evBits n.ev) = E at *
  generalize evBits n.ev = B at *
  generalize hS : vnum n.ses = S at *
  generalize decide (n.ses < 128) = bs at *
  generalize entP (Ent.rrow fl) 4 n.ents = z at *
  have j1 : ∀ (H : Heap) (nx aid id : Nat), H aid = some (.cells [.p (.sl (bytP [u8 7, u8 n.fr, u8 n.to]) 3 1 true), .arr id 0 V.length 1 V.length bn]) → aid < nx → H id = some (.cells (byt V)) → id < nx → Ω 36 [.arr aid 0 2 1 2 true] H nx = some (.p (.sl (bytP ([u8 7, u8 n.fr, u8 n.to] ++ V)) ([u8 7, u8 n.fr, u8 n.to] ++ V).length 1 false), [], []) := fun H nx aid id h1 h2 h3 h4 => by
    rw [join2 (.sl [u8 7, u8 n.fr, u8 n.to] true) (.whole h3 h4) (by simp; omega) aid h1 h2, sum'_ne (by simp)]
  have g1 : ∀ (H : Heap) (nx : Nat), Ω 17 [.p (.sl (bytP ([u8 7, u8 n.fr, u8 n.to] ++ V)) ([u8 7, u8 n.fr, u8 n.to] ++ V).length 1 false)] H nx = _ := fun H nx => rframe_ (.sl _ false) (by simp; omega)
  have h20 : (([u8 7, u8 n.fr, u8 n.to] ++ V).length : Int) ≤ 1048576 := by simp only [List.length_append, List.length_cons, List.length_nil]; omega
  have j1 := fun H nx' aid => j1 H nx' aid nx
  rw [hp0] at j1
  generalize [u8 7, u8 n.fr, u8 n.to] ++ V = P2 at *
  generalize frame P2 = F at *
  simp [ir10, ssI, ↓ssJ, List.idxOf?_cons, Go.Sx.LV.undef, Go.undef, Go.Sx.callO, Go.Sx.splice, Go.Sx.finish, Go.Sx.look, Go.Sx.push, Go.Sx.setObj, Go.Sx.setU, Go.Sx.setAll, Go.Sx.appO, Go.Sx.leI_eq, ltF, r, nu, ev, bt, tx, wf, wt, ws, w, bb, byt_len, bytP_len, take_byt, ids_byt, ren_byt, ids_app, ren_app, allP_byt, allP_app, bytP_map, bytP_len, h20, k0, k1, allP_byt, j1, g1, nn]
theorem rNoteBytes_ (n : Nte) (fl : Bool) (hf : n.Fit) (H : Heap) (nx : Nat) : Ω 10 [.p (n.rv fl)] H nx = some (n.ans, [], []) := by
  cases hr : n.right with
  | false => exact rNoteBytes_no n fl hf hr H nx
  | true =>
    rcases right_kind hr with h | h | h | h | h | h | h
    · exact rNoteBytes_12 n fl 1 h (.inl rfl) hf hr H nx
    · exact rNoteBytes_12 n fl 2 h (.inr rfl) hf hr H nx
    · exact rNoteBytes_3 n fl h hf hr H nx
    · exact rNoteBytes_4 n fl h hf hr H nx
    · exact rNoteBytes_5 n fl h hf hr H nx
    · exact rNoteBytes_6 n fl h hf hr H nx
    · exact rNoteBytes_7 n fl h hf hr H nx
end Go.Proofs.YtppeggedcaabkaaGreatDoor
end

section
namespace Go.Proofs.YtppeggedcaabkaaGreatDoor
open Go Go.Sx
set_option linter.unusedSimpArgs false
set_option linter.unusedVariables false

theorem evBits_len : ∀ (e : Ev), (evBits e).length + 140 ≤ 280 * 2 ^ e.depth
  | .leaf n => by
    have := numBits_len 62 n 2
    simp [evBits, bitsOf_len, Ev.depth]; omega
  | .node n l r => by
    have h1 := evBits_len l
    have h2 := evBits_len r
    have h3 := numBits_len 62 n 2
    have h4 := (evKind_len n (decide (l = .leaf 0)) (decide (r = .leaf 0))).2
    have hd : (Ev.node n l r).depth = 1 + Max.max l.depth r.depth := rfl
    have p1 : 2 ^ l.depth ≤ 2 ^ Max.max l.depth r.depth := Nat.pow_le_pow_right (by omega) (Nat.le_max_left _ _)
    have p2 : 2 ^ r.depth ≤ 2 ^ Max.max l.depth r.depth := Nat.pow_le_pow_right (by omega) (Nat.le_max_right _ _)
    have p3 : 2 ^ (1 + Max.max l.depth r.depth) = 2 * 2 ^ Max.max l.depth r.depth := by rw [Nat.add_comm, Nat.pow_succ, Nat.mul_comm]
    rw [hd, p3]
    unfold evBits
    simp only [List.length_append, bitsOf_len]
    have q1 : (if n = 0 then [] else numBits n 2 62).length ≤ 127 := by
      by_cases q : n = 0
      · rw [if_pos q]; exact Nat.zero_le _
      · rw [if_neg q]; omega
    have q2 : (if l = .leaf 0 then [] else evBits l).length ≤ (evBits l).length := by split <;> simp
    have q3 : (if r = .leaf 0 then [] else evBits r).length ≤ (evBits r).length := by split <;> simp
    omega
theorem idBits_len : ∀ (i : Id), (idBits i).length + 3 ≤ 6 * 2 ^ i.depth
  | .zero => by simp [idBits, bitsOf_len, Id.depth]
  | .one => by simp [idBits, bitsOf_len, Id.depth]
  | .node l r => by
    have h1 := idBits_len l
    have h2 := idBits_len r
    have hd : (Id.node l r).depth = 1 + Max.max l.depth r.depth := rfl
    have p1 : 2 ^ l.depth ≤ 2 ^ Max.max l.depth r.depth := Nat.pow_le_pow_right (by omega) (Nat.le_max_left _ _)
    have p2 : 2 ^ r.depth ≤ 2 ^ Max.max l.depth r.depth := Nat.pow_le_pow_right (by omega) (Nat.le_max_right _ _)
    have p3 : 2 ^ (1 + Max.max l.depth r.depth) = 2 * 2 ^ Max.max l.depth r.depth := by rw [Nat.add_comm, Nat.pow_succ, Nat.mul_comm]
    rw [hd, p3]
    unfold idBits
    split
    · simp [bitsOf_len]; omega
    · split <;> simp [bitsOf_len] <;> omega
/-- The first bytes of a draw. -/
def cutB (k : Nat) (x : Option (List UInt8)) : Option (List UInt8) := x.map (List.take k)
theorem obP_cases (fl : Bool) (x : Option (List UInt8)) : (x = none ∧ obP fl x = .s (.slice none 0 0)) ∨ ∃ l, x = some l ∧ obP fl x = .sl (bytP l) l.length 1 fl := by
  cases x with
  | none => exact .inl ⟨rfl, rfl⟩
  | some l => exact .inr ⟨l, rfl, rfl⟩
abbrev annF : PV := .agg [.s (.int .i64 1), .s (.string ⟨#[]⟩), .s (.string ⟨#[65, 110, 110]⟩)]
/-- Any length that comes in. -/
def shl (x : Option (List UInt8)) : Prop := ∀ l, x = some l → l.length < 2 ^ 63
theorem rMake13_ (x : Option (List UInt8)) (fl gone : Bool) (hx : shl x) (H : Heap) (nx : Nat) (hR : ∀ H, Ω 68 [.p annF] H (nx + 2) = some (.int .i64 0, [], [])) :
    Ω 23 [.p (obP fl x), .str ⟨#[65, 110, 110]⟩, .bool gone] H nx = some (.p (.agg [(mkEv 4 (cutB 40 x)).1.rv, crd (!gone) true, .s (.bool gone)]), [], []) := by
  refine om_run (ir := ir23) (by kernel_rfl) 0 ?_
  have h1 : short (cutB 40 x) := by
    intro l hl
    cases x with
    | none => cases hl
    | some y => simp [cutB] at hl; rw [← hl]; have := hx y rfl; simp; omega
  have m := fun fl H nx => reMake_ 4 (cutB 40 x) fl (by omega) h1 H nx
  obtain ⟨es, hE⟩ := Ev.rv_imm (mkEv 4 (cutB 40 x)).1
  rw [hE]
  simp only [hE] at m
  have c4 : ((4 : Nat) : Int) = 4 := rfl
  simp only [c4] at m
  cases gone
  all_goals
    rcases obP_cases fl x with ⟨rfl, e⟩ | ⟨l, rfl, e⟩
    · rw [e]
      have m1 := m false
      simp only [cutB, Option.map_none, obP_n] at m1
      simp +contextual [ir23, ssI, ↓ssJ, List.idxOf?_cons, Go.Sx.LV.undef, Go.undef, Go.Sx.callO, Go.Sx.splice, Go.Sx.finish, Go.Sx.look, Go.Sx.push, Go.Sx.setObj, Go.Sx.setU, Go.Sx.setAll, Go.Sx.appO, Go.Sx.leI_eq, ltF, m1, hR, crd_t, crd_f]
    · rw [e]
      by_cases hl : l.length ≤ 40
      · have m1 := m fl
        have hc : cutB 40 (some l) = some l := by simp [cutB, List.take_of_length_le hl]
        rw [hc, obP_s] at m1
        have g1 : (l.length : Int) ≤ 40 := by omega
        simp +contextual [ir23, ssI, ↓ssJ, List.idxOf?_cons, Go.Sx.LV.undef, Go.undef, Go.Sx.callO, Go.Sx.splice, Go.Sx.finish, Go.Sx.look, Go.Sx.push, Go.Sx.setObj, Go.Sx.setU, Go.Sx.setAll, Go.Sx.appO, Go.Sx.leI_eq, ltF, m1, hR, crd_t, crd_f, g1]
      · have m1 := m false
        simp only [cutB, Option.map_some, obP_s] at m1
        have g1 : ¬ (l.length : Int) ≤ 40 := by omega
        have g2 : (l.take 40).length = 40 := by simp; omega
        have g3 : bytP (l.take 40) = (bytP l).take 40 := by simp [bytP]
        have g4 : 40 ≤ l.length := by omega
        have g5 : ¬ 40 = l.length := by omega
        have g6 : (40 == l.length) = false := by simpa using g5
        have g7 : ¬ l.length = 40 := by omega
        rw [g2, g3] at m1
        simp +contextual [ir23, ssI, ↓ssJ, List.idxOf?_cons, Go.Sx.LV.undef, Go.undef, Go.Sx.callO, Go.Sx.splice, Go.Sx.finish, Go.Sx.look, Go.Sx.push, Go.Sx.setObj, Go.Sx.setU, Go.Sx.setAll, Go.Sx.appO, Go.Sx.leI_eq, ltF, m1, hR, crd_t, crd_f, g1, g4, g5, g6, g7, bytP_len]
end Go.Proofs.YtppeggedcaabkaaGreatDoor
end

section
namespace Go.Proofs.YtppeggedcaabkaaGreatDoor
open Go Go.Sx
set_option linter.unusedSimpArgs false
set_option linter.unusedVariables false

theorem annR8 (H : Heap) : Ω 68 [.p annF] H 8 = some (.int .i64 0, [], []) := om_of_eval (n := 20) (by kernel_rfl)
theorem annR10 (H : Heap) : Ω 68 [.p annF] H 10 = some (.int .i64 0, [], []) := om_of_eval (n := 20) (by kernel_rfl)
theorem annC6 (H : Heap) : Ω 24 [.p (.sl ann 1 3 true)] H 6 = some (.tuple [.p (.agg [.sl ann 1 3 false]), .int .i64 0], [], []) := om_of_eval (n := 40) (by kernel_rfl)
theorem annC8 (H : Heap) : Ω 24 [.p (.sl ann 1 3 true)] H 8 = some (.tuple [.p (.agg [.sl ann 1 3 false]), .int .i64 0], [], []) := om_of_eval (n := 40) (by kernel_rfl)
theorem noC6 (H : Heap) : Ω 24 [.p (.s (.slice none 0 0))] H 6 = some (.tuple [.p (.agg [.s (.slice none 0 0)]), .int .i64 0], [], []) := om_of_eval (n := 40) (by kernel_rfl)
theorem noC8 (H : Heap) : Ω 24 [.p (.s (.slice none 0 0))] H 8 = some (.tuple [.p (.agg [.s (.slice none 0 0)]), .int .i64 0], [], []) := om_of_eval (n := 40) (by kernel_rfl)
theorem awake_1 (H : Heap) : Ω 7 [] H 1 = some (.bool true, [], []) := om_of_eval (n := 60) (by kernel_rfl)
end Go.Proofs.YtppeggedcaabkaaGreatDoor
end

section
namespace Go.Proofs.YtppeggedcaabkaaGreatDoor
open Go Go.Sx
set_option linter.unusedSimpArgs false
set_option linter.unusedVariables false

/-- A draw. -/
structure Drw where
  kind : Int
  fr : Int
  to : Int
  ses : Nat
  no : Nat
  seq : Int
  last : Bool
  plain : Bool
  tree : Option (List UInt8)
  share : Option (List UInt8)
  ids : PV
  trees : PV
abbrev Drw.cells (d : Drw) : List PV := [.s (.int .i64 d.kind), .s (.int .i64 d.fr), .s (.int .i64 d.to), .s (.int .u64 d.ses), .s (.int .u64 d.no), .s (.int .i64 d.seq), .s (.bool d.last), .s (.bool d.plain), obP false d.tree, obP false d.share, d.ids, d.trees]
/-- What is left of a plain one. -/
def Drw.made (d : Drw) : Drw := if d.plain = true then
    { d with ses := if 4 < d.kind ∨ d.kind < 1 then 0 else d.ses, seq := if d.kind = 3 ∨ d.kind = 4 then d.seq else 0, last := d.last && decide (d.kind = 3), tree := if d.kind = 4 ∨ d.kind = 5 ∨ d.kind = 7 then none else d.tree, trees := if d.kind = 3 ∨ d.kind = 6 then d.trees else .s (.slice none 0 0) }
  else d
section
variable {H : Heap} {nx : Nat} (N : Nat) (d : Drw) (A B : Option Go.Sx.Obj)
set_option maxHeartbeats 2000000 in
theorem made_12 (v2 v3 : LV) : runCS ⟨Ω, noG, H, nx⟩ N (.seq (stC 1 ir8.body) (stC 2 ir8.body)) ⟨[(1, .ref nx 0), (2, v2), (3, v3)], ⟨[], [some (.cells (pc d.cells)), A, B]⟩⟩ =
    some (.normal, ⟨[(1, .ref nx 0), (2, v2), (3, v3), (4, .ref (nx + 3) 0)], ⟨[], [some (.cells (pc d.made.cells)), A, B, some (.cells (pc (Nte.rcells false ⟨d.kind, d.fr, d.to, 0, 0, false, .leaf 0, [], ⟨0, 0, 0, .zero⟩, 0⟩)))]⟩⟩) := by
  obtain ⟨k, f, t, ses, no, sq, last, plain, tr, sh, ids, trs⟩ := d
  have nw := fun H nx => rNew_ k f t H nx
  simp only [Nte.rv, Nte.rcells, Ev.rv_l, Id.rv_z] at nw
  simp only [Drw.cells, Drw.made, Nte.rcells, pc_cons, pc_nil, Ev.rv_l, Id.rv_z]
  cases plain with
  | false =>
    simp +contextual [ir8, stC, ssI, ↓ssJ, List.idxOf?_cons, Go.Sx.LV.undef, Go.undef, Go.Sx.callO, Go.Sx.splice, Go.Sx.finish, Go.Sx.look, Go.Sx.push, Go.Sx.setObj, Go.Sx.setU, Go.Sx.setAll, Go.Sx.appO, Go.Sx.leI_eq, ltF, nw, entP, obP_n]
  | true =>
    by_cases h1 : k = 1
    · subst h1
      simp +contextual [ir8, stC, ssI, ↓ssJ, List.idxOf?_cons, Go.Sx.LV.undef, Go.undef, Go.Sx.callO, Go.Sx.splice, Go.Sx.finish, Go.Sx.look, Go.Sx.push, Go.Sx.setObj, Go.Sx.setU, Go.Sx.setAll, Go.Sx.appO, Go.Sx.leI_eq, ltF, nw, entP, obP_n]
    by_cases h2 : k = 2
    · subst h2
      simp +contextual [ir8, stC, ssI, ↓ssJ, List.idxOf?_cons, Go.Sx.LV.undef, Go.undef, Go.Sx.callO, Go.Sx.splice, Go.Sx.finish, Go.Sx.look, Go.Sx.push, Go.Sx.setObj, Go.Sx.setU, Go.Sx.setAll, Go.Sx.appO, Go.Sx.leI_eq, ltF, nw, entP, obP_n]
    by_cases h3 : k = 3
    · subst h3
      simp +contextual [ir8, stC, ssI, ↓ssJ, List.idxOf?_cons, Go.Sx.LV.undef, Go.undef, Go.Sx.callO, Go.Sx.splice, Go.Sx.finish, Go.Sx.look, Go.Sx.push, Go.Sx.setObj, Go.Sx.setU, Go.Sx.setAll, Go.Sx.appO, Go.Sx.leI_eq, ltF, nw, entP, obP_n]
    by_cases h4 : k = 4
    · subst h4
      simp +contextual [ir8, stC, ssI, ↓ssJ, List.idxOf?_cons, Go.Sx.LV.undef, Go.undef, Go.Sx.callO, Go.Sx.splice, Go.Sx.finish, Go.Sx.look, Go.Sx.push, Go.Sx.setObj, Go.Sx.setU, Go.Sx.setAll, Go.Sx.appO, Go.Sx.leI_eq, ltF, nw, entP, obP_n]
    by_cases h5 : k = 5
    · subst h5
      simp +contextual [ir8, stC, ssI, ↓ssJ, List.idxOf?_cons, Go.Sx.LV.undef, Go.undef, Go.Sx.callO, Go.Sx.splice, Go.Sx.finish, Go.Sx.look, Go.Sx.push, Go.Sx.setObj, Go.Sx.setU, Go.Sx.setAll, Go.Sx.appO, Go.Sx.leI_eq, ltF, nw, entP, obP_n]
    by_cases h6 : k = 6
    · subst h6
      simp +contextual [ir8, stC, ssI, ↓ssJ, List.idxOf?_cons, Go.Sx.LV.undef, Go.undef, Go.Sx.callO, Go.Sx.splice, Go.Sx.finish, Go.Sx.look, Go.Sx.push, Go.Sx.setObj, Go.Sx.setU, Go.Sx.setAll, Go.Sx.appO, Go.Sx.leI_eq, ltF, nw, entP, obP_n]
    by_cases h7 : k = 7
    · subst h7
      simp +contextual [ir8, stC, ssI, ↓ssJ, List.idxOf?_cons, Go.Sx.LV.undef, Go.undef, Go.Sx.callO, Go.Sx.splice, Go.Sx.finish, Go.Sx.look, Go.Sx.push, Go.Sx.setObj, Go.Sx.setU, Go.Sx.setAll, Go.Sx.appO, Go.Sx.leI_eq, ltF, nw, entP, obP_n]
    by_cases h8 : k < 1
    · have a1 : k ≤ 4 := by omega
      have a2 : ¬ 1 ≤ k := by omega
      simp +contextual [ir8, stC, ssI, ↓ssJ, List.idxOf?_cons, Go.Sx.LV.undef, Go.undef, Go.Sx.callO, Go.Sx.splice, Go.Sx.finish, Go.Sx.look, Go.Sx.push, Go.Sx.setObj, Go.Sx.setU, Go.Sx.setAll, Go.Sx.appO, Go.Sx.leI_eq, ltF, nw, entP, obP_n, h1, h2, h3, h4, h5, h6, h7, h8, a1, a2]
    · have a1 : ¬ k ≤ 4 := by omega
      have a2 : 1 ≤ k := by omega
      have a3 : 4 < k := by omega
      simp +contextual [ir8, stC, ssI, ↓ssJ, List.idxOf?_cons, Go.Sx.LV.undef, Go.undef, Go.Sx.callO, Go.Sx.splice, Go.Sx.finish, Go.Sx.look, Go.Sx.push, Go.Sx.setObj, Go.Sx.setU, Go.Sx.setAll, Go.Sx.appO, Go.Sx.leI_eq, ltF, nw, entP, obP_n, h1, h2, h3, h4, h5, h6, h7, h8, a1, a2, a3]
/-- The note that a draw begins with. -/
abbrev Drw.ev (d : Drw) : Ev := (mkEv 4 (cutB 30 d.tree)).1
abbrev Drw.note0 (d : Drw) : Nte := ⟨d.kind, d.fr, d.to, d.ses, d.seq, d.last, d.ev, [], ⟨0, 0, 0, .zero⟩, 0⟩
theorem mkEv_tree (x : Option (List UInt8)) (H : Heap) (nx : Nat) : Ω 20 [.p (mkEv 4 x).1.rv] H nx = some (.p (mkEv 4 x).1.pv, [], []) := by
  obtain ⟨a, b, c⟩ := mkEv_ok 4 x
  exact tree_ _ a (by omega) (by omega) H nx
/-- What is drawn of bytes that are cut. -/
theorem cut_cases (k : Nat) (hk : k < 100) (x : Option (List UInt8)) (hx : shl x) : (x = none ∧ cutB k x = none) ∨ (∃ l, x = some l ∧ l.length ≤ k ∧ cutB k x = some l) ∨ (∃ l, x = some l ∧ ¬ l.length ≤ k ∧ cutB k x = some (l.take k) ∧ (l.take k).length = k ∧ bytP (l.take k) = (bytP l).take k) := by
  cases x with
  | none => exact .inl ⟨rfl, rfl⟩
  | some l =>
    by_cases h : l.length ≤ k
    · exact .inr (.inl ⟨l, rfl, h, by simp [cutB, List.take_of_length_le h]⟩)
    · exact .inr (.inr ⟨l, rfl, h, rfl, by simp; omega, by simp [bytP]⟩)
set_option maxHeartbeats 1000000 in
theorem made_345 (v2 v3 : LV) (hx : shl d.tree) : runCS ⟨Ω, noG, H, nx⟩ N (.seq (stC 3 ir8.body) (.seq (stC 4 ir8.body) (stC 5 ir8.body)))
      ⟨[(1, .ref nx 0), (2, v2), (3, v3), (4, .ref (nx + 3) 0)], ⟨[], [some (.cells (pc d.cells)), A, B, some (.cells (pc (Nte.rcells false ⟨d.kind, d.fr, d.to, 0, 0, false, .leaf 0, [], ⟨0, 0, 0, .zero⟩, 0⟩)))]⟩⟩ =
    some (.normal, ⟨[(1, .ref nx 0), (2, v2), (3, v3), (4, .ref (nx + 3) 0), (5, .ref (nx + 4) 0)], ⟨[], [some (.cells (pc d.cells)), A, B, some (.cells (pc (d.note0.rcells false))), some (.cells (pc (d.note0.cells false)))]⟩⟩) := by
  obtain ⟨k, f, t, ses, no, sq, last, plain, tr, sh, ids, trs⟩ := d
  have h1 : short (cutB 30 tr) := by
    intro l hl
    cases tr with
    | none => cases hl
    | some y => simp [cutB] at hl; rw [← hl]; have := hx y rfl; simp; omega
  have m := fun fl H nx => reMake_ 4 (cutB 30 tr) fl (by omega) h1 H nx
  have tre := fun H nx => mkEv_tree (cutB 30 tr) H nx
  have c4 : ((4 : Nat) : Int) = 4 := rfl
  simp only [Drw.cells, Nte.rcells, Nte.cells, Drw.ev, pc_cons, pc_nil, Ev.rv_l, Id.rv_z, Id.all_z, Id.ptr_z]
  generalize hE2 : (mkEv 4 (cutB 30 tr)).2 = E2 at *
  generalize hE : (mkEv 4 (cutB 30 tr)).1 = E at *
  obtain ⟨es, he⟩ := Ev.rv_imm E
  have hp : E.pv = .agg [.s (.int .u64 E.n), E.ptr] := rfl
  rw [hp] at tre
  rw [he] at tre ⊢
  simp only [he, c4] at m
  rcases cut_cases 30 (by omega) tr hx with ⟨rfl, e1⟩ | ⟨l, rfl, e0, e1⟩ | ⟨l, rfl, e0, e1, e2, e3⟩
  · rw [e1] at m
    have m1 := m false
    rw [obP_n] at m1
    simp +contextual [ir8, stC, ssI, ↓ssJ, List.idxOf?_cons, Go.Sx.LV.undef, Go.undef, Go.Sx.callO, Go.Sx.splice, Go.Sx.finish, Go.Sx.look, Go.Sx.push, Go.Sx.setObj, Go.Sx.setU, Go.Sx.setAll, Go.Sx.appO, Go.Sx.leI_eq, ltF, m1, tre, entP, obP_n]
  · rw [e1] at m
    have m1 := m false
    rw [obP_s] at m1
    have g1 : ¬ (30 : Int) < l.length := by omega
    have g2 := take_bytP l
    simp +contextual [ir8, stC, ssI, ↓ssJ, List.idxOf?_cons, Go.Sx.LV.undef, Go.undef, Go.Sx.callO, Go.Sx.splice, Go.Sx.finish, Go.Sx.look, Go.Sx.push, Go.Sx.setObj, Go.Sx.setU, Go.Sx.setAll, Go.Sx.appO, Go.Sx.leI_eq, ltF, m1, tre, entP, obP_s, g1, g2, bytP_len]
  · rw [e1] at m
    have m1 := m false
    rw [obP_s, e2, e3] at m1
    have g1 : (30 : Int) < l.length := by omega
    have g4 : 30 ≤ l.length := by omega
    simp +contextual [ir8, stC, ssI, ↓ssJ, List.idxOf?_cons, Go.Sx.LV.undef, Go.undef, Go.Sx.callO, Go.Sx.splice, Go.Sx.finish, Go.Sx.look, Go.Sx.push, Go.Sx.setObj, Go.Sx.setU, Go.Sx.setAll, Go.Sx.appO, Go.Sx.leI_eq, ltF, m1, tre, entP, obP_s, g1, g4, bytP_len]
end
end Go.Proofs.YtppeggedcaabkaaGreatDoor
end

section
namespace Go.Proofs.YtppeggedcaabkaaGreatDoor
open Go Go.Sx
set_option linter.unusedSimpArgs false
set_option linter.unusedVariables false

abbrev Drw.sh (d : Drw) : Id := (mkId 4 (cutB 20 d.share)).1
abbrev Drw.no1 (d : Drw) : Nat := if d.plain = false ∨ d.kind = 7 then d.no else 0
abbrev Drw.gift1 (d : Drw) : Gft := if d.plain = false ∨ d.kind = 6 then ⟨d.no, d.fr, d.to, d.sh⟩ else ⟨0, 0, 0, .zero⟩
/-- The note that a draw is, with its entries. -/
abbrev Drw.note (d : Drw) (L : List Ent) : Nte := ⟨d.kind, d.fr, d.to, d.ses, d.seq, d.last, d.ev, L, d.gift1, d.no1⟩
theorem mkId_share (x : Option (List UInt8)) (H : Heap) (nx : Nat) : Ω 22 [.p (mkId 4 x).1.rv] H nx = some (.p (mkId 4 x).1.pv, [], []) := by
  obtain ⟨a, b⟩ := mkId_ok 4 x
  exact share_ _ a (by omega) H nx
/-- A list of so many. -/
def Lst (n : Nat) (x : PV) : Prop := (x = .s (.slice none 0 0) ∧ n = 0) ∨ ∃ ts, x = .sl ts n 1 false
section
variable {H : Heap} {nx : Nat} (N : Nat) (d : Drw) (A B : Option Go.Sx.Obj)
set_option maxHeartbeats 4000000 in
theorem made_67 (v2 v3 : LV) (hx : shl d.share) (n : Nat) (ht : Lst n d.trees) : runCS ⟨Ω, noG, H, nx⟩ N (.seq (stC 6 ir8.body) (.seq (stC 7 ir8.body) (hdC (stC 8 ir8.body))))
      ⟨[(1, .ref nx 0), (2, v2), (3, v3), (4, .ref (nx + 3) 0), (5, .ref (nx + 4) 0)], ⟨[], [some (.cells (pc d.cells)), A, B, some (.cells (pc (d.note0.rcells false))), some (.cells (pc (d.note0.cells false)))]⟩⟩ =
    some (.normal, ⟨[(1, .ref nx 0), (2, v2), (3, v3), (4, .ref (nx + 3) 0), (5, .ref (nx + 4) 0), (162, .p d.trees), (163, .int .i64 n), (164, .int .i64 0)], ⟨[], [some (.cells (pc d.cells)), A, B, some (.cells (pc ((d.note []).rcells false))), some (.cells (pc ((d.note []).cells false)))]⟩⟩) := by
  obtain ⟨k, f, t, ses, no, sq, last, plain, tr, sh, ids, trs⟩ := d
  have h1 : short (cutB 20 sh) := by
    intro l hl
    cases sh with
    | none => cases hl
    | some y => simp [cutB] at hl; rw [← hl]; have := hx y rfl; simp; omega
  have m := fun fl H nx => rMake_ 4 (cutB 20 sh) fl (by omega) h1 H nx
  have shr := fun H nx => mkId_share (cutB 20 sh) H nx
  have c4 : ((4 : Nat) : Int) = 4 := rfl
  simp only [Drw.cells, Nte.rcells, Nte.cells, Drw.ev, Drw.gift1, Drw.no1, Drw.sh, pc_cons, pc_nil, Id.rv_z, Id.all_z, Id.ptr_z]
  generalize (mkEv 4 (cutB 30 tr)).1 = E at *
  generalize hE2 : (mkId 4 (cutB 20 sh)).2 = E2 at *
  generalize hE : (mkId 4 (cutB 20 sh)).1 = S at *
  obtain ⟨a1, b1, he⟩ := Id.rv_imm S
  have hp : S.pv = .agg [.s (.bool S.all), S.ptr] := rfl
  rw [hp] at shr
  rw [he] at shr
  simp only [he, c4] at m
  have key : ∀ (q : Bool), (q = decide (k = 6) ∨ plain = false) → True := fun _ _ => trivial
  rcases ht with ⟨e, e'⟩ | ⟨ts, e⟩
  all_goals
    simp only at e
    subst e
    try subst e'
    cases plain with
    | true =>
      by_cases h6 : k = 6
      · subst h6
        rcases cut_cases 20 (by omega) sh hx with ⟨rfl, e1⟩ | ⟨l, rfl, e0, e1⟩ | ⟨l, rfl, e0, e1, e2, e3⟩
        · have m1 := m false
          rw [e1, obP_n] at m1
          simp +contextual [ir8, stC, hdC, ssI, ↓ssJ, List.idxOf?_cons, Go.Sx.LV.undef, Go.undef, Go.Sx.callO, Go.Sx.splice, Go.Sx.finish, Go.Sx.look, Go.Sx.push, Go.Sx.setObj, Go.Sx.setU, Go.Sx.setAll, Go.Sx.appO, Go.Sx.leI_eq, ltF, m1, shr, he, entP, obP_n]
        · have m1 := m false
          rw [e1, obP_s] at m1
          have g1 : ¬ (20 : Int) < l.length := by omega
          have g2 := take_bytP l
          simp +contextual [ir8, stC, hdC, ssI, ↓ssJ, List.idxOf?_cons, Go.Sx.LV.undef, Go.undef, Go.Sx.callO, Go.Sx.splice, Go.Sx.finish, Go.Sx.look, Go.Sx.push, Go.Sx.setObj, Go.Sx.setU, Go.Sx.setAll, Go.Sx.appO, Go.Sx.leI_eq, ltF, m1, shr, he, entP, obP_s, g1, g2, bytP_len]
        · have m1 := m false
          rw [e1, obP_s, e2, e3] at m1
          have g1 : (20 : Int) < l.length := by omega
          have g4 : 20 ≤ l.length := by omega
          simp +contextual [ir8, stC, hdC, ssI, ↓ssJ, List.idxOf?_cons, Go.Sx.LV.undef, Go.undef, Go.Sx.callO, Go.Sx.splice, Go.Sx.finish, Go.Sx.look, Go.Sx.push, Go.Sx.setObj, Go.Sx.setU, Go.Sx.setAll, Go.Sx.appO, Go.Sx.leI_eq, ltF, m1, shr, he, entP, obP_s, g1, g4, bytP_len]
      · by_cases h7 : k = 7
        · subst h7
          simp +contextual [ir8, stC, hdC, ssI, ↓ssJ, List.idxOf?_cons, Go.Sx.LV.undef, Go.undef, Go.Sx.callO, Go.Sx.splice, Go.Sx.finish, Go.Sx.look, Go.Sx.push, Go.Sx.setObj, Go.Sx.setU, Go.Sx.setAll, Go.Sx.appO, Go.Sx.leI_eq, ltF, entP, Id.rv_z, Id.all_z, Id.ptr_z]
        · simp +contextual [ir8, stC, hdC, ssI, ↓ssJ, List.idxOf?_cons, Go.Sx.LV.undef, Go.undef, Go.Sx.callO, Go.Sx.splice, Go.Sx.finish, Go.Sx.look, Go.Sx.push, Go.Sx.setObj, Go.Sx.setU, Go.Sx.setAll, Go.Sx.appO, Go.Sx.leI_eq, ltF, entP, h6, h7, Id.rv_z, Id.all_z, Id.ptr_z]
    | false =>
      rcases cut_cases 20 (by omega) sh hx with ⟨rfl, e1⟩ | ⟨l, rfl, e0, e1⟩ | ⟨l, rfl, e0, e1, e2, e3⟩
      · have m1 := m false
        rw [e1, obP_n] at m1
        simp +contextual [ir8, stC, hdC, ssI, ↓ssJ, List.idxOf?_cons, Go.Sx.LV.undef, Go.undef, Go.Sx.callO, Go.Sx.splice, Go.Sx.finish, Go.Sx.look, Go.Sx.push, Go.Sx.setObj, Go.Sx.setU, Go.Sx.setAll, Go.Sx.appO, Go.Sx.leI_eq, ltF, m1, shr, he, entP, obP_n]
      · have m1 := m false
        rw [e1, obP_s] at m1
        have g1 : ¬ (20 : Int) < l.length := by omega
        have g2 := take_bytP l
        simp +contextual [ir8, stC, hdC, ssI, ↓ssJ, List.idxOf?_cons, Go.Sx.LV.undef, Go.undef, Go.Sx.callO, Go.Sx.splice, Go.Sx.finish, Go.Sx.look, Go.Sx.push, Go.Sx.setObj, Go.Sx.setU, Go.Sx.setAll, Go.Sx.appO, Go.Sx.leI_eq, ltF, m1, shr, he, entP, obP_s, g1, g2, bytP_len]
      · have m1 := m false
        rw [e1, obP_s, e2, e3] at m1
        have g1 : (20 : Int) < l.length := by omega
        have g4 : 20 ≤ l.length := by omega
        simp +contextual [ir8, stC, hdC, ssI, ↓ssJ, List.idxOf?_cons, Go.Sx.LV.undef, Go.undef, Go.Sx.callO, Go.Sx.splice, Go.Sx.finish, Go.Sx.look, Go.Sx.push, Go.Sx.setObj, Go.Sx.setU, Go.Sx.setAll, Go.Sx.appO, Go.Sx.leI_eq, ltF, m1, shr, he, entP, obP_s, g1, g4, bytP_len]
end
end Go.Proofs.YtppeggedcaabkaaGreatDoor
end

section
namespace Go.Proofs.YtppeggedcaabkaaGreatDoor
open Go Go.Sx
set_option linter.unusedSimpArgs false
set_option linter.unusedVariables false

theorem ren_pcapp (nx : Nat) (s : List Nat) (l : List PV) (m : List LV) : ren.go nx s (pc l ++ m) = match ren.go nx s m with
    | some r => some (pc l ++ r)
    | none => none := by
  induction l with
  | nil => rw [pc_nil, List.nil_append]; cases ren.go nx s m <;> rfl
  | cons x l ih => rw [pc_cons, List.cons_append, ren.go, ih]; cases ren.go nx s m <;> rfl
/-- A note's cells, its entries being there or there. -/
abbrev ncl (n : Nte) (y : LV) : List LV := [.int .i64 n.kind, .int .i64 n.fr, .int .i64 n.to, .int .u64 n.ses, .int .i64 n.seq, .bool n.last, .int .u64 n.ev.n, .p n.ev.ptr, y,
  .int .u64 n.gift.no, .int .i64 n.gift.fr, .int .i64 n.gift.to, .bool n.gift.sh.all, .p n.gift.sh.ptr, .int .u64 n.no]
abbrev rcl (n : Nte) (y : LV) : List LV := [.int .i64 n.kind, .int .i64 n.fr, .int .i64 n.to, .int .u64 n.ses, .int .i64 n.seq, .bool n.last, .p n.ev.rv, y,
  .int .u64 n.gift.no, .int .i64 n.gift.fr, .int .i64 n.gift.to, .p n.gift.sh.rv, .int .u64 n.no, .p (.s (.slice none 0 0))]
section
variable {H : Heap} {nx : Nat} (N : Nat) (d : Drw) (zA zB : List PV) (w : Nte)
abbrev mEnv (nx k : Nat) (d : Drw) (n j : Nat) : Env := [(1, .ref nx 0), (2, .ref (nx + 1) 0), (3, .ref (nx + 2) 0), (4, .ref (nx + 3) 0), (5, .ref (nx + k) 0), (162, .p d.trees), (163, .int .i64 n), (164, .int .i64 j)]
abbrev mT0 (nx : Nat) (d : Drw) (zA zB : List PV) (w : Nte) (n : Nat) : St := ⟨mEnv nx 4 d n 0, ⟨[], [some (.cells (pc d.cells)), some (.cells (pc zA)), some (.cells (pc zB)), some (.cells (rcl w (.p (.s (.slice none 0 0))))), some (.cells (ncl w (.p (.s (.slice none 0 0)))))]⟩⟩
abbrev mT1 (nx : Nat) (d : Drw) (zA zB : List PV) (w : Nte) (n j : Nat) (X Y : List LV) : St := ⟨mEnv nx 5 d n j, ⟨[], [some (.cells (pc d.cells)), some (.cells (pc zA)), some (.cells (pc zB)), some (.cells (rcl w (.arr (nx + 4) 0 j 4 j false))), some (.cells X), some (.cells (ncl w (.arr (nx + 6) 0 j 5 j false))), some (.cells Y)]⟩⟩
/-- What is asked of the draw's lists, and of Ann. -/
structure Here (nx : Nat) (d : Drw) (n j : Nat) (t : Option (List UInt8)) (i : Nat) : Prop where
  ts : ∃ ts, d.trees = .sl ts n 1 false ∧ ts[j]? = some (obP false t)
  is : ∃ is m, d.ids = .sl is m 1 false ∧ is[j]? = some (.s (.int .u32 i)) ∧ j < m
  lt : j < n
  seven : j < 7
  sh : shl t
  big : n < 2 ^ 63
set_option maxHeartbeats 4000000 in
theorem made_step0 (n : Nat) (t : Option (List UInt8)) (i : Nat) (h : Here nx d n 0 t i) (hR : ∀ H, Ω 68 [.p annF] H (nx + 7) = some (.int .i64 0, [], []))
    (hC : ∀ H, Ω 24 [.p (.sl ann 1 3 true)] H (nx + 5) = some (.tuple [.p (.agg [.sl ann 1 3 false]), .int .i64 0], [], [])) :
    runCS ⟨Ω, noG, H, nx⟩ N (.seq (tlC ir8_0) (hdC ir8_0)) (mT0 nx d zA zB w n) =
      some (.normal, mT1 nx d zA zB w n 1 (pc (Ent.rrow true ⟨i, ⟨(mkEv 4 (cutB 40 t)).1, true, false⟩⟩)) (pc (Ent.row false ⟨i, ⟨(mkEv 4 (cutB 40 t)).1, true, false⟩⟩))) := by
  obtain ⟨⟨ts, e1, e2⟩, ⟨is, m, e3, e4, e5⟩, e6, e7, e8, e9⟩ := h
  have mk := fun H => rMake13_ t false false e8 H (nx + 5) hR
  have tre := fun H nx => mkEv_tree (cutB 40 t) H nx
  simp only [mT0, mT1, mEnv, Drw.cells, ncl, rcl, e1, e3, pc_cons, pc_nil, crd_t, crd_f, Bool.not_false, Ent.row, Ent.rrow] at mk ⊢
  generalize (mkEv 4 (cutB 40 t)).1 = E at *
  obtain ⟨es, he⟩ := Ev.rv_imm E
  have hp : E.pv = .agg [.s (.int .u64 E.n), E.ptr] := rfl
  rw [hp] at tre
  rw [he] at tre mk ⊢
  have g0 : ¬ n = 0 := by omega
  have g1 : 0 < n := by omega
  have g2 : ¬ m = 0 := by omega
  have g3 : 0 < m := by omega
  have rm : binI .rem .i64 0 3 = some (.int .i64 0) := rfl
  simp +contextual (maxSteps := 1000000) [ir8_0, hdC, tlC, ssI, ↓ssJ, List.idxOf?_cons, Go.Sx.LV.undef, Go.undef, Go.Sx.callO, Go.Sx.splice, Go.Sx.finish, Go.Sx.look, Go.Sx.push, Go.Sx.setObj, Go.Sx.setU, Go.Sx.setAll, Go.Sx.appO, Go.Sx.leI_eq, ltF, e2, e4, e7, g0, g1, g2, g3, mk, tre, hC, rm, ids_pc, ren_pc]
  rfl
set_option maxHeartbeats 4000000 in
theorem made_step1 (n j : Nat) (t : Option (List UInt8)) (i : Nat) (hj : 0 < j) (X Y : List PV) (hX : X.length = j * 4) (hY : Y.length = j * 5) (h : Here nx d n j t i) (hR : ∀ H, Ω 68 [.p annF] H (nx + 9) = some (.int .i64 0, [], []))
    (hC : ∀ H, Ω 24 [.p (.sl ann 1 3 true)] H (nx + 7) = some (.tuple [.p (.agg [.sl ann 1 3 false]), .int .i64 0], [], []))
    (hD : ∀ H, Ω 24 [.p (.s (.slice none 0 0))] H (nx + 7) = some (.tuple [.p (.agg [.s (.slice none 0 0)]), .int .i64 0], [], [])) :
    runCS ⟨Ω, noG, H, nx⟩ N (.seq (tlC ir8_0) (hdC ir8_0)) (mT1 nx d zA zB w n j (pc X) (pc Y)) =
      some (.normal, mT1 nx d zA zB w n (j + 1) (pc X ++ pc (Ent.rrow true ⟨i, ⟨(mkEv 4 (cutB 40 t)).1, !decide (j % 3 = 2), decide (j % 3 = 2)⟩⟩)) (pc Y ++ pc (Ent.row false ⟨i, ⟨(mkEv 4 (cutB 40 t)).1, !decide (j % 3 = 2), decide (j % 3 = 2)⟩⟩))) := by
  obtain ⟨⟨ts, e1, e2⟩, ⟨is, m, e3, e4, e5⟩, e6, e7, e8, e9⟩ := h
  have mk := fun gone H => rMake13_ t false gone e8 H (nx + 7) hR
  have tre := fun H nx => mkEv_tree (cutB 40 t) H nx
  simp only [mT1, mEnv, Drw.cells, ncl, rcl, e1, e3, pc_cons, pc_nil, Ent.row, Ent.rrow]
  generalize (mkEv 4 (cutB 40 t)).1 = E at *
  obtain ⟨es, he⟩ := Ev.rv_imm E
  have hp : E.pv = .agg [.s (.int .u64 E.n), E.ptr] := rfl
  rw [hp] at tre
  rw [he] at tre ⊢
  simp only [he] at mk
  have g0 : ¬ n ≤ j := by omega
  have g1 : ¬ m ≤ j := by omega
  have g2 : ¬ 7 ≤ j := by omega
  have g3 : ¬ (7 : Int) ≤ j := by omega
  have q1 : ¬ 1099511627776 < (j + 1) * 56 := by omega
  have q2 : ¬ 1099511627776 < (j + 1) * 48 := by omega
  have rm : binI .rem .i64 j 3 = some (.int .i64 (j % 3 : Nat)) := by
    have : binI .rem .i64 (j : Int) 3 = some (.int .i64 ((j : Int).tmod 3)) := by simp [binI]
    rw [this, Int.tmod_eq_emod_of_nonneg (by omega)]
    norm_cast
  have w1 : IntKind.i64.wrap ((j : Int) + 1) = (j : Int) + 1 := wrap_i64 _ (by omega) (by omega)
  obtain ⟨r, hr⟩ : ∃ r : Int, r = ((j % 3 : Nat) : Int) := ⟨_, rfl⟩
  rw [← hr] at rm
  have hXl : (pc X).length = j * 4 := by rw [pc_len, hX]
  have hYl : (pc Y).length = j * 5 := by rw [pc_len, hY]
  have t1 : List.take (j * 4) (pc X) = pc X := by rw [← hXl, List.take_length]
  have t2 : List.take (j * 5) (pc Y) = pc Y := by rw [← hYl, List.take_length]
  have mkt := mk true
  have mkf := mk false
  simp only [Bool.not_true, Bool.not_false, crd_t, crd_f] at mkt mkf
  by_cases hg : j % 3 = 2
  · have hd : decide (j % 3 = 2) = true := by simpa using hg
    rw [hd]
    simp only [Bool.not_true, crd_f]
    have hr2 : r = 2 := by omega
    rw [hr2] at rm
    simp +contextual (maxSteps := 1000000) [ir8_0, hdC, tlC, ssI, ↓ssJ, List.idxOf?_cons, Go.Sx.LV.undef, Go.undef, Go.Sx.callO, Go.Sx.splice, Go.Sx.finish, Go.Sx.look, Go.Sx.push, Go.Sx.setObj, Go.Sx.setU, Go.Sx.setAll, Go.Sx.appO, Go.Sx.leI_eq, ltF, e2, e4, e5, e6, e7, g0, g1, g2, g3, mkt, tre, hD, rm, ids_pc, ren_pc, ids_app, ren_pcapp, hXl, hYl, t1, t2, q1, q2, w1]
  · have hd : decide (j % 3 = 2) = false := by simpa using hg
    rw [hd]
    simp only [Bool.not_false, crd_t]
    have hr2 : ¬ r = 2 := by omega
    simp +contextual (maxSteps := 1000000) [ir8_0, hdC, tlC, ssI, ↓ssJ, List.idxOf?_cons, Go.Sx.LV.undef, Go.undef, Go.Sx.callO, Go.Sx.splice, Go.Sx.finish, Go.Sx.look, Go.Sx.push, Go.Sx.setObj, Go.Sx.setU, Go.Sx.setAll, Go.Sx.appO, Go.Sx.leI_eq, ltF, e2, e4, e5, e6, e7, g0, g1, g2, g3, mkf, tre, hC, rm, hr2, ids_pc, ren_pc, ids_app, ren_pcapp, hXl, hYl, t1, t2, q1, q2, w1]
end
end Go.Proofs.YtppeggedcaabkaaGreatDoor
end

section
namespace Go.Proofs.YtppeggedcaabkaaGreatDoor
open Go Go.Sx
set_option linter.unusedSimpArgs false
set_option linter.unusedVariables false

/-- What a draw's entries are. -/
def drawn (I : List Nat) (Ts : List (Option (List UInt8))) (j : Nat) : Ent := ⟨I.getD j 0, ⟨(mkEv 4 (cutB 40 (Ts.getD j none))).1, !decide (j % 3 = 2), decide (j % 3 = 2)⟩⟩
def many (I : List Nat) (Ts : List (Option (List UInt8))) : Nat := min 7 (min I.length Ts.length)
def drawnL (I : List Nat) (Ts : List (Option (List UInt8))) : List Ent := (List.range (many I Ts)).map (drawn I Ts)
theorem drawnL_len (I : List Nat) (Ts : List (Option (List UInt8))) : (drawnL I Ts).length = many I Ts := by simp [drawnL]
theorem rows_app (f : Ent → List PV) (a b : List Ent) : rows f (a ++ b) = rows f a ++ rows f b := by
  induction a with
  | nil => rfl
  | cons x a ih => rw [List.cons_append, rows, rows, ih, List.append_assoc]
theorem rows_one (f : Ent → List PV) (x : Ent) : rows f [x] = f x := by simp [rows]
theorem drawn_take (I : List Nat) (Ts : List (Option (List UInt8))) (j : Nat) (h : j < many I Ts) : (drawnL I Ts).take (j + 1) = (drawnL I Ts).take j ++ [drawn I Ts j] := by
  have hl : j < (drawnL I Ts).length := by rw [drawnL_len]; exact h
  rw [List.take_succ_eq_append_getElem hl]
  congr 2
  simp [drawnL]
/-- The lists of a draw. -/
structure Lists (d : Drw) (I : List Nat) (Ts : List (Option (List UInt8))) : Prop where
  ids : (d.ids = .s (.slice none 0 0) ∧ I = []) ∨ d.ids = .sl (I.map fun i : Nat => PV.s (.int .u32 (i : Int))) I.length 1 false
  trees : (d.trees = .s (.slice none 0 0) ∧ Ts = []) ∨ d.trees = .sl (Ts.map (obP false)) Ts.length 1 false
  sh : ∀ t ∈ Ts, shl t
  big : Ts.length < 2 ^ 63
theorem Lists.here {d : Drw} {I : List Nat} {Ts : List (Option (List UInt8))} (h : Lists d I Ts) (nx j : Nat) (hj : j < many I Ts) : Here nx d Ts.length j (Ts.getD j none) (I.getD j 0) := by
  unfold many at hj
  have h1 : j < I.length := by omega
  have h2 : j < Ts.length := by omega
  refine ⟨?_, ?_, h2, by omega, ?_, h.big⟩
  · rcases h.trees with ⟨e, e'⟩ | e
    · rw [e'] at h2; cases h2
    · exact ⟨_, e, by simp [h2]⟩
  · rcases h.ids with ⟨e, e'⟩ | e
    · rw [e'] at h1; cases h1
    · exact ⟨_, _, e, by simp [h1], h1⟩
  · rw [List.getD_eq_getElem?_getD, List.getElem?_eq_getElem h2]; exact h.sh _ (List.getElem_mem h2)
section
variable {H : Heap} {nx : Nat} (N : Nat) (d : Drw) (zA zB : List PV) (w : Nte) (I : List Nat) (Ts : List (Option (List UInt8)))
/-- The state ahead of a round. -/
def mT (nx : Nat) (d : Drw) (zA zB : List PV) (w : Nte) (I : List Nat) (Ts : List (Option (List UInt8))) (j : Nat) : St :=
  if j = 0 then mT0 nx d zA zB w Ts.length else mT1 nx d zA zB w Ts.length j (pc (rows (Ent.rrow true) ((drawnL I Ts).take j))) (pc (rows (Ent.row false) ((drawnL I Ts).take j)))
theorem made_step (hl : Lists d I Ts) (hR7 : ∀ H, Ω 68 [.p annF] H (nx + 7) = some (.int .i64 0, [], [])) (hR9 : ∀ H, Ω 68 [.p annF] H (nx + 9) = some (.int .i64 0, [], []))
    (hC5 : ∀ H, Ω 24 [.p (.sl ann 1 3 true)] H (nx + 5) = some (.tuple [.p (.agg [.sl ann 1 3 false]), .int .i64 0], [], []))
    (hC7 : ∀ H, Ω 24 [.p (.sl ann 1 3 true)] H (nx + 7) = some (.tuple [.p (.agg [.sl ann 1 3 false]), .int .i64 0], [], []))
    (hD7 : ∀ H, Ω 24 [.p (.s (.slice none 0 0))] H (nx + 7) = some (.tuple [.p (.agg [.s (.slice none 0 0)]), .int .i64 0], [], [])) (j : Nat) (hj : j < many I Ts) :
    runCS ⟨Ω, noG, H, nx⟩ N (.seq (tlC ir8_0) (hdC ir8_0)) (mT nx d zA zB w I Ts j) = some (.normal, mT nx d zA zB w I Ts (j + 1)) := by
  have hh := hl.here nx j hj
  have ht := drawn_take I Ts j hj
  unfold mT
  rw [if_neg (by omega : ¬ j + 1 = 0), ht, rows_app, rows_app, rows_one, rows_one]
  by_cases h0 : j = 0
  · subst h0
    rw [if_pos rfl, List.take_zero]
    exact made_step0 N d zA zB w Ts.length _ _ hh hR7 hC5
  · rw [if_neg h0, pc_app, pc_app]
    have hlen : ((drawnL I Ts).take j).length = j := by rw [List.length_take, drawnL_len]; omega
    exact made_step1 N d zA zB w Ts.length j _ _ (by omega) _ _ (by rw [rows_len _ 4 (fun _ => rfl), hlen]) (by rw [rows_len _ 5 (fun _ => rfl), hlen]) hh hR9 hC7 hD7
/-- How the loop is left. -/
def mOut (nx k : Nat) (d : Drw) (n j : Nat) : List (Nat × LV) → Prop := fun E => ∃ E', E = [(1, .ref nx 0), (2, .ref (nx + 1) 0), (3, .ref (nx + 2) 0), (4, .ref (nx + 3) 0), (5, .ref (nx + k) 0)] ++ E'
theorem made_exit (hl : Lists d I Ts) : ∃ E' : Env, runCS ⟨Ω, noG, H, nx⟩ N (tlC ir8_0) (mT nx d zA zB w I Ts (many I Ts)) = some (.exit 0, ⟨(mT nx d zA zB w I Ts (many I Ts)).env.take 5 ++ E', (mT nx d zA zB w I Ts (many I Ts)).h⟩) := by
  have hm : many I Ts = min 7 (min I.length Ts.length) := rfl
  generalize hK : many I Ts = K at *
  have hts : (d.trees = .s (.slice none 0 0) ∧ Ts.length = 0) ∨ ∃ ts, d.trees = .sl ts Ts.length 1 false ∧ ts.length = Ts.length := by
    rcases hl.trees with ⟨e, e'⟩ | e
    · exact .inl ⟨e, by rw [e']; rfl⟩
    · exact .inr ⟨_, e, by simp⟩
  have his : (d.ids = .s (.slice none 0 0) ∧ I.length = 0) ∨ ∃ is, d.ids = .sl is I.length 1 false := by
    rcases hl.ids with ⟨e, e'⟩ | e
    · exact .inl ⟨e, by rw [e']; rfl⟩
    · exact .inr ⟨_, e⟩
  have hob : ∀ (ts : List PV), ts.length = Ts.length → K < Ts.length → ∃ x, ts[K]? = some x := fun ts h1 h2 => ⟨ts[K], by simp [h1, h2]⟩
  unfold mT
  generalize rows (Ent.rrow true) ((drawnL I Ts).take K) = X
  generalize rows (Ent.row false) ((drawnL I Ts).take K) = Y
  by_cases hn : K = Ts.length
  · -- no more of them
    have g1 : ¬ K < Ts.length := by omega
    have g2 : Ts.length ≤ K := by omega
    by_cases h0 : K = 0
    · have e0 : Ts.length = 0 := by omega
      rw [if_pos h0]
      refine ⟨[(162, .p d.trees), (163, .int .i64 Ts.length), (164, .int .i64 0), (165, .bool false)], ?_⟩
      rw [e0]
      simp only [mT0, mEnv, Drw.cells, ncl, rcl, pc_cons, pc_nil]
      simp +contextual [ir8_0, tlC, ssI, ↓ssJ, List.idxOf?_cons, Go.Sx.LV.undef, Go.undef, Go.Sx.callO, Go.Sx.splice, Go.Sx.finish, Go.Sx.look, Go.Sx.push, Go.Sx.setObj, Go.Sx.setU, Go.Sx.setAll, Go.Sx.appO, Go.Sx.leI_eq, ltF]
    · rw [if_neg h0]
      refine ⟨[(162, .p d.trees), (163, .int .i64 K), (164, .int .i64 K), (165, .bool false)], ?_⟩
      rw [← hn]
      simp only [mT1, mEnv, Drw.cells, ncl, rcl, pc_cons, pc_nil]
      simp +contextual [ir8_0, tlC, ssI, ↓ssJ, List.idxOf?_cons, Go.Sx.LV.undef, Go.undef, Go.Sx.callO, Go.Sx.splice, Go.Sx.finish, Go.Sx.look, Go.Sx.push, Go.Sx.setObj, Go.Sx.setU, Go.Sx.setAll, Go.Sx.appO, Go.Sx.leI_eq, ltF]
  · have g1 : K < Ts.length := by clear hts his hob; omega
    have g2 : ¬ Ts.length ≤ K := by omega
    have g0 : ¬ Ts.length = 0 := by omega
    rcases hts with ⟨_, e⟩ | ⟨ts, e, e2⟩
    · exact absurd e g0
    obtain ⟨x, hx⟩ := hob ts e2 g1
    by_cases h0 : K = 0
    · have i0 : I.length = 0 := by omega
      have hx0 : ts[0]? = some x := by rw [← h0]; exact hx
      have g3 : 0 < Ts.length := by omega
      rw [if_pos h0]
      refine ⟨[(8, .int .i64 0), (9, .p x), (162, .p d.trees), (163, .int .i64 Ts.length), (164, .int .i64 0), (177, .bool true)], ?_⟩
      rcases his with ⟨e3, _⟩ | ⟨is, e3⟩
      · simp only [mT0, mEnv, Drw.cells, ncl, rcl, pc_cons, pc_nil, e, e3]
        simp +contextual [ir8_0, tlC, ssI, ↓ssJ, List.idxOf?_cons, Go.Sx.LV.undef, Go.undef, Go.Sx.callO, Go.Sx.splice, Go.Sx.finish, Go.Sx.look, Go.Sx.push, Go.Sx.setObj, Go.Sx.setU, Go.Sx.setAll, Go.Sx.appO, Go.Sx.leI_eq, ltF, g0, g3, hx0]
      · rw [i0] at e3
        simp only [mT0, mEnv, Drw.cells, ncl, rcl, pc_cons, pc_nil, e, e3]
        simp +contextual [ir8_0, tlC, ssI, ↓ssJ, List.idxOf?_cons, Go.Sx.LV.undef, Go.undef, Go.Sx.callO, Go.Sx.splice, Go.Sx.finish, Go.Sx.look, Go.Sx.push, Go.Sx.setObj, Go.Sx.setU, Go.Sx.setAll, Go.Sx.appO, Go.Sx.leI_eq, ltF, g0, g3, hx0]
    · rw [if_neg h0]
      refine ⟨[(8, .int .i64 K), (9, .p x), (162, .p d.trees), (163, .int .i64 Ts.length), (164, .int .i64 K), (177, .bool true)], ?_⟩
      rcases his with ⟨e3, e4⟩ | ⟨is, e3⟩
      · exact absurd (show K = 0 by rw [hm, e4]; simp) h0
      · simp only [mT1, mEnv, Drw.cells, ncl, rcl, pc_cons, pc_nil, e, e3]
        by_cases h7 : K = 7
        · have g5 : (7 : Int) ≤ K := by omega
          simp +contextual [ir8_0, tlC, ssI, ↓ssJ, List.idxOf?_cons, Go.Sx.LV.undef, Go.undef, Go.Sx.callO, Go.Sx.splice, Go.Sx.finish, Go.Sx.look, Go.Sx.push, Go.Sx.setObj, Go.Sx.setU, Go.Sx.setAll, Go.Sx.appO, Go.Sx.leI_eq, ltF, g0, g1, g2, hx, g5]
        · have g5 : ¬ (7 : Int) ≤ K := by omega
          have g6 : I.length ≤ K := by omega
          simp +contextual [ir8_0, tlC, ssI, ↓ssJ, List.idxOf?_cons, Go.Sx.LV.undef, Go.undef, Go.Sx.callO, Go.Sx.splice, Go.Sx.finish, Go.Sx.look, Go.Sx.push, Go.Sx.setObj, Go.Sx.setU, Go.Sx.setAll, Go.Sx.appO, Go.Sx.leI_eq, ltF, g0, g1, g2, hx, g5, g6]
end
end Go.Proofs.YtppeggedcaabkaaGreatDoor
end

section
namespace Go.Proofs.YtppeggedcaabkaaGreatDoor
open Go Go.Sx
set_option linter.unusedSimpArgs false
set_option linter.unusedVariables false

abbrev madeB : IRC := ir8.body
theorem made_parts : ir8 = ⟨[0], .seq (stC 0 madeB) (.seq (stC 1 madeB) (.seq (stC 2 madeB) (.seq (stC 3 madeB) (.seq (stC 4 madeB) (.seq (stC 5 madeB) (.seq (stC 6 madeB) (.seq (stC 7 madeB) (.seq (.seq (hdC (stC 8 madeB)) (.block 0 (.loop ir8_0))) (.seq (stC 9 madeB) .ret))))))))), [(2, some (15, true)), (3, some (14, true))], false⟩ := rfl
def zeroN : List PV := [.s (.int .i64 0), .s (.int .i64 0), .s (.int .i64 0), .s (.int .u64 0), .s (.int .i64 0), .s (.bool false), .s (.int .u64 0), .s (.pointer none), .s (.slice none 0 0), .s (.int .u64 0), .s (.int .i64 0), .s (.int .i64 0), .s (.bool false), .s (.pointer none), .s (.int .u64 0)]
def zeroR : List PV := [.s (.int .i64 0), .s (.int .i64 0), .s (.int .i64 0), .s (.int .u64 0), .s (.int .i64 0), .s (.bool false), .s (.pointer none), .s (.slice none 0 0), .s (.int .u64 0), .s (.int .i64 0), .s (.int .i64 0), .s (.pointer none), .s (.int .u64 0), .s (.slice none 0 0)]
section
variable {H : Heap} {nx : Nat} (N : Nat) (d : Drw)
theorem made_0 : runCS ⟨Ω, noG, H, nx⟩ N (stC 0 madeB) ⟨[(0, .p (.agg d.cells))], ⟨[], []⟩⟩ =
    some (.normal, ⟨[(1, .ref nx 0), (2, .ref (nx + 1) 0), (3, .ref (nx + 2) 0)], ⟨[], [some (.cells (pc d.cells)), some (.cells (pc zeroN)), some (.cells (pc zeroR))]⟩⟩) := by
  simp only [Drw.cells, zeroN, zeroR, pc_cons, pc_nil]
  simp +contextual [madeB, ir8, stC, ssI, ↓ssJ, List.idxOf?_cons, Go.Sx.LV.undef, Go.undef, Go.Sx.callO, Go.Sx.splice, Go.Sx.finish, Go.Sx.look, Go.Sx.push, Go.Sx.setObj, Go.Sx.setU, Go.Sx.setAll, Go.Sx.appO, Go.Sx.leI_eq, ltF]
theorem made_head (n : Nat) (w : Nte) : runCS ⟨Ω, noG, H, nx⟩ N (hdC ir8_0) (mT0 nx d zeroN zeroR w n) = some (.normal, mT0 nx d zeroN zeroR w n) := by
  simp only [mT0, mEnv, Drw.cells, ncl, rcl, zeroN, zeroR, pc_cons, pc_nil]
  simp +contextual [ir8_0, hdC, ssI, ↓ssJ, List.idxOf?_cons, Go.Sx.LV.undef, Go.undef, Go.Sx.callO, Go.Sx.splice, Go.Sx.finish, Go.Sx.look, Go.Sx.push, Go.Sx.setObj, Go.Sx.setU, Go.Sx.setAll, Go.Sx.appO, Go.Sx.leI_eq, ltF]
/-- What the law's notes are. -/
def Drw.pair (d : Drw) (I : List Nat) (Ts : List (Option (List UInt8))) : LV := .tuple [.p ((d.note (drawnL I Ts)).pv false), .p ((d.note (drawnL I Ts)).rv true)]
theorem made_end (f : IRF) (hf : f.results = [(2, some (15, true)), (3, some (14, true))] ∧ f.own = false) (I : List Nat) (Ts : List (Option (List UInt8))) (E' : Env) : bindK (runCS ⟨Ω, noG, H, nx⟩ N (.seq (stC 9 madeB) .ret) ⟨(mT nx d zeroN zeroR (d.note []) I Ts (many I Ts)).env.take 5 ++ E', (mT nx d zeroN zeroR (d.note []) I Ts (many I Ts)).h⟩) (finK f H nx) = some (d.pair I Ts, [], []) := by
  obtain ⟨hf1, hf2⟩ := hf
  have hl := drawnL_len I Ts
  unfold Drw.pair
  by_cases h0 : many I Ts = 0
  · unfold mT
    rw [if_pos h0]
    have hL : drawnL I Ts = [] := List.eq_nil_of_length_eq_zero (by rw [hl, h0])
    rw [hL]
    simp only [mT0, mEnv, Drw.cells, ncl, rcl, zeroN, zeroR, Nte.pv, Nte.rv, Nte.cells, Nte.rcells, pc_cons, pc_nil]
    generalize d.gift1 = g
    generalize d.no1 = no1
    generalize d.ev = E
    simp +contextual [madeB, ir8, stC, ssI, ↓ssJ, List.idxOf?_cons, Go.Sx.LV.undef, Go.undef, Go.Sx.callO, Go.Sx.splice, Go.Sx.finish, Go.Sx.look, Go.Sx.push, Go.Sx.setObj, Go.Sx.setU, Go.Sx.setAll, Go.Sx.appO, Go.Sx.leI_eq, ltF, hf1, hf2, entP]
  · unfold mT
    rw [if_neg h0]
    have hL : drawnL I Ts ≠ [] := by intro e; rw [e] at hl; exact h0 hl.symm
    have e1 := rows_len (Ent.row false) 5 (fun _ => rfl) (drawnL I Ts)
    have e2 := rows_len (Ent.rrow true) 4 (fun _ => rfl) (drawnL I Ts)
    have ht : (drawnL I Ts).take (many I Ts) = drawnL I Ts := by rw [← hl, List.take_length]
    simp only [mT1, mEnv, Drw.cells, ncl, rcl, zeroN, zeroR, Nte.pv, Nte.rv, Nte.cells, Nte.rcells, pc_cons, pc_nil, entP, if_neg hL, ht, hl]
    rw [hl] at e1 e2
    generalize rows (Ent.row false) (drawnL I Ts) = Y at *
    generalize rows (Ent.rrow true) (drawnL I Ts) = X at *
    generalize many I Ts = K at *
    generalize d.gift1 = g
    generalize d.no1 = no1
    generalize d.ev = E
    have hXl : (pc X).length = K * 4 := by rw [pc_len, e2]
    have hYl : (pc Y).length = K * 5 := by rw [pc_len, e1]
    have t1 : List.take (K * 4) (pc X) = pc X := by rw [← hXl, List.take_length]
    have t2 : List.take (K * 5) (pc Y) = pc Y := by rw [← hYl, List.take_length]
    simp +contextual [madeB, ir8, stC, ssI, ↓ssJ, List.idxOf?_cons, Go.Sx.LV.undef, Go.undef, Go.Sx.callO, Go.Sx.splice, Go.Sx.finish, Go.Sx.look, Go.Sx.push, Go.Sx.setObj, Go.Sx.setU, Go.Sx.setAll, Go.Sx.appO, Go.Sx.leI_eq, ltF, hf1, hf2, hXl, hYl, t1, t2, allP_pc, ids_pc, ren_pc]
end
end Go.Proofs.YtppeggedcaabkaaGreatDoor
end

section
namespace Go.Proofs.YtppeggedcaabkaaGreatDoor
open Go Go.Sx
set_option linter.unusedSimpArgs false
set_option linter.unusedVariables false

theorem runCS_then4 {c : Ctx} {n : Nat} {a b d e r : IRC} {st st' : St} (h : runCS c n (.seq a (.seq b d)) st = some (.normal, st')) : runCS c n (.seq a (.seq b (.seq (.seq d e) r))) st = runCS c n (.seq e r) st' := by
  rw [runCS_seq] at h ⊢
  cases q : runCS c n a st with
  | none => rw [q] at h; cases h
  | some y =>
    obtain ⟨x, s⟩ := y
    rw [q] at h
    cases x with
    | normal =>
      simp only [] at h ⊢
      rw [runCS_seq] at h ⊢
      cases q2 : runCS c n b s with
      | none => rw [q2] at h; cases h
      | some y =>
        obtain ⟨x, s⟩ := y
        rw [q2] at h
        cases x with
        | normal => simp only [] at h ⊢; rw [runCS_assoc, runCS_then h]
        | exit i => simp at h
        | ret => simp at h
        | goto i => simp at h
    | exit i => simp at h
    | ret => simp at h
    | goto i => simp at h
theorem Drw.made_k (d : Drw) : d.made.kind = d.kind ∧ d.made.fr = d.fr ∧ d.made.to = d.to ∧ d.made.share = d.share := by
  unfold Drw.made
  split <;> exact ⟨rfl, rfl, rfl, rfl⟩
theorem made_loopE : ir8_0 = .seq (hdC ir8_0) (tlC ir8_0) := rfl
theorem many_lt (I : List Nat) (Ts : List (Option (List UInt8))) : many I Ts < 8 := by unfold many; omega
/-- What the law's notes are. -/
theorem made_ (d : Drw) (I : List Nat) (Ts : List (Option (List UInt8))) (hl : Lists d.made I Ts) (hT : shl d.made.tree) (hS : shl d.share) (H : Heap) (nx : Nat)
    (hR7 : ∀ H, Ω 68 [.p annF] H (nx + 7) = some (.int .i64 0, [], [])) (hR9 : ∀ H, Ω 68 [.p annF] H (nx + 9) = some (.int .i64 0, [], []))
    (hC5 : ∀ H, Ω 24 [.p (.sl ann 1 3 true)] H (nx + 5) = some (.tuple [.p (.agg [.sl ann 1 3 false]), .int .i64 0], [], []))
    (hC7 : ∀ H, Ω 24 [.p (.sl ann 1 3 true)] H (nx + 7) = some (.tuple [.p (.agg [.sl ann 1 3 false]), .int .i64 0], [], []))
    (hD7 : ∀ H, Ω 24 [.p (.s (.slice none 0 0))] H (nx + 7) = some (.tuple [.p (.agg [.s (.slice none 0 0)]), .int .i64 0], [], [])) :
    Ω 8 [.p (.agg d.cells)] H nx = some (d.made.pair I Ts, [], []) := by
  refine om_run (ir := ir8) (by kernel_rfl) 8 ?_
  rw [runF_I, made_parts]
  refine (if_pos rfl).trans ?_
  obtain ⟨k1, k2, k3, k4⟩ := d.made_k
  have a0 := made_0 (H := H) (nx := nx) 8 d
  have a1 := made_12 (H := H) (nx := nx) 8 d (some (.cells (pc zeroN))) (some (.cells (pc zeroR))) (.ref (nx + 1) 0) (.ref (nx + 2) 0)
  have a2 := made_345 (H := H) (nx := nx) 8 d.made (some (.cells (pc zeroN))) (some (.cells (pc zeroR))) (.ref (nx + 1) 0) (.ref (nx + 2) 0) hT
  rw [k1, k2, k3] at a2
  have hL : Lst Ts.length d.made.trees := by
    rcases hl.trees with ⟨e, e'⟩ | e
    · exact .inl ⟨e, by rw [e']; rfl⟩
    · exact .inr ⟨_, e⟩
  have a3 := made_67 (H := H) (nx := nx) 8 d.made (some (.cells (pc zeroN))) (some (.cells (pc zeroR))) (.ref (nx + 1) 0) (.ref (nx + 2) 0) (by rw [k4]; exact hS) _ hL
  have eT : mT0 nx d.made zeroN zeroR (d.made.note []) Ts.length = mT nx d.made zeroN zeroR (d.made.note []) I Ts 0 := by unfold mT; rw [if_pos rfl]
  have h0 := made_head (H := H) (nx := nx) 8 d.made Ts.length (d.made.note [])
  obtain ⟨E', he⟩ := made_exit (H := H) (nx := nx) 8 d.made zeroN zeroR (d.made.note []) I Ts hl
  have lp := iter_tidy made_loopE (by rw [eT] at h0; exact h0) (fun j hj => made_step (H := H) (nx := nx) 8 d.made zeroN zeroR (d.made.note []) I Ts hl hR7 hR9 hC5 hC7 hD7 j hj) he (by intro e; cases e) (many_lt I Ts)
  have en := fun f hf => made_end (H := H) (nx := nx) 8 d.made f hf I Ts E'
  rw [← eT] at lp
  have z : [0].zip [LV.p (.agg d.cells)] = [(0, .p (.agg d.cells))] := rfl
  show bindK (runCS _ 8 _ ⟨[0].zip [LV.p (.agg d.cells)], ⟨[], []⟩⟩) _ = _
  rw [z, runCS_then a0, runCS_then2 a1, runCS_then3 a2, runCS_then4 a3, runCS_seq, runCS_block, runCS_loop]
  have rcz : pc ((d.made.note []).rcells false) = rcl (d.made.note []) (.p (.s (.slice none 0 0))) := by simp [rcl, Nte.rcells, entP, pc_cons, pc_nil]
  have ncz : pc ((d.made.note []).cells false) = ncl (d.made.note []) (.p (.s (.slice none 0 0))) := by simp [ncl, Nte.cells, entP, pc_cons, pc_nil]
  rw [rcz, ncz]
  have lp2 : iter (runCS ⟨Ω, noG, H, nx⟩ 8 ir8_0) 8 _ = _ := lp
  unfold mT0 mEnv at lp2
  rw [show ((0 : Nat) : Int) = 0 from rfl] at lp2
  rw [lp2]
  exact en _ ⟨rfl, rfl⟩
end Go.Proofs.YtppeggedcaabkaaGreatDoor
end

section
namespace Go.Proofs.YtppeggedcaabkaaGreatDoor
open Go Go.Sx
set_option linter.unusedSimpArgs false
set_option linter.unusedVariables false

section same
variable {H : Heap} {nx : Nat} {F G : List UInt8} {x y : LV}
theorem same_eq {n : Nat} (g1 : Bs H nx x F) (g2 : Bs H nx y G) (h62 : F.length < 2 ^ 62) {j : Nat} {a b : UInt8} (ha : F[j]? = some a) (hb : G[j]? = some b) (e : a = b) :
    runCS ⟨Ω, noG, H, nx⟩ n ir11_0 ⟨[(0, x), (1, y), (12, .int .i64 F.length), (13, .int .i64 j)], ⟨[], []⟩⟩ =
      some (.normal, ⟨[(0, x), (1, y), (12, .int .i64 F.length), (13, .int .i64 (j + 1 : Nat))], ⟨[], []⟩⟩) := by
  obtain ⟨hlt, _⟩ := List.getElem?_eq_some_iff.1 ha
  obtain ⟨hlt2, _⟩ := List.getElem?_eq_some_iff.1 hb
  have h8 : ¬ (F.length : Int) ≤ j := by omega
  have hw : IntKind.i64.wrap ((j : Int) + 1) = (j : Int) + 1 := wrap_i64 _ (by omega) (by omega)
  have hba := byt_get ha
  have hbb := byt_get hb
  subst e
  cases g1 with
  | nil => simp at ha
  | sl _ fl =>
    cases g2 with
    | nil => simp at hb
    | sl _ fl => simp [ir11_0, ssB, List.idxOf?_cons, Go.Sx.LV.undef, Go.undef, Go.Sx.callO, Go.Sx.splice, Go.Sx.finish, Go.Sx.look, Go.Sx.push, Go.Sx.setObj, Go.Sx.setU, Go.Sx.setAll, Go.Sx.appO, Go.Sx.leI_eq, ltF, h8, hw, hlt, hlt2, hba, hbb, bytP_map]
    | arr _ G' id off cp ex h1 h2 h3 h4 =>
      have hb2 := byt_get (sub_get h4 hb)
      simp [ir11_0, ssB, List.idxOf?_cons, Go.Sx.LV.undef, Go.undef, Go.Sx.callO, Go.Sx.splice, Go.Sx.finish, Go.Sx.look, Go.Sx.push, Go.Sx.setObj, Go.Sx.setU, Go.Sx.setAll, Go.Sx.appO, Go.Sx.leI_eq, ltF, h8, hw, hlt, hlt2, hba, hb2, bytP_map, h1, h2]
  | arr _ F' id' off' cp' ex' k1 k2 k3 k4 =>
    have ha2 := byt_get (sub_get k4 ha)
    cases g2 with
    | nil => simp at hb
    | sl _ fl => simp [ir11_0, ssB, List.idxOf?_cons, Go.Sx.LV.undef, Go.undef, Go.Sx.callO, Go.Sx.splice, Go.Sx.finish, Go.Sx.look, Go.Sx.push, Go.Sx.setObj, Go.Sx.setU, Go.Sx.setAll, Go.Sx.appO, Go.Sx.leI_eq, ltF, h8, hw, hlt, hlt2, ha2, hbb, bytP_map, k1, k2]
    | arr _ G' id off cp ex h1 h2 h3 h4 =>
      have hb2 := byt_get (sub_get h4 hb)
      simp [ir11_0, ssB, List.idxOf?_cons, Go.Sx.LV.undef, Go.undef, Go.Sx.callO, Go.Sx.splice, Go.Sx.finish, Go.Sx.look, Go.Sx.push, Go.Sx.setObj, Go.Sx.setU, Go.Sx.setAll, Go.Sx.appO, Go.Sx.leI_eq, ltF, h8, hw, hlt, hlt2, ha2, hb2, bytP_map, h1, h2, k1, k2]
theorem same_ne {n : Nat} (g1 : Bs H nx x F) (g2 : Bs H nx y G) {j : Nat} {a b : UInt8} (ha : F[j]? = some a) (hb : G[j]? = some b) (e : a ≠ b) :
    runCS ⟨Ω, noG, H, nx⟩ n ir11_0 ⟨[(0, x), (1, y), (12, .int .i64 F.length), (13, .int .i64 j)], ⟨[], []⟩⟩ =
      some (.ret, ⟨[(4, .bool false)], ⟨[], []⟩⟩) := by
  obtain ⟨hlt, _⟩ := List.getElem?_eq_some_iff.1 ha
  obtain ⟨hlt2, _⟩ := List.getElem?_eq_some_iff.1 hb
  have h8 : ¬ (F.length : Int) ≤ j := by omega
  have hba := byt_get ha
  have hbb := byt_get hb
  have e' : ¬ a.toNat = b.toNat := fun h => e (UInt8.toNat_inj.1 h)
  have e2 : ¬ (a.toNat : Int) = b.toNat := fun h => e' (by omega)
  cases g1 with
  | nil => simp at ha
  | sl _ fl =>
    cases g2 with
    | nil => simp at hb
    | sl _ fl => simp [ir11_0, ssB, List.idxOf?_cons, Go.Sx.LV.undef, Go.undef, Go.Sx.callO, Go.Sx.splice, Go.Sx.finish, Go.Sx.look, Go.Sx.push, Go.Sx.setObj, Go.Sx.setU, Go.Sx.setAll, Go.Sx.appO, Go.Sx.leI_eq, ltF, h8, hlt, hlt2, hba, hbb, bytP_map, e', e2]
    | arr _ G' id off cp ex h1 h2 h3 h4 =>
      have hb2 := byt_get (sub_get h4 hb)
      simp [ir11_0, ssB, List.idxOf?_cons, Go.Sx.LV.undef, Go.undef, Go.Sx.callO, Go.Sx.splice, Go.Sx.finish, Go.Sx.look, Go.Sx.push, Go.Sx.setObj, Go.Sx.setU, Go.Sx.setAll, Go.Sx.appO, Go.Sx.leI_eq, ltF, h8, hlt, hlt2, hba, hb2, bytP_map, h1, h2, e', e2]
  | arr _ F' id' off' cp' ex' k1 k2 k3 k4 =>
    have ha2 := byt_get (sub_get k4 ha)
    cases g2 with
    | nil => simp at hb
    | sl _ fl => simp [ir11_0, ssB, List.idxOf?_cons, Go.Sx.LV.undef, Go.undef, Go.Sx.callO, Go.Sx.splice, Go.Sx.finish, Go.Sx.look, Go.Sx.push, Go.Sx.setObj, Go.Sx.setU, Go.Sx.setAll, Go.Sx.appO, Go.Sx.leI_eq, ltF, h8, hlt, hlt2, ha2, hbb, bytP_map, k1, k2, e', e2]
    | arr _ G' id off cp ex h1 h2 h3 h4 =>
      have hb2 := byt_get (sub_get h4 hb)
      simp [ir11_0, ssB, List.idxOf?_cons, Go.Sx.LV.undef, Go.undef, Go.Sx.callO, Go.Sx.splice, Go.Sx.finish, Go.Sx.look, Go.Sx.push, Go.Sx.setObj, Go.Sx.setU, Go.Sx.setAll, Go.Sx.appO, Go.Sx.leI_eq, ltF, h8, hlt, hlt2, ha2, hb2, bytP_map, h1, h2, k1, k2, e', e2]
theorem same_out {n len : Nat} : runCS ⟨Ω, noG, H, nx⟩ n ir11_0 ⟨[(0, x), (1, y), (12, .int .i64 len), (13, .int .i64 len)], ⟨[], []⟩⟩ =
    some (.exit 0, ⟨[(0, x), (1, y), (12, .int .i64 len), (13, .int .i64 len), (14, .bool false)], ⟨[], []⟩⟩) := by
  simp [ir11_0, ssB, List.idxOf?_cons, Go.Sx.LV.undef, Go.undef, Go.Sx.callO, Go.Sx.splice, Go.Sx.finish, Go.Sx.look, Go.Sx.push, Go.Sx.setObj, Go.Sx.setU, Go.Sx.setAll, Go.Sx.appO, Go.Sx.leI_eq, ltF]
theorem same_all {n : Nat} (g1 : Bs H nx x F) (g2 : Bs H nx y G) (hl : F.length = G.length) (h62 : F.length < 2 ^ 62) : ∀ (k q j : Nat), j + k = F.length → k < q →
    iter (runCS ⟨Ω, noG, H, nx⟩ n ir11_0) q ⟨[(0, x), (1, y), (12, .int .i64 F.length), (13, .int .i64 j)], ⟨[], []⟩⟩ =
      if F.drop j = G.drop j then some (.exit 0, ⟨[(0, x), (1, y), (12, .int .i64 F.length), (13, .int .i64 F.length), (14, .bool false)], ⟨[], []⟩⟩) else some (.ret, ⟨[(4, .bool false)], ⟨[], []⟩⟩) := by
  intro k
  induction k with
  | zero =>
    intro q j hj hq
    obtain ⟨q, rfl⟩ : ∃ r, q = r + 1 := ⟨q - 1, by omega⟩
    obtain rfl : j = F.length := by omega
    rw [iter_out same_out (by simp), if_pos (by rw [List.drop_length, hl, List.drop_length])]
  | succ k ih =>
    intro q j hj hq
    obtain ⟨q, rfl⟩ : ∃ r, q = r + 1 := ⟨q - 1, by omega⟩
    have h1 : j < F.length := by omega
    have h2 : j < G.length := by omega
    have hiff : (F.drop j = G.drop j) ↔ (F[j] = G[j] ∧ F.drop (j + 1) = G.drop (j + 1)) := by rw [List.drop_eq_getElem_cons h1, List.drop_eq_getElem_cons h2, List.cons.injEq]
    by_cases e : F[j] = G[j]
    · rw [iter_step (same_eq g1 g2 h62 (List.getElem?_eq_getElem h1) (List.getElem?_eq_getElem h2) e), ih q (j + 1) (by omega) (by omega)]
      simp only [hiff, e, true_and]
    · rw [iter_out (same_ne g1 g2 (List.getElem?_eq_getElem h1) (List.getElem?_eq_getElem h2) e) (by simp), if_neg (fun h => e (hiff.1 h).1)]
theorem rsame_ (g1 : Bs H nx x F) (g2 : Bs H nx y G) (h62 : F.length < 2 ^ 62) : Ω 11 [x, y] H nx = some (.bool (decide (F = G)), [], []) := by
  refine om_run (ir := ir11) (by kernel_rfl) (F.length + 1) ?_
  by_cases hl : F.length = G.length
  · have hs := same_all (n := F.length + 1) g1 g2 hl h62 F.length (F.length + 1) 0 (by omega) (by omega)
    simp only [Int.natCast_zero, Int.ofNat_zero, List.drop_zero] at hs
    have hb : ((F.length : Int) != (G.length : Int)) = false := by simp [hl]
    have hb0 : F = [] → (G.length : Int) = 0 := fun e => by subst e; simp at hl; omega
    obtain ⟨D, hD⟩ : ∃ D, decide (F = G) = D := ⟨_, rfl⟩
    have hs2 : iter (runCS ⟨Ω, noG, H, nx⟩ (F.length + 1) ir11_0) (F.length + 1) ⟨[(0, x), (1, y), (12, .int .i64 F.length), (13, .int .i64 0)], ⟨[], []⟩⟩ =
        if D = true then some (.exit 0, ⟨[(0, x), (1, y), (12, .int .i64 F.length), (13, .int .i64 F.length), (14, .bool false)], ⟨[], []⟩⟩) else some (.ret, ⟨[(4, .bool false)], ⟨[], []⟩⟩) := by
      rw [hs, ← hD]
      by_cases e : F = G
      · rw [if_pos e]; simp [e]
      · rw [if_neg e]; simp [e]
    rw [hD]
    clear hs hD
    cases g1 with
    | nil =>
      have hb1 := hb0 rfl
      clear hb hb0
      simp only [List.length_nil, Int.natCast_zero, Int.ofNat_zero] at hs2
      cases g2 <;> cases D <;> simp [ir11, ssB, List.idxOf?_cons, Go.Sx.LV.undef, Go.undef, Go.Sx.callO, Go.Sx.splice, Go.Sx.finish, Go.Sx.look, Go.Sx.push, Go.Sx.setObj, Go.Sx.setU, Go.Sx.setAll, Go.Sx.appO, Go.Sx.leI_eq, ltF, hs2, hb1]
    | sl _ fl =>
      clear hb0
      cases g2 with
      | nil =>
        obtain rfl : F = [] := List.eq_nil_of_length_eq_zero hl
        simp only [List.length_nil, Int.natCast_zero, Int.ofNat_zero] at hs2
        cases D <;> simp [ir11, ssB, List.idxOf?_cons, Go.Sx.LV.undef, Go.undef, Go.Sx.callO, Go.Sx.splice, Go.Sx.finish, Go.Sx.look, Go.Sx.push, Go.Sx.setObj, Go.Sx.setU, Go.Sx.setAll, Go.Sx.appO, Go.Sx.leI_eq, ltF, hs2]
      | _ => cases D <;> simp [ir11, ssB, List.idxOf?_cons, Go.Sx.LV.undef, Go.undef, Go.Sx.callO, Go.Sx.splice, Go.Sx.finish, Go.Sx.look, Go.Sx.push, Go.Sx.setObj, Go.Sx.setU, Go.Sx.setAll, Go.Sx.appO, Go.Sx.leI_eq, ltF, hs2, hb]
    | arr _ F' id' off' cp' ex' k1 k2 k3 k4 =>
      clear hb0
      cases g2 with
      | nil =>
        obtain rfl : F = [] := List.eq_nil_of_length_eq_zero hl
        simp only [List.length_nil, Int.natCast_zero, Int.ofNat_zero] at hs2
        cases D <;> simp [ir11, ssB, List.idxOf?_cons, Go.Sx.LV.undef, Go.undef, Go.Sx.callO, Go.Sx.splice, Go.Sx.finish, Go.Sx.look, Go.Sx.push, Go.Sx.setObj, Go.Sx.setU, Go.Sx.setAll, Go.Sx.appO, Go.Sx.leI_eq, ltF, hs2]
      | _ => cases D <;> simp [ir11, ssB, List.idxOf?_cons, Go.Sx.LV.undef, Go.undef, Go.Sx.callO, Go.Sx.splice, Go.Sx.finish, Go.Sx.look, Go.Sx.push, Go.Sx.setObj, Go.Sx.setU, Go.Sx.setAll, Go.Sx.appO, Go.Sx.leI_eq, ltF, hs2, hb]
  · have e : ¬ F = G := fun e => hl (by rw [e])
    have hb : ((F.length : Int) != (G.length : Int)) = true := by simp; omega
    have e' : decide (F = G) = false := by simpa using e
    rw [e']
    have hl' : ¬ (F.length : Int) = G.length := by omega
    cases g1 with
    | nil =>
      simp only [List.length_nil, Int.natCast_zero, Int.ofNat_zero] at hl'
      cases g2 <;> simp [ir11, ssB, List.idxOf?_cons, Go.Sx.LV.undef, Go.undef, Go.Sx.callO, Go.Sx.splice, Go.Sx.finish, Go.Sx.look, Go.Sx.push, Go.Sx.setObj, Go.Sx.setU, Go.Sx.setAll, Go.Sx.appO, Go.Sx.leI_eq, ltF, hl'] <;> simp at hl
    | sl _ fl =>
      cases g2 with
      | nil =>
        have hF : ¬ F = [] := fun e => hl (by rw [e])
        simp [ir11, ssB, List.idxOf?_cons, Go.Sx.LV.undef, Go.undef, Go.Sx.callO, Go.Sx.splice, Go.Sx.finish, Go.Sx.look, Go.Sx.push, Go.Sx.setObj, Go.Sx.setU, Go.Sx.setAll, Go.Sx.appO, Go.Sx.leI_eq, ltF, hF]
      | _ => simp [ir11, ssB, List.idxOf?_cons, Go.Sx.LV.undef, Go.undef, Go.Sx.callO, Go.Sx.splice, Go.Sx.finish, Go.Sx.look, Go.Sx.push, Go.Sx.setObj, Go.Sx.setU, Go.Sx.setAll, Go.Sx.appO, Go.Sx.leI_eq, ltF, hb, hl', hl]
    | arr _ F' id' off' cp' ex' k1 k2 k3 k4 =>
      cases g2 with
      | nil =>
        have hF : ¬ F = [] := fun e => hl (by rw [e])
        simp [ir11, ssB, List.idxOf?_cons, Go.Sx.LV.undef, Go.undef, Go.Sx.callO, Go.Sx.splice, Go.Sx.finish, Go.Sx.look, Go.Sx.push, Go.Sx.setObj, Go.Sx.setU, Go.Sx.setAll, Go.Sx.appO, Go.Sx.leI_eq, ltF, hF]
      | _ => simp [ir11, ssB, List.idxOf?_cons, Go.Sx.LV.undef, Go.undef, Go.Sx.callO, Go.Sx.splice, Go.Sx.finish, Go.Sx.look, Go.Sx.push, Go.Sx.setObj, Go.Sx.setU, Go.Sx.setAll, Go.Sx.appO, Go.Sx.leI_eq, ltF, hb, hl', hl]
end same
end Go.Proofs.YtppeggedcaabkaaGreatDoor
end

section
namespace Go.Proofs.YtppeggedcaabkaaGreatDoor
open Go Go.Sx
set_option linter.unusedSimpArgs false
set_option linter.unusedVariables false

theorem same_pp (F G : List UInt8) (h62 : F.length < 2 ^ 62) (H : Heap) (nx : Nat) : Ω 11 [.p (.sl (bytP F) F.length 1 false), .p (.sl (bytP G) G.length 1 false)] H nx = some (.bool (decide (F = G)), [], []) :=
  rsame_ (.sl F false) (.sl G false) h62
theorem same_np (G : List UInt8) (h62 : G.length < 2 ^ 62) (H : Heap) (nx : Nat) : Ω 11 [.p (.s (.slice none 0 0)), .p (.sl (bytP G) G.length 1 false)] H nx = some (.bool (decide ([] = G)), [], []) :=
  rsame_ .nil (.sl G false) (by simp)
theorem same_pn (F : List UInt8) (h62 : F.length < 2 ^ 62) (H : Heap) (nx : Nat) : Ω 11 [.p (.sl (bytP F) F.length 1 false), .p (.s (.slice none 0 0))] H nx = some (.bool (decide (F = [])), [], []) :=
  rsame_ (.sl F false) .nil h62
theorem same_nn (H : Heap) (nx : Nat) : Ω 11 [.p (.s (.slice none 0 0)), .p (.s (.slice none 0 0))] H nx = some (.bool true, [], []) := by
  rw [rsame_ .nil .nil (by simp)]; rfl
abbrev apB : IRC := ir3.body
noncomputable abbrev apc : Ctx := ⟨Ω, noG, noH, 0⟩
section
variable (a b : Drw) (M N : Nte) (same : Bool)
abbrev apS (same : Bool) (a b : Drw) : St := ⟨[(2, .bool same), (3, .p (.imm a.cells 0)), (4, .ref 0 0), (20, .bool false)], ⟨[], [some (.cells (pc b.cells))]⟩⟩
theorem apart_01 : runCS apc 0 (.seq (stC 0 apB) (stC 1 apB)) ⟨[(0, .p (.agg a.cells)), (1, .p (.agg b.cells)), (2, .bool same)], ⟨[], []⟩⟩ = some (.normal, apS same a b) := by
  have aw := awake_1
  simp only [apS, Drw.cells, pc_cons, pc_nil]
  simp +contextual [apB, ir3, stC, ssI, ↓ssJ, List.idxOf?_cons, Go.Sx.LV.undef, Go.undef, Go.Sx.callO, Go.Sx.splice, Go.Sx.finish, Go.Sx.look, Go.Sx.push, Go.Sx.setObj, Go.Sx.setU, Go.Sx.setAll, Go.Sx.appO, Go.Sx.leI_eq, ltF, aw]
theorem apart_23 (hA : ∀ H, Ω 8 [.p (.agg a.cells)] H 1 = some (.tuple [.p (M.pv false), .p (M.rv true)], [], [])) : runCS apc 0 (.seq (stC 2 apB) (stC 3 apB)) (apS same a b) =
    some (.normal, ⟨[(2, .bool same), (4, .ref 0 0), (7, .p (.imm (M.cells false) 0)), (8, .p (.imm (M.rcells true) 0))], ⟨[], [some (.cells (pc (if same = true then a else b).cells))]⟩⟩) := by
  cases same with
  | true =>
    rw [if_pos rfl]
    simp only [apS, Drw.cells, Nte.pv, Nte.rv, Nte.cells, Nte.rcells, pc_cons, pc_nil] at hA ⊢
    simp +contextual [apB, ir3, stC, ssI, ↓ssJ, List.idxOf?_cons, Go.Sx.LV.undef, Go.undef, Go.Sx.callO, Go.Sx.splice, Go.Sx.finish, Go.Sx.look, Go.Sx.push, Go.Sx.setObj, Go.Sx.setU, Go.Sx.setAll, Go.Sx.appO, Go.Sx.leI_eq, ltF, hA]
  | false =>
    rw [if_neg (by decide)]
    simp only [apS, Drw.cells, Nte.pv, Nte.rv, Nte.cells, Nte.rcells, pc_cons, pc_nil] at hA ⊢
    simp +contextual [apB, ir3, stC, ssI, ↓ssJ, List.idxOf?_cons, Go.Sx.LV.undef, Go.undef, Go.Sx.callO, Go.Sx.splice, Go.Sx.finish, Go.Sx.look, Go.Sx.push, Go.Sx.setObj, Go.Sx.setU, Go.Sx.setAll, Go.Sx.appO, Go.Sx.leI_eq, ltF, hA]
theorem apart_4 (hB : ∀ H, Ω 8 [.p (.agg b.cells)] H 1 = some (.tuple [.p (N.pv false), .p (N.rv true)], [], [])) (x y : List PV) : runCS apc 0 (stC 4 apB) ⟨[(2, .bool same), (4, .ref 0 0), (7, .p (.imm x 0)), (8, .p (.imm y 0))], ⟨[], [some (.cells (pc b.cells))]⟩⟩ =
    some (.normal, ⟨[(2, .bool same), (7, .p (.imm x 0)), (8, .p (.imm y 0)), (9, .p (.imm (N.cells false) 0)), (10, .p (.imm (N.rcells true) 0))], ⟨[], []⟩⟩) := by
  simp only [Drw.cells, Nte.pv, Nte.rv, Nte.cells, Nte.rcells, pc_cons, pc_nil] at hB ⊢
  simp +contextual [apB, ir3, stC, ssI, ↓ssJ, List.idxOf?_cons, Go.Sx.LV.undef, Go.undef, Go.Sx.callO, Go.Sx.splice, Go.Sx.finish, Go.Sx.look, Go.Sx.push, Go.Sx.setObj, Go.Sx.setU, Go.Sx.setAll, Go.Sx.appO, Go.Sx.leI_eq, ltF, hB]
theorem apart_56 (p q : LV) (e f : LV) (hM : ∀ H nx, Ω 9 [.p (M.pv false)] H nx = some (.tuple [p, e], [], [])) (hN : ∀ H nx, Ω 9 [.p (N.pv false)] H nx = some (.tuple [q, f], [], [])) :
    runCS apc 0 (.seq (stC 5 apB) (stC 6 apB)) ⟨[(2, .bool same), (7, .p (.imm (M.cells false) 0)), (8, .p (.imm (M.rcells true) 0)), (9, .p (.imm (N.cells false) 0)), (10, .p (.imm (N.rcells true) 0))], ⟨[], []⟩⟩ = some (.normal, ⟨[(2, .bool same), (7, .p (.imm (M.cells false) 0)), (8, .p (.imm (M.rcells true) 0)), (9, .p (.imm (N.cells false) 0)), (10, .p (.imm (N.rcells true) 0)), (11, p), (12, e), (13, q), (14, f)], ⟨[], []⟩⟩) := by
  simp only [Nte.pv, Nte.cells, Nte.rcells] at hM hN ⊢
  simp +contextual [apB, ir3, stC, ssI, ↓ssJ, List.idxOf?_cons, Go.Sx.LV.undef, Go.undef, Go.Sx.callO, Go.Sx.splice, Go.Sx.finish, Go.Sx.look, Go.Sx.push, Go.Sx.setObj, Go.Sx.setU, Go.Sx.setAll, Go.Sx.appO, Go.Sx.leI_eq, ltF, hM, hN]
theorem apart_78 (p q u v : LV) (e f e' f' : LV)
    (hM' : ∀ H nx, Ω 10 [.p (M.rv true)] H nx = some (.tuple [u, e'], [], [])) (hN' : ∀ H nx, Ω 10 [.p (N.rv true)] H nx = some (.tuple [v, f'], [], [])) :
    runCS apc 0 (.seq (stC 7 apB) (stC 8 apB)) ⟨[(2, .bool same), (7, .p (.imm (M.cells false) 0)), (8, .p (.imm (M.rcells true) 0)), (9, .p (.imm (N.cells false) 0)), (10, .p (.imm (N.rcells true) 0)), (11, p), (12, e), (13, q), (14, f)], ⟨[], []⟩⟩ =
    some (.normal, ⟨[(2, .bool same), (7, .p (.imm (M.cells false) 0)), (9, .p (.imm (N.cells false) 0)), (11, p), (12, e), (13, q), (14, f), (15, u), (17, v)], ⟨[], []⟩⟩) := by
  simp only [Nte.rv, Nte.cells, Nte.rcells] at hM' hN' ⊢
  simp +contextual [apB, ir3, stC, ssI, ↓ssJ, List.idxOf?_cons, Go.Sx.LV.undef, Go.undef, Go.Sx.callO, Go.Sx.splice, Go.Sx.finish, Go.Sx.look, Go.Sx.push, Go.Sx.setObj, Go.Sx.setU, Go.Sx.setAll, Go.Sx.appO, Go.Sx.leI_eq, ltF, hM', hN']
theorem apart_9 (p q u v : LV) (e f : Int) (s1 s2 : Bool) (h1 : ∀ H nx, Ω 11 [p, q] H nx = some (.bool s1, [], [])) (h2 : ∀ H nx, Ω 11 [u, v] H nx = some (.bool s2, [], [])) :
    runCS apc 0 (stC 9 apB) ⟨[(2, .bool same), (7, .p (.imm (M.cells false) 0)), (9, .p (.imm (N.cells false) 0)), (11, p), (12, .int .i64 e), (13, q), (14, .int .i64 f), (15, u), (17, v)], ⟨[], []⟩⟩ =
    some (.normal, ⟨[(6, .bool ((s1 == s2) && ((!same) || (decide (e = f) && s1)) && ((!decide (e = 0)) || (!decide (f = 0)) || (!s1) || (decide (M.fr = N.fr) && decide (M.to = N.to) && decide (M.kind = N.kind)))))], ⟨[], []⟩⟩) := by
  simp only [Nte.pv, Nte.rv, Nte.cells, Nte.rcells]
  simp +contextual [apB, ir3, stC, ssI, ↓ssJ, List.idxOf?_cons, Go.Sx.LV.undef, Go.undef, Go.Sx.callO, Go.Sx.splice, Go.Sx.finish, Go.Sx.look, Go.Sx.push, Go.Sx.setObj, Go.Sx.setU, Go.Sx.setAll, Go.Sx.appO, Go.Sx.leI_eq, ltF, h1, h2]
theorem runCS_then2' {c : Ctx} {n : Nat} {a b r : IRC} {st st' : St} (h : runCS c n (.seq a b) st = some (.normal, st')) : runCS c n (.seq a (.seq b r)) st = runCS c n r st' := runCS_then2 h
theorem apart_parts : ir3 = ⟨[0, 1, 2], .seq (stC 0 apB) (.seq (stC 1 apB) (.seq (stC 2 apB) (.seq (stC 3 apB) (.seq (stC 4 apB) (.seq (stC 5 apB) (.seq (stC 6 apB) (.seq (stC 7 apB) (.seq (stC 8 apB) (.seq (stC 9 apB) .ret))))))))), [(6, none)], false⟩ := rfl
/-- The law's function. -/
theorem apart_ (p q u v : LV) (e f : Int) (e' f' : LV) (s1 s2 : Bool) (hA : ∀ H, Ω 8 [.p (.agg a.cells)] H 1 = some (.tuple [.p (M.pv false), .p (M.rv true)], [], [])) (hB : ∀ H, Ω 8 [.p (.agg (if same = true then a else b).cells)] H 1 = some (.tuple [.p (N.pv false), .p (N.rv true)], [], []))
    (hM : ∀ H nx, Ω 9 [.p (M.pv false)] H nx = some (.tuple [p, .int .i64 e], [], [])) (hN : ∀ H nx, Ω 9 [.p (N.pv false)] H nx = some (.tuple [q, .int .i64 f], [], []))
    (hM' : ∀ H nx, Ω 10 [.p (M.rv true)] H nx = some (.tuple [u, e'], [], [])) (hN' : ∀ H nx, Ω 10 [.p (N.rv true)] H nx = some (.tuple [v, f'], [], []))
    (h1 : ∀ H nx, Ω 11 [p, q] H nx = some (.bool s1, [], [])) (h2 : ∀ H nx, Ω 11 [u, v] H nx = some (.bool s2, [], [])) :
    Ω 3 [.p (.agg a.cells), .p (.agg b.cells), .bool same] noH 0 = some (.bool ((s1 == s2) && ((!same) || (decide (e = f) && s1)) && ((!decide (e = 0)) || (!decide (f = 0)) || (!s1) || (decide (M.fr = N.fr) && decide (M.to = N.to) && decide (M.kind = N.kind)))), [], []) := by
  refine om_run (ir := ir3) (by kernel_rfl) 0 ?_
  rw [runF_I, apart_parts]
  refine (if_pos rfl).trans ?_
  have z : [0, 1, 2].zip [LV.p (.agg a.cells), LV.p (.agg b.cells), LV.bool same] = [(0, .p (.agg a.cells)), (1, .p (.agg b.cells)), (2, .bool same)] := rfl
  show bindK (runCS _ 0 _ ⟨[0, 1, 2].zip [LV.p (.agg a.cells), LV.p (.agg b.cells), LV.bool same], ⟨[], []⟩⟩) _ = _
  rw [z, runCS_then2 (apart_01 a b same), runCS_then2 (apart_23 a b M same hA), runCS_then (apart_4 (if same = true then a else b) N same hB _ _)]
  rw [runCS_then2 (apart_56 M N same p q _ _ hM hN), runCS_then2 (apart_78 M N same p q u v _ _ _ _ hM' hN'), runCS_then (apart_9 M N same p q u v e f s1 s2 h1 h2)]
  simp [ssI, ↓ssJ, List.idxOf?_cons, Go.Sx.LV.undef, Go.undef, Go.Sx.callO, Go.Sx.splice, Go.Sx.finish, Go.Sx.look, Go.Sx.push, Go.Sx.setObj, Go.Sx.setU, Go.Sx.setAll, Go.Sx.appO, Go.Sx.leI_eq, ltF]
end
end Go.Proofs.YtppeggedcaabkaaGreatDoor
end

section
namespace Go.Proofs.YtppeggedcaabkaaGreatDoor
open Go Go.Sx
set_option linter.unusedSimpArgs false
set_option linter.unusedVariables false

/-- A draw as it comes. -/
structure Drw.Ok (d : Drw) (I : List Nat) (Ts : List (Option (List UInt8))) : Prop where
  lists : Lists d I Ts
  tree : shl d.tree
  share : shl d.share
  ses : d.ses < 2 ^ 64
  no : d.no < 2 ^ 64
  ids : ∀ i ∈ I, i < 2 ^ 32
/-- The trees of what is left. -/
def Drw.mTs (d : Drw) (Ts : List (Option (List UInt8))) : List (Option (List UInt8)) := if d.plain = true ∧ ¬ (d.kind = 3 ∨ d.kind = 6) then [] else Ts
theorem Drw.Ok.made {d : Drw} {I : List Nat} {Ts : List (Option (List UInt8))} (h : d.Ok I Ts) : d.made.Ok I (d.mTs Ts) := by
  obtain ⟨⟨l1, l2, l3, l4⟩, h2, h3, h4, h5, h6⟩ := h
  unfold Drw.made Drw.mTs
  cases hp : d.plain with
  | false =>
    simp only [Bool.false_eq_true, if_false, false_and]
    exact ⟨⟨l1, l2, l3, l4⟩, h2, h3, h4, h5, h6⟩
  | true =>
    simp only [if_true, true_and]
    have ht : shl (if d.kind = 4 ∨ d.kind = 5 ∨ d.kind = 7 then none else d.tree) := by
      split
      · intro l e; cases e
      · exact h2
    have hs : (if 4 < d.kind ∨ d.kind < 1 then 0 else d.ses) < 2 ^ 64 := by split <;> omega
    by_cases hk : d.kind = 3 ∨ d.kind = 6
    · have e : (if ¬(d.kind = 3 ∨ d.kind = 6) then [] else Ts) = Ts := if_neg (by simp [hk])
      rw [e]
      exact ⟨⟨l1, by simpa [hk] using l2, l3, l4⟩, ht, h3, hs, h5, h6⟩
    · have e : (if ¬(d.kind = 3 ∨ d.kind = 6) then [] else Ts) = [] := if_pos hk
      rw [e]
      exact ⟨⟨l1, .inl ⟨by simp [hk], rfl⟩, by simp, by simp⟩, ht, h3, hs, h5, h6⟩
theorem evs_len (x : Option (List UInt8)) : (evBits (mkEv 4 x).1).length ≤ 4340 := by
  obtain ⟨a, b, c⟩ := mkEv_ok 4 x
  have h1 := evBits_len (mkEv 4 x).1
  have h2 : 2 ^ (mkEv 4 x).1.depth ≤ 2 ^ 4 := Nat.pow_le_pow_right (by omega) b
  omega
theorem ids_len (x : Option (List UInt8)) : (idBits (mkId 4 x).1).length ≤ 93 := by
  obtain ⟨a, b⟩ := mkId_ok 4 x
  have h1 := idBits_len (mkId 4 x).1
  have h2 : 2 ^ (mkId 4 x).1.depth ≤ 2 ^ 4 := Nat.pow_le_pow_right (by omega) b
  omega
theorem ent_len (x : Ent) (h : x.id < 2 ^ 32) (hb : (evBits x.v.ev).length ≤ 4340) : x.bytes.length ≤ 4500 := by
  unfold Ent.bytes Vsn.bytes
  have h1 := vnum_len x.id (by omega)
  have h2 := pack_len (evBits x.v.ev)
  have h3 : (if x.v.gone then [1] else 0 :: crdB x.v.nm).length ≤ 10 := by
    cases x.v.gone <;> cases x.v.nm <;> simp [crdB]
  have h4 := vnum_len (pack (evBits x.v.ev)).length (by omega)
  have e1 : (txt (pack (evBits x.v.ev))).length = (vnum (pack (evBits x.v.ev)).length).length + (pack (evBits x.v.ev)).length := by rw [txt, List.length_append]
  rw [List.length_append, txt, List.length_append]
  have h5 := vnum_len (txt (pack (evBits x.v.ev)) ++ (if x.v.gone then [1] else 0 :: crdB x.v.nm)).length (by rw [List.length_append]; omega)
  rw [List.length_append] at h5 ⊢
  omega
theorem entB_le (k : Nat) : ∀ (L : List Ent), (∀ x ∈ L, x.bytes.length ≤ k) → (entB L).length ≤ L.length * k
  | [], _ => by simp [entB]
  | x :: L, h => by
    have h1 := entB_le k L fun y hy => h y (List.mem_cons_of_mem _ hy)
    have h2 := h x List.mem_cons_self
    rw [entB, List.length_append, List.length_cons, Nat.succ_mul]
    omega
theorem drawn_mem {I : List Nat} {Ts : List (Option (List UInt8))} {x : Ent} (h : x ∈ drawnL I Ts) : ∃ j, j < many I Ts ∧ x = drawn I Ts j := by
  unfold drawnL at h
  obtain ⟨j, hj, rfl⟩ := List.mem_map.1 h
  exact ⟨j, List.mem_range.1 hj, rfl⟩
theorem Drw.Ok.fit {d : Drw} {I : List Nat} {Ts : List (Option (List UInt8))} (h : d.Ok I Ts) : (d.note (drawnL I Ts)).Fit := by
  have hid : ∀ j, j < many I Ts → I.getD j 0 < 2 ^ 32 := by
    intro j hj
    have h1 : j < I.length := by unfold many at hj; omega
    rw [List.getD_eq_getElem?_getD, List.getElem?_eq_getElem h1]
    exact h.ids _ (List.getElem_mem h1)
  have g1 : (d.gift1.no < 2 ^ 64) ∧ (idBits d.gift1.sh).length < 2 ^ 16 := by
    unfold Drw.gift1
    split
    · exact ⟨h.no, Nat.lt_of_le_of_lt (ids_len _) (by decide)⟩
    · exact ⟨by decide, by simp [idBits, bitsOf_len]⟩
  refine ⟨h.ses, ?_, g1.1, g1.2, ?_, ?_, (mkEv_ok 4 _).1, ?_, ?_, ?_, ?_, ?_⟩
  · show (if d.plain = false ∨ d.kind = 7 then d.no else 0) < 2 ^ 64
    have := h.no
    split <;> omega
  · exact Nat.lt_of_le_of_lt (mkEv_ok 4 _).2.2 (by decide)
  · exact Nat.lt_of_le_of_lt (evs_len _) (by decide)
  · show (drawnL I Ts).length < 50
    rw [drawnL_len]; have := many_lt I Ts; omega
  · intro x hx
    obtain ⟨j, hj, rfl⟩ := drawn_mem hx
    exact ⟨hid j hj, Nat.lt_of_le_of_lt (mkEv_ok 4 _).2.2 (by decide), Nat.lt_of_le_of_lt (evs_len _) (by decide)⟩
  · intro x hx
    obtain ⟨j, hj, rfl⟩ := drawn_mem hx
    exact Nat.lt_of_le_of_lt (mkEv_ok 4 _).2.2 (by decide)
  · have h1 := entB_le 4500 (drawnL I Ts) fun x hx => by
      obtain ⟨j, hj, rfl⟩ := drawn_mem hx
      exact ent_len _ (hid j hj) (evs_len _)
    have h2 : (drawnL I Ts).length < 8 := by rw [drawnL_len]; exact many_lt I Ts
    show (entB (drawnL I Ts)).length < 2 ^ 19
    omega
  · intro x hx
    obtain ⟨j, hj, rfl⟩ := drawn_mem hx
    exact (mkEv_ok 4 _).1
theorem body_len {n : Nte} (h : n.Fit) (hr : n.right = true) : n.body.length < 2 ^ 21 := by
  have h1 := vnum_len n.ses h.ses
  have h2 := vnum_len n.no h.no
  have h3 := pack_len (evBits n.ev)
  have b1 := h.bits
  have b2 := h.size
  have b3 := h.gsh
  have h4 := vnum_len (pack (evBits n.ev)).length (by omega)
  have h5 := vnum_len n.ents.length (by have := h.len; omega)
  have h6 := vnum_len n.gift.no h.gno
  have h7 := pack_len (idBits n.gift.sh)
  have h8 := vnum_len (pack (idBits n.gift.sh)).length (by omega)
  have e1 : (txt (pack (evBits n.ev))).length = (vnum (pack (evBits n.ev)).length).length + (pack (evBits n.ev)).length := by rw [txt, List.length_append]
  have e2 : (txt (pack (idBits n.gift.sh))).length = (vnum (pack (idBits n.gift.sh)).length).length + (pack (idBits n.gift.sh)).length := by rw [txt, List.length_append]
  obtain ⟨p1, p2, p3⟩ := right_parts hr
  unfold Nte.body Nte.rest
  split
  · simp only [List.length_append, List.length_cons, List.length_nil]; omega
  split
  · simp only [List.length_append, List.length_cons, List.length_nil]; omega
  split
  · simp only [List.length_append, List.length_cons, List.length_nil]; omega
  split
  · rename_i k6
    have : n.gift.fr = n.fr ∧ n.gift.to = n.to := by
      simp only [Nte.right, k6, Bool.and_eq_true] at hr
      have z := (show _ ∧ _ from ⟨hr.2.1.2, hr.2.2⟩)
      simp [and_assoc] at z
      exact z.2.2
    have h9 := vnum_len n.gift.fr.toNat (by omega)
    have h10 := vnum_len n.gift.to.toNat (by omega)
    simp only [Gft.bytes, List.length_append, List.length_cons, List.length_nil]; omega
  split
  · simp only [List.length_append, List.length_cons, List.length_nil]; omega
  · simp
theorem u8_inj {a b : Int} (h0 : 0 ≤ a) (h1 : a < 256) (h2 : 0 ≤ b) (h3 : b < 256) (h : u8 a = u8 b) : a = b := by
  have e1 := u8_wrap a h0 h1
  have e2 := u8_wrap b h2 h3
  rw [h, ← e2] at e1
  have w : ∀ x : Int, 0 ≤ x → x < 256 → IntKind.u8.wrap x = x := by
    intro x hx hy
    simp [IntKind.wrap, IntKind.signed, IntKind.bits]; omega
  rw [w a h0 h1, w b h2 h3] at e1
  exact e1
theorem told_apart {M N : Nte} (hM : M.Fit) (hN : N.Fit) (h1 : M.right = true) (h2 : N.right = true) (h : frame M.body = frame N.body) : M.fr = N.fr ∧ M.to = N.to ∧ M.kind = N.kind := by
  have e : M.body = N.body := by
    have := congrArg (List.drop 8) h
    simpa [frame, le4] using this
  obtain ⟨a1, a2, _⟩ := right_parts h1
  obtain ⟨b1, b2, _⟩ := right_parts h2
  have k1 := right_kind h1
  have k2 := right_kind h2
  simp only [Nte.body, List.cons_append, List.nil_append, List.cons.injEq] at e
  exact ⟨u8_inj (by omega) (by omega) (by omega) (by omega) e.2.1, u8_inj (by omega) (by omega) (by omega) (by omega) e.2.2.1, u8_inj (by omega) (by omega) (by omega) (by omega) e.1⟩
theorem noteapart_ (a b : Drw) (Ia Ib : List Nat) (Ta Tb : List (Option (List UInt8))) (ha : a.Ok Ia Ta) (hb : b.Ok Ib Tb) (same : Bool) :
    Ω 3 [.p (.agg a.cells), .p (.agg b.cells), .bool same] noH 0 = some (.bool true, [], []) := by
  have mk : ∀ (d : Drw) (I : List Nat) (T : List (Option (List UInt8))), d.Ok I T → ∀ H, Ω 8 [.p (.agg d.cells)] H 1 = some (.tuple [.p ((d.made.note (drawnL I (d.mTs T))).pv false), .p ((d.made.note (drawnL I (d.mTs T))).rv true)], [], []) :=
    fun d I T hd H => made_ d I (d.mTs T) hd.made.lists hd.made.tree hd.share H 1 annR8 annR10 annC6 annC8 noC8
  have key : ∀ M N : Nte, (∀ H, Ω 8 [.p (.agg a.cells)] H 1 = some (.tuple [.p (M.pv false), .p (M.rv true)], [], [])) → (∀ H, Ω 8 [.p (.agg (if same = true then a else b).cells)] H 1 = some (.tuple [.p (N.pv false), .p (N.rv true)], [], [])) →
      M.Fit → N.Fit → (same = true → M = N) → Ω 3 [.p (.agg a.cells), .p (.agg b.cells), .bool same] noH 0 = some (.bool true, [], []) := by
    intro M N hA hB hM hN hS
    have m1 := fun H nx => noteBytes_ M false hM H nx
    have m2 := fun H nx => rNoteBytes_ M true hM H nx
    have n1 := fun H nx => noteBytes_ N false hN H nx
    have n2 := fun H nx => rNoteBytes_ N true hN H nx
    simp only [Nte.ans] at m1 m2 n1 n2
    by_cases hr : M.right = true
    · have lM : (frame M.body).length < 2 ^ 62 := by have := body_len hM hr; rw [frame_len]; omega
      simp only [if_pos hr] at m1 m2
      have mF : frame M.body ≠ [] := by intro e; have := frame_len M.body; rw [e, List.length_nil] at this; omega
      by_cases hq : N.right = true
      · have lN : (frame N.body).length < 2 ^ 62 := by have := body_len hN hq; rw [frame_len]; omega
        simp only [if_pos hq] at n1 n2
        have s := fun H nx => same_pp (frame M.body) (frame N.body) lM H nx
        rw [apart_ a b M N same _ _ _ _ 0 0 _ _ _ _ hA hB m1 n1 m2 n2 s s]
        by_cases e : frame M.body = frame N.body
        · obtain ⟨t1, t2, t3⟩ := told_apart hM hN hr hq e
          simp [e, t1, t2, t3]
        · have : same = false := by
            cases same with
            | false => rfl
            | true => exact absurd (by rw [hS rfl]) e
          simp [e, this]
      · simp only [if_neg hq] at n1 n2
        have s := fun H nx => same_pn (frame M.body) lM H nx
        rw [apart_ a b M N same _ _ _ _ 0 1 _ _ _ _ hA hB m1 n1 m2 n2 s s]
        have : same = false := by
          cases same with
          | false => rfl
          | true => exact absurd (by rw [← hS rfl]; exact hr) hq
        simp [mF, this]
    · simp only [if_neg hr] at m1 m2
      by_cases hq : N.right = true
      · have lN : (frame N.body).length < 2 ^ 62 := by have := body_len hN hq; rw [frame_len]; omega
        have nF : [] ≠ frame N.body := by intro e; have := frame_len N.body; rw [← e, List.length_nil] at this; omega
        simp only [if_pos hq] at n1 n2
        have s := fun H nx => same_np (frame N.body) lN H nx
        rw [apart_ a b M N same _ _ _ _ 1 0 _ _ _ _ hA hB m1 n1 m2 n2 s s]
        have : same = false := by
          cases same with
          | false => rfl
          | true => exact absurd (by rw [hS rfl]; exact hq) hr
        simp [nF, this]
      · simp only [if_neg hq] at n1 n2
        rw [apart_ a b M N same _ _ _ _ 1 1 _ _ _ _ hA hB m1 n1 m2 n2 same_nn same_nn]
        simp
  cases same with
  | true => exact key _ _ (mk a Ia Ta ha) (by rw [if_pos rfl]; exact mk a Ia Ta ha) ha.made.fit ha.made.fit fun _ => rfl
  | false => exact key _ _ (mk a Ia Ta ha) (by rw [if_neg (by decide)]; exact mk b Ib Tb hb) ha.made.fit hb.made.fit fun e => by cases e
end Go.Proofs.YtppeggedcaabkaaGreatDoor
end

section
namespace Go.Proofs.YtppeggedcaabkaaGreatDoor
open Go Go.Sx Go.ChangeShapes Go.WideShapes
set_option linter.unusedVariables false
set_option linter.unusedSimpArgs false

section
variable {W : World}
theorem rv_int {k : IntKind} {v : Value} {x : PV} (h : RV W (.k (.int k)) v x) : ∃ n : Int, x = .s (.int k n) ∧ k.min ≤ n ∧ n ≤ k.max := by
  cases h with
  | k h =>
    cases v <;> simp only [SK.fits] at h
    obtain ⟨rfl, h⟩ := h
    exact ⟨_, rfl, by simpa [Lit.wf] using h⟩
theorem rv_bool {v : Value} {x : PV} (h : RV W (.k .bool) v x) : ∃ b : Bool, x = .s (.bool b) := by
  cases h with
  | k h => cases v <;> first | exact ⟨_, rfl⟩ | exact absurd h (by simp [SK.fits])
theorem rv_nat {k : IntKind} (h0 : k.min = 0) {v : Value} {x : PV} (h : RV W (.k (.int k)) v x) : ∃ n : Nat, x = .s (.int k n) ∧ (n : Int) ≤ k.max := by
  obtain ⟨n, rfl, h1, h2⟩ := rv_int h
  rw [h0] at h1
  exact ⟨n.toNat, by rw [Int.toNat_of_nonneg h1], by omega⟩
theorem rv_byte {v : Value} {x : PV} (h : RV W (.k (.int .u8)) v x) : ∃ b : UInt8, x = .s (.int .u8 b.toNat) ∧ True := by
  obtain ⟨n, rfl, h⟩ := rv_nat rfl h
  have : n < 256 := by have e : IntKind.u8.max = 255 := rfl; omega
  exact ⟨UInt8.ofNat n, by simp [Nat.mod_eq_of_lt this], trivial⟩
theorem rv_bytes {v : Value} {x : PV} (h : RV W (.sl [.k (.int .u8)]) v x) : ∃ o : Option (List UInt8), x = obP false o ∧ shl o := by
  rcases list_of (f := fun b : UInt8 => PV.s (.int .u8 b.toNat)) (Q := fun _ => True) (fun v x h => rv_byte h) h with rfl | ⟨L, rfl, _, h2⟩
  · exact ⟨none, rfl, fun l h => by cases h⟩
  · exact ⟨some L, rfl, fun l h => by cases h; exact h2⟩
theorem all_cons {c : CT} {ks : List CT} {cs : List Value} {xs : List PV} (h : AllR W (c :: ks) cs xs) : ∃ v vs x ys, cs = v :: vs ∧ xs = x :: ys ∧ RV W c v x ∧ AllR W ks vs ys := by
  obtain ⟨h1, h2, h3⟩ := h
  cases cs with
  | nil => cases h1
  | cons v vs =>
    cases xs with
    | nil => cases h2
    | cons x ys => exact ⟨v, vs, x, ys, rfl, rfl, h3 0 c v x rfl rfl rfl, by simpa using h1, by simpa using h2, fun j c v x a b d => h3 (j + 1) c v x a b d⟩
theorem all_nil {cs : List Value} {xs : List PV} (h : AllR W [] cs xs) : cs = [] ∧ xs = [] := ⟨List.eq_nil_of_length_eq_zero h.1, List.eq_nil_of_length_eq_zero h.2.1⟩
theorem AllR.pr {ks : List CT} {a : Array Value} {xs : List PV} (h : AllR W ks a.toList xs) : PR (fun b => b < W.heap.size) W (.agg xs) (.agg a) := by
  obtain ⟨h1, h2, h3⟩ := h
  refine .agg xs a (by simpa [h2] using h1) ?_ ?_
  · intro u hu
    obtain ⟨j, hj, rfl⟩ := List.getElem_of_mem hu
    exact (h3 j (ks[j]'(by omega)) a.toList[j] (xs[j]'(by omega)) (by simp [← h1, hj]) (by simp [hj]) (by simp [h2, ← h1, hj])).one
  · intro j l u hl hu
    have hj : j < xs.length := (List.getElem?_eq_some_iff.1 hl).1
    exact (h3 j (ks[j]'(by omega)) u l (by simp [← h2, hj]) (by simpa using hu) hl).pr
/-- A draw's cells. -/
def drawK : List CT := [.k (.int .i64), .k (.int .i64), .k (.int .i64), .k (.int .u64), .k (.int .u64), .k (.int .i64), .k .bool, .k .bool, .sl [.k (.int .u8)], .sl [.k (.int .u8)], .sl [.k (.int .u32)], .sl [.sl [.k (.int .u8)]]]
theorem draw_of {cs : List Value} {xs : List PV} (h : AllR W drawK cs xs) : ∃ (d : Drw) (I : List Nat) (Ts : List (Option (List UInt8))), d.Ok I Ts ∧ xs = d.cells := by
  obtain ⟨_, _, _, _, rfl, rfl, r1, h⟩ := all_cons h
  obtain ⟨_, _, _, _, rfl, rfl, r2, h⟩ := all_cons h
  obtain ⟨_, _, _, _, rfl, rfl, r3, h⟩ := all_cons h
  obtain ⟨_, _, _, _, rfl, rfl, r4, h⟩ := all_cons h
  obtain ⟨_, _, _, _, rfl, rfl, r5, h⟩ := all_cons h
  obtain ⟨_, _, _, _, rfl, rfl, r6, h⟩ := all_cons h
  obtain ⟨_, _, _, _, rfl, rfl, r7, h⟩ := all_cons h
  obtain ⟨_, _, _, _, rfl, rfl, r8, h⟩ := all_cons h
  obtain ⟨_, _, _, _, rfl, rfl, r9, h⟩ := all_cons h
  obtain ⟨_, _, _, _, rfl, rfl, r10, h⟩ := all_cons h
  obtain ⟨_, _, x11, _, rfl, rfl, r11, h⟩ := all_cons h
  obtain ⟨_, _, x12, _, rfl, rfl, r12, h⟩ := all_cons h
  obtain ⟨rfl, rfl⟩ := all_nil h
  obtain ⟨a1, rfl, _⟩ := rv_int r1
  obtain ⟨a2, rfl, _⟩ := rv_int r2
  obtain ⟨a3, rfl, _⟩ := rv_int r3
  obtain ⟨a4, rfl, b4⟩ := rv_nat rfl r4
  obtain ⟨a5, rfl, b5⟩ := rv_nat rfl r5
  obtain ⟨a6, rfl, _⟩ := rv_int r6
  obtain ⟨a7, rfl⟩ := rv_bool r7
  obtain ⟨a8, rfl⟩ := rv_bool r8
  obtain ⟨a9, rfl, b9⟩ := rv_bytes r9
  obtain ⟨a10, rfl, b10⟩ := rv_bytes r10
  have u64 : IntKind.u64.max = 2 ^ 64 - 1 := rfl
  rw [u64] at b4 b5
  obtain ⟨I, hI, hI2⟩ : ∃ I : List Nat, ((x11 = PV.s (.slice none 0 0) ∧ I = []) ∨ x11 = .sl (I.map fun i : Nat => PV.s (.int .u32 (i : Int))) I.length 1 false) ∧ ∀ i ∈ I, i < 2 ^ 32 := by
    rcases list_of (f := fun n : Nat => PV.s (.int .u32 n)) (Q := fun n => (n : Int) ≤ IntKind.u32.max) (fun v x h => rv_nat rfl h) r11 with e | ⟨L, e, h1, _⟩
    · exact ⟨[], .inl ⟨e, rfl⟩, by simp⟩
    · exact ⟨L, .inr e, fun i hi => by have := h1 i hi; have e : IntKind.u32.max = 2 ^ 32 - 1 := rfl; omega⟩
  obtain ⟨Ts, hT, hT2, hT3⟩ : ∃ Ts : List (Option (List UInt8)), ((x12 = PV.s (.slice none 0 0) ∧ Ts = []) ∨ x12 = .sl (Ts.map (obP false)) Ts.length 1 false) ∧ (∀ t ∈ Ts, shl t) ∧ Ts.length < 2 ^ 63 := by
    rcases list_of (f := obP false) (Q := shl) (fun v x h => rv_bytes h) r12 with e | ⟨L, e, h1, h2⟩
    · exact ⟨[], .inl ⟨e, rfl⟩, by simp, by simp⟩
    · exact ⟨L, .inr e, h1, h2⟩
  exact ⟨⟨a1, a2, a3, a4, a5, a6, a7, a8, a9, a10, x11, x12⟩, I, Ts, ⟨⟨hI, hT, hT2, hT3⟩, b9, b10, by show a4 < 2 ^ 64; omega, by show a5 < 2 ^ 64; omega, hI2⟩, rfl⟩
end
end Go.Proofs.YtppeggedcaabkaaGreatDoor
end
