/- The law NetOrder: its loops. -/
import Derived.Test.YtkdimbcfacoboaaGreatDoorNk
namespace Go.Proofs.YtkdimbcfacoboaaGreatDoor
open Go Go.Sx
set_option linter.unusedSimpArgs false
set_option linter.unusedVariables false

def aft (nx : Nat) (h : Hp) (u : Upd) (n : List (Option Go.Sx.Obj)) : Hp := { setAll nx h u with new := (setAll nx h u).new ++ n }
theorem aft_nil (nx : Nat) (h : Hp) (u : Upd) : aft nx h u [] = setAll nx h u := by simp [aft]
theorem aft_one (nx : Nat) (h : Hp) (u : Upd) (o : Go.Sx.Obj) : aft nx h u [some o] = push (setAll nx h u) o := rfl
theorem callO_A (c : Ctx) (dr : Bool) (h : Hp) (f : FuncId) (args : List LV) : callO c dr h f args =
  if dr then
    match reach (Go.Sx.look c.H c.nx h) 1000 (ids.idsL args) [] with
    | some S =>
      if (ids.idsL args ++ S.flatMap (fun id => match Go.Sx.look c.H c.nx h id with
        | some o => o.ids
        | none => [])).all (fun id => decide (id < c.nx + h.new.length)) then
      match c.O f args (fun id => if S.contains id then Go.Sx.look c.H c.nx h id else none) (c.nx + h.new.length) with
      | some (r, u, n) => some ⟨r, aft c.nx h u n, S, true⟩
      | none => none
      else none
    | none => none
  else
    match c.O f args (Go.Sx.look c.H c.nx h) (c.nx + h.new.length) with
    | some (r, u, n) => some ⟨r, aft c.nx h u n, [], true⟩
    | none => none := rfl
theorem hp_push (x : Hp) (o : Go.Sx.Obj) : ({ upd := x.upd, new := x.new ++ [some o] } : Hp) = push x o := rfl
theorem hp_eta (x : Hp) : ({ upd := x.upd, new := x.new } : Hp) = x := rfl
theorem push_len (x : Hp) (o : Go.Sx.Obj) : (push x o).new.length = x.new.length + 1 := by simp [push]
theorem push_upd (x : Hp) (o : Go.Sx.Obj) : (push x o).upd = x.upd := rfl
theorem setObj_upd (nx : Nat) (x : Hp) (id : Nat) (o : Option Go.Sx.Obj) (h : ¬ id < nx) : (Go.Sx.setObj nx x id o).upd = x.upd := by simp [Go.Sx.setObj, h]

theorem look_set' {H : Heap} {nx : Nat} {h : Hp} {id : Nat} {o : Option Go.Sx.Obj} (hid : id < nx + h.new.length) (j : Nat) : Go.Sx.look H nx (Go.Sx.setObj nx h id o) j = if j = id then o else Go.Sx.look H nx h j := look_set (by omega) j

def numsP (l : List Nat) : List PV := l.map fun (x : Nat) => PV.s (.int .u64 (x : Int))
def nums (l : List Nat) : List LV := l.map fun (x : Nat) => LV.int .u64 (x : Int)
theorem numsP_map (l : List Nat) : (numsP l).map LV.p = nums l := by simp [nums, numsP]
theorem numsP_len (l : List Nat) : (numsP l).length = l.length := by simp [numsP]
theorem nums_len (l : List Nat) : (nums l).length = l.length := by simp [nums]

/-- A net on the heap. -/
structure Net1 (H : Heap) (nx : Nat) (h : Hp) (nid : Nat) (fs : List (List UInt8)) : Prop where
  upd : h.upd = []
  nge : nx ≤ nid
  nlt : nid < nx + h.new.length
  at' : (fs = [] ∧ Go.Sx.look H nx h nid = some (.cells [.p (.s (.slice none 0 0)), .int .i64 50])) ∨
    (0 < fs.length ∧ ∃ lid, Go.Sx.look H nx h nid = some (.cells [.arr lid 0 fs.length 2 fs.length false, .int .i64 50]) ∧ Go.Sx.look H nx h lid = some (.cells (fcs fs)) ∧ lid ≠ nid ∧ nx ≤ lid ∧ lid < nx + h.new.length)

theorem Net1.send {H : Heap} {nx : Nat} {h : Hp} {nid : Nat} {fs : List (List UInt8)} (g : Net1 H nx h nid fs) (no : Nat) (h64 : no < 2 ^ 64) (hk : fs.length < 50) :
    ∃ u n, Ω 7 [.ref nid 0, .p (ord no)] (Go.Sx.look H nx h) (nx + h.new.length) = some (.int .i64 0, u, n) ∧
      Net1 H nx { setAll nx h u with new := (setAll nx h u).new ++ n } nid (fs ++ [fr no]) := by
  have hu := g.upd
  have hn := g.nlt
  have hge : ¬ nid < nx := by have := g.nge; omega
  rcases g.at' with ⟨rfl, h1⟩ | ⟨h0, lid, h1, h2, h3, h4, h5⟩
  · refine ⟨_, _, send_first nid no (Go.Sx.look H nx h) (nx + h.new.length) h64 h1 hn, ?_⟩
    have e : ∀ X Z, ({ setAll nx h [(nid, X)] with new := (setAll nx h [(nid, X)]).new ++ [some Z] } : Hp) = push (Go.Sx.setObj nx h nid X) Z := fun _ _ => rfl
    rw [e]
    refine ⟨?_, g.nge, ?_, .inr ⟨by simp, nx + h.new.length, ?_, ?_, by omega, by omega, ?_⟩⟩
    · rw [push_upd, setObj_upd _ _ _ _ hge, hu]
    · rw [push_len, setObj_len]; omega
    · rw [look_push, setObj_len, if_neg (by omega), look_set' hn, if_pos rfl]; rfl
    · rw [look_push, setObj_len, if_pos rfl]; rfl
    · rw [push_len, setObj_len]; omega
  · have hge' : ¬ lid < nx := by omega
    refine ⟨_, _, send_more nid lid no fs (Go.Sx.look H nx h) (nx + h.new.length) h64 hk h0 h1 h2 hn h5 (fun e => h3 e.symm), ?_⟩
    have e : ∀ X Y Z, ({ setAll nx h [(lid, Y), (nid, X)] with new := (setAll nx h [(lid, Y), (nid, X)]).new ++ [some Z] } : Hp) = push (Go.Sx.setObj nx (Go.Sx.setObj nx h nid X) lid Y) Z := fun _ _ _ => rfl
    rw [e]
    refine ⟨?_, g.nge, ?_, .inr ⟨by simp, nx + h.new.length, ?_, ?_, by omega, by omega, ?_⟩⟩
    · rw [push_upd, setObj_upd _ _ _ _ hge', setObj_upd _ _ _ _ hge, hu]
    · rw [push_len, setObj_len, setObj_len]; omega
    · rw [look_push, setObj_len, setObj_len, if_neg (by omega), look_set' (by rw [setObj_len]; omega), if_neg (fun e => h3 e.symm), look_set' hn, if_pos rfl]
      simp
    · rw [look_push, setObj_len, setObj_len, if_pos rfl]
    · rw [push_len, setObj_len, setObj_len]; omega

section one
variable {H : Heap} {nx : Nat} {h : Hp} {nid : Nat} {fs : List (List UInt8)}
theorem one_step (N : Nat) (g : Net1 H nx h nid fs) (l : List Nat) (fl : Bool) (j v : Nat) (hv : l[j]? = some v) (h64 : v < 2 ^ 64) (hk : fs.length < 50) (hl : l.length < 2 ^ 31) (x0 x1 : LV) :
    ∃ h', runCS ⟨Ω, noG, H, nx⟩ N ir3_1 ⟨[(0, x0), (1, x1), (5, .ref nid 0), (23, .p (.sl (numsP l) l.length 1 fl)), (24, .int .i64 l.length), (25, .int .i64 j)], h⟩ =
      some (.normal, ⟨[(0, x0), (1, x1), (5, .ref nid 0), (23, .p (.sl (numsP l) l.length 1 fl)), (24, .int .i64 l.length), (25, .int .i64 (j + 1 : Nat))], h'⟩) ∧ Net1 H nx h' nid (fs ++ [fr v]) := by
  obtain ⟨u, n, e1, e2⟩ := g.send v h64 hk
  refine ⟨_, ?_, e2⟩
  obtain ⟨hlt, hv'⟩ := List.getElem?_eq_some_iff.1 hv
  have h8 : ¬ (l.length : Int) ≤ j := by omega
  have hw : IntKind.i64.wrap ((j : Int) + 1) = (j : Int) + 1 := wrap_i64 _ (by omega) (by omega)
  have hb : (nums l)[j]? = some (.int .u64 v) := by simp [nums, hv]
  simp [ir3_1, Go.Sx.runF_S, runCS_skip, runCS_reg, runCS_draw, runCS_seq, runCS_cond, runCS_block, runCS_loop, runCS_exit, runCS_ret, runOpsS_nil, runOpsS_cons, runOpsTS_nil, runOpsTS_cons, Go.Sx.wants, Go.Sx.evOp, Go.Sx.opd, Sx.get, Go.Sx.putD, Sx.keep, Go.Sx.binL, Go.Sx.isSh, binI_add, binI_sub, binI_mul, binI_eql, binI_neq, binI_lss, binI_leq, binI_gtr, binI_geq, Go.Sx.leI_eq, Go.Sx.eqL, unL_not, unL_neg, Go.Sx.resVs, Go.Sx.resV, Go.Sx.oneL, Go.Sx.finish, Go.Sx.frz, Go.Sx.frz.go, Go.Sx.frzL, Go.Sx.frzL.go, Go.Sx.ids, Go.Sx.ids.idsL, Go.Sx.updIds, Go.Sx.reach, Go.Sx.ren, Go.Sx.ren.go, Go.Sx.renU, Go.Sx.renN, Go.Sx.renO, Go.Sx.renId, List.idxOf?_cons, Go.Sx.fillP, Go.Sx.mkAgg, Go.Sx.allP, Go.Sx.LV.cells, Go.Sx.Obj.cells, Go.Sx.splice, Go.Sx.rd, Go.Sx.findU, Go.Sx.callO, Go.Sx.slCells, Go.Sx.sliceO, Value.oneCell', Go.Sx.mmL, Go.Sx.mm2, Go.Sx.gslot, Go.Sx.IROp.slots, Go.Sx.Opd.slots, Go.Sx.indepD, Go.Sx.quickD, Go.Sx.indepR, Go.Sx.pairsD, Go.Sx.apartD, Nat.testBit, Go.Sx.Obj.ids, Go.Sx.natL, Go.Sx.optMap, Go.Sx.LV.undef, Go.undef, ltF, h8, hw, hlt, numsP_map, hb, e1]
theorem one_end (N : Nat) (x0 x1 x5 x : LV) (L : Nat) (h : Hp) : runCS ⟨Ω, noG, H, nx⟩ N ir3_1 ⟨[(0, x0), (1, x1), (5, x5), (23, x), (24, .int .i64 L), (25, .int .i64 L)], h⟩ =
    some (.exit 0, ⟨[(0, x0), (1, x1), (5, x5), (23, x), (24, .int .i64 L), (25, .int .i64 L), (26, .bool false)], h⟩) := by
  simp [ir3_1, Go.Sx.runF_S, runCS_skip, runCS_reg, runCS_draw, runCS_seq, runCS_cond, runCS_block, runCS_loop, runCS_exit, runCS_ret, runOpsS_nil, runOpsS_cons, runOpsTS_nil, runOpsTS_cons, Go.Sx.wants, Go.Sx.evOp, Go.Sx.opd, Sx.get, Go.Sx.putD, Sx.keep, Go.Sx.binL, Go.Sx.isSh, binI_add, binI_sub, binI_mul, binI_eql, binI_neq, binI_lss, binI_leq, binI_gtr, binI_geq, Go.Sx.leI_eq, Go.Sx.eqL, unL_not, unL_neg, Go.Sx.resVs, Go.Sx.resV, Go.Sx.oneL, Go.Sx.finish, Go.Sx.frz, Go.Sx.frz.go, Go.Sx.frzL, Go.Sx.frzL.go, Go.Sx.ids, Go.Sx.ids.idsL, Go.Sx.updIds, Go.Sx.reach, Go.Sx.ren, Go.Sx.ren.go, Go.Sx.renU, Go.Sx.renN, Go.Sx.renO, Go.Sx.renId, List.idxOf?_cons, Go.Sx.fillP, Go.Sx.mkAgg, Go.Sx.allP, Go.Sx.LV.cells, Go.Sx.Obj.cells, Go.Sx.splice, Go.Sx.rd, Go.Sx.findU, Go.Sx.callO, Go.Sx.slCells, Go.Sx.sliceO, Value.oneCell', Go.Sx.mmL, Go.Sx.mm2, Go.Sx.gslot, Go.Sx.IROp.slots, Go.Sx.Opd.slots, Go.Sx.indepD, Go.Sx.quickD, Go.Sx.indepR, Go.Sx.pairsD, Go.Sx.apartD, Nat.testBit, Go.Sx.Obj.ids, Go.Sx.natL, Go.Sx.optMap, Go.Sx.LV.undef, Go.undef, ltF]
theorem one_all (N : Nat) (l : List Nat) (fl : Bool) (x0 x1 : LV) (h64 : ∀ v ∈ l, v < 2 ^ 64) (hl : l.length ≤ 30) : ∀ (k m j : Nat) (h : Hp), j + k = l.length → k < m → Net1 H nx h nid ((l.take j).map fr) →
    ∃ h', iter (runCS ⟨Ω, noG, H, nx⟩ N ir3_1) m ⟨[(0, x0), (1, x1), (5, .ref nid 0), (23, .p (.sl (numsP l) l.length 1 fl)), (24, .int .i64 l.length), (25, .int .i64 j)], h⟩ =
      some (.exit 0, ⟨[(0, x0), (1, x1), (5, .ref nid 0), (23, .p (.sl (numsP l) l.length 1 fl)), (24, .int .i64 l.length), (25, .int .i64 l.length), (26, .bool false)], h'⟩) ∧ Net1 H nx h' nid (l.map fr) := by
  intro k
  induction k with
  | zero =>
    intro m j h hj hm g
    obtain ⟨m, rfl⟩ : ∃ q, m = q + 1 := ⟨m - 1, by omega⟩
    obtain rfl : j = l.length := by omega
    rw [List.take_length] at g
    exact ⟨h, iter_out (one_end _ _ _ _ _ _ _) (by simp), g⟩
  | succ k ih =>
    intro m j h hj hm g
    obtain ⟨m, rfl⟩ : ∃ q, m = q + 1 := ⟨m - 1, by omega⟩
    have hlt : j < l.length := by omega
    obtain ⟨h', e1, e2⟩ := one_step N g l fl j l[j] (List.getElem?_eq_getElem hlt) (h64 _ (List.getElem_mem hlt)) (by simp; omega) (by omega) x0 x1
    rw [iter_step e1]
    refine ih m (j + 1) h' (by omega) (by omega) ?_
    rw [List.take_succ_eq_append_getElem hlt, List.map_append]
    exact e2
end one

structure Net2 (H : Heap) (nx : Nat) (h : Hp) (nid did lid m : Nat) (ls : List Nat) : Prop where
  upd : h.upd = []
  nge : nx ≤ nid
  nlt : nid < nx + h.new.length
  dge : nx ≤ did
  dlt : did < nx + h.new.length
  lge : nx ≤ lid
  llt : lid < nx + h.new.length
  dn : did ≠ nid
  ln : lid ≠ nid
  ld : lid ≠ did
  small : ls.length + m < 2 ^ 20
  at1 : Go.Sx.look H nx h nid = some (.cells [.arr lid 0 ls.length 2 (ls.length + m) false, .int .i64 50])
  at2 : Go.Sx.look H nx h lid = some (.cells (fcs (ls.map fr) ++ zs m))
  at3 : Go.Sx.look H nx h did = some (.cells (nums ls))

theorem fr_len (v : Nat) (h64 : v < 2 ^ 64) : 0 < (fr v).length ∧ (fr v).length < 2 ^ 31 := by
  have := vnum_len v h64
  rw [fr, frame_len]
  simp [pay]
  omega
theorem fr_reads (v : Nat) (h64 : v < 2 ^ 64) : Reads (fr v) (ord v) 0 := reads_frame 1 0 v (by decide) (by decide) (by decide) h64

theorem nums_get (A B : List Nat) (v : Nat) : (nums (A ++ v :: B))[A.length]? = some (.int .u64 v) := by simp [nums]
theorem nums_take (A B : List Nat) : List.take A.length (nums (A ++ B)) = nums A := by simp [nums]
theorem nums_drop (A B : List Nat) (v : Nat) : List.take B.length (List.drop (A.length + 1) (nums (A ++ v :: B))) = nums B := by
  have : nums (A ++ v :: B) = (nums A ++ [.int .u64 v]) ++ nums B := by simp [nums]
  rw [this, List.drop_left' (by simp [nums]), List.take_of_length_le (by simp [nums])]
theorem nums_app (A B : List Nat) : nums (A ++ B) = nums A ++ nums B := by simp [nums]

/-- The second loop's body in parts. -/
def ordS : IRC := match ir3_0 with
  | .seq s _ => s
  | _ => .skip
def ordR1 : IRC := match ir3_0 with
  | .seq _ (.seq (.block _ (.seq r _)) _) => r
  | _ => .skip
def ordC2 : IRC := match ir3_0 with
  | .seq _ (.seq (.block _ (.seq _ (.seq c _))) _) => c
  | _ => .skip
def ordR : IRC := match ir3_0 with
  | .seq _ (.seq (.block _ (.seq _ (.seq _ r))) _) => r
  | _ => .skip
def ordR6 : IRC := match ir3_0 with
  | .seq _ (.seq _ r) => r
  | _ => .skip
theorem ord_parts : ir3_0 = .seq ordS (.seq (.block 3 (.seq ordR1 (.seq ordC2 ordR))) ordR6) := rfl

section two
variable {H : Heap} {nx : Nat} {h : Hp} {nid did lid m : Nat} {A B : List Nat} {v : Nat}
theorem two_rest (N : Nat) (g : Net2 H nx h nid did lid m (A ++ v :: B)) (h64 : v < 2 ^ 64) (P : LV) (x9 : LV) (cp : Nat) (ex : Bool) (n : Nat) (hn : n = A.length + 1 + B.length) (E : Env) :
    ∃ h' did' cp' ex', runCS ⟨Ω, noG, H, nx⟩ N ordR ⟨(1, P) :: (5, .ref nid 0) :: (8, .arr did 0 n 1 cp ex) :: (9, x9) :: (10, .int .i64 A.length) :: E, h⟩ =
      some (.normal, ⟨[(1, P), (5, .ref nid 0), (8, .arr did' 0 (A.length + B.length) 1 cp' ex'), (9, x9)], h'⟩) ∧ Net2 H nx h' nid did' lid (m + 1) (A ++ B) := by
  obtain ⟨hr31, hr0⟩ := fr_len v h64
  have hlen : (A ++ v :: B).length = n := by simp; omega
  have l1 := g.at1
  have l2 := g.at2
  have l3 := g.at3
  have hsm := g.small
  rw [hlen] at l1 hsm
  rw [List.map_append, List.map_cons] at l2
  have htk : ∀ (H : Heap) (nx : Nat), H nid = some (.cells [.arr lid 0 n 2 (n + m) false, .int .i64 50]) → H lid = some (.cells (fcs (A.map fr ++ fr v :: B.map fr) ++ zs m)) → nid < nx → lid < nx →
      Ω 8 [.ref nid 0, .int .i64 A.length] H nx = some (.tuple [.p (ord v), .int .i64 0], [(nid, some (.cells [.arr lid 0 (A.length + B.length) 2 (n + m) false, .int .i64 50])), (lid, some (.cells (fcs (A.map fr ++ B.map fr) ++ zs (m + 1))))], []) := by
    intro H nx e1 e2 e3 e4
    have := take_k nid lid (n + m) (A.map fr) (B.map fr) (fr v) H nx m v hr0 hr31 (fr_reads v h64) (by simp [hn]) hsm (by rw [hn] at e1; simpa [hn] using e1) e2 e3 e4 (fun e => g.ln e.symm)
    simpa using this
  have hg := nums_get A B v
  have hn1 := nums_take A (v :: B)
  have hn2 := nums_drop A B v
  have hnl : (nums (A ++ v :: B)).length = n := by rw [nums_len]; exact hlen
  have hna := nums_len A
  have hnb := nums_len B
  have hnab := nums_app A B
  have hlen2 : (A ++ B).length = A.length + B.length := by simp
  have hfin : (A ++ B).map fr = A.map fr ++ B.map fr := by simp
  have hnge := g.nge
  have hnlt := g.nlt
  have hdge := g.dge
  have hdlt := g.dlt
  have hlge := g.lge
  have hllt := g.llt
  have hup := g.upd
  have hdn : ¬ did = nid := g.dn
  have hdn' : ¬ nid = did := fun e => g.dn e.symm
  have hln : ¬ lid = nid := g.ln
  have hln' : ¬ nid = lid := fun e => g.ln e.symm
  have hld : ¬ lid = did := g.ld
  have hld' : ¬ did = lid := fun e => g.ld e.symm
  generalize fcs (A.map fr ++ fr v :: B.map fr) ++ zs m = Z at *
  generalize hZ' : fcs (A.map fr ++ B.map fr) ++ zs (m + 1) = Z' at *
  generalize nums (A ++ v :: B) = Q at *
  have key : ∀ (h' : Hp) (did' : Nat), h'.upd = [] → h.new.length ≤ h'.new.length → nx ≤ did' → did' < nx + h'.new.length → did' ≠ nid → lid ≠ did' →
      Go.Sx.look H nx h' nid = some (.cells [.arr lid 0 (A.length + B.length) 2 (n + m) false, .int .i64 50]) → Go.Sx.look H nx h' lid = some (.cells Z') → Go.Sx.look H nx h' did' = some (.cells (nums (A ++ B))) →
      Net2 H nx h' nid did' lid (m + 1) (A ++ B) := by
    intro h' did' e1 e2 e3 e4 e5 e6 e7 e8 e9
    exact ⟨e1, hnge, by omega, e3, e4, hlge, by omega, e5, hln, e6, by rw [hlen2]; omega, by rw [e7, hlen2, show A.length + B.length + (m + 1) = n + m by omega], by rw [e8, ← hZ', hfin], e9⟩
  rw [hnab] at key
  generalize nums A = QA at *
  generalize nums B = QB at *
  generalize ha : A.length = a at *
  generalize hb : B.length = b at *
  have hg2 : ∀ h : a < Q.length, Q[a] = .int .u64 v := fun h => (List.getElem?_eq_some_iff.1 hg).2
  have hw : IntKind.i64.wrap ((a : Int) + 1) = (a : Int) + 1 := wrap_i64 _ (by omega) (by omega)
  have p1 : (0 : Int) ≤ (a : Int) + 1 := by omega
  have p2 : ((a : Int) + 1).toNat = a + 1 := by omega
  have p3 : n - (a + 1) = b := by omega
  have p4 : a < n := by omega
  have p5 : a ≤ n := by omega
  have p6 : a + 1 ≤ n := by omega
  have p7 : a + 1 + b ≤ n := by omega
  have p8 : ¬ 1099511627776 < a * 8 := by omega
  have p9 : ¬ 1099511627776 < (a + b) * 8 := by omega
  have p10 : ¬ 1099511627776 < b * 8 := by omega
  have p11 : a + (1 + b) ≤ n := by omega
  have p12 : a * 8 ≤ 1099511627776 := by omega
  have p13 : (a + b) * 8 ≤ 1099511627776 := by omega
  have p14 : b * 8 ≤ 1099511627776 := by omega
  have k1 : ∀ k, nid < nx + (h.new.length + k) := fun k => by omega
  have k2 : ∀ k, did < nx + (h.new.length + k) := fun k => by omega
  have k3 : ∀ k, lid < nx + (h.new.length + k) := fun k => by omega
  have k4 : ∀ k, ¬ nid = nx + (h.new.length + k) := fun k => by omega
  have k5 : ∀ k, ¬ did = nx + (h.new.length + k) := fun k => by omega
  have k6 : ∀ k, ¬ lid = nx + (h.new.length + k) := fun k => by omega
  have k7 : ¬ nid = nx + h.new.length := by omega
  have k8 : ¬ did = nx + h.new.length := by omega
  have k9 : ¬ lid = nx + h.new.length := by omega
  by_cases hA : a = 0
  · have hA' : (a = 0) = True := eq_true hA
    have hQA : QA = [] := List.length_eq_zero_iff.1 (by rw [hna, hA])
    by_cases hB : b = 0
    · have hB' : (b = 0) = True := eq_true hB
      have hQB : QB = [] := List.length_eq_zero_iff.1 (by rw [hnb, hB])
      have hA2 : (0 = a) = True := eq_true hA.symm
      have hB2 : (0 = b) = True := eq_true hB.symm
      subst hQA
      subst hQB
      have e := Eq.refl (runCS ⟨Ω, noG, H, nx⟩ N ordR ⟨(1, P) :: (5, .ref nid 0) :: (8, .arr did 0 n 1 cp ex) :: (9, x9) :: (10, .int .i64 a) :: E, h⟩)
      conv at e =>
        rhs
        simp [ordR, ir3_0, Go.Sx.runF_S, runCS_skip, runCS_reg, runCS_draw, runCS_seq, runCS_cond, runCS_block, runCS_loop, runCS_exit, runCS_ret, runOpsS_nil, runOpsS_cons, runOpsTS_nil, runOpsTS_cons, Go.Sx.wants, Go.Sx.evOp, Go.Sx.opd, Sx.get, Go.Sx.putD, Sx.keep, Go.Sx.binL, Go.Sx.isSh, binI_add, binI_sub, binI_mul, binI_eql, binI_neq, binI_lss, binI_leq, binI_gtr, binI_geq, Go.Sx.leI_eq, Go.Sx.eqL, unL_not, unL_neg, Go.Sx.resVs, Go.Sx.resV, Go.Sx.oneL, Go.Sx.finish, Go.Sx.frz, Go.Sx.frz.go, Go.Sx.frzL, Go.Sx.frzL.go, Go.Sx.ids, Go.Sx.ids.idsL, Go.Sx.updIds, Go.Sx.reach, Go.Sx.ren, Go.Sx.ren.go, Go.Sx.renU, Go.Sx.renN, Go.Sx.renO, Go.Sx.renId, List.idxOf?_cons, Go.Sx.fillP, Go.Sx.mkAgg, Go.Sx.allP, Go.Sx.LV.cells, Go.Sx.Obj.cells, Go.Sx.splice, Go.Sx.rd, Go.Sx.findU, Go.Sx.setAll, callO_A, aft_nil, aft_one, Go.Sx.slCells, Go.Sx.sliceO, Go.Sx.appO, Value.oneCell', Go.Sx.mmL, Go.Sx.mm2, Go.Sx.gslot, Go.Sx.IROp.slots, Go.Sx.Opd.slots, Go.Sx.indepD, Go.Sx.quickD, Go.Sx.indepR, Go.Sx.pairsD, Go.Sx.apartD, Nat.testBit, Go.Sx.Obj.ids, Go.Sx.natL, Go.Sx.optMap, Go.Sx.LV.undef, Go.undef, ltF, look_push, push_len, setObj_len, look_set', Nat.add_assoc, htk, l1, l2, l3, hnlt, hdlt, hllt, k1, k2, k3, k4, k5, k6, k7, k8, k9, hdn, hdn', hln, hln', hld, hld', hg, hg2, hn1, hn2, hnl, hw, p1, p2, p3, p4, p5, p6, p7, p8, p9, p10, p11, p12, p13, p14, hA', hB', hA2, hB2]
      have hab : a + b = 0 := by omega
      rw [hab]
      refine ⟨_, _, _, _, e, key _ _ ?_ ?_ ?_ ?_ ?_ ?_ ?_ ?_ ?_⟩
      all_goals simp [push_upd, setObj_upd, look_push, push_len, setObj_len, look_set', Nat.add_assoc, l1, l2, l3, hup, hnge, hlge, hnlt, hdlt, hllt, k1, k2, k3, k4, k5, k6, k7, k8, k9, hdn, hdn', hln, hln', hld, hld']
      all_goals try omega
    · subst hQA
      have e := Eq.refl (runCS ⟨Ω, noG, H, nx⟩ N ordR ⟨(1, P) :: (5, .ref nid 0) :: (8, .arr did 0 n 1 cp ex) :: (9, x9) :: (10, .int .i64 a) :: E, h⟩)
      conv at e =>
        rhs
        simp [ordR, ir3_0, Go.Sx.runF_S, runCS_skip, runCS_reg, runCS_draw, runCS_seq, runCS_cond, runCS_block, runCS_loop, runCS_exit, runCS_ret, runOpsS_nil, runOpsS_cons, runOpsTS_nil, runOpsTS_cons, Go.Sx.wants, Go.Sx.evOp, Go.Sx.opd, Sx.get, Go.Sx.putD, Sx.keep, Go.Sx.binL, Go.Sx.isSh, binI_add, binI_sub, binI_mul, binI_eql, binI_neq, binI_lss, binI_leq, binI_gtr, binI_geq, Go.Sx.leI_eq, Go.Sx.eqL, unL_not, unL_neg, Go.Sx.resVs, Go.Sx.resV, Go.Sx.oneL, Go.Sx.finish, Go.Sx.frz, Go.Sx.frz.go, Go.Sx.frzL, Go.Sx.frzL.go, Go.Sx.ids, Go.Sx.ids.idsL, Go.Sx.updIds, Go.Sx.reach, Go.Sx.ren, Go.Sx.ren.go, Go.Sx.renU, Go.Sx.renN, Go.Sx.renO, Go.Sx.renId, List.idxOf?_cons, Go.Sx.fillP, Go.Sx.mkAgg, Go.Sx.allP, Go.Sx.LV.cells, Go.Sx.Obj.cells, Go.Sx.splice, Go.Sx.rd, Go.Sx.findU, Go.Sx.setAll, callO_A, aft_nil, aft_one, Go.Sx.slCells, Go.Sx.sliceO, Go.Sx.appO, Value.oneCell', Go.Sx.mmL, Go.Sx.mm2, Go.Sx.gslot, Go.Sx.IROp.slots, Go.Sx.Opd.slots, Go.Sx.indepD, Go.Sx.quickD, Go.Sx.indepR, Go.Sx.pairsD, Go.Sx.apartD, Nat.testBit, Go.Sx.Obj.ids, Go.Sx.natL, Go.Sx.optMap, Go.Sx.LV.undef, Go.undef, ltF, look_push, push_len, setObj_len, look_set', Nat.add_assoc, htk, l1, l2, l3, hnlt, hdlt, hllt, k1, k2, k3, k4, k5, k6, k7, k8, k9, hdn, hdn', hln, hln', hld, hld', hg, hg2, hn1, hn2, hnl, hna, hnb, hw, p1, p2, p3, p4, p5, p6, p7, p8, p9, p10, p11, p12, p13, p14, hA', hB]
      have hab : a + b = b := by omega
      rw [hab]
      refine ⟨_, _, _, _, e, key _ _ ?_ ?_ ?_ ?_ ?_ ?_ ?_ ?_ ?_⟩
      all_goals simp [push_upd, setObj_upd, look_push, push_len, setObj_len, look_set', Nat.add_assoc, l1, l2, l3, hup, hnge, hlge, hnlt, hdlt, hllt, k1, k2, k3, k4, k5, k6, k7, k8, k9, hdn, hdn', hln, hln', hld, hld']
      all_goals try omega
  · by_cases hB : b = 0
    · have hB' : (b = 0) = True := eq_true hB
      have hQB : QB = [] := List.length_eq_zero_iff.1 (by rw [hnb, hB])
      subst hQB
      have e := Eq.refl (runCS ⟨Ω, noG, H, nx⟩ N ordR ⟨(1, P) :: (5, .ref nid 0) :: (8, .arr did 0 n 1 cp ex) :: (9, x9) :: (10, .int .i64 a) :: E, h⟩)
      conv at e =>
        rhs
        simp [ordR, ir3_0, Go.Sx.runF_S, runCS_skip, runCS_reg, runCS_draw, runCS_seq, runCS_cond, runCS_block, runCS_loop, runCS_exit, runCS_ret, runOpsS_nil, runOpsS_cons, runOpsTS_nil, runOpsTS_cons, Go.Sx.wants, Go.Sx.evOp, Go.Sx.opd, Sx.get, Go.Sx.putD, Sx.keep, Go.Sx.binL, Go.Sx.isSh, binI_add, binI_sub, binI_mul, binI_eql, binI_neq, binI_lss, binI_leq, binI_gtr, binI_geq, Go.Sx.leI_eq, Go.Sx.eqL, unL_not, unL_neg, Go.Sx.resVs, Go.Sx.resV, Go.Sx.oneL, Go.Sx.finish, Go.Sx.frz, Go.Sx.frz.go, Go.Sx.frzL, Go.Sx.frzL.go, Go.Sx.ids, Go.Sx.ids.idsL, Go.Sx.updIds, Go.Sx.reach, Go.Sx.ren, Go.Sx.ren.go, Go.Sx.renU, Go.Sx.renN, Go.Sx.renO, Go.Sx.renId, List.idxOf?_cons, Go.Sx.fillP, Go.Sx.mkAgg, Go.Sx.allP, Go.Sx.LV.cells, Go.Sx.Obj.cells, Go.Sx.splice, Go.Sx.rd, Go.Sx.findU, Go.Sx.setAll, callO_A, aft_nil, aft_one, Go.Sx.slCells, Go.Sx.sliceO, Go.Sx.appO, Value.oneCell', Go.Sx.mmL, Go.Sx.mm2, Go.Sx.gslot, Go.Sx.IROp.slots, Go.Sx.Opd.slots, Go.Sx.indepD, Go.Sx.quickD, Go.Sx.indepR, Go.Sx.pairsD, Go.Sx.apartD, Nat.testBit, Go.Sx.Obj.ids, Go.Sx.natL, Go.Sx.optMap, Go.Sx.LV.undef, Go.undef, ltF, look_push, push_len, setObj_len, look_set', Nat.add_assoc, htk, l1, l2, l3, hnlt, hdlt, hllt, k1, k2, k3, k4, k5, k6, k7, k8, k9, hdn, hdn', hln, hln', hld, hld', hg, hg2, hn1, hn2, hnl, hna, hnb, hw, p1, p2, p3, p4, p5, p6, p7, p8, p9, p10, p11, p12, p13, p14, hA, hB']
      have hab : a + b = a := by omega
      rw [hab]
      refine ⟨_, _, _, _, e, key _ _ ?_ ?_ ?_ ?_ ?_ ?_ ?_ ?_ ?_⟩
      all_goals simp [push_upd, setObj_upd, look_push, push_len, setObj_len, look_set', Nat.add_assoc, l1, l2, l3, hup, hnge, hlge, hnlt, hdlt, hllt, k1, k2, k3, k4, k5, k6, k7, k8, k9, hdn, hdn', hln, hln', hld, hld']
      all_goals try omega
    · have e := Eq.refl (runCS ⟨Ω, noG, H, nx⟩ N ordR ⟨(1, P) :: (5, .ref nid 0) :: (8, .arr did 0 n 1 cp ex) :: (9, x9) :: (10, .int .i64 a) :: E, h⟩)
      conv at e =>
        rhs
        simp [ordR, ir3_0, Go.Sx.runF_S, runCS_skip, runCS_reg, runCS_draw, runCS_seq, runCS_cond, runCS_block, runCS_loop, runCS_exit, runCS_ret, runOpsS_nil, runOpsS_cons, runOpsTS_nil, runOpsTS_cons, Go.Sx.wants, Go.Sx.evOp, Go.Sx.opd, Sx.get, Go.Sx.putD, Sx.keep, Go.Sx.binL, Go.Sx.isSh, binI_add, binI_sub, binI_mul, binI_eql, binI_neq, binI_lss, binI_leq, binI_gtr, binI_geq, Go.Sx.leI_eq, Go.Sx.eqL, unL_not, unL_neg, Go.Sx.resVs, Go.Sx.resV, Go.Sx.oneL, Go.Sx.finish, Go.Sx.frz, Go.Sx.frz.go, Go.Sx.frzL, Go.Sx.frzL.go, Go.Sx.ids, Go.Sx.ids.idsL, Go.Sx.updIds, Go.Sx.reach, Go.Sx.ren, Go.Sx.ren.go, Go.Sx.renU, Go.Sx.renN, Go.Sx.renO, Go.Sx.renId, List.idxOf?_cons, Go.Sx.fillP, Go.Sx.mkAgg, Go.Sx.allP, Go.Sx.LV.cells, Go.Sx.Obj.cells, Go.Sx.splice, Go.Sx.rd, Go.Sx.findU, Go.Sx.setAll, callO_A, aft_nil, aft_one, Go.Sx.slCells, Go.Sx.sliceO, Go.Sx.appO, Value.oneCell', Go.Sx.mmL, Go.Sx.mm2, Go.Sx.gslot, Go.Sx.IROp.slots, Go.Sx.Opd.slots, Go.Sx.indepD, Go.Sx.quickD, Go.Sx.indepR, Go.Sx.pairsD, Go.Sx.apartD, Nat.testBit, Go.Sx.Obj.ids, Go.Sx.natL, Go.Sx.optMap, Go.Sx.LV.undef, Go.undef, ltF, look_push, push_len, setObj_len, look_set', Nat.add_assoc, htk, l1, l2, l3, hnlt, hdlt, hllt, k1, k2, k3, k4, k5, k6, k7, k8, k9, hdn, hdn', hln, hln', hld, hld', hg, hg2, hn1, hn2, hnl, hna, hnb, hw, p1, p2, p3, p4, p5, p6, p7, p8, p9, p10, p11, p12, p13, p14, hA, hB]
      refine ⟨_, _, _, _, e, key _ _ ?_ ?_ ?_ ?_ ?_ ?_ ?_ ?_ ?_⟩
      all_goals simp [push_upd, setObj_upd, look_push, push_len, setObj_len, look_set', Nat.add_assoc, l1, l2, l3, hup, hnge, hlge, hnlt, hdlt, hllt, k1, k2, k3, k4, k5, k6, k7, k8, k9, hdn, hdn', hln, hln', hld, hld']
      all_goals try omega

theorem two_step (N : Nat) (g : Net2 H nx h nid did lid m (A ++ v :: B)) (h64 : v < 2 ^ 64) (P : LV) (i cp : Nat) (ex : Bool) (hi : i < 2 ^ 31) (n : Nat) (hn : n = A.length + 1 + B.length)
    (hP : (P = .p (.s (.slice none 0 0)) ∧ A = []) ∨ ∃ pk fl, P = .p (.sl (bytP pk) pk.length 1 fl) ∧ ((pk.length ≤ i ∧ A = []) ∨ ∃ b : UInt8, pk[i]? = some b ∧ A.length = b.toNat % n)) :
    ∃ h' did' cp' ex', runCS ⟨Ω, noG, H, nx⟩ N ir3_0 ⟨[(1, P), (5, .ref nid 0), (8, .arr did 0 n 1 cp ex), (9, .int .i64 i)], h⟩ =
      some (.normal, ⟨[(1, P), (5, .ref nid 0), (8, .arr did' 0 (A.length + B.length) 1 cp' ex'), (9, .int .i64 (i + 1 : Nat))], h'⟩) ∧ Net2 H nx h' nid did' lid (m + 1) (A ++ B) := by
  have hn0 : ¬ (n : Int) ≤ 0 := by omega
  have hn0' : ¬ n = 0 := by omega
  have hw : IntKind.i64.wrap ((i : Int) + 1) = (i : Int) + 1 := wrap_i64 _ (by omega) (by omega)
  have hi0 : (0 : Int) ≤ i := by omega
  rcases hP with ⟨rfl, rfl⟩ | ⟨pk, fl, rfl, ⟨h1, rfl⟩ | ⟨b, h1, h2⟩⟩
  · obtain ⟨h', did', cp', ex', e1, e2⟩ := two_rest N g h64 (.p (.s (.slice none 0 0))) (.int .i64 i) cp ex n hn [(46, .bool false)]
    refine ⟨h', did', cp', ex', ?_, e2⟩
    rw [ord_parts]
    simp only [List.length_nil, Int.natCast_zero, Int.ofNat_zero] at e1
    simp [ordS, ordR1, ordC2, ordR6, ir3_0, Go.Sx.runF_S, runCS_skip, runCS_reg, runCS_draw, runCS_seq, runCS_cond, runCS_block, runCS_loop, runCS_exit, runCS_ret, runOpsS_nil, runOpsS_cons, runOpsTS_nil, runOpsTS_cons, Go.Sx.wants, Go.Sx.evOp, Go.Sx.opd, Sx.get, Go.Sx.putD, Sx.keep, Go.Sx.binL, Go.Sx.isSh, binI_add, binI_sub, binI_mul, binI_eql, binI_neq, binI_lss, binI_leq, binI_gtr, binI_geq, Go.Sx.leI_eq, Go.Sx.eqL, unL_not, unL_neg, Go.Sx.resVs, Go.Sx.resV, Go.Sx.oneL, Go.Sx.finish, Go.Sx.frz, Go.Sx.frz.go, Go.Sx.frzL, Go.Sx.frzL.go, Go.Sx.ids, Go.Sx.ids.idsL, Go.Sx.updIds, Go.Sx.reach, Go.Sx.ren, Go.Sx.ren.go, Go.Sx.renU, Go.Sx.renN, Go.Sx.renO, Go.Sx.renId, List.idxOf?_cons, Go.Sx.fillP, Go.Sx.mkAgg, Go.Sx.allP, Go.Sx.LV.cells, Go.Sx.Obj.cells, Go.Sx.splice, Go.Sx.rd, Go.Sx.findU, Go.Sx.callO, Go.Sx.slCells, Go.Sx.sliceO, Value.oneCell', Go.Sx.mmL, Go.Sx.mm2, Go.Sx.gslot, Go.Sx.IROp.slots, Go.Sx.Opd.slots, Go.Sx.indepD, Go.Sx.quickD, Go.Sx.indepR, Go.Sx.pairsD, Go.Sx.apartD, Nat.testBit, Go.Sx.Obj.ids, Go.Sx.natL, Go.Sx.optMap, Go.Sx.LV.undef, Go.undef, ltF, hn0, hn0', hw, hi0, e1]
  · obtain ⟨h', did', cp', ex', e1, e2⟩ := two_rest N g h64 (.p (.sl (bytP pk) pk.length 1 fl)) (.int .i64 i) cp ex n hn [(46, .bool false)]
    refine ⟨h', did', cp', ex', ?_, e2⟩
    rw [ord_parts]
    simp only [List.length_nil, Int.natCast_zero, Int.ofNat_zero] at e1
    have h2 : (pk.length : Int) ≤ i := by omega
    simp [ordS, ordR1, ordC2, ordR6, ir3_0, Go.Sx.runF_S, runCS_skip, runCS_reg, runCS_draw, runCS_seq, runCS_cond, runCS_block, runCS_loop, runCS_exit, runCS_ret, runOpsS_nil, runOpsS_cons, runOpsTS_nil, runOpsTS_cons, Go.Sx.wants, Go.Sx.evOp, Go.Sx.opd, Sx.get, Go.Sx.putD, Sx.keep, Go.Sx.binL, Go.Sx.isSh, binI_add, binI_sub, binI_mul, binI_eql, binI_neq, binI_lss, binI_leq, binI_gtr, binI_geq, Go.Sx.leI_eq, Go.Sx.eqL, unL_not, unL_neg, Go.Sx.resVs, Go.Sx.resV, Go.Sx.oneL, Go.Sx.finish, Go.Sx.frz, Go.Sx.frz.go, Go.Sx.frzL, Go.Sx.frzL.go, Go.Sx.ids, Go.Sx.ids.idsL, Go.Sx.updIds, Go.Sx.reach, Go.Sx.ren, Go.Sx.ren.go, Go.Sx.renU, Go.Sx.renN, Go.Sx.renO, Go.Sx.renId, List.idxOf?_cons, Go.Sx.fillP, Go.Sx.mkAgg, Go.Sx.allP, Go.Sx.LV.cells, Go.Sx.Obj.cells, Go.Sx.splice, Go.Sx.rd, Go.Sx.findU, Go.Sx.callO, Go.Sx.slCells, Go.Sx.sliceO, Value.oneCell', Go.Sx.mmL, Go.Sx.mm2, Go.Sx.gslot, Go.Sx.IROp.slots, Go.Sx.Opd.slots, Go.Sx.indepD, Go.Sx.quickD, Go.Sx.indepR, Go.Sx.pairsD, Go.Sx.apartD, Nat.testBit, Go.Sx.Obj.ids, Go.Sx.natL, Go.Sx.optMap, Go.Sx.LV.undef, Go.undef, ltF, hn0, hn0', hw, h1, h2, e1]
  · obtain ⟨h', did', cp', ex', e1, e2⟩ := two_rest N g h64 (.p (.sl (bytP pk) pk.length 1 fl)) (.int .i64 i) cp ex n hn []
    refine ⟨h', did', cp', ex', ?_, e2⟩
    rw [ord_parts]
    obtain ⟨hlt, hv⟩ := List.getElem?_eq_some_iff.1 h1
    have h3 : ¬ (pk.length : Int) ≤ i := by omega
    have h3' : ¬ pk.length ≤ i := by omega
    have hb : (byt pk)[i]? = some (.int .u8 b.toNat) := by simp [byt, h1]
    have hwb : IntKind.i64.wrap (b.toNat : Int) = b.toNat := wrap_i64 _ (by omega) (by have := b.toNat_lt; omega)
    have hr : binI .rem .i64 (b.toNat : Int) n = some (.int .i64 A.length) := by
      rw [binI_rem _ _ _ (by omega), h2, Int.tmod_eq_emod_of_nonneg (by omega)]
      norm_cast
    simp [ordS, ordR1, ordC2, ordR6, ir3_0, Go.Sx.runF_S, runCS_skip, runCS_reg, runCS_draw, runCS_seq, runCS_cond, runCS_block, runCS_loop, runCS_exit, runCS_ret, runOpsS_nil, runOpsS_cons, runOpsTS_nil, runOpsTS_cons, Go.Sx.wants, Go.Sx.evOp, Go.Sx.opd, Sx.get, Go.Sx.putD, Sx.keep, Go.Sx.binL, Go.Sx.isSh, binI_add, binI_sub, binI_mul, binI_eql, binI_neq, binI_lss, binI_leq, binI_gtr, binI_geq, Go.Sx.leI_eq, Go.Sx.eqL, unL_not, unL_neg, Go.Sx.resVs, Go.Sx.resV, Go.Sx.oneL, Go.Sx.finish, Go.Sx.frz, Go.Sx.frz.go, Go.Sx.frzL, Go.Sx.frzL.go, Go.Sx.ids, Go.Sx.ids.idsL, Go.Sx.updIds, Go.Sx.reach, Go.Sx.ren, Go.Sx.ren.go, Go.Sx.renU, Go.Sx.renN, Go.Sx.renO, Go.Sx.renId, List.idxOf?_cons, Go.Sx.fillP, Go.Sx.mkAgg, Go.Sx.allP, Go.Sx.LV.cells, Go.Sx.Obj.cells, Go.Sx.splice, Go.Sx.rd, Go.Sx.findU, Go.Sx.callO, Go.Sx.slCells, Go.Sx.sliceO, Value.oneCell', Go.Sx.mmL, Go.Sx.mm2, Go.Sx.gslot, Go.Sx.IROp.slots, Go.Sx.Opd.slots, Go.Sx.indepD, Go.Sx.quickD, Go.Sx.indepR, Go.Sx.pairsD, Go.Sx.apartD, Nat.testBit, Go.Sx.Obj.ids, Go.Sx.natL, Go.Sx.optMap, Go.Sx.LV.undef, Go.undef, ltF, hn0, hn0', hw, h3, h3', hlt, bytP_map, hb, hwb, hr, e1]
theorem two_end (N : Nat) (P x5 : LV) (did cp i : Nat) (ex : Bool) (h : Hp) : runCS ⟨Ω, noG, H, nx⟩ N ir3_0 ⟨[(1, P), (5, x5), (8, .arr did 0 0 1 cp ex), (9, .int .i64 i)], h⟩ =
    some (.exit 2, ⟨[(1, P), (5, x5), (8, .arr did 0 0 1 cp ex), (9, .int .i64 i), (40, .bool false)], h⟩) := by
  simp [ir3_0, Go.Sx.runF_S, runCS_skip, runCS_reg, runCS_draw, runCS_seq, runCS_cond, runCS_block, runCS_loop, runCS_exit, runCS_ret, runOpsS_nil, runOpsS_cons, runOpsTS_nil, runOpsTS_cons, Go.Sx.wants, Go.Sx.evOp, Go.Sx.opd, Sx.get, Go.Sx.putD, Sx.keep, Go.Sx.binL, Go.Sx.isSh, binI_add, binI_sub, binI_mul, binI_eql, binI_neq, binI_lss, binI_leq, binI_gtr, binI_geq, Go.Sx.leI_eq, Go.Sx.eqL, unL_not, unL_neg, Go.Sx.resVs, Go.Sx.resV, Go.Sx.oneL, Go.Sx.finish, Go.Sx.frz, Go.Sx.frz.go, Go.Sx.frzL, Go.Sx.frzL.go, Go.Sx.ids, Go.Sx.ids.idsL, Go.Sx.updIds, Go.Sx.reach, Go.Sx.ren, Go.Sx.ren.go, Go.Sx.renU, Go.Sx.renN, Go.Sx.renO, Go.Sx.renId, List.idxOf?_cons, Go.Sx.fillP, Go.Sx.mkAgg, Go.Sx.allP, Go.Sx.LV.cells, Go.Sx.Obj.cells, Go.Sx.splice, Go.Sx.rd, Go.Sx.findU, Go.Sx.callO, Go.Sx.slCells, Go.Sx.sliceO, Value.oneCell', Go.Sx.mmL, Go.Sx.mm2, Go.Sx.gslot, Go.Sx.IROp.slots, Go.Sx.Opd.slots, Go.Sx.indepD, Go.Sx.quickD, Go.Sx.indepR, Go.Sx.pairsD, Go.Sx.apartD, Nat.testBit, Go.Sx.Obj.ids, Go.Sx.natL, Go.Sx.optMap, Go.Sx.LV.undef, Go.undef, ltF]

theorem two_all (N : Nat) (P : LV) (hP : P = .p (.s (.slice none 0 0)) ∨ ∃ pk fl, P = .p (.sl (bytP pk) pk.length 1 fl)) (nid lid : Nat) : ∀ (k : Nat) (ls : List Nat) (q m i did cp : Nat) (ex : Bool) (h : Hp), ls.length = k → k < q → i + k < 2 ^ 31 → (∀ v ∈ ls, v < 2 ^ 64) → Net2 H nx h nid did lid m ls →
    ∃ h' did' cp' ex' i' m', iter (runCS ⟨Ω, noG, H, nx⟩ N ir3_0) q ⟨[(1, P), (5, .ref nid 0), (8, .arr did 0 k 1 cp ex), (9, .int .i64 (i : Nat))], h⟩ =
      some (.exit 2, ⟨[(1, P), (5, .ref nid 0), (8, .arr did' 0 0 1 cp' ex'), (9, .int .i64 (i' : Nat)), (40, .bool false)], h'⟩) ∧ Net2 H nx h' nid did' lid m' [] := by
  intro k
  induction k with
  | zero =>
    intro ls q m i did cp ex h hk hq hi hv g
    obtain ⟨q, rfl⟩ : ∃ r, q = r + 1 := ⟨q - 1, by omega⟩
    obtain rfl := List.length_eq_zero_iff.1 hk
    exact ⟨h, did, cp, ex, i, m, iter_out (two_end N P _ did cp i ex h) (by simp), g⟩
  | succ k ih =>
    intro ls q m i did cp ex h hk hq hi hv g
    obtain ⟨q, rfl⟩ : ∃ r, q = r + 1 := ⟨q - 1, by omega⟩
    -- where the next one is taken from
    obtain ⟨A, v, B, hAB, hn, hpk⟩ : ∃ A v B, ls = A ++ v :: B ∧ k + 1 = A.length + 1 + B.length ∧
        ((P = .p (.s (.slice none 0 0)) ∧ A = []) ∨ ∃ pk fl, P = .p (.sl (bytP pk) pk.length 1 fl) ∧ ((pk.length ≤ i ∧ A = []) ∨ ∃ b : UInt8, pk[i]? = some b ∧ A.length = b.toNat % (k + 1))) := by
      have at' : ∀ j, j < k + 1 → ∃ A v B, ls = A ++ v :: B ∧ k + 1 = A.length + 1 + B.length ∧ A.length = j := by
        intro j hj
        refine ⟨ls.take j, ls[j]'(by omega), ls.drop (j + 1), ?_, ?_, ?_⟩
        · rw [List.getElem_cons_drop, List.take_append_drop]
        · simp; omega
        · simp; omega
      rcases hP with rfl | ⟨pk, fl, rfl⟩
      · obtain ⟨A, v, B, h1, h2, h3⟩ := at' 0 (by omega)
        exact ⟨A, v, B, h1, h2, .inl ⟨rfl, List.length_eq_zero_iff.1 h3⟩⟩
      · by_cases hlt : i < pk.length
        · obtain ⟨A, v, B, h1, h2, h3⟩ := at' (pk[i].toNat % (k + 1)) (Nat.mod_lt _ (by omega))
          exact ⟨A, v, B, h1, h2, .inr ⟨pk, fl, rfl, .inr ⟨pk[i], List.getElem?_eq_getElem hlt, h3⟩⟩⟩
        · obtain ⟨A, v, B, h1, h2, h3⟩ := at' 0 (by omega)
          exact ⟨A, v, B, h1, h2, .inr ⟨pk, fl, rfl, .inl ⟨by omega, List.length_eq_zero_iff.1 h3⟩⟩⟩
    rw [hAB] at g hv
    obtain ⟨h', did', cp', ex', e1, e2⟩ := two_step N g (hv v (by simp)) P i cp ex (by omega) (k + 1) hn hpk
    rw [iter_step e1]
    have hk' : A.length + B.length = k := by omega
    rw [hk']
    exact ih (A ++ B) q (m + 1) (i + 1) did' cp' ex' h' (by simp; omega) (by omega) (by omega) (fun w hw => hv w (by simp only [List.mem_append, List.mem_cons] at hw ⊢; rcases hw with h | h; exact .inl h; exact .inr (.inr h))) e2
end two

theorem len_nil (nid : Nat) (x : LV) (H : Heap) (nx : Nat) (hl : H nid = some (.cells [.p (.s (.slice none 0 0)), x])) (hid : nid < nx) : Ω 9 [.ref nid 0] H nx = some (.int .i64 0, [], []) := by
  refine om_run (ir := ir9) rfl 0 ?_
  simp [ir9, Go.Sx.runF_S, runCS_skip, runCS_reg, runCS_draw, runCS_seq, runCS_cond, runCS_block, runCS_loop, runCS_exit, runCS_ret, runOpsS_nil, runOpsS_cons, runOpsTS_nil, runOpsTS_cons, Go.Sx.wants, Go.Sx.evOp, Go.Sx.opd, Sx.get, Go.Sx.putD, Sx.keep, Go.Sx.binL, Go.Sx.isSh, binI_add, binI_sub, binI_mul, binI_eql, binI_neq, binI_lss, binI_leq, binI_gtr, binI_geq, Go.Sx.leI_eq, Go.Sx.eqL, unL_not, unL_neg, Go.Sx.resVs, Go.Sx.resV, Go.Sx.oneL, Go.Sx.finish, Go.Sx.frz, Go.Sx.frz.go, Go.Sx.frzL, Go.Sx.frzL.go, Go.Sx.ids, Go.Sx.ids.idsL, Go.Sx.updIds, Go.Sx.reach, Go.Sx.ren, Go.Sx.ren.go, Go.Sx.renU, Go.Sx.renN, Go.Sx.renO, Go.Sx.renId, List.idxOf?_cons, Go.Sx.fillP, Go.Sx.mkAgg, Go.Sx.allP, Go.Sx.LV.cells, Go.Sx.Obj.cells, Go.Sx.splice, Go.Sx.rd, Go.Sx.push, Go.Sx.look, Go.Sx.findU, Go.Sx.setObj, Go.Sx.setU, Go.Sx.setAll, Go.Sx.callO, Go.Sx.slCells, Go.Sx.sliceO, Go.Sx.appO, Value.oneCell', Go.Sx.mmL, Go.Sx.mm2, Go.Sx.gslot, Go.Sx.IROp.slots, Go.Sx.Opd.slots, Go.Sx.indepD, Go.Sx.quickD, Go.Sx.indepR, Go.Sx.pairsD, Go.Sx.apartD, Nat.testBit, Go.Sx.Obj.ids, Go.Sx.natL, Go.Sx.optMap, Go.Sx.LV.undef, Go.undef, ltF, hl, hid]
theorem take_numsP (l : List Nat) : List.take l.length (nums l) = nums l := by rw [← nums_len, List.take_length]

/-- What comes behind the first loop. -/
def ordT : IRC := match ir3.body with
  | .seq _ (.seq _ (.seq _ (.seq _ (.seq _ r)))) => r
  | _ => .skip

section tail
variable {H : Heap} {nx : Nat} {h : Hp} {nid : Nat} {l : List Nat}
theorem tail_ (N : Nat) (hN : 40 ≤ N) (P : LV) (hP : P = .p (.s (.slice none 0 0)) ∨ ∃ pk fl, P = .p (.sl (bytP pk) pk.length 1 fl)) (x0 : LV) (hx : (x0 = .p (.s (.slice none 0 0)) ∧ l = []) ∨ ∃ fl, x0 = .p (.sl (numsP l) l.length 1 fl))
    (h30 : l.length ≤ 30) (h64 : ∀ v ∈ l, v < 2 ^ 64) (g : Net1 H nx h nid (l.map fr)) (E : Env) :
    ∃ h', runCS ⟨Ω, noG, H, nx⟩ N ordT ⟨(0, x0) :: (1, P) :: (5, .ref nid 0) :: E, h⟩ = some (.ret, ⟨[(4, .bool true)], h'⟩) ∧ h'.upd = [] := by
  have hnlt := g.nlt
  have hnge := g.nge
  have hupd := g.upd
  have k1 : ∀ k, nid < nx + (h.new.length + k) := fun k => by omega
  have k4 : ∀ k, ¬ nid = nx + (h.new.length + k) := fun k => by omega
  have k7 : ¬ nid = nx + h.new.length := by omega
  obtain ⟨N, rfl⟩ : ∃ q, N = q + 1 := ⟨N - 1, by omega⟩
  by_cases hl : l = []
  · subst hl
    have h1 : Go.Sx.look H nx h nid = some (.cells [.p (.s (.slice none 0 0)), .int .i64 50]) := by
      rcases g.at' with ⟨_, h1⟩ | ⟨h0, _⟩
      · exact h1
      · simp at h0
    have e2 := fun did h => iter_out (n := N) (two_end (H := H) (nx := nx) (N + 1) P (.ref nid 0) did 0 0 true h) (by simp)
    simp only [Int.natCast_zero, Int.ofNat_zero] at e2
    have ht := fun (H' : Heap) (nx' : Nat) (e : H' nid = some (.cells [.p (.s (.slice none 0 0)), .int .i64 50])) (hid : nid < nx') => take_none nid H' nx' (fun H'' nx'' e' hid' => has_nil nid H'' nx'' (.int .i64 50) (e'.trans e) hid') hid
    have hle := fun H' nx' => len_nil nid (.int .i64 50) H' nx'
    have hnp : numsP [] = [] := rfl
    have hnu : nums [] = [] := rfl
    have e := Eq.refl (runCS ⟨Ω, noG, H, nx⟩ (N + 1) ordT ⟨(0, x0) :: (1, P) :: (5, .ref nid 0) :: E, h⟩)
    rcases hx with ⟨rfl, _⟩ | ⟨fl, rfl⟩
    all_goals
      conv at e =>
        rhs
        simp [ordT, ir3, Go.Sx.runF_S, runCS_skip, runCS_reg, runCS_draw, runCS_seq, runCS_cond, runCS_block, runCS_loop, runCS_exit, runCS_ret, runOpsS_nil, runOpsS_cons, runOpsTS_nil, runOpsTS_cons, Go.Sx.wants, Go.Sx.evOp, Go.Sx.opd, Sx.get, Go.Sx.putD, Sx.keep, Go.Sx.binL, Go.Sx.isSh, binI_add, binI_sub, binI_mul, binI_eql, binI_neq, binI_lss, binI_leq, binI_gtr, binI_geq, Go.Sx.leI_eq, Go.Sx.eqL, unL_not, unL_neg, Go.Sx.resVs, Go.Sx.resV, Go.Sx.oneL, Go.Sx.finish, Go.Sx.frz, Go.Sx.frz.go, Go.Sx.frzL, Go.Sx.frzL.go, Go.Sx.ids, Go.Sx.ids.idsL, Go.Sx.updIds, Go.Sx.reach, Go.Sx.ren, Go.Sx.ren.go, Go.Sx.renU, Go.Sx.renN, Go.Sx.renO, Go.Sx.renId, List.idxOf?_cons, Go.Sx.fillP, Go.Sx.mkAgg, Go.Sx.allP, Go.Sx.LV.cells, Go.Sx.Obj.cells, Go.Sx.splice, Go.Sx.rd, Go.Sx.findU, Go.Sx.setAll, callO_A, aft_nil, aft_one, Go.Sx.slCells, Go.Sx.sliceO, Go.Sx.appO, Value.oneCell', Go.Sx.mmL, Go.Sx.mm2, Go.Sx.gslot, Go.Sx.IROp.slots, Go.Sx.Opd.slots, Go.Sx.indepD, Go.Sx.quickD, Go.Sx.indepR, Go.Sx.pairsD, Go.Sx.apartD, Nat.testBit, Go.Sx.Obj.ids, Go.Sx.natL, Go.Sx.optMap, Go.Sx.LV.undef, Go.undef, ltF, look_push, push_len, setObj_len, look_set', Nat.add_assoc, e2, ht, hle, h1, hnlt, k1, k4, k7, hnp, hnu]
      exact ⟨_, e, by simp [setObj_upd, push_upd, hupd]⟩
  · have hl0 : 0 < l.length := List.length_pos_iff.2 hl
    obtain ⟨fl, rfl⟩ : ∃ fl, x0 = .p (.sl (numsP l) l.length 1 fl) := by
      rcases hx with ⟨_, h⟩ | h
      · exact absurd h hl
      · exact h
    obtain ⟨lid, l1, l2, d1, d2, d3⟩ : ∃ lid, Go.Sx.look H nx h nid = some (.cells [.arr lid 0 l.length 2 l.length false, .int .i64 50]) ∧ Go.Sx.look H nx h lid = some (.cells (fcs (l.map fr))) ∧ lid ≠ nid ∧ nx ≤ lid ∧ lid < nx + h.new.length := by
      rcases g.at' with ⟨h0, _⟩ | ⟨_, lid, a1, a2, a3, a4, a5⟩
      · simp at h0; exact absurd h0 hl
      · rw [List.length_map] at a1
        exact ⟨lid, a1, a2, a3, a4, a5⟩
    have g2 : Net2 H nx (push (push h (.cells [])) (.cells (nums l))) nid (nx + (h.new.length + 1)) lid 0 l := by
      refine ⟨?_, hnge, ?_, ?_, ?_, d2, ?_, ?_, d1, ?_, ?_, ?_, ?_, ?_⟩
      · simp [push_upd, hupd]
      · simp only [push_len]; omega
      · omega
      · simp only [push_len]; omega
      · simp only [push_len]; omega
      · omega
      · omega
      · omega
      · rw [look_push, push_len, if_neg (by omega), look_push, if_neg (by omega), l1]; rfl
      · rw [look_push, push_len, if_neg (by omega), look_push, if_neg (by omega), l2]; simp [zs]
      · rw [look_push, push_len, if_pos rfl]
    obtain ⟨h3, did', cp', ex', i', m', e3, g3⟩ := two_all (N + 1) P hP nid lid l.length l (N + 1) 0 0 (nx + (h.new.length + 1)) l.length false _ rfl (by omega) (by omega) h64 g2
    simp only [Int.natCast_zero, Int.ofNat_zero] at e3
    have a1 := g3.at1
    rw [List.length_nil] at a1
    have b1 := g3.nlt
    have b2 : ∀ k, nid < nx + (h3.new.length + k) := fun k => by omega
    have b3 : ¬ nid = nx + h3.new.length := by omega
    have b4 := g3.upd
    have b5 : ¬ nx + h3.new.length < nx := by omega
    have ht := fun (H' : Heap) (nx' : Nat) (e : H' nid = some (.cells [.arr lid 0 0 2 (0 + m') false, .int .i64 50])) (hid : nid < nx') => take_none nid H' nx' (fun H'' nx'' e' hid' => has_0' nid lid (0 + m') H'' nx'' (.int .i64 50) (e'.trans e) hid') hid
    have hle := fun H' nx' => len_ nid lid H' nx' (.int .i64 50) 0 0 (0 + m') false
    simp only [Nat.zero_add] at ht hle a1
    have tk := take_numsP l
    have h8 : l.length * 8 ≤ 1099511627776 := by omega
    have h8' : ¬ 1099511627776 < l.length * 8 := by omega
    have hne : ¬ l.length = 0 := by omega
    have e := Eq.refl (runCS ⟨Ω, noG, H, nx⟩ (N + 1) ordT ⟨(0, .p (.sl (numsP l) l.length 1 fl)) :: (1, P) :: (5, .ref nid 0) :: E, h⟩)
    conv at e =>
      rhs
      simp [ordT, ir3, Go.Sx.runF_S, runCS_skip, runCS_reg, runCS_draw, runCS_seq, runCS_cond, runCS_block, runCS_loop, runCS_exit, runCS_ret, runOpsS_nil, runOpsS_cons, runOpsTS_nil, runOpsTS_cons, Go.Sx.wants, Go.Sx.evOp, Go.Sx.opd, Sx.get, Go.Sx.putD, Sx.keep, Go.Sx.binL, Go.Sx.isSh, binI_add, binI_sub, binI_mul, binI_eql, binI_neq, binI_lss, binI_leq, binI_gtr, binI_geq, Go.Sx.leI_eq, Go.Sx.eqL, unL_not, unL_neg, Go.Sx.resVs, Go.Sx.resV, Go.Sx.oneL, Go.Sx.finish, Go.Sx.frz, Go.Sx.frz.go, Go.Sx.frzL, Go.Sx.frzL.go, Go.Sx.ids, Go.Sx.ids.idsL, Go.Sx.updIds, Go.Sx.reach, Go.Sx.ren, Go.Sx.ren.go, Go.Sx.renU, Go.Sx.renN, Go.Sx.renO, Go.Sx.renId, List.idxOf?_cons, Go.Sx.fillP, Go.Sx.mkAgg, Go.Sx.allP, Go.Sx.LV.cells, Go.Sx.Obj.cells, Go.Sx.splice, Go.Sx.rd, Go.Sx.findU, Go.Sx.setAll, callO_A, aft_nil, aft_one, Go.Sx.slCells, Go.Sx.sliceO, Go.Sx.appO, Value.oneCell', Go.Sx.mmL, Go.Sx.mm2, Go.Sx.gslot, Go.Sx.IROp.slots, Go.Sx.Opd.slots, Go.Sx.indepD, Go.Sx.quickD, Go.Sx.indepR, Go.Sx.pairsD, Go.Sx.apartD, Nat.testBit, Go.Sx.Obj.ids, Go.Sx.natL, Go.Sx.optMap, Go.Sx.LV.undef, Go.undef, ltF, look_push, push_len, setObj_len, look_set', Nat.add_assoc, numsP_map, nums_len, tk, h8, h8', hne, e3, ht, hle, a1, b1, b2, b3]
    exact ⟨_, e, by simp [setObj_upd, push_upd, b4]⟩
end tail
end Go.Proofs.YtkdimbcfacoboaaGreatDoor

