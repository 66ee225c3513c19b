/- 'kinfolklaw17.NoteApart' returns true at every input, and its arguments read as they did: the tied card. No condition. (The frame of this text was printed by the kit's proof-skeleton; the walk is by the value machine of the Sx texts.) -/
import Derived.Test.YtppeggedcaabkaaGreatDoorRows
import Derived.Test.YtppeggedcaabkaaGreatDoorCards
import Derived.Test.YtppeggedcaabkaaGreatDoorTie
import Derived.WalkKit
import Derived.ProofKit
import Derived.OpenShut
import Derived.Below
import Derived.Carry
import Derived.Lay
import Derived.LaidOnce
import Derived.SevenTiedAt
import Derived.Test.YtppeggedcaabkaaGreatDoorB6
namespace Go.Proofs.YtppeggedcaabkaaGreatDoor.noteApart
open Go.ChangeShapes Go.WideShapes Go.ChangeAt Go.RowKit
set_option linter.unusedVariables false
set_option linter.constructorNameAsVariable false

theorem own : ownKnob Tryz.prog.godebug = none := by kernel_rfl
theorem laidOut : laidOutB Tryz.prog = true := by kernel_rfl
theorem flat27 : flatT Tryz.prog 4 27 = some drawK := by kernel_rfl

theorem walk (a b : Drw) (Ia Ib : List Nat) (Ta Tb : List (Option (List UInt8))) (ha : a.Ok Ia Ta) (hb : b.Ok Ib Tb) (same : Bool) (v0 v1 : Value) (w : World)
    (h0 : Go.Sx.PR (fun b => b < w.heap.size) w (.agg a.cells) v0) (h1 : Go.Sx.PR (fun b => b < w.heap.size) w (.agg b.cells) v1) :
    Calls Tryz.prog 3 #[v0, v1, .bool same] w fun e w' => e = .returned (.bool true) ∧ Below w.heap.size w w' := by
  obtain ⟨m, hm⟩ := Go.Sx.om_eval (noteapart_ a b Ia Ib Ta Tb ha hb same)
  refine (Go.Sx.call_of_eval (I := fun b => b < w.heap.size) Tryz.checked.mixed (Go.Sx.noX_sound _ _) irs_ok hm (fun _ h => h) (fun _ _ h => by cases h) rfl ?_).mono ?_
  · intro j l v h1' h2'
    match j with
    | 0 =>
      obtain rfl := Option.some.inj h1'
      obtain rfl := Option.some.inj h2'
      exact .p h0
    | 1 =>
      obtain rfl := Option.some.inj h1'
      obtain rfl := Option.some.inj h2'
      exact .p h1
    | 2 =>
      obtain rfl := Option.some.inj h1'
      obtain rfl := Option.some.inj h2'
      exact .p (.s _)
    | j + 3 => cases h1'
  · rintro e w' ⟨v, I', rfl, ⟨h1, h2, h3, h4, h5⟩, hv⟩
    cases hv
    exact ⟨rfl, ⟨h1, h2, h3, h4, h5⟩⟩
theorem draw_in {H : Type} {enc : TypeId × Value → H} {W : World} {base : Nat} {spare : Nat → Bool} {held : Bool} {v : Value} {d : DataW H} {p : List MemPlace} (hval : Value.okWide Tryz.prog W .any base 27 v)
    (h : DataW.Trod enc Tryz.prog W 0 spare held 27 v d p) : ∃ (a : Drw) (I : List Nat) (Ts : List (Option (List UInt8))), a.Ok I Ts ∧ Go.Sx.PR (fun b => b < W.heap.size) W (.agg a.cells) v := by
  simp only [Value.okWide, Tryz.underlying27] at hval
  obtain ⟨cs, rfl, _, _⟩ := hval
  obtain ⟨n, hn⟩ := h
  obtain ⟨xs, hx⟩ := reads 4 27 drawK n _ _ flat27 hn
  have e : (Value.agg cs).cells.toList = cs.toList := rfl
  rw [e] at hx
  obtain ⟨a, I, Ts, h1, rfl⟩ := draw_of hx
  exact ⟨a, I, Ts, h1, hx.pr⟩

set_option maxRecDepth 100000 in
theorem lifted (os : Os) (started : os.Started) (H : Type) (enc : TypeId × Value → H) :
    ReturnsInHanded {} Tryz.checked os 3 .any (fun w args => (Rows.noteApartSpec.pre enc Tryz.prog Tryz.f3 [] false w args ∧ laidMetH Tryz.prog Rows.noteApartRow.laid w) ∧ sizedMet enc Tryz.prog Tryz.f3 (OpenSpec.ofChange Rows.noteApartSpec) false w args)
      (Rows.noteApartSpec.post enc Tryz.prog Tryz.f3 false true false false) := by
  refine returnsInHanded_of_change_and (C := Tryz.checked) (X := fun w _ => laidMetH Tryz.prog Rows.noteApartRow.laid w) (fun _ _ _ hh h => h.of_heap hh) own started (by kernel_rfl) Tryz.func3
    (ChangeSpec.witness_shaped (enc := enc) (C := Tryz.checked) (os := os) (X := fun w _ => laidMetH Tryz.prog Rows.noteApartRow.laid w) false (World.laidAll Tryz.prog os Rows.noteApartRow.laid) #[.agg #[.int .i64 0, .int .i64 0, .int .i64 0, .int .u64 0, .int .u64 0, .int .i64 0, .bool false, .bool false, .slice none 0 0, .slice none 0 0, .slice none 0 0, .slice none 0 0], .agg #[.int .i64 0, .int .i64 0, .int .i64 0, .int .u64 0, .int .u64 0, .int .i64 0, .bool false, .bool false, .slice none 0 0, .slice none 0 0, .slice none 0 0, .slice none 0 0], .bool false] 8 (World.laidAll_os _ _ _)
      (World.shaped_of_ZipB (by kernel_rfl) (by kernel_rfl)) (by kernel_rfl) (by kernel_rfl) (by kernel_rfl)
      (by rw [MakeChecks.laidMetH_plain _ _ _ (by kernel_rfl)]; exact laidMet_laidAll _ (by kernel_rfl) (by kernel_rfl))) ?_
  intro W base args ds gs before hval0 hW _ _ hL _
  have hval : ∀ (j : Nat) t v, Tryz.f3.params[j]? = some t → args[j]? = some v → Value.okWide Tryz.prog W .any base t v := hval0
  have hW' := hW
  obtain ⟨p, q, hA0, hV, rfl, hfz, hnd⟩ := hW
  have hA : DataW.TrodAll enc Tryz.prog W 0 (fun _ => true) true Tryz.f3.params.toList args.toList ds p := hA0
  rw [Tryz.params3] at hA hval
  obtain ⟨v0, vs0, d0, ds0, p0, q0, hargs, rfl, rfl, h0, r0⟩ := trodAll_cons hA
  obtain ⟨v1, vs1, d1, ds1, p1, q1, rfl, rfl, rfl, h1, r1⟩ := trodAll_cons r0
  obtain ⟨v2, vs2, d2, ds2, p2, q2, rfl, rfl, rfl, h2, r2⟩ := trodAll_cons r1
  obtain ⟨rfl, rfl, rfl⟩ := trodAll_nil r2
  obtain rfl : args = #[v0, v1, v2] := by cases args; simp_all
  obtain ⟨rfl, rfl⟩ := trodVars_none hV
  obtain ⟨a0, Ia, Ta, oa, o0⟩ := draw_in (hval 0 27 v0 rfl rfl) h0
  obtain ⟨a1, Ib, Tb, ob, o1⟩ := draw_in (hval 1 27 v1 rfl rfl) h1
  obtain ⟨same, rfl, hd2, hp2⟩ := Go.RowKit.open_bool Tryz.underlying4 (hval 2 4 v2 rfl rfl) h2
  have hlt : ∀ x ∈ p0 ++ (p1 ++ (p2 ++ [])) ++ [], x.block < W.heap.size := fun x hx => by simpa using hW'.lt x hx
  clear hA0 hval0
  simp only [List.append_nil] at hW' hlt
  refine (walk a0 a1 Ia Ib Ta Tb oa ob same v0 v1 W o0 o1).mono fun e W' ⟨he, hg⟩ => ?_
  subst he
  have t0 := Below.trod laidOut (by kernel_rfl) (of_decide_eq_true (by kernel_rfl)) h0 hg (fun x hx => hlt x (List.mem_append_left _ hx))
  have t1 := Below.trod laidOut (by kernel_rfl) (of_decide_eq_true (by kernel_rfl)) h1 hg (fun x hx => hlt x (List.mem_append_right _ (List.mem_append_left _ hx)))
  have t2 := Below.trod laidOut (by kernel_rfl) (of_decide_eq_true (by kernel_rfl)) h2 hg (fun x hx => hlt x (List.mem_append_right _ (List.mem_append_right _ hx)))
  have ta := trodAll_cons_mk t0 (trodAll_cons_mk t1 (trodAll_cons_mk t2 trodAll_mk0))
  simp only [List.append_nil] at ta
  exact ⟨_, rfl, _, _, _, [], _, [], hW', trodAll_cons_mk (shut_bool Tryz.underlying4 _) trodAll_mk0, ta, rfl, hg.frame _, fun h => by cases h⟩

theorem over : Rows.noteApartRow.holds Tryz.pinned (OpenSpec.ofChange Rows.noteApartSpec) :=
  OpenClaim.holds_of_wide 3 Tryz.f3 rfl rfl rfl rfl rfl rfl rfl ⟨rfl, rfl, rfl, rfl, rfl⟩ rfl rfl rfl rfl rfl (by kernel_rfl) Tryz.func3 (by kernel_rfl)
    (of_decide_eq_true (by kernel_rfl)) (by unfold Func.isWrapper; first | (rw [if_pos (by decide +kernel)]; kernel_rfl) | (rw [if_neg (by decide +kernel)]; exact ⟨rfl, rfl⟩))
    (fun os started H enc _ => lifted os started H enc)

/-- The statement. -/
theorem proved : Rows.NoteApartCardSaid :=
  Claim7.holds_tied_plain_at .later [] [.data, .pinned] true (true, "493b232f7dea0c4be09e8bf57e5b3933ccf19aaf015b6dc5abd03cea73a395f1") false
    over (fun _ h => by cases h) (by kernel_rfl) (fun _ h => by cases h) noteApart_row_tie rfl ⟨rfl, rfl⟩ (by kernel_rfl) rfl
    (fun f fn hf hfn => by
      obtain rfl : f = 3 := Option.some.inj ((show Tryz.prog.funcNamed "kinfolk/kinfolklaw17.NoteApart" = some 3 by kernel_rfl).symm.trans hf) |>.symm
      obtain rfl : fn = Tryz.f3 := (Option.some.inj (Tryz.func3.symm.trans hfn)).symm
      exact ⟨by kernel_rfl, fun j t ht => by
        rw [Tryz.params3] at ht
        have hm : t ∈ [27, 4] := by simpa using Array.mem_of_getElem? ht
        have hall : ([27, 4].all fun u => !Tryz.prog.wantsStandIn u) = true := by kernel_rfl
        exact (show Tryz.prog.wantsStandIn t = false by simpa using List.all_eq_true.1 hall t hm)⟩)
    (by kernel_rfl)
#print axioms proved
end Go.Proofs.YtppeggedcaabkaaGreatDoor.noteApart

