/- 'kinfolklaw20.NetApart' returns true at every input, and its arguments read as they did: the tied card. No condition. (The frame of this text was printed by the kit's proof-skeleton; the walk is by the value machine of the Sx texts.) -/
import Derived.Test.YtjmnamichdegaaaGreatDoorRows
import Derived.Test.YtjmnamichdegaaaGreatDoorCards
import Derived.Test.YtjmnamichdegaaaGreatDoorTie
import Derived.WalkKit
import Derived.ProofKit
import Derived.OpenShut
import Derived.Below
import Derived.Carry
import Derived.Lay
import Derived.LaidOnce
import Derived.SevenTiedAt
import Derived.Test.YtjmnamichdegaaaGreatDoorB6
namespace Go.Proofs.YtjmnamichdegaaaGreatDoor.netApart
open Go.ChangeShapes Go.WideShapes Go.ChangeAt Go.RowKit
set_option linter.unusedVariables false

theorem own : ownKnob Tryz.prog.godebug = none := by kernel_rfl
theorem laidOut : laidOutB Tryz.prog = true := by kernel_rfl
theorem flat32 : flatB Tryz.prog 32 = some actK := by kernel_rfl

theorem acts_val {w : World} {v1 : Value} (h1 : v1 = .slice none 0 0 ∨ ∃ rows : List (List Value), (∀ r ∈ rows, Fits actK r) ∧ rows.length < 2 ^ 63 ∧ Go.Sx.PR (fun b => b < w.heap.size) w (.sl (rows.flatten.map Go.Sx.PV.s) rows.length actK.length false) v1) :
    ∃ x l, Acts (.p x) l ∧ l.length < 2 ^ 63 ∧ (∀ a ∈ l, a.ok) ∧ Go.Sx.PR (fun b => b < w.heap.size) w x v1 := by
  rcases h1 with rfl | ⟨rows, hr, hl, hp⟩
  · exact ⟨_, [], .inl ⟨rfl, rfl⟩, by simp, by simp, .s _⟩
  · obtain ⟨l, h1, h2, h3⟩ := acts_of hr
    rw [h3, ← h2] at hp
    exact ⟨_, l, .inr ⟨false, rfl⟩, by omega, h1, hp⟩
theorem walk (i : Int) (v0 v1 : Value) (w : World)
    (h0 : v0 = .slice none 0 0 ∨ ∃ rows : List (List Value), (∀ r ∈ rows, Fits actK r) ∧ rows.length < 2 ^ 63 ∧ Go.Sx.PR (fun b => b < w.heap.size) w (.sl (rows.flatten.map Go.Sx.PV.s) rows.length actK.length false) v0)
    (h1 : v1 = .slice none 0 0 ∨ ∃ rows : List (List Value), (∀ r ∈ rows, Fits actK r) ∧ rows.length < 2 ^ 63 ∧ Go.Sx.PR (fun b => b < w.heap.size) w (.sl (rows.flatten.map Go.Sx.PV.s) rows.length actK.length false) v1) :
    Calls Tryz.prog 4 #[v0, v1, .int .i64 i] w fun e w' => e = .returned (.bool true) ∧ Below w.heap.size w w' := by
  obtain ⟨x, l, hx, hl, hok, px⟩ := acts_val h0
  obtain ⟨y, l', hy, hl', hok', py⟩ := acts_val h1
  obtain ⟨m, hm⟩ := Go.Sx.om_eval (netapart_ (.p x) (.p y) l l' hx hy hl hl' hok hok' i)
  refine (Go.Sx.call_of_eval (I := fun b => b < w.heap.size) Tryz.checked.mixed (Go.Sx.noX_sound _ _) irs_ok hm (fun _ h => h) (fun _ _ h => by cases h) rfl ?_).mono ?_
  · intro j l v h1 h2
    match j with
    | 0 =>
      obtain rfl := Option.some.inj h1
      obtain rfl := Option.some.inj h2
      exact .p px
    | 1 =>
      obtain rfl := Option.some.inj h1
      obtain rfl := Option.some.inj h2
      exact .p py
    | 2 =>
      obtain rfl := Option.some.inj h1
      obtain rfl := Option.some.inj h2
      exact .p (.s _)
    | j + 3 => cases h1
  · rintro e w' ⟨v, I', rfl, ⟨h1, h2, h3, h4, h5⟩, hv⟩
    cases hv
    exact ⟨rfl, ⟨h1, h2, h3, h4, h5⟩⟩

set_option maxRecDepth 100000 in
theorem lifted (os : Os) (started : os.Started) (H : Type) (enc : TypeId × Value → H) :
    ReturnsInHanded {} Tryz.checked os 4 .any (fun w args => (Rows.netApartSpec.pre enc Tryz.prog Tryz.f4 [] false w args ∧ laidMetH Tryz.prog Rows.netApartRow.laid w) ∧ sizedMet enc Tryz.prog Tryz.f4 (OpenSpec.ofChange Rows.netApartSpec) false w args)
      (Rows.netApartSpec.post enc Tryz.prog Tryz.f4 false true false false) := by
  refine returnsInHanded_of_change_and (C := Tryz.checked) (X := fun w _ => laidMetH Tryz.prog Rows.netApartRow.laid w) (fun _ _ _ hh h => h.of_heap hh) own started (by kernel_rfl) Tryz.func4
    (ChangeSpec.witness_shaped (enc := enc) (C := Tryz.checked) (os := os) (X := fun w _ => laidMetH Tryz.prog Rows.netApartRow.laid w) false (World.laidAll Tryz.prog os Rows.netApartRow.laid) #[.slice none 0 0, .slice none 0 0, .int .i64 0] 8 (World.laidAll_os _ _ _)
      (World.shaped_of_ZipB (by kernel_rfl) (by kernel_rfl)) (by kernel_rfl) (by kernel_rfl) (by kernel_rfl)
      (by rw [MakeChecks.laidMetH_plain _ _ _ (by kernel_rfl)]; exact laidMet_laidAll _ (by kernel_rfl) (by kernel_rfl))) ?_
  intro W base args ds gs before hval0 hW _ _ hL _
  have hval : ∀ (j : Nat) t v, Tryz.f4.params[j]? = some t → args[j]? = some v → Value.okWide Tryz.prog W .any base t v := hval0
  have hW' := hW
  obtain ⟨p, q, hA0, hV, rfl, hfz, hnd⟩ := hW
  have hA : DataW.TrodAll enc Tryz.prog W 0 (fun _ => true) true Tryz.f4.params.toList args.toList ds p := hA0
  rw [Tryz.params4] at hA hval
  obtain ⟨v0, vs0, d0, ds0, p0, q0, hargs, rfl, rfl, h0, r0⟩ := trodAll_cons hA
  obtain ⟨v1, vs1, d1, ds1, p1, q1, rfl, rfl, rfl, h1, r1⟩ := trodAll_cons r0
  obtain ⟨v2, vs2, d2, ds2, p2, q2, rfl, rfl, rfl, h2, r2⟩ := trodAll_cons r1
  obtain ⟨rfl, rfl, rfl⟩ := trodAll_nil r2
  obtain rfl : args = #[v0, v1, v2] := by cases args; simp_all
  obtain ⟨rfl, rfl⟩ := trodVars_none hV
  obtain ⟨a0, rfl, hd0, hp0, _⟩ := Go.ChangeShapes.open_int Tryz.underlying3 (hval 2 3 v2 rfl rfl) h2
  have o0 := sl_flat Tryz.underlying22 flat32 (by decide) (hval 0 22 v0 rfl rfl) h0
  have o1 := sl_flat Tryz.underlying22 flat32 (by decide) (hval 1 22 v1 rfl rfl) h1
  have hlt : ∀ x ∈ p0 ++ (p1 ++ (p2 ++ [])) ++ [], x.block < W.heap.size := fun x hx => by simpa using hW'.lt x hx
  clear hA0 hval0
  simp only [List.append_nil] at hW' hlt
  refine (walk a0 v0 v1 W o0 o1).mono fun e W' ⟨he, hg⟩ => ?_
  subst he
  have t0 := Below.trod laidOut (by kernel_rfl) (of_decide_eq_true (by kernel_rfl)) h0 hg (fun x hx => hlt x (List.mem_append_left _ hx))
  have t1 := Below.trod laidOut (by kernel_rfl) (of_decide_eq_true (by kernel_rfl)) h1 hg (fun x hx => hlt x (List.mem_append_right _ (List.mem_append_left _ hx)))
  have t2 := Below.trod laidOut (by kernel_rfl) (of_decide_eq_true (by kernel_rfl)) h2 hg (fun x hx => hlt x (List.mem_append_right _ (List.mem_append_right _ hx)))
  have ta := trodAll_cons_mk t0 (trodAll_cons_mk t1 (trodAll_cons_mk t2 trodAll_mk0))
  simp only [List.append_nil] at ta
  exact ⟨_, rfl, _, _, _, [], _, [], hW', trodAll_cons_mk (shut_bool Tryz.underlying4 _) trodAll_mk0, ta, rfl, hg.frame _, fun h => by cases h⟩

theorem over : Rows.netApartRow.holds Tryz.pinned (OpenSpec.ofChange Rows.netApartSpec) :=
  OpenClaim.holds_of_wide 4 Tryz.f4 rfl rfl rfl rfl rfl rfl rfl ⟨rfl, rfl, rfl, rfl, rfl⟩ rfl rfl rfl rfl rfl (by kernel_rfl) Tryz.func4 (by kernel_rfl)
    (of_decide_eq_true (by kernel_rfl)) (by unfold Func.isWrapper; first | (rw [if_pos (by decide +kernel)]; kernel_rfl) | (rw [if_neg (by decide +kernel)]; exact ⟨rfl, rfl⟩))
    (fun os started H enc _ => lifted os started H enc)

/-- The statement. -/
theorem proved : Rows.NetApartCardSaid :=
  Claim7.holds_tied_plain_at .later [] [.data, .pinned] true (true, "a83632830fe902a3ec7155a8390243e2f5f9f604e595161b5475f1fe34c159c6") false
    over (fun _ h => by cases h) (by kernel_rfl) (fun _ h => by cases h) netApart_row_tie rfl ⟨rfl, rfl⟩ (by kernel_rfl) rfl
    (fun f fn hf hfn => by
      obtain rfl : f = 4 := Option.some.inj ((show Tryz.prog.funcNamed "kinfolk/kinfolklaw20.NetApart" = some 4 by kernel_rfl).symm.trans hf) |>.symm
      obtain rfl : fn = Tryz.f4 := (Option.some.inj (Tryz.func4.symm.trans hfn)).symm
      exact ⟨by kernel_rfl, fun j t ht => by
        rw [Tryz.params4] at ht
        have hm : t ∈ [22, 22, 3] := by simpa using Array.mem_of_getElem? ht
        have hall : ([22, 22, 3].all fun u => !Tryz.prog.wantsStandIn u) = true := by kernel_rfl
        exact (show Tryz.prog.wantsStandIn t = false by simpa using List.all_eq_true.1 hall t hm)⟩)
    (by kernel_rfl)
#print axioms proved
end Go.Proofs.YtjmnamichdegaaaGreatDoor.netApart

