/- 'kinfolklaw20.NetOrder' returns true at every input, and its arguments read as they did: the tied card. No condition. (The frame of this text was printed by the kit's proof-skeleton; the walk is by the value machine of the Sx texts.) -/
import Derived.Test.YtkdimbcfacoboaaGreatDoorRows
import Derived.Test.YtkdimbcfacoboaaGreatDoorCards
import Derived.Test.YtkdimbcfacoboaaGreatDoorTie
import Derived.WalkKit
import Derived.ProofKit
import Derived.OpenShut
import Derived.Below
import Derived.Carry
import Derived.Lay
import Derived.LaidOnce
import Derived.SevenTiedAt
import Derived.Test.YtkdimbcfacoboaaGreatDoorNo
import Derived.Test.YtkdimbcfacoboaaGreatDoorNp
namespace Go.Proofs.YtkdimbcfacoboaaGreatDoor.netOrder
open Go.ChangeShapes Go.WideShapes Go.ChangeAt Go.RowKit
set_option linter.unusedVariables false

theorem own : ownKnob Tryz.prog.godebug = none := by kernel_rfl
theorem laidOut : laidOutB Tryz.prog = true := by kernel_rfl
theorem cells8 : Tryz.prog.cellsOf 27 = 1 := by kernel_rfl
theorem cells1 : Tryz.prog.cellsOf 5 = 1 := by kernel_rfl

/-- What a slice of numbers is to the machine. -/
theorem nos_of {w : World} {v : Value} (h : v = .slice none 0 0 ∨ ∃ zs : List Int, (∀ n ∈ zs, (Lit.int .u64 n).wf = true) ∧ zs.length < 2 ^ 63 ∧ Go.Sx.PR (fun b => b < w.heap.size) w (.sl (zs.map fun n => .s (.int .u64 n)) zs.length 1 false) v) :
    ∃ x l, Nos (.p x) l ∧ (∀ n ∈ l, n < 2 ^ 64) ∧ Go.Sx.PR (fun b => b < w.heap.size) w x v := by
  rcases h with rfl | ⟨zs, hw, _, hp⟩
  · exact ⟨_, [], .inl ⟨rfl, rfl⟩, by simp, .s _⟩
  · have hz : ∀ n ∈ zs, 0 ≤ n ∧ n ≤ 18446744073709551615 := fun n hn => by simpa [Lit.wf, IntKind.min, IntKind.max, IntKind.signed, IntKind.bits] using hw n hn
    have e : (zs.map fun n => Go.Sx.PV.s (.int .u64 n)) = numsP (zs.map Int.toNat) := by
      simp only [numsP, List.map_map]
      refine List.map_congr_left fun n hn => ?_
      simp only [Function.comp]
      rw [Int.toNat_of_nonneg (hz n hn).1]
    rw [e] at hp
    refine ⟨_, zs.map Int.toNat, .inr ⟨false, ?_⟩, ?_, hp⟩
    · rw [List.length_map]
    · intro n hn
      obtain ⟨m, hm, rfl⟩ := List.mem_map.1 hn
      have := hz m hm
      omega
theorem bytes_of {w : World} {v : Value} (h : v = .slice none 0 0 ∨ ∃ zs : List Int, (∀ n ∈ zs, (Lit.int .u8 n).wf = true) ∧ zs.length < 2 ^ 63 ∧ Go.Sx.PR (fun b => b < w.heap.size) w (.sl (zs.map fun n => .s (.int .u8 n)) zs.length 1 false) v) :
    ∃ x, (Go.Sx.LV.p x = .p (.s (.slice none 0 0)) ∨ ∃ pk fl, Go.Sx.LV.p x = .p (.sl (bytP pk) pk.length 1 fl)) ∧ Go.Sx.PR (fun b => b < w.heap.size) w x v := by
  rcases h with rfl | ⟨zs, hw, _, hp⟩
  · exact ⟨_, .inl rfl, .s _⟩
  · have hz : ∀ n ∈ zs, 0 ≤ n ∧ n ≤ 255 := fun n hn => by simpa [Lit.wf, IntKind.min, IntKind.max, IntKind.signed, IntKind.bits] using hw n hn
    have e : (zs.map fun n => Go.Sx.PV.s (.int .u8 n)) = bytP (zs.map fun n => UInt8.ofNat n.toNat) := by
      simp only [bytP, List.map_map]
      refine List.map_congr_left fun n hn => ?_
      have := hz n hn
      simp only [Function.comp]
      have e2 : ((UInt8.ofNat n.toNat).toNat : Int) = n := by simp; omega
      rw [e2]
    rw [e] at hp
    refine ⟨_, .inr ⟨zs.map fun n => UInt8.ofNat n.toNat, false, ?_⟩, hp⟩
    rw [List.length_map]

theorem walk (v0 v1 : Value) (w : World)
    (h0 : v0 = .slice none 0 0 ∨ ∃ zs : List Int, (∀ n ∈ zs, (Lit.int .u64 n).wf = true) ∧ zs.length < 2 ^ 63 ∧ Go.Sx.PR (fun b => b < w.heap.size) w (.sl (zs.map fun n => .s (.int .u64 n)) zs.length 1 false) v0)
    (h1 : v1 = .slice none 0 0 ∨ ∃ zs : List Int, (∀ n ∈ zs, (Lit.int .u8 n).wf = true) ∧ zs.length < 2 ^ 63 ∧ Go.Sx.PR (fun b => b < w.heap.size) w (.sl (zs.map fun n => .s (.int .u8 n)) zs.length 1 false) v1) :
    Calls Tryz.prog 3 #[v0, v1] w fun e w' => e = .returned (.bool true) ∧ Below w.heap.size w w' := by
  obtain ⟨x, l, hx, hl, px⟩ := nos_of h0
  obtain ⟨y, hy, py⟩ := bytes_of h1
  obtain ⟨m, hm⟩ := Go.Sx.om_eval (order_ (.p x) l hx hl (.p y) hy)
  refine (Go.Sx.call_of_eval (I := fun b => b < w.heap.size) Tryz.checked.mixed (Go.Sx.noX_sound _ _) irs_ok hm (fun _ h => h) (fun _ _ h => by cases h) rfl ?_).mono ?_
  · intro j l v h1 h2
    match j with
    | 0 =>
      obtain rfl := Option.some.inj h1
      obtain rfl := Option.some.inj h2
      exact .p px
    | 1 =>
      obtain rfl := Option.some.inj h1
      obtain rfl := Option.some.inj h2
      exact .p py
    | j + 2 => cases h1
  · rintro e w' ⟨v, I', rfl, ⟨h1, h2, h3, h4, h5⟩, hv⟩
    cases hv
    exact ⟨rfl, ⟨h1, h2, h3, h4, h5⟩⟩

set_option maxRecDepth 100000 in
theorem lifted (os : Os) (started : os.Started) (H : Type) (enc : TypeId × Value → H) :
    ReturnsInHanded {} Tryz.checked os 3 .any (fun w args => (Rows.netOrderSpec.pre enc Tryz.prog Tryz.f3 [] false w args ∧ laidMetH Tryz.prog Rows.netOrderRow.laid w) ∧ sizedMet enc Tryz.prog Tryz.f3 (OpenSpec.ofChange Rows.netOrderSpec) false w args)
      (Rows.netOrderSpec.post enc Tryz.prog Tryz.f3 false true false false) := by
  refine returnsInHanded_of_change_and (C := Tryz.checked) (X := fun w _ => laidMetH Tryz.prog Rows.netOrderRow.laid w) (fun _ _ _ hh h => h.of_heap hh) own started (by kernel_rfl) Tryz.func3
    (ChangeSpec.witness_shaped (enc := enc) (C := Tryz.checked) (os := os) (X := fun w _ => laidMetH Tryz.prog Rows.netOrderRow.laid w) false (World.laidAll Tryz.prog os Rows.netOrderRow.laid) #[.slice none 0 0, .slice none 0 0] 8 (World.laidAll_os _ _ _)
      (World.shaped_of_ZipB (by kernel_rfl) (by kernel_rfl)) (by kernel_rfl) (by kernel_rfl) (by kernel_rfl)
      (by rw [MakeChecks.laidMetH_plain _ _ _ (by kernel_rfl)]; exact laidMet_laidAll _ (by kernel_rfl) (by kernel_rfl))) ?_
  intro W base args ds gs before hval0 hW _ _ hL _
  have hval : ∀ (j : Nat) t v, Tryz.f3.params[j]? = some t → args[j]? = some v → Value.okWide Tryz.prog W .any base t v := hval0
  have hW' := hW
  obtain ⟨p, q, hA0, hV, rfl, hfz, hnd⟩ := hW
  have hA : DataW.TrodAll enc Tryz.prog W 0 (fun _ => true) true Tryz.f3.params.toList args.toList ds p := hA0
  rw [Tryz.params3] at hA hval
  obtain ⟨v0, vs0, d0, ds0, p0, q0, hargs, rfl, rfl, h0, r0⟩ := trodAll_cons hA
  obtain ⟨v1, vs1, d1, ds1, p1, q1, rfl, rfl, rfl, h1, r1⟩ := trodAll_cons r0
  obtain ⟨rfl, rfl, rfl⟩ := trodAll_nil r1
  obtain rfl : args = #[v0, v1] := by cases args; simp_all
  obtain ⟨rfl, rfl⟩ := trodVars_none hV
  have o0 := sl_open Tryz.underlying22 Tryz.underlying27 cells8 (hval 0 22 v0 rfl rfl) h0
  have o1 := sl_open Tryz.underlying23 Tryz.underlying5 cells1 (hval 1 23 v1 rfl rfl) h1
  have hlt : ∀ x ∈ p0 ++ (p1 ++ []) ++ [], x.block < W.heap.size := fun x hx => by simpa using hW'.lt x hx
  clear hA0 hval0
  simp only [List.append_nil] at hW' hlt
  refine (walk v0 v1 W o0 o1).mono fun e W' ⟨he, hg⟩ => ?_
  subst he
  have t0 := Below.trod laidOut (by kernel_rfl) (of_decide_eq_true (by kernel_rfl)) h0 hg (fun x hx => hlt x (List.mem_append_left _ hx))
  have t1 := Below.trod laidOut (by kernel_rfl) (of_decide_eq_true (by kernel_rfl)) h1 hg (fun x hx => hlt x (List.mem_append_right _ hx))
  have ta := trodAll_cons_mk t0 (trodAll_cons_mk t1 trodAll_mk0)
  simp only [List.append_nil] at ta
  exact ⟨_, rfl, _, _, _, [], _, [], hW', trodAll_cons_mk (shut_bool Tryz.underlying4 _) trodAll_mk0, ta, rfl, hg.frame _, fun h => by cases h⟩

theorem over : Rows.netOrderRow.holds Tryz.pinned (OpenSpec.ofChange Rows.netOrderSpec) :=
  OpenClaim.holds_of_wide 3 Tryz.f3 rfl rfl rfl rfl rfl rfl rfl ⟨rfl, rfl, rfl, rfl, rfl⟩ rfl rfl rfl rfl rfl (by kernel_rfl) Tryz.func3 (by kernel_rfl)
    (of_decide_eq_true (by kernel_rfl)) (by unfold Func.isWrapper; first | (rw [if_pos (by decide +kernel)]; kernel_rfl) | (rw [if_neg (by decide +kernel)]; exact ⟨rfl, rfl⟩))
    (fun os started H enc _ => lifted os started H enc)

/-- The statement. -/
theorem proved : Rows.NetOrderCardSaid :=
  Claim7.holds_tied_plain_at .later [] [.data, .pinned] true (true, "4a8ec73a17b443b5df5bfb440cc5743a8cbcbbfe5a7363137cfdf7f072e37f12") false
    over (fun _ h => by cases h) (by kernel_rfl) (fun _ h => by cases h) netOrder_row_tie rfl ⟨rfl, rfl⟩ (by kernel_rfl) rfl
    (fun f fn hf hfn => by
      obtain rfl : f = 3 := Option.some.inj ((show Tryz.prog.funcNamed "kinfolk/kinfolklaw20.NetOrder" = some 3 by kernel_rfl).symm.trans hf) |>.symm
      obtain rfl : fn = Tryz.f3 := (Option.some.inj (Tryz.func3.symm.trans hfn)).symm
      exact ⟨by kernel_rfl, fun j t ht => by
        rw [Tryz.params3] at ht
        have hm : t ∈ [22, 23] := by simpa using Array.mem_of_getElem? ht
        have hall : ([22, 23].all fun u => !Tryz.prog.wantsStandIn u) = true := by kernel_rfl
        exact (show Tryz.prog.wantsStandIn t = false by simpa using List.all_eq_true.1 hall t hm)⟩)
    (by kernel_rfl)
#print axioms proved
end Go.Proofs.YtkdimbcfacoboaaGreatDoor.netOrder

