/- 'kinfolklaw13.SibsSets' returns true at every input, and its arguments read as they did: the tied card. No condition. (The frame of this text was printed by the kit's proof-skeleton; the walk is by the value machine of the Sx texts.) -/
import Derived.Test.YtoeblkipfdnnlaaGreatDoorRows
import Derived.Test.YtoeblkipfdnnlaaGreatDoorCards
import Derived.Test.YtoeblkipfdnnlaaGreatDoorTie
import Derived.WalkKit
import Derived.ProofKit
import Derived.OpenShut
import Derived.Below
import Derived.Carry
import Derived.Lay
import Derived.LaidOnce
import Derived.SevenTiedAt
import Derived.Test.YtoeblkipfdnnlaaGreatDoorB5
namespace Go.Proofs.YtoeblkipfdnnlaaGreatDoor.sibsSets
open Go.ChangeShapes Go.WideShapes Go.ChangeAt Go.RowKit
set_option linter.unusedVariables false
set_option linter.constructorNameAsVariable false
theorem own:ownKnob Tryz.prog.godebug=none:=by kernel_rfl
theorem ma:laidOutB Tryz.prog=true:=by kernel_rfl
theorem zb:flatT Tryz.prog 4 22=some [.sl drwK]:=by kernel_rfl
theorem zd:flatT Tryz.prog 4 23=some [.sl [.k (.int .u8)]]:=by kernel_rfl
theorem Be {D:List Dw} {x O:Go.Sx.PV} {o:List UInt8} (hx:dsP D x) (hD:DwOk D) (hO:obB o O) (cut:Nat) (hc:cut<256) (v0 v1:Value) (w:World) (hl:laidMetH Tryz.prog sibsLaid w)
  (h0:Go.Sx.PR (fun b=>b<w.heap.size) w x v0) (h1:Go.Sx.PR (fun b=>b<w.heap.size) w O v1):
  Calls Tryz.prog 3 #[v0,v1,.int .u8 cut] w fun e w'=>e = .returned (.bool true)∧Below w.heap.size w w':=by
 have key:Ω 3 [.p x,.p O,.int .u8 cut] Go.Sx.noH 0=some (.bool true,[],[]):=by
  by_cases h:D=[]
  ·subst h;exact mJ hx hO cut hc
  ·exact tf hx h hD hO cut hc
 obtain ⟨m,hm⟩:=Go.Sx.om_eval key
 refine (Go.Sx.call_of_eval (I:=fun b=>b<w.heap.size) Tryz.checked.mixed wb zo hm (fun _ h=>h) (ux hl) rfl ?_).mono ?_
 ·intro j l v h1' h2'
  match j with
  | 0=>
   obtain rfl:=Option.some.inj h1'
   obtain rfl:=Option.some.inj h2'
   exact .p h0
  | 1=>
   obtain rfl:=Option.some.inj h1'
   obtain rfl:=Option.some.inj h2'
   exact .p h1
  | 2=>
   obtain rfl:=Option.some.inj h1'
   obtain rfl:=Option.some.inj h2'
   exact .p (.s _)
  | j+3=>cases h1'
 ·rintro e w' ⟨v,I',rfl,⟨h1,h2,h3,h4,h5⟩,hv⟩
  cases hv
  exact ⟨rfl,⟨h1,h2,h3,h4,h5⟩⟩
set_option maxRecDepth 100000 in
theorem zq (os:Os) (started:os.Started) (H:Type) (enc:TypeId × Value→H):
  ReturnsInHanded {} Tryz.checked os 3 .any (fun w args=>(Rows.sibsSetsSpec.pre enc Tryz.prog Tryz.f3 [] false w args∧laidMetH Tryz.prog Rows.sibsSetsRow.laid w)∧sizedMet enc Tryz.prog Tryz.f3 (OpenSpec.ofChange Rows.sibsSetsSpec) false w args)
   (Rows.sibsSetsSpec.post enc Tryz.prog Tryz.f3 false true false false):=by
 refine returnsInHanded_of_change_and (C:=Tryz.checked) (X:=fun w _=>laidMetH Tryz.prog Rows.sibsSetsRow.laid w) (fun _ _ _ hh h=>h.of_heap hh) own started (by kernel_rfl) Tryz.func3
  (ChangeSpec.witness_shaped (enc:=enc) (C:=Tryz.checked) (os:=os) (X:=fun w _=>laidMetH Tryz.prog Rows.sibsSetsRow.laid w) false (World.laidAll Tryz.prog os Rows.sibsSetsRow.laid) #[.slice none 0 0,.slice none 0 0,.int .u8 0] 8 (World.laidAll_os _ _ _)
   (World.shaped_of_ZipB (by kernel_rfl) (by kernel_rfl)) (by kernel_rfl) (by kernel_rfl) (by kernel_rfl)
   (by rw [MakeChecks.laidMetH_plain _ _ _ (by kernel_rfl)];exact laidMet_laidAll _ (by kernel_rfl) (by kernel_rfl))) ?_
 intro W base args ds gs before hval0 hW _ _ hL _
 have hval : ∀ (j:Nat) t v,Tryz.f3.params[j]?=some t→args[j]?=some v→Value.okWide Tryz.prog W .any base t v:=hval0
 have hW':=hW
 obtain ⟨p,q,hA0,hV,rfl,hfz,hnd⟩:=hW
 have hA:DataW.TrodAll enc Tryz.prog W 0 (fun _=>true) true Tryz.f3.params.toList args.toList ds p:=hA0
 rw [Tryz.params3] at hA hval
 obtain ⟨v0,vs0,d0,ds0,p0,q0,hargs,rfl,rfl,h0,r0⟩:=trodAll_cons hA
 obtain ⟨v1,vs1,d1,ds1,p1,q1,rfl,rfl,rfl,h1,r1⟩:=trodAll_cons r0
 obtain ⟨v2,vs2,d2,ds2,p2,q2,rfl,rfl,rfl,h2,r2⟩:=trodAll_cons r1
 obtain ⟨rfl,rfl,rfl⟩:=trodAll_nil r2
 obtain rfl:args = #[v0,v1,v2]:=by cases args;simp_all
 obtain ⟨rfl,rfl⟩:=trodVars_none hV
 obtain ⟨D,x,hDx,hD,pr0⟩:=AV (W:=W) zb Tryz.underlying22 (hval 0 22 v0 rfl rfl) h0
 obtain ⟨o,O,hO,pr1⟩:=Al (W:=W) zd Tryz.underlying23 (hval 1 23 v1 rfl rfl) h1
 obtain ⟨z,rfl,rfl,rfl,wz⟩:=open_int Tryz.underlying5 (hval 2 5 v2 rfl rfl) h2
 have hz:0≤z∧z≤255:=by simpa [Lit.wf,IntKind.min,IntKind.max,IntKind.signed,IntKind.bits] using wz
 have hlt : ∀ x∈p0++(p1++[])++[],x.block<W.heap.size:=fun x hx=>by simpa using hW'.lt x (by simpa using hx)
 clear hA0 hval0
 simp only [List.append_nil] at hW' hlt
 have wk:=Be hDx hD hO z.toNat (by omega) v0 v1 W hL pr0 pr1
 rw [Int.toNat_of_nonneg hz.1] at wk
 refine wk.mono fun e W' ⟨he,hg⟩ => ?_
 subst he
 have t0:=Below.trod ma (by kernel_rfl) (of_decide_eq_true (by kernel_rfl)) h0 hg (fun x hx=>hlt x (by simp [hx]))
 have t1:=Below.trod ma (by kernel_rfl) (of_decide_eq_true (by kernel_rfl)) h1 hg (fun x hx=>hlt x (by simp [hx]))
 have t2:=Below.trod ma (by kernel_rfl) (of_decide_eq_true (by kernel_rfl)) h2 hg (fun x hx=>by cases hx)
 have ta:=trodAll_cons_mk t0 (trodAll_cons_mk t1 (trodAll_cons_mk t2 trodAll_mk0))
 simp only [List.append_nil] at ta
 exact ⟨_,rfl,_,_,_,[],_,[],hW',trodAll_cons_mk (shut_bool Tryz.underlying4 _) trodAll_mk0,ta,rfl,hg.frame _,fun h=>by cases h⟩
theorem A9:Rows.sibsSetsRow.holds Tryz.pinned (OpenSpec.ofChange Rows.sibsSetsSpec):=
 OpenClaim.holds_of_wide 3 Tryz.f3 rfl rfl rfl rfl rfl rfl rfl ⟨rfl,rfl,rfl,rfl,rfl⟩ rfl rfl rfl rfl rfl (by kernel_rfl) Tryz.func3 (by kernel_rfl)
  (of_decide_eq_true (by kernel_rfl)) (by unfold Func.isWrapper;first|(rw [if_pos (by decide +kernel)];kernel_rfl)|(rw [if_neg (by decide +kernel)];exact ⟨rfl,rfl⟩))
  (fun os started H enc _=>zq os started H enc)
theorem proved:Rows.SibsSetsCardSaid:=
 Claim7.holds_tied_plain_at .later [] [.data,.data,.data,.data,.sentinel,.sentinel,.pinned] true (true,"01c693a4e4ea1a781231cb052ca836655afdd6e7e6b2857a794381d7cf16712f") true
  A9 (fun _ h=>by cases h) (by kernel_rfl) (fun _ h=>by cases h) sibsSets_row_tie rfl ⟨rfl,rfl⟩ (by kernel_rfl) rfl
  (fun f fn hf hfn=>by
   obtain rfl:f=3:=Option.some.inj ((show Tryz.prog.funcNamed "kinfolk/kinfolklaw13.SibsSets" = some 3 by kernel_rfl).symm.trans hf) |>.symm
   obtain rfl:fn=Tryz.f3:=(Option.some.inj (Tryz.func3.symm.trans hfn)).symm
   exact ⟨by kernel_rfl,fun j t ht=>by
    rw [Tryz.params3] at ht
    have hm:t∈[22,23,5]:=by simpa using Array.mem_of_getElem? ht
    have hall:([22,23,5].all fun u => !Tryz.prog.wantsStandIn u)=true:=by kernel_rfl
    exact (show Tryz.prog.wantsStandIn t=false by simpa using List.all_eq_true.1 hall t hm)⟩)
  (by kernel_rfl)
#print axioms proved
end Go.Proofs.YtoeblkipfdnnlaaGreatDoor.sibsSets
