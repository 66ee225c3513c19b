/- 'kinfolklaw13.SibsAgrees' returns true at every input, and its arguments read as they did: the tied card. No condition. (The frame of this text was printed by the kit's proof-skeleton; the walk is by the value machine of the Sx texts.) -/
import Derived.Test.YtoeblkipfdnnlaaGreatDoorRows
import Derived.Test.YtoeblkipfdnnlaaGreatDoorCards
import Derived.Test.YtoeblkipfdnnlaaGreatDoorTie
import Derived.WalkKit
import Derived.ProofKit
import Derived.OpenShut
import Derived.Below
import Derived.Carry
import Derived.Lay
import Derived.LaidOnce
import Derived.SevenTiedAt
import Derived.Test.YtoeblkipfdnnlaaGreatDoorD5
namespace Go.Proofs.YtoeblkipfdnnlaaGreatDoor.sibsAgrees
open Go.ChangeShapes Go.WideShapes Go.ChangeAt Go.RowKit
set_option linter.unusedVariables false
set_option linter.constructorNameAsVariable false
theorem own:ownKnob Tryz.prog.godebug=none:=by kernel_rfl
theorem rP:laidOutB Tryz.prog=true:=by kernel_rfl
theorem vj:flatT Tryz.prog 4 22=some [.sl drwK]:=by kernel_rfl
theorem BJ {D E:List Dw} {x y:Go.Sx.PV} (hx:dsP D x) (hD:DwOk D) (hy:dsP E y) (hE:DwOk E) (v0 v1:Value) (w:World) (hl:laidMetH Tryz.prog sibsLaid w)
  (h0:Go.Sx.PR (fun b=>b<w.heap.size) w x v0) (h1:Go.Sx.PR (fun b=>b<w.heap.size) w y v1):
  Calls Tryz.prog 5 #[v0,v1] w fun e w'=>e = .returned (.bool true)∧Below w.heap.size w w':=by
 have key:Ω 5 [.p x,.p y] Go.Sx.noH 0=some (.bool true,[],[]):=by
  by_cases h:D=[]
  ·by_cases h':E=[]
   ·exact kO hx h hD hy h' hE
   ·exact kP hx h hD hy h' hE
  ·by_cases h':E=[]
   ·exact kQ hx h hD hy h' hE
   ·exact kR hx h hD hy h' hE
 obtain ⟨m,hm⟩:=Go.Sx.om_eval key
 refine (Go.Sx.call_of_eval (I:=fun b=>b<w.heap.size) Tryz.checked.mixed wX Ab hm (fun _ h=>h) (vt hl) rfl ?_).mono ?_
 ·intro j l v h1' h2'
  match j with
  | 0=>
   obtain rfl:=Option.some.inj h1'
   obtain rfl:=Option.some.inj h2'
   exact .p h0
  | 1=>
   obtain rfl:=Option.some.inj h1'
   obtain rfl:=Option.some.inj h2'
   exact .p h1
  | j+2=>cases h1'
 ·rintro e w' ⟨v,I',rfl,⟨h1,h2,h3,h4,h5⟩,hv⟩
  cases hv
  exact ⟨rfl,⟨h1,h2,h3,h4,h5⟩⟩
set_option maxRecDepth 100000 in
theorem Ad (os:Os) (started:os.Started) (H:Type) (enc:TypeId × Value→H):
  ReturnsInHanded {} Tryz.checked os 5 .any (fun w args=>(Rows.sibsAgreesSpec.pre enc Tryz.prog Tryz.f5 [] false w args∧laidMetH Tryz.prog Rows.sibsAgreesRow.laid w)∧sizedMet enc Tryz.prog Tryz.f5 (OpenSpec.ofChange Rows.sibsAgreesSpec) false w args)
   (Rows.sibsAgreesSpec.post enc Tryz.prog Tryz.f5 false true false false):=by
 refine returnsInHanded_of_change_and (C:=Tryz.checked) (X:=fun w _=>laidMetH Tryz.prog Rows.sibsAgreesRow.laid w) (fun _ _ _ hh h=>h.of_heap hh) own started (by kernel_rfl) Tryz.func5
  (ChangeSpec.witness_shaped (enc:=enc) (C:=Tryz.checked) (os:=os) (X:=fun w _=>laidMetH Tryz.prog Rows.sibsAgreesRow.laid w) false (World.laidAll Tryz.prog os Rows.sibsAgreesRow.laid) #[.slice none 0 0,.slice none 0 0] 8 (World.laidAll_os _ _ _)
   (World.shaped_of_ZipB (by kernel_rfl) (by kernel_rfl)) (by kernel_rfl) (by kernel_rfl) (by kernel_rfl)
   (by rw [MakeChecks.laidMetH_plain _ _ _ (by kernel_rfl)];exact laidMet_laidAll _ (by kernel_rfl) (by kernel_rfl))) ?_
 intro W base args ds gs before hval0 hW _ _ hL _
 have hval : ∀ (j:Nat) t v,Tryz.f5.params[j]?=some t→args[j]?=some v→Value.okWide Tryz.prog W .any base t v:=hval0
 have hW':=hW
 obtain ⟨p,q,hA0,hV,rfl,hfz,hnd⟩:=hW
 have hA:DataW.TrodAll enc Tryz.prog W 0 (fun _=>true) true Tryz.f5.params.toList args.toList ds p:=hA0
 rw [Tryz.params5] at hA hval
 obtain ⟨v0,vs0,d0,ds0,p0,q0,hargs,rfl,rfl,h0,r0⟩:=trodAll_cons hA
 obtain ⟨v1,vs1,d1,ds1,p1,q1,rfl,rfl,rfl,h1,r1⟩:=trodAll_cons r0
 obtain ⟨rfl,rfl,rfl⟩:=trodAll_nil r1
 obtain rfl:args = #[v0,v1]:=by cases args;simp_all
 obtain ⟨rfl,rfl⟩:=trodVars_none hV
 obtain ⟨D,x,hDx,hD,pr0⟩:=zE (W:=W) vj Tryz.underlying22 (hval 0 22 v0 rfl rfl) h0
 obtain ⟨E,y,hEy,hE,pr1⟩:=zE (W:=W) vj Tryz.underlying22 (hval 1 22 v1 rfl rfl) h1
 have hlt : ∀ x∈p0++p1++[],x.block<W.heap.size:=fun x hx=>by simpa using hW'.lt x (by simpa using hx)
 clear hA0 hval0
 simp only [List.append_nil] at hW' hlt
 have wk:=BJ hDx hD hEy hE v0 v1 W hL pr0 pr1
 refine wk.mono fun e W' ⟨he,hg⟩ => ?_
 subst he
 have t0:=Below.trod rP (by kernel_rfl) (of_decide_eq_true (by kernel_rfl)) h0 hg (fun x hx=>hlt x (by simp [hx]))
 have t1:=Below.trod rP (by kernel_rfl) (of_decide_eq_true (by kernel_rfl)) h1 hg (fun x hx=>hlt x (by simp [hx]))
 have ta:=trodAll_cons_mk t0 (trodAll_cons_mk t1 trodAll_mk0)
 simp only [List.append_nil] at ta
 exact ⟨_,rfl,_,_,_,[],_,[],hW',trodAll_cons_mk (shut_bool Tryz.underlying4 _) trodAll_mk0,ta,rfl,hg.frame _,fun h=>by cases h⟩
theorem BF:Rows.sibsAgreesRow.holds Tryz.pinned (OpenSpec.ofChange Rows.sibsAgreesSpec):=
 OpenClaim.holds_of_wide 5 Tryz.f5 rfl rfl rfl rfl rfl rfl rfl ⟨rfl,rfl,rfl,rfl,rfl⟩ rfl rfl rfl rfl rfl (by kernel_rfl) Tryz.func5 (by kernel_rfl)
  (of_decide_eq_true (by kernel_rfl)) (by unfold Func.isWrapper;first|(rw [if_pos (by decide +kernel)];kernel_rfl)|(rw [if_neg (by decide +kernel)];exact ⟨rfl,rfl⟩))
  (fun os started H enc _=>Ad os started H enc)
theorem proved:Rows.SibsAgreesCardSaid:=
 Claim7.holds_tied_plain_at .later [] [.data,.data,.data,.data,.sentinel,.sentinel,.pinned] true (true,"01c693a4e4ea1a781231cb052ca836655afdd6e7e6b2857a794381d7cf16712f") true
  BF (fun _ h=>by cases h) (by kernel_rfl) (fun _ h=>by cases h) sibsAgrees_row_tie rfl ⟨rfl,rfl⟩ (by kernel_rfl) rfl
  (fun f fn hf hfn=>by
   obtain rfl:f=5:=Option.some.inj ((show Tryz.prog.funcNamed "kinfolk/kinfolklaw13.SibsAgrees" = some 5 by kernel_rfl).symm.trans hf) |>.symm
   obtain rfl:fn=Tryz.f5:=(Option.some.inj (Tryz.func5.symm.trans hfn)).symm
   exact ⟨by kernel_rfl,fun j t ht=>by
    rw [Tryz.params5] at ht
    have hm:t∈[22,22]:=by simpa using Array.mem_of_getElem? ht
    have hall:([22,22].all fun u => !Tryz.prog.wantsStandIn u)=true:=by kernel_rfl
    exact (show Tryz.prog.wantsStandIn t=false by simpa using List.all_eq_true.1 hall t hm)⟩)
  (by kernel_rfl)
#print axioms proved
end Go.Proofs.YtoeblkipfdnnlaaGreatDoor.sibsAgrees
