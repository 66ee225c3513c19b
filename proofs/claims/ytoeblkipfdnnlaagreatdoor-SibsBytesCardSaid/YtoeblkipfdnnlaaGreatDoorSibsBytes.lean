/- 'kinfolklaw13.SibsBytes' returns true at every input, and its arguments read as they did: the tied card. No condition. (The frame of this text was printed by the kit's proof-skeleton; the walk is by the value machine of the Sx texts.) -/
import Derived.Test.YtoeblkipfdnnlaaGreatDoorRows
import Derived.Test.YtoeblkipfdnnlaaGreatDoorCards
import Derived.Test.YtoeblkipfdnnlaaGreatDoorTie
import Derived.WalkKit
import Derived.ProofKit
import Derived.OpenShut
import Derived.Below
import Derived.Carry
import Derived.Lay
import Derived.LaidOnce
import Derived.SevenTiedAt
import Derived.Test.YtoeblkipfdnnlaaGreatDoorC5
namespace Go.Proofs.YtoeblkipfdnnlaaGreatDoor.sibsBytes
open Go.ChangeShapes Go.WideShapes Go.ChangeAt Go.RowKit
set_option linter.unusedVariables false
set_option linter.constructorNameAsVariable false
theorem own:ownKnob Tryz.prog.godebug=none:=by kernel_rfl
theorem qb:laidOutB Tryz.prog=true:=by kernel_rfl
theorem yH:flatT Tryz.prog 4 49=some drwK:=by kernel_rfl
theorem AY (a b:Dw) (ha:a.s.length<2^63) (hb:b.s.length<2^63) (v0 v1:Value) (w:World) (hl:laidMetH Tryz.prog sibsLaid w)
  (h0:Go.Sx.PR (fun b=>b<w.heap.size) w (.agg a.cells) v0) (h1:Go.Sx.PR (fun b=>b<w.heap.size) w (.agg b.cells) v1):
  Calls Tryz.prog 7 #[v0,v1] w fun e w'=>e = .returned (.bool true)∧Below w.heap.size w w':=by
 obtain ⟨m,hm⟩:=Go.Sx.om_eval (oV a b ha hb)
 refine (Go.Sx.call_of_eval (I:=fun b=>b<w.heap.size) Tryz.checked.mixed vQ yS hm (fun _ h=>h) (ue hl) rfl ?_).mono ?_
 ·intro j l v h1' h2'
  match j with
  | 0=>
   obtain rfl:=Option.some.inj h1'
   obtain rfl:=Option.some.inj h2'
   exact .p h0
  | 1=>
   obtain rfl:=Option.some.inj h1'
   obtain rfl:=Option.some.inj h2'
   exact .p h1
  | j+2=>cases h1'
 ·rintro e w' ⟨v,I',rfl,⟨h1,h2,h3,h4,h5⟩,hv⟩
  cases hv
  exact ⟨rfl,⟨h1,h2,h3,h4,h5⟩⟩
theorem pC {H:Type} {enc:TypeId × Value→H} {W:World} {base:Nat} {spare:Nat→Bool} {held:Bool} {v:Value} {d:DataW H} {p:List MemPlace} (hval:Value.okWide Tryz.prog W .any base 49 v)
  (h:DataW.Trod enc Tryz.prog W 0 spare held 49 v d p) : ∃ a:Dw,a.s.length<2^63∧Go.Sx.PR (fun b=>b<W.heap.size) W (.agg a.cells) v:=by
 simp only [Value.okWide,Tryz.underlying49] at hval
 obtain ⟨cs,rfl,_,_⟩:=hval
 obtain ⟨n,hn⟩:=h
 obtain ⟨xs,hx⟩:=ve 4 49 drwK n _ _ yH hn
 have e:(Value.agg cs).cells.toList=cs.toList:=rfl
 rw [e] at hx
 obtain ⟨a,rfl,h1⟩:=wj hx
 exact ⟨a,h1,hx.pr⟩
set_option maxRecDepth 100000 in
theorem yT (os:Os) (started:os.Started) (H:Type) (enc:TypeId × Value→H):
  ReturnsInHanded {} Tryz.checked os 7 .any (fun w args=>(Rows.sibsBytesSpec.pre enc Tryz.prog Tryz.f7 [] false w args∧laidMetH Tryz.prog Rows.sibsBytesRow.laid w)∧sizedMet enc Tryz.prog Tryz.f7 (OpenSpec.ofChange Rows.sibsBytesSpec) false w args)
   (Rows.sibsBytesSpec.post enc Tryz.prog Tryz.f7 false true false false):=by
 refine returnsInHanded_of_change_and (C:=Tryz.checked) (X:=fun w _=>laidMetH Tryz.prog Rows.sibsBytesRow.laid w) (fun _ _ _ hh h=>h.of_heap hh) own started (by kernel_rfl) Tryz.func7
  (ChangeSpec.witness_shaped (enc:=enc) (C:=Tryz.checked) (os:=os) (X:=fun w _=>laidMetH Tryz.prog Rows.sibsBytesRow.laid w) false (World.laidAll Tryz.prog os Rows.sibsBytesRow.laid) #[.agg #[.slice none 0 0,.string .empty,.bool false],.agg #[.slice none 0 0,.string .empty,.bool false]] 8 (World.laidAll_os _ _ _)
   (World.shaped_of_ZipB (by kernel_rfl) (by kernel_rfl)) (by kernel_rfl) (by kernel_rfl) (by kernel_rfl)
   (by rw [MakeChecks.laidMetH_plain _ _ _ (by kernel_rfl)];exact laidMet_laidAll _ (by kernel_rfl) (by kernel_rfl))) ?_
 intro W base args ds gs before hval0 hW _ _ hL _
 have hval : ∀ (j:Nat) t v,Tryz.f7.params[j]?=some t→args[j]?=some v→Value.okWide Tryz.prog W .any base t v:=hval0
 have hW':=hW
 obtain ⟨p,q,hA0,hV,rfl,hfz,hnd⟩:=hW
 have hA:DataW.TrodAll enc Tryz.prog W 0 (fun _=>true) true Tryz.f7.params.toList args.toList ds p:=hA0
 rw [Tryz.params7] at hA hval
 obtain ⟨v0,vs0,d0,ds0,p0,q0,hargs,rfl,rfl,h0,r0⟩:=trodAll_cons hA
 obtain ⟨v1,vs1,d1,ds1,p1,q1,rfl,rfl,rfl,h1,r1⟩:=trodAll_cons r0
 obtain ⟨rfl,rfl,rfl⟩:=trodAll_nil r1
 obtain rfl:args = #[v0,v1]:=by cases args;simp_all
 obtain ⟨rfl,rfl⟩:=trodVars_none hV
 obtain ⟨a0,oa,pr0⟩:=pC (hval 0 49 v0 rfl rfl) h0
 obtain ⟨b0,ob,pr1⟩:=pC (hval 1 49 v1 rfl rfl) h1
 have hlt : ∀ x∈p0++(p1++[])++[],x.block<W.heap.size:=fun x hx=>by simpa using hW'.lt x (by simpa using hx)
 clear hA0 hval0
 simp only [List.append_nil] at hW' hlt
 refine (AY a0 b0 oa ob v0 v1 W hL pr0 pr1).mono fun e W' ⟨he,hg⟩ => ?_
 subst he
 have t0:=Below.trod qb (by kernel_rfl) (of_decide_eq_true (by kernel_rfl)) h0 hg (fun x hx=>hlt x (by simp [hx]))
 have t1:=Below.trod qb (by kernel_rfl) (of_decide_eq_true (by kernel_rfl)) h1 hg (fun x hx=>hlt x (by simp [hx]))
 have ta:=trodAll_cons_mk t0 (trodAll_cons_mk t1 trodAll_mk0)
 simp only [List.append_nil] at ta
 exact ⟨_,rfl,_,_,_,[],_,[],hW',trodAll_cons_mk (shut_bool Tryz.underlying4 _) trodAll_mk0,ta,rfl,hg.frame _,fun h=>by cases h⟩
theorem AV:Rows.sibsBytesRow.holds Tryz.pinned (OpenSpec.ofChange Rows.sibsBytesSpec):=
 OpenClaim.holds_of_wide 7 Tryz.f7 rfl rfl rfl rfl rfl rfl rfl ⟨rfl,rfl,rfl,rfl,rfl⟩ rfl rfl rfl rfl rfl (by kernel_rfl) Tryz.func7 (by kernel_rfl)
  (of_decide_eq_true (by kernel_rfl)) (by unfold Func.isWrapper;first|(rw [if_pos (by decide +kernel)];kernel_rfl)|(rw [if_neg (by decide +kernel)];exact ⟨rfl,rfl⟩))
  (fun os started H enc _=>yT os started H enc)
theorem proved:Rows.SibsBytesCardSaid:=
 Claim7.holds_tied_plain_at .later [] [.data,.data,.data,.data,.sentinel,.sentinel,.pinned] true (true,"01c693a4e4ea1a781231cb052ca836655afdd6e7e6b2857a794381d7cf16712f") true
  AV (fun _ h=>by cases h) (by kernel_rfl) (fun _ h=>by cases h) sibsBytes_row_tie rfl ⟨rfl,rfl⟩ (by kernel_rfl) rfl
  (fun f fn hf hfn=>by
   obtain rfl:f=7:=Option.some.inj ((show Tryz.prog.funcNamed "kinfolk/kinfolklaw13.SibsBytes" = some 7 by kernel_rfl).symm.trans hf) |>.symm
   obtain rfl:fn=Tryz.f7:=(Option.some.inj (Tryz.func7.symm.trans hfn)).symm
   exact ⟨by kernel_rfl,fun j t ht=>by
    rw [Tryz.params7] at ht
    have hm:t∈[49,49]:=by simpa using Array.mem_of_getElem? ht
    have hall:([49,49].all fun u => !Tryz.prog.wantsStandIn u)=true:=by kernel_rfl
    exact (show Tryz.prog.wantsStandIn t=false by simpa using List.all_eq_true.1 hall t hm)⟩)
  (by kernel_rfl)
#print axioms proved
end Go.Proofs.YtoeblkipfdnnlaaGreatDoor.sibsBytes
