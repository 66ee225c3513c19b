/- 'kinfolklaw17.NoteTurned' returns true at every input, and its arguments read as they did: the tied card. No condition. (The frame of this text was printed by the kit's proof-skeleton; the walk is by the value machine of the Sx texts.) -/
import Derived.Test.YtppeggedcaabkaaGreatDoorRows
import Derived.Test.YtppeggedcaabkaaGreatDoorCards
import Derived.Test.YtppeggedcaabkaaGreatDoorTie
import Derived.WalkKit
import Derived.ProofKit
import Derived.OpenShut
import Derived.Below
import Derived.Carry
import Derived.Lay
import Derived.LaidOnce
import Derived.SevenTiedAt
import Derived.Test.YtppeggedcaabkaaGreatDoorC5
namespace Go.Proofs.YtppeggedcaabkaaGreatDoor.noteTurned
open Go.ChangeShapes Go.WideShapes Go.ChangeAt Go.RowKit
set_option linter.unusedVariables false
set_option linter.constructorNameAsVariable false
theorem own:ownKnob Tryz.prog.godebug=none:=by kernel_rfl
theorem uR:laidOutB Tryz.prog=true:=by kernel_rfl
theorem wv:flatT Tryz.prog 4 27=some drawK:=by kernel_rfl
theorem yE (a:Drw) (Ia:List Nat) (Ta:List (Option (List UInt8))) (ha:a.Ok Ia Ta) (n1 n2 n3:Int) (w1:(Lit.int .u16 n1).wf=true) (w2:(Lit.int .u8 n2).wf=true) (w3:(Lit.int .u16 n3).wf=true) (v0:Value) (w:World)
  (h0:Go.Sx.PR (fun b=>b<w.heap.size) w (.agg a.cells) v0):
  Calls Tryz.prog 6 #[v0,.int .u16 n1,.int .u8 n2,.int .u16 n3] w fun e w'=>e = .returned (.bool true)∧Below w.heap.size w w':=by
 obtain ⟨b1,c1⟩:0≤n1∧n1≤65535:=by simpa [Lit.wf,IntKind.min,IntKind.max,IntKind.signed,IntKind.bits] using w1
 obtain ⟨b2,c2⟩:0≤n2∧n2≤255:=by simpa [Lit.wf,IntKind.min,IntKind.max,IntKind.signed,IntKind.bits] using w2
 obtain ⟨b3,c3⟩:0≤n3∧n3≤65535:=by simpa [Lit.wf,IntKind.min,IntKind.max,IntKind.signed,IntKind.bits] using w3
 obtain ⟨k1,rfl⟩:=Int.eq_ofNat_of_zero_le b1
 obtain ⟨k3,rfl⟩:=Int.eq_ofNat_of_zero_le b3
 obtain ⟨t,rfl⟩ : ∃ t:UInt8,n2=(t.toNat:Int):=⟨UInt8.ofNat n2.toNat,by rw [UInt8.toNat_ofNat'];omega⟩
 obtain ⟨m,hm⟩:=Go.Sx.om_eval (ms a Ia Ta ha k1 k3 t (by omega) (by omega))
 refine (Go.Sx.call_of_eval (I:=fun b=>b<w.heap.size) Tryz.checked.mixed (Go.Sx.noX_sound _ _) wD hm (fun _ h=>h) (fun _ _ h=>by cases h) rfl ?_).mono ?_
 ·intro j l v h1' h2'
  match j with
  | 0=>
   obtain rfl:=Option.some.inj h1'
   obtain rfl:=Option.some.inj h2'
   exact .p h0
  | 1|2|3=>
   obtain rfl:=Option.some.inj h1'
   obtain rfl:=Option.some.inj h2'
   exact .p (.s _)
  | j+4=>cases h1'
 ·rintro e w' ⟨v,I',rfl,⟨h1,h2,h3,h4,h5⟩,hv⟩
  cases hv
  exact ⟨rfl,⟨h1,h2,h3,h4,h5⟩⟩
theorem uj {H:Type} {enc:TypeId × Value→H} {W:World} {base:Nat} {spare:Nat→Bool} {held:Bool} {v:Value} {d:DataW H} {p:List MemPlace} (hval:Value.okWide Tryz.prog W .any base 27 v)
  (h:DataW.Trod enc Tryz.prog W 0 spare held 27 v d p) : ∃ (a:Drw) (I:List Nat) (Ts:List (Option (List UInt8))),a.Ok I Ts∧Go.Sx.PR (fun b=>b<W.heap.size) W (.agg a.cells) v:=by
 simp only [Value.okWide,Tryz.underlying27] at hval
 obtain ⟨cs,rfl,_,_⟩:=hval
 obtain ⟨n,hn⟩:=h
 obtain ⟨xs,hx⟩:=tE 4 27 drawK n _ _ wv hn
 have e:(Value.agg cs).cells.toList=cs.toList:=rfl
 rw [e] at hx
 obtain ⟨a,I,Ts,h1,rfl⟩:=uk hx
 exact ⟨a,I,Ts,h1,hx.pr⟩
set_option maxRecDepth 100000 in
theorem wF (os:Os) (started:os.Started) (H:Type) (enc:TypeId × Value→H):
  ReturnsInHanded {} Tryz.checked os 6 .any (fun w args=>(Rows.noteTurnedSpec.pre enc Tryz.prog Tryz.f6 [] false w args∧laidMetH Tryz.prog Rows.noteTurnedRow.laid w)∧sizedMet enc Tryz.prog Tryz.f6 (OpenSpec.ofChange Rows.noteTurnedSpec) false w args)
   (Rows.noteTurnedSpec.post enc Tryz.prog Tryz.f6 false true false false):=by
 refine returnsInHanded_of_change_and (C:=Tryz.checked) (X:=fun w _=>laidMetH Tryz.prog Rows.noteTurnedRow.laid w) (fun _ _ _ hh h=>h.of_heap hh) own started (by kernel_rfl) Tryz.func6
  (ChangeSpec.witness_shaped (enc:=enc) (C:=Tryz.checked) (os:=os) (X:=fun w _=>laidMetH Tryz.prog Rows.noteTurnedRow.laid w) false (World.laidAll Tryz.prog os Rows.noteTurnedRow.laid) #[.agg #[.int .i64 0,.int .i64 0,.int .i64 0,.int .u64 0,.int .u64 0,.int .i64 0,.bool false,.bool false,.slice none 0 0,.slice none 0 0,.slice none 0 0,.slice none 0 0],.int .u16 0,.int .u8 0,.int .u16 0] 8 (World.laidAll_os _ _ _)
   (World.shaped_of_ZipB (by kernel_rfl) (by kernel_rfl)) (by kernel_rfl) (by kernel_rfl) (by kernel_rfl)
   (by rw [MakeChecks.laidMetH_plain _ _ _ (by kernel_rfl)];exact laidMet_laidAll _ (by kernel_rfl) (by kernel_rfl))) ?_
 intro W base args ds gs before hval0 hW _ _ hL _
 have hval : ∀ (j:Nat) t v,Tryz.f6.params[j]?=some t→args[j]?=some v→Value.okWide Tryz.prog W .any base t v:=hval0
 have hW':=hW
 obtain ⟨p,q,hA0,hV,rfl,hfz,hnd⟩:=hW
 have hA:DataW.TrodAll enc Tryz.prog W 0 (fun _=>true) true Tryz.f6.params.toList args.toList ds p:=hA0
 rw [Tryz.params6] at hA hval
 obtain ⟨v0,vs0,d0,ds0,p0,q0,hargs,rfl,rfl,h0,r0⟩:=trodAll_cons hA
 obtain ⟨v1,vs1,d1,ds1,p1,q1,rfl,rfl,rfl,h1,r1⟩:=trodAll_cons r0
 obtain ⟨v2,vs2,d2,ds2,p2,q2,rfl,rfl,rfl,h2,r2⟩:=trodAll_cons r1
 obtain ⟨v3,vs3,d3,ds3,p3,q3,rfl,rfl,rfl,h3,r3⟩:=trodAll_cons r2
 obtain ⟨rfl,rfl,rfl⟩:=trodAll_nil r3
 obtain rfl:args = #[v0,v1,v2,v3]:=by cases args;simp_all
 obtain ⟨rfl,rfl⟩:=trodVars_none hV
 obtain ⟨a0,Ia,Ta,oa,o0⟩:=uj (hval 0 27 v0 rfl rfl) h0
 obtain ⟨n1,rfl,rfl,rfl,w1⟩:=open_int Tryz.underlying65 (hval 1 65 v1 rfl rfl) h1
 obtain ⟨n2,rfl,rfl,rfl,w2⟩:=open_int Tryz.underlying5 (hval 2 5 v2 rfl rfl) h2
 obtain ⟨n3,rfl,rfl,rfl,w3⟩:=open_int Tryz.underlying65 (hval 3 65 v3 rfl rfl) h3
 have hlt : ∀ x∈p0++([]++([]++([]++[])))++[],x.block<W.heap.size:=fun x hx=>by simpa using hW'.lt x hx
 clear hA0 hval0
 simp only [List.append_nil] at hW' hlt
 refine (yE a0 Ia Ta oa n1 n2 n3 w1 w2 w3 v0 W o0).mono fun e W' ⟨he,hg⟩ => ?_
 subst he
 have t0:=Below.trod uR (by kernel_rfl) (of_decide_eq_true (by kernel_rfl)) h0 hg (fun x hx=>hlt x (by simpa using hx))
 have ta:=trodAll_cons_mk t0 (trodAll_cons_mk (shut_int Tryz.underlying65 w1) (trodAll_cons_mk (shut_int Tryz.underlying5 w2) (trodAll_cons_mk (shut_int Tryz.underlying65 w3) trodAll_mk0)))
 simp only [List.append_nil] at ta
 exact ⟨_,rfl,_,_,_,[],_,[],hW',trodAll_cons_mk (shut_bool Tryz.underlying4 _) trodAll_mk0,ta,rfl,hg.frame _,fun h=>by cases h⟩
theorem yC:Rows.noteTurnedRow.holds Tryz.pinned (OpenSpec.ofChange Rows.noteTurnedSpec):=
 OpenClaim.holds_of_wide 6 Tryz.f6 rfl rfl rfl rfl rfl rfl rfl ⟨rfl,rfl,rfl,rfl,rfl⟩ rfl rfl rfl rfl rfl (by kernel_rfl) Tryz.func6 (by kernel_rfl)
  (of_decide_eq_true (by kernel_rfl)) (by unfold Func.isWrapper;first|(rw [if_pos (by decide +kernel)];kernel_rfl)|(rw [if_neg (by decide +kernel)];exact ⟨rfl,rfl⟩))
  (fun os started H enc _=>wF os started H enc)
theorem proved:Rows.NoteTurnedCardSaid:=
 Claim7.holds_tied_plain_at .later [] [.data,.pinned] true (true,"493b232f7dea0c4be09e8bf57e5b3933ccf19aaf015b6dc5abd03cea73a395f1") false
  yC (fun _ h=>by cases h) (by kernel_rfl) (fun _ h=>by cases h) noteTurned_row_tie rfl ⟨rfl,rfl⟩ (by kernel_rfl) rfl
  (fun f fn hf hfn=>by
   obtain rfl:f=6:=Option.some.inj ((show Tryz.prog.funcNamed "kinfolk/kinfolklaw17.NoteTurned" = some 6 by kernel_rfl).symm.trans hf) |>.symm
   obtain rfl:fn=Tryz.f6:=(Option.some.inj (Tryz.func6.symm.trans hfn)).symm
   exact ⟨by kernel_rfl,fun j t ht=>by
    rw [Tryz.params6] at ht
    have hm:t∈[27,65,5,65]:=by simpa using Array.mem_of_getElem? ht
    have hall:([27,65,5,65].all fun u => !Tryz.prog.wantsStandIn u)=true:=by kernel_rfl
    exact (show Tryz.prog.wantsStandIn t=false by simpa using List.all_eq_true.1 hall t hm)⟩)
  (by kernel_rfl)
#print axioms proved
end Go.Proofs.YtppeggedcaabkaaGreatDoor.noteTurned
