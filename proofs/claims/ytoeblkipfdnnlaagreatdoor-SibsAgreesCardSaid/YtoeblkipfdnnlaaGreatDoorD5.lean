/- What the proof of the claim leans on, part 5 of 5: the value machine, the functions as it has them, their specifications. No condition. -/
import Derived.Test.YtoeblkipfdnnlaaGreatDoorD4
import Derived.ProofKit
import Derived.OpenShut
import Derived.Below
import Derived.Deep.Slices
import Derived.ChangeArms
import Derived.Test.YtoeblkipfdnnlaaGreatDoorRows
import Derived.MakeChecks
import Derived.FnData
import Derived.ChangeSame
set_option linter.all false
set_option linter.unnecessarySimpa false
set_option linter.unusedSimpArgs false
set_option linter.unusedVariables false
set_option linter.constructorNameAsVariable false
set_option maxHeartbeats 4000000
section
namespace Go.Proofs.YtoeblkipfdnnlaaGreatDoor
open Go Go.Sx
set_option maxHeartbeats 1000000
theorem yX (H:Heap) (nx:Nat) (a b c:UInt8) (r:List UInt8) (ha:128≤a.toNat) (lo hi:Nat) (e:acc a.toNat=some (3,lo,hi)) (hlo:lo≤b.toNat) (hhi:b.toNat≤hi) (hc:cont c=true):
  run ⟨Ω,gG,H,nx⟩ ir156_1 ⟨[(0,.str ⟨(a::b::c::r).toArray⟩)],⟨[],[]⟩⟩=some (.normal,⟨[(0,.str ⟨r.toArray⟩)],⟨[],[]⟩⟩):=by
 have h8:=a.toNat_lt
 have sz:=aY (a::b::c::r)
 obtain ⟨t1,t2,t3,-,-⟩:=nv (by omega) ha e
 have fl:=iP a.toNat
 have k7:=zK (firstN a.toNat) fl
 have k4:=AI (firstN a.toNat)
 rw [t1] at k7
 have gt:=gn (show a.toNat<256 by omega)
 have ft:=gp
 have G1:=gG1
 have G2:=gG2
 have hg0 : ∀ h:0<(a::b::c::r).length,(a::b::c::r)[0]'h=a:=fun _=>rfl
 have f1:(128:Int)≤a.toNat:=by omega
 have h0:0<(a::b::c::r).length:=by simp
 have hI : ¬((a::b::c::r).length:Int)≤0:=by simp;omega
 have h2 : ¬(a::b::c::r).length=0:=by simp
 have w1:IntKind.i64.wrap 3=3:=by decide
 have gg : ∀ h,firstT[a.toNat]'h = .s (.int .u8 (firstN a.toNat:Nat)):=fun h=>(List.getElem?_eq_some_iff.1 gt).2
 clear gt
 have hF:firstN a.toNat/16<16:=by omega
 have aL:accT.length=32:=rfl
 have pf:List.take 2 (List.drop ((((firstN a.toNat:Nat):Int)/16).toNat*2) (List.map LV.p accT))=[.p (.s (.int .u8 (lo:Int))),.p (.s (.int .u8 (hi:Int)))]:=by
  have e1:(((firstN a.toNat:Nat):Int)/16).toNat=firstN a.toNat/16:=by omega
  rw [e1,Nat.mul_comm]
  have hb:2*(firstN a.toNat/16)+1<accL.length:=by rw [show accL.length=32 from rfl];omega
  rw [List.getElem?_eq_getElem (by omega)] at t2 t3
  simp only [Option.some.injEq] at t2 t3
  rw [mi,List.map_map,←List.map_drop,List.drop_eq_getElem_cons (show 2*(firstN a.toNat/16)<accL.length by omega),List.drop_eq_getElem_cons hb,t2,t3]
  rfl
 simp only [Int.cast_ofNat_Int] at k7
 have f2:(3:Int)≤((a::b::c::r).length:Int):=by simp;omega
 have n1:1<(a::b::c::r).length:=by simp
 have n2:3≤(a::b::c::r).length:=by simp
 have hg1 : ∀ h:1<(a::b::c::r).length,(a::b::c::r)[1]'h=b:=fun _=>rfl
 have c1:(lo:Int)≤b.toNat:=by omega
 have c2:(b.toNat:Int)≤hi:=by omega
 have n2':2<(a::b::c::r).length:=by simp
 have hg2 : ∀ h:2<(a::b::c::r).length,(a::b::c::r)[2]'h=c:=fun _=>rfl
 have u2:(128:Int)≤c.toNat:=by have:=bJ hc;omega
 have v2:(c.toNat:Int)≤191:=by have:=bJ hc;omega
 have x2:=bB (a::b::c::r) 3 (a::b::c::r).length
 rw [List.take_length,show (a::b::c::r).drop 3=r from rfl] at x2
 generalize firstT=FT at*
 generalize accT=AT at*
 generalize a::b::c::r=l at*
 generalize firstN a.toNat=F at*
 clear t1 t2 t3 e
 simp +contextual (maxSteps:=200000) [ir156_1,ssL,↓ssM,aa,ssU,Go.Sx.LV.undef,Go.undef,ssR,sz,hg0,hg1,f1,f2,n1,n2,h0,hI,h2,k7,k4,G1,G2,ft,gg,w1,pf,aL,hF,c1,c2,x2,n2',hg2,u2,v2]
 omega
theorem yY (H:Heap) (nx:Nat) (a b c d:UInt8) (r:List UInt8) (ha:128≤a.toNat) (lo hi:Nat) (e:acc a.toNat=some (4,lo,hi)) (hlo:lo≤b.toNat) (hhi:b.toNat≤hi) (hc:cont c=true) (hd:cont d=true):
  run ⟨Ω,gG,H,nx⟩ ir156_1 ⟨[(0,.str ⟨(a::b::c::d::r).toArray⟩)],⟨[],[]⟩⟩=some (.normal,⟨[(0,.str ⟨r.toArray⟩)],⟨[],[]⟩⟩):=by
 have h8:=a.toNat_lt
 have sz:=aY (a::b::c::d::r)
 obtain ⟨t1,t2,t3,-,-⟩:=nv (by omega) ha e
 have fl:=iP a.toNat
 have k7:=zK (firstN a.toNat) fl
 have k4:=AI (firstN a.toNat)
 rw [t1] at k7
 have gt:=gn (show a.toNat<256 by omega)
 have ft:=gp
 have G1:=gG1
 have G2:=gG2
 have hg0 : ∀ h:0<(a::b::c::d::r).length,(a::b::c::d::r)[0]'h=a:=fun _=>rfl
 have f1:(128:Int)≤a.toNat:=by omega
 have h0:0<(a::b::c::d::r).length:=by simp
 have hI : ¬((a::b::c::d::r).length:Int)≤0:=by simp;omega
 have h2 : ¬(a::b::c::d::r).length=0:=by simp
 have w1:IntKind.i64.wrap 4=4:=by decide
 have gg : ∀ h,firstT[a.toNat]'h = .s (.int .u8 (firstN a.toNat:Nat)):=fun h=>(List.getElem?_eq_some_iff.1 gt).2
 clear gt
 have hF:firstN a.toNat/16<16:=by omega
 have aL:accT.length=32:=rfl
 have pf:List.take 2 (List.drop ((((firstN a.toNat:Nat):Int)/16).toNat*2) (List.map LV.p accT))=[.p (.s (.int .u8 (lo:Int))),.p (.s (.int .u8 (hi:Int)))]:=by
  have e1:(((firstN a.toNat:Nat):Int)/16).toNat=firstN a.toNat/16:=by omega
  rw [e1,Nat.mul_comm]
  have hb:2*(firstN a.toNat/16)+1<accL.length:=by rw [show accL.length=32 from rfl];omega
  rw [List.getElem?_eq_getElem (by omega)] at t2 t3
  simp only [Option.some.injEq] at t2 t3
  rw [mi,List.map_map,←List.map_drop,List.drop_eq_getElem_cons (show 2*(firstN a.toNat/16)<accL.length by omega),List.drop_eq_getElem_cons hb,t2,t3]
  rfl
 simp only [Int.cast_ofNat_Int] at k7
 have f2:(4:Int)≤((a::b::c::d::r).length:Int):=by simp;omega
 have n1:1<(a::b::c::d::r).length:=by simp
 have n2:4≤(a::b::c::d::r).length:=by simp
 have hg1 : ∀ h:1<(a::b::c::d::r).length,(a::b::c::d::r)[1]'h=b:=fun _=>rfl
 have c1:(lo:Int)≤b.toNat:=by omega
 have c2:(b.toNat:Int)≤hi:=by omega
 have n2':2<(a::b::c::d::r).length:=by simp
 have hg2 : ∀ h:2<(a::b::c::d::r).length,(a::b::c::d::r)[2]'h=c:=fun _=>rfl
 have u2:(128:Int)≤c.toNat:=by have:=bJ hc;omega
 have v2:(c.toNat:Int)≤191:=by have:=bJ hc;omega
 have n3':3<(a::b::c::d::r).length:=by simp
 have hg3 : ∀ h:3<(a::b::c::d::r).length,(a::b::c::d::r)[3]'h=d:=fun _=>rfl
 have u3:(128:Int)≤d.toNat:=by have:=bJ hd;omega
 have v3:(d.toNat:Int)≤191:=by have:=bJ hd;omega
 have x2:=bB (a::b::c::d::r) 4 (a::b::c::d::r).length
 rw [List.take_length,show (a::b::c::d::r).drop 4=r from rfl] at x2
 generalize firstT=FT at*
 generalize accT=AT at*
 generalize a::b::c::d::r=l at*
 generalize firstN a.toNat=F at*
 clear t1 t2 t3 e
 simp +contextual (maxSteps:=200000) [ir156_1,ssL,↓ssM,aa,ssU,Go.Sx.LV.undef,Go.undef,ssR,sz,hg0,hg1,f1,f2,n1,n2,h0,hI,h2,k7,k4,G1,G2,ft,gg,w1,pf,aL,hF,c1,c2,x2,n2',hg2,u2,v2,n3',hg3,u3,v3]
 omega
end Go.Proofs.YtoeblkipfdnnlaaGreatDoor
end

section
namespace Go.Proofs.YtoeblkipfdnnlaaGreatDoor
open Go Go.Sx
set_option maxHeartbeats 1000000
theorem ip (H:Heap) (nx:Nat) : ∀ (m:Nat) (l:List UInt8),l.length≤m→good l→l.length<2^29 →
  run ⟨Ω,gG,H,nx⟩ (.loop ir156_1) ⟨[(0,.str ⟨l.toArray⟩)],⟨[],[]⟩⟩=some (.exit 0,⟨[],⟨[],[]⟩⟩)
 | m,[],_,_,_=>wV H nx
 | 0,a::r,hm,_,_=>by simp at hm
 | m+1,a::r,hm,hg,hl=>by
  have hm':r.length≤m:=by simpa using hm
  have hl':r.length<2^29:=by simp at hl;omega
  by_cases ha:a.toNat<128
  ·obtain ⟨j,e,hj⟩:=AN H nx a r ha hl'
   rw [ai,e,aE,aB]
   exact ip H nx m _ (by simp;omega) (lG j r (ow hg ha) hj) (by simp;omega)
  ·obtain ⟨x,k,hs,hk⟩:=ox hg
   have sz:=wJ a r ha
   rw [hs] at sz
   simp only [Option.map_some] at sz
   unfold accOk at sz
   cases e:acc a.toNat with
   | none=>rw [e] at sz;cases sz
   | some q=>
    obtain ⟨n,lo,hi⟩:=q
    rw [e] at sz
    simp only at sz
    obtain ⟨-,-,-,n2,n4⟩:=nv a.toNat_lt (by omega) e
    split at sz
    ·rename_i hr
     obtain rfl:k=n:=by simpa using sz
     rcases (by omega:k=2∨k=3∨k=4) with rfl|rfl|rfl
     ·match r,hr with
      | b::r,hr=>
       simp only [restOk,Bool.and_eq_true,decide_eq_true_eq] at hr
       rw [ai,AO H nx a b r (by omega) lo hi e hr.1 hr.2,aE,aB]
       exact ip H nx m r (by simp at hm';omega) hk (by simp at hl';omega)
     ·match r,hr with
      | b::c::r,hr=>
       simp only [restOk,Bool.and_eq_true,decide_eq_true_eq] at hr
       rw [ai,yX H nx a b c r (by omega) lo hi e hr.1.1 hr.1.2 hr.2,aE,aB]
       exact ip H nx m r (by simp at hm';omega) hk (by simp at hl';omega)
     ·match r,hr with
      | b::c::d::r,hr=>
       simp only [restOk,Bool.and_eq_true,decide_eq_true_eq] at hr
       rw [ai,yY H nx a b c d r (by omega) lo hi e hr.1.1.1 hr.1.1.2 hr.1.2 hr.2,aE,aB]
       exact ip H nx m r (by simp at hm';omega) hk (by simp at hl';omega)
    ·cases sz
theorem AM (l:List UInt8) (h:good l) (hl:l.length<2^29):Ψ 156 [.str ⟨l.toArray⟩] []=some (.bool true):=by
 have lp:=fun H nx=>ip H nx l.length l (Nat.le_refl _) h hl
 refine bf (ir:=ir156) (by kernel_rfl) ?_;simp +contextual (maxSteps:=1000000) [ir156,ssL,↓ssM,aa,ssU,Go.Sx.LV.undef,Go.undef,ssR,lp]
theorem pQ (s:List UInt8) (h:Nam s):Ψ 94 [.p (.agg (fldP s))] []=some (.int .i64 0):=
 ym s h yU (AM s (ov _ _ h.c) (by have:=h.l;omega))
end Go.Proofs.YtoeblkipfdnnlaaGreatDoor
end

section
namespace Go.Proofs.YtoeblkipfdnnlaaGreatDoor
open Go Go.Sx
set_option maxHeartbeats 1000000
theorem A9 (s:List UInt8) (fl:Bool):Ψ 95 [.p (.sl (fldP s) 1 3 fl)] []=some (.p (.agg [.sl (fldP s) 1 3 false])):=by
 cases fl<;>exact lW (n:=40) (by kernel_rfl)
theorem uM (s:List UInt8) (fl:Bool) (H:Heap) (nx:Nat):Ω 86 [.p (.agg [.sl (fldP s) 1 3 fl])] H nx=some (.int .i64 1,[],[]):=by
 have:=nR fl (some s) H nx
 simpa [b8] using this
theorem Bb:Ψ 51 [.p (.s (.slice none 0 0))] []=some (.tuple [.p (.agg [.s (.slice none 0 0)]),.int .i64 0]):=lW (n:=40) (by kernel_rfl)
theorem Bc (s:List UInt8) (h:Nam s) (fl:Bool):Ψ 51 [.p (.sl (fldP s) 1 3 fl)] []=some (.tuple [.p (.agg [.sl (fldP s) 1 3 false]),.int .i64 0]):=by
 have m:=A9 s fl
 have n:=pQ s h
 have k:=uM s false
 have w1:IntKind.i64.wrap 1=1:=by decide
 have lp0 : ∀ H nx,run ⟨Ω,gG,H,nx⟩ ir51_0 ⟨[(0,.p (.sl (fldP s) 1 3 fl)),(2,.ref nx 0),(8,.p (.sl (fldP s) 1 3 fl)),(9,.int .i64 1),(10,.int .i64 0)],⟨[],[some (.cells [.p (.s (.slice none 0 0))])]⟩⟩=some (.normal,⟨[(0,.p (.sl (fldP s) 1 3 fl)),(2,.ref nx 0),(8,.p (.sl (fldP s) 1 3 fl)),(9,.int .i64 1),(10,.int .i64 1)],⟨[],[some (.cells [.p (.s (.slice none 0 0))])]⟩⟩):=fun H nx=>by
  simp +contextual (maxSteps:=100000) [ir51_0,ssL,↓ssM,aa,ssU,Go.Sx.LV.undef,Go.undef,ssR,n,w1]
 have lp1 : ∀ H nx,run ⟨Ω,gG,H,nx⟩ ir51_0 ⟨[(0,.p (.sl (fldP s) 1 3 fl)),(2,.ref nx 0),(8,.p (.sl (fldP s) 1 3 fl)),(9,.int .i64 1),(10,.int .i64 1)],⟨[],[some (.cells [.p (.s (.slice none 0 0))])]⟩⟩=some (.exit 0,⟨[(0,.p (.sl (fldP s) 1 3 fl)),(2,.ref nx 0)],⟨[],[some (.cells [.p (.s (.slice none 0 0))])]⟩⟩):=fun H nx=>by
  simp +contextual (maxSteps:=100000) [ir51_0,ssL,↓ssM,aa,ssU,Go.Sx.LV.undef,Go.undef,ssR]
 have lp : ∀ H nx,run ⟨Ω,gG,H,nx⟩ (.loop ir51_0) ⟨[(0,.p (.sl (fldP s) 1 3 fl)),(2,.ref nx 0),(8,.p (.sl (fldP s) 1 3 fl)),(9,.int .i64 1),(10,.int .i64 0)],⟨[],[some (.cells [.p (.s (.slice none 0 0))])]⟩⟩=some (.exit 0,⟨[(0,.p (.sl (fldP s) 1 3 fl)),(2,.ref nx 0)],⟨[],[some (.cells [.p (.s (.slice none 0 0))])]⟩⟩):=fun H nx=>by
  rw [ai,lp0,aE,aB,ai,lp1];rfl
 refine bf (ir:=ir51) (by kernel_rfl) ?_;simp +contextual (maxSteps:=1000000) [ir51,ssL,↓ssM,aa,ssU,Go.Sx.LV.undef,Go.undef,ssR,lp,m,k]
end Go.Proofs.YtoeblkipfdnnlaaGreatDoor
end

section
namespace Go.Proofs.YtoeblkipfdnnlaaGreatDoor
open Go Go.Sx
theorem wP : ∀ (e:Ev),e.norm→e.depth≤16→e.max≤2^20→∀ (H:Heap) (nx:Nat),Ω 25 [.p e.rv] H nx=some (.p e.pv,[],[])
 | .leaf n,_,_,hm,H,nx=>by
  refine ax (ir:=ir25) (by kernel_rfl) 0 ?_
  have z:=xD n hm
  rw [Ev.rv_l]
  generalize Ev.leaf n=e at*
  simp [ir25,ssB,ssU,Go.Sx.LV.undef,Go.undef,ssP,appO,z]
 | .node n l r,hn,hd,hm,H,nx=>by
  refine ax (ir:=ir25) (by kernel_rfl) 0 ?_
  have hd':(Ev.node n l r).depth=1+Max.max l.depth r.depth:=rfl
  have d1:=Ev.max_l n l r
  have d2:=Ev.max_r n l r
  have m1:=Ev.n_max l
  have m2:=Ev.n_max r
  have e1:=wP l hn.1 (by omega) (by omega)
  have e2:=wP r hn.2.1 (by omega) (by omega)
  have hid:=Ev.mk_id hn
  have her:(Ev.node n l r).err=0:=by
   unfold Ev.err
   rw [if_neg (by omega),if_neg (by omega)]
  have e3:=xF n l r (by have:=Ev.n_max (.node n l r);simp only [Ev.n] at this;omega) (by rw [hid];exact her) (by omega) (by omega) (by rw [hid];omega) (by rw [hid];omega)
  rw [hid] at e3
  obtain ⟨c1,h1⟩:=Ev.rv_imm l
  obtain ⟨c2,h2⟩:=Ev.rv_imm r
  rw [h1] at e1
  rw [h2] at e2
  rw [Ev.rv_n]
  generalize Ev.node n l r=e at*
  simp [ir25,ssB,ssU,Go.Sx.LV.undef,Go.undef,ssP,appO,h1,h2,e1,e2,e3]
end Go.Proofs.YtoeblkipfdnnlaaGreatDoor
end

section
namespace Go.Proofs.YtoeblkipfdnnlaaGreatDoor
open Go Go.Sx
set_option maxHeartbeats 2000000
def wvOf (x:Option (List UInt8)) (s:List UInt8) (gone:Bool):Wv:=⟨(mkEv 4 (x.map (·.take 40))).1,if gone=false∧errR s=0 then some s else none,gone⟩
theorem oZ (s:List UInt8) (hs:s.length≤60) (H:Heap) (nx:Nat):Ω 93 [.p (.agg (fldP s))] H nx=some (.int .i64 (errR s),[],[]):=by
 have h:=wg s (by omega)
 simp [ssL,↓ssM,aa,ssU,Go.Sx.LV.undef,Go.undef,ssR,h]
theorem BG (x:Option (List UInt8)) (fl:Bool) (s:List UInt8) (gone:Bool) (hs:s.length≤60) (H:Heap) (nx:Nat):
  Ω 50 [.p (obP fl x),.str ⟨s.toArray⟩,.bool gone] H nx=some (.p (.agg (wvOf x s gone).rcs),[],[]):=by
 have rr:=oZ s hs
 have mk : ∀ fl' H nx,Ω 18 [.p (obP fl' (x.map (·.take 40))),.int .i64 4] H nx=_:=fun fl' H nx=>nf 4 (x.map (·.take 40)) fl' (by decide) (fun l' e=>by
  cases x with
  | none=>cases e
  | some l=>obtain rfl:=Option.some.inj e;simp;omega) H nx
 simp only [wvOf,Wv.rcs]
 obtain ⟨cs,hcs⟩:=Ev.rv_imm (mkEv 4 (x.map (·.take 40))).1
 simp only [hcs] at mk ⊢
 generalize hR:(mkEv 4 (x.map (·.take 40))).2=rest at*
 clear hcs hR
 cases x with
 | none=>
  have mk:=mk fl
  simp only [Option.map_none,Bd] at mk ⊢
  generalize obP fl rest=R at*
  cases gone with
  | true=>refine ae (ir:=ir50) (by kernel_rfl) ?_;simp +contextual (maxSteps:=1000000) [ir50,ssL,↓ssM,aa,ssU,Go.Sx.LV.undef,Go.undef,ssR,mk,rr,bu]
  | false=>
   by_cases he:errR s=0
   ·rw [he] at rr
    refine ae (ir:=ir50) (by kernel_rfl) ?_;simp +contextual (maxSteps:=1000000) [ir50,ssL,↓ssM,aa,ssU,Go.Sx.LV.undef,Go.undef,ssR,mk,rr,bu,b8,he]
   ·have he':=he
    refine ae (ir:=ir50) (by kernel_rfl) ?_;simp +contextual (maxSteps:=1000000) [ir50,ssL,↓ssM,aa,ssU,Go.Sx.LV.undef,Go.undef,ssR,mk,rr,bu,he]
 | some l=>
  by_cases h40:l.length≤40
  ·have mk:=mk fl
   have e:l.take 40=l:=List.take_of_length_le h40
   simp only [Option.map_some,lN,e] at mk ⊢
   have k1:(l.length:Int)≤40:=by omega
   generalize obP fl rest=R at*
   generalize bytP l=P at*
   cases gone with
   | true=>refine ae (ir:=ir50) (by kernel_rfl) ?_;simp +contextual (maxSteps:=1000000) [ir50,ssL,↓ssM,aa,ssU,Go.Sx.LV.undef,Go.undef,ssR,mk,rr,bu,k1]
   | false=>
    by_cases he:errR s=0
    ·rw [he] at rr
     refine ae (ir:=ir50) (by kernel_rfl) ?_;simp +contextual (maxSteps:=1000000) [ir50,ssL,↓ssM,aa,ssU,Go.Sx.LV.undef,Go.undef,ssR,mk,rr,bu,b8,he,k1]
    ·refine ae (ir:=ir50) (by kernel_rfl) ?_;simp +contextual (maxSteps:=1000000) [ir50,ssL,↓ssM,aa,ssU,Go.Sx.LV.undef,Go.undef,ssR,mk,rr,bu,he,k1]
  ·have mk:=mk (fl&&40==l.length)
   have l40:(l.take 40).length=40:=by simp;omega
   have tb:List.take 40 (bytP l)=bytP (l.take 40):=by unfold bytP;rw [List.map_take]
   have lb:(bytP l).length=l.length:=av l
   simp only [Option.map_some,lN,l40] at mk ⊢
   have k1 : ¬(l.length:Int)≤40:=by omega
   have k2:40≤l.length:=by omega
   have k3 : ¬40=l.length:=by omega
   generalize obP (fl&&40==l.length) rest=R at*
   generalize bytP (l.take 40)=Q at*
   generalize bytP l=P at*
   cases gone with
   | true=>refine ae (ir:=ir50) (by kernel_rfl) ?_;simp +contextual (maxSteps:=1000000) [ir50,ssL,↓ssM,aa,ssU,Go.Sx.LV.undef,Go.undef,ssR,mk,rr,bu,k1,k2,k3,tb,lb]
   | false=>
    by_cases he:errR s=0
    ·rw [he] at rr
     refine ae (ir:=ir50) (by kernel_rfl) ?_;simp +contextual (maxSteps:=1000000) [ir50,ssL,↓ssM,aa,ssU,Go.Sx.LV.undef,Go.undef,ssR,mk,rr,bu,b8,he,k1,k2,k3,tb,lb]
    ·refine ae (ir:=ir50) (by kernel_rfl) ?_;simp +contextual (maxSteps:=1000000) [ir50,ssL,↓ssM,aa,ssU,Go.Sx.LV.undef,Go.undef,ssR,mk,rr,bu,he,k1,k2,k3,tb,lb]
end Go.Proofs.YtoeblkipfdnnlaaGreatDoor
end

section
namespace Go.Proofs.YtoeblkipfdnnlaaGreatDoor
open Go Go.Sx
set_option maxHeartbeats 2000000
section
variable {H:Heap} {nx:Nat} {I:List PV}
abbrev z4:Ob:=some (.cells [.p (.s (.int .u64 0)),.p (.s (.pointer none)),.p (.s (.slice none 0 0)),.p (.s (.bool false))])
abbrev z3:Ob:=some (.cells [.p (.s (.pointer none)),.p (.s (.slice none 0 0)),.p (.s (.bool false))])
theorem x9:run ⟨Ω,gG,H,nx⟩ (.loop ir17_0) ⟨[(2,.ref nx 0),(3,.ref (nx+1) 0),(4,.p (.imm I 0)),(5,.p (.s (.slice none 0 0))),(23,.p (.s (.slice none 0 0))),(24,.int .i64 0),(25,.int .i64 0)],⟨[],[z4,z3]⟩⟩=
  some (.exit 0,⟨[(2,.ref nx 0),(3,.ref (nx+1) 0),(4,.p (.imm I 0)),(5,.p (.s (.slice none 0 0))),(23,.p (.s (.slice none 0 0))),(24,.int .i64 0),(25,.int .i64 0),(26,.bool false)],⟨[],[z4,z3]⟩⟩):=by
 rw [ai]
 simp +contextual (maxSteps:=1000000) [ir17_0,ssL,↓ssM,aa,ssU,Go.Sx.LV.undef,Go.undef,ssR]
theorem ya (s:List UInt8):run ⟨Ω,gG,H,nx⟩ (.loop ir17_0) ⟨[(2,.ref nx 0),(3,.ref (nx+1) 0),(4,.p (.imm I 0)),(5,.p (.s (.slice none 0 0))),(23,.p (.sl (fldP s) 1 3 true)),(24,.int .i64 1),(25,.int .i64 0)],⟨[],[z4,z3]⟩⟩=
  some (.exit 0,⟨[(2,.ref nx 0),(3,.ref (nx+1) 0),(4,.p (.imm I 0)),(5,.arr (nx+2) 0 1 3 1 false),(23,.p (.sl (fldP s) 1 3 true)),(24,.int .i64 1),(25,.int .i64 1),(26,.bool false)],⟨[],[z4,z3,some (.cells ((fldP s).map .p))]⟩⟩):=by
 have w1:IntKind.i64.wrap 1=1:=by decide
 have e1:run ⟨Ω,gG,H,nx⟩ ir17_0 ⟨[(2,.ref nx 0),(3,.ref (nx+1) 0),(4,.p (.imm I 0)),(5,.p (.s (.slice none 0 0))),(23,.p (.sl (fldP s) 1 3 true)),(24,.int .i64 1),(25,.int .i64 0)],⟨[],[z4,z3]⟩⟩=
   some (.normal,⟨[(2,.ref nx 0),(3,.ref (nx+1) 0),(4,.p (.imm I 0)),(5,.arr (nx+2) 0 1 3 1 false),(23,.p (.sl (fldP s) 1 3 true)),(24,.int .i64 1),(25,.int .i64 1)],⟨[],[z4,z3,some (.cells ((fldP s).map .p))]⟩⟩):=by
  simp +contextual (maxSteps:=1000000) [ir17_0,ssL,↓ssM,aa,ssU,Go.Sx.LV.undef,Go.undef,ssR,w1]
 have e2:run ⟨Ω,gG,H,nx⟩ ir17_0 ⟨[(2,.ref nx 0),(3,.ref (nx+1) 0),(4,.p (.imm I 0)),(5,.arr (nx+2) 0 1 3 1 false),(23,.p (.sl (fldP s) 1 3 true)),(24,.int .i64 1),(25,.int .i64 1)],⟨[],[z4,z3,some (.cells ((fldP s).map .p))]⟩⟩=
   some (.exit 0,⟨[(2,.ref nx 0),(3,.ref (nx+1) 0),(4,.p (.imm I 0)),(5,.arr (nx+2) 0 1 3 1 false),(23,.p (.sl (fldP s) 1 3 true)),(24,.int .i64 1),(25,.int .i64 1),(26,.bool false)],⟨[],[z4,z3,some (.cells ((fldP s).map .p))]⟩⟩):=by
  simp +contextual (maxSteps:=1000000) [ir17_0,ssL,↓ssM,aa,ssU,Go.Sx.LV.undef,Go.undef,ssR,w1]
 rw [ai,e1,aE,aB,ai,e2];rfl
end
abbrev drwP (fl:Bool) (x:Option (List UInt8)) (s:List UInt8) (g:Bool):List PV:=[obP fl x,strP s,.s (.bool g)]
abbrev dv (x:Option (List UInt8)) (s:List UInt8) (g:Bool):Wv:=wvOf x (s.take 60) g
theorem Ba (x:Option (List UInt8)) (fl:Bool) (s:List UInt8) (g:Bool) (hs:s.length<2^63) (H:Heap) (nx:Nat):
  Ω 17 [.p (.agg (drwP fl x s g))] H nx=some (.tuple [.p ((dv x s g).pv false),.p (.agg (dv x s g).rcs)],[],[]):=by
 have mk : ∀ H nx,Ω 50 [.p (obP fl x),.str ⟨(s.take 60).toArray⟩,.bool g] H nx=some (.p (.agg (dv x s g).rcs),[],[]):=BG x fl (s.take 60) g (by simp;omega)
 obtain ⟨o1,o2,o3⟩:=fI 4 (x.map (·.take 40))
 have tr:=wP (mkEv 4 (x.map (·.take 40))).1 o1 (by omega) (by omega)
 have m0:=Bb
 have l0:=fun H nx I=>x9 (H:=H) (nx:=nx) (I:=I)
 have l1:=fun H nx I=>ya (H:=H) (nx:=nx) (I:=I) (s.take 60)
 have hsz:=aY s
 have hnm : ∀ H nx,(dv x s g).nm=some (s.take 60)→Ω 51 [.p (.sl (fldP (s.take 60)) 1 3 false)] H nx=some (.tuple [.p (.agg [.sl (fldP (s.take 60)) 1 3 false]),.int .i64 0],[],[]):=fun H nx h=>by
  simp only [dv,wvOf] at h
  split at h
  ·rename_i h1
   have m1:=Bc (s.take 60) (vG h1.2) false
   simp [ssL,↓ssM,aa,ssU,Go.Sx.LV.undef,Go.undef,ssR,m1]
  ·cases h
 have nms:(dv x s g).nm=none∨(dv x s g).nm=some (s.take 60):=by
  simp only [dv,wvOf];split<;>simp
 have hev:(dv x s g).ev=(mkEv 4 (x.map (·.take 40))).1:=rfl
 have hg:(dv x s g).gone=g:=rfl
 rw [←hev] at tr
 generalize dv x s g=v at*
 clear hev o1 o2 o3
 obtain ⟨ev,nm,gone⟩:=v
 simp only at hg nms hnm tr
 subst hg
 simp only [drwP,Wv.pv,Wv.cells,Wv.rcs,Ev.pv] at mk tr hnm ⊢
 obtain ⟨cs,hcs⟩:=Ev.rv_imm ev
 simp only [hcs] at mk tr ⊢
 generalize ev.ptr=ep at*
 generalize ev.n=en at*
 generalize obP fl x=X at*
 have se:=bB s
 by_cases h60:s.length≤60
 ·have e:s.take 60=s:=List.take_of_length_le h60
  have k1 : ¬(60:Int)<s.length:=by omega
  rw [e] at mk hnm nms l1
  rcases nms with rfl|rfl
  ·simp only [bu] at mk ⊢
   refine ae (ir:=ir17) (by kernel_rfl) ?_;simp +contextual (maxSteps:=1000000) [ir17,ssL,↓ssM,aa,ssU,Go.Sx.LV.undef,Go.undef,ssR,mk,tr,m0,l0,hsz,se,k1]
  ·have hnm:=fun H nx=>hnm H nx rfl
   simp only [b8] at mk ⊢
   refine ae (ir:=ir17) (by kernel_rfl) ?_;simp +contextual (maxSteps:=1000000) [ir17,ssL,↓ssM,aa,ssU,Go.Sx.LV.undef,Go.undef,ssR,mk,tr,hnm,l1,hsz,se,k1]
 ·have k1:(60:Int)<s.length:=by omega
  have k2:60≤s.length:=by omega
  rcases nms with rfl|rfl
  ·simp only [bu] at mk ⊢
   clear hnm l1
   refine ae (ir:=ir17) (by kernel_rfl) ?_;simp +contextual (maxSteps:=1000000) [ir17,ssL,↓ssM,aa,ssU,Go.Sx.LV.undef,Go.undef,ssR,mk,tr,m0,l0,hsz,se,k1,k2]
  ·have hnm:=fun H nx=>hnm H nx rfl
   simp only [b8,fldP,strP] at mk hnm l1 ⊢
   refine ae (ir:=ir17) (by kernel_rfl) ?_;simp +contextual (maxSteps:=1000000) [ir17,ssL,↓ssM,aa,ssU,Go.Sx.LV.undef,Go.undef,ssR,mk,tr,hnm,l1,hsz,se,k1,k2]
end Go.Proofs.YtoeblkipfdnnlaaGreatDoor
end

section
namespace Go.Sx
open Go
noncomputable def restL (c:Ctx) (B:IRC) (T:St):Option (Ex × St):=bindK (run c (tlC B) T) fun p=>seqK p fun st'=>run c (.loop B) st'
theorem bo {c:Ctx} {B:IRC} (hB:B = .seq (hdC B) (tlC B)) {s T:St} (h:run c (hdC B) s=some (.normal,T)):run c (.loop B) s=restL c B T:=by
 rw [ai]
 conv=>lhs;rw [hB]
 rw [jv,h]
 rw [←hB]
 rfl
theorem gx {c:Ctx} {B:IRC} (hB:B = .seq (hdC B) (tlC B)) {T T':St} (h:run c (.seq (tlC B) (hdC B)) T=some (.normal,T')):restL c B T=restL c B T':=by
 rw [jv] at h
 unfold restL
 cases q:run c (tlC B) T with
 | none=>rw [q] at h;cases h
 | some p=>
  obtain ⟨e,s⟩:=p
  rw [q] at h
  cases e with
  | normal=>
   have h2:run c (hdC B) s=some (.normal,T'):=h
   show run c (.loop B) s=_
   exact bo hB h2
  | exit i=>simp [bindK,seqK] at h
  | ret=>simp [bindK,seqK] at h
  | goto i=>simp [bindK,seqK] at h
theorem ug {c:Ctx} {B:IRC} {T s:St} {i:Nat} (h:run c (tlC B) T=some (.exit i,s)):restL c B T=some (.exit i,s):=by
 unfold restL
 rw [h];rfl
end Go.Sx
end

section
namespace Go.Proofs.YtoeblkipfdnnlaaGreatDoor
open Go Go.Sx
set_option maxHeartbeats 2000000
structure Dw where
 x:Option (List UInt8)
 s:List UInt8
 g:Bool
abbrev Dw.cells (d:Dw):List PV:=drwP false d.x d.s d.g
abbrev Dw.lv (d:Dw):List LV:=[.p (obP false d.x),.p (strP d.s),.p (.s (.bool d.g))]
abbrev Dw.v (d:Dw):Wv:=dv d.x d.s d.g
def dwP (D:List Dw):List PV:=D.flatMap Dw.cells
def dwL (D:List Dw):List LV:=D.flatMap Dw.lv
theorem q7 (d:Dw):d.lv.length=3:=rfl
theorem qY (d:Dw):d.cells.length=3:=rfl
theorem mI (D:List Dw):(dwP D).map .p=dwL D:=by
 unfold dwP dwL
 rw [List.map_flatMap]
 rfl
theorem mH (D:List Dw):(dwL D).length=D.length*3:=fL q7 D
theorem mG {D:List Dw} {i:Nat} {d:Dw} (h:D[i]?=some d):((dwL D).drop (i*3)).take 3=d.lv:=ni q7 h
abbrev vsW (D:List Dw):List Wv:=(D.take 14).map Dw.v
section
variable {D:List Dw} {H:Heap} {nx:Nat} {d:Dw}
abbrev alD (D:List Dw):LV:=.p (.sl (dwP D) D.length 3 false)
abbrev al0 (D:List Dw) (i:Nat):St:=⟨[(4,.p (.s (.slice none 0 0))),(5,.p (.s (.slice none 0 0))),(10,alD D),(11,.int .i64 D.length),(12,.int .i64 i)],⟨[],[]⟩⟩
abbrev alS (nx:Nat) (D:List Dw) (V:List Wv) (i:Nat):St:=⟨[(4,.arr nx 0 V.length 4 V.length false),(5,.arr (nx+1) 0 V.length 3 V.length false),(10,alD D),(11,.int .i64 D.length),(12,.int .i64 i)],⟨[],[some (.cells (rowL V)),some (.cells (rrL V))]⟩⟩
abbrev alB:IRC:=ir9_0
theorem zI (i:Nat):run ⟨Ω,gG,H,nx⟩ (hdC alB) (al0 D i)=some (.normal,al0 D i):=by
 simp only [al0,alD]
 generalize dwP D=P at*
 simp +contextual (maxSteps:=1000000) [alB,ir9_0,hdC,ssL,↓ssM,aa,ssU,Go.Sx.LV.undef,Go.undef,ssR]
theorem uy (hd:D[0]?=some d) (hm : ∀ H nx,Ω 17 [.p (.agg d.cells)] H nx=some (.tuple [.p (d.v.pv false),.p (.agg d.v.rcs)],[],[])):
  run ⟨Ω,gG,H,nx⟩ (.seq (tlC alB) (hdC alB)) (al0 D 0)=some (.normal,alS nx D [d.v] 1):=by
 have hl:=mH D
 obtain ⟨h1,_⟩:=List.getElem?_eq_some_iff.1 hd
 have k1 : ¬(D.length:Int)≤0:=by omega
 have k2:0<D.length:=h1
 have w1:IntKind.i64.wrap 1=1:=by decide
 have le:3≤(dwL D).length:=by omega
 have hD : ¬D=[]:=by rintro rfl;simp at h1
 have mp:=mI D
 have g4:=mG hd
 rw [Nat.zero_mul,List.drop_zero] at g4
 clear hl
 simp only [al0,alS,alD,Wv.pv,Wv.cells,Wv.rcs,Dw.cells,Dw.lv,drwP,c7,sQ,Wv.lv,Wv.rlv,List.length_cons,List.length_nil] at hm g4 ⊢
 generalize d.v=v at*
 generalize dwP D=P at*
 generalize dwL D=C at*
 simp +contextual (maxSteps:=1000000) [alB,ir9_0,hdC,tlC,ssL,↓ssM,aa,ssU,Go.Sx.LV.undef,Go.undef,ssR,k1,k2,w1,le,mp,g4,hm,hD]
theorem xa {V:List Wv} {i:Nat} (hV:V.length=i) (h0:0<i) (h14:i<14) (hd:D[i]?=some d) (h62:D.length<2^63) (hm : ∀ H nx,Ω 17 [.p (.agg d.cells)] H nx=some (.tuple [.p (d.v.pv false),.p (.agg d.v.rcs)],[],[])):
  run ⟨Ω,gG,H,nx⟩ (.seq (tlC alB) (hdC alB)) (alS nx D V i)=some (.normal,alS nx D (V++[d.v]) (i+1)):=by
 have hl:=mH D
 obtain ⟨h1,_⟩:=List.getElem?_eq_some_iff.1 hd
 have k1 : ¬(D.length:Int)≤i:=by omega
 have k2:i<D.length:=h1
 have k3 : ¬(14:Int)≤i:=by omega
 have k4 : ¬1099511627776<(i+1)*48:=by omega
 have k5 : ¬1099511627776<(i+1)*40:=by omega
 have w1:IntKind.i64.wrap ((i:Int)+1)=(i:Int)+1:=wrap_i64 _ (by omega) (by omega)
 have le:i*3+3≤(dwL D).length:=by omega
 have mp:=mI D
 have g4:=mG hd
 have lA:=aA V
 have lB:=bA V
 have iA:=aO (V++[d.v])
 have rA:=fun a s=>aS a s (V++[d.v])
 have iB:=co (V++[d.v])
 have rB:=fun a s=>cP a s (V++[d.v])
 have iA':=aO V
 have iB':=co V
 have rA':=fun a s=>aS a s V
 have rB':=fun a s=>cP a s V
 rw [hV] at lA lB
 clear hl
 simp only [alS,alD,Wv.pv,Wv.cells,Wv.rcs,Dw.cells,Dw.lv,drwP,ba,cR,c7,sQ,Wv.lv,Wv.rlv,List.length_append,List.length_cons,List.length_nil,hV,Nat.zero_add] at hm g4 iA rA iB rB ⊢
 generalize d.v=v at*
 generalize rowL V=A at*
 generalize rrL V=B at*
 generalize dwP D=P at*
 generalize dwL D=C at*
 clear hV
 simp +contextual (maxSteps:=1000000) [alB,ir9_0,hdC,tlC,ssL,↓ssM,aa,ssU,Go.Sx.LV.undef,Go.undef,ssR,k1,k2,k3,k4,k5,w1,le,mp,g4,hm,lA,lB,iA,rA,iB,rB,iA',iB',rA',rB']
theorem xb {V:List Wv} {i:Nat} (h14 : ¬i<14) (h1:i<D.length) (h62:D.length<2^63):
  run ⟨Ω,gG,H,nx⟩ (.seq (tlC alB) (hdC alB)) (alS nx D V i)=some (.normal,alS nx D V (i+1)):=by
 have hl:=mH D
 have hd:=List.getElem?_eq_getElem h1
 have k1 : ¬(D.length:Int)≤i:=by omega
 have k3:(14:Int)≤i:=by omega
 have w1:IntKind.i64.wrap ((i:Int)+1)=(i:Int)+1:=wrap_i64 _ (by omega) (by omega)
 have le:i*3+3≤(dwL D).length:=by omega
 have mp:=mI D
 have g4:=mG hd
 have iA:=aO V
 have rA:=fun a s=>aS a s V
 have iB:=co V
 have rB:=fun a s=>cP a s V
 clear hl
 simp only [alS,alD,Dw.lv] at g4 ⊢
 generalize rowL V=A at*
 generalize rrL V=B at*
 generalize dwP D=P at*
 generalize dwL D=C at*
 simp +contextual (maxSteps:=1000000) [alB,ir9_0,hdC,tlC,ssL,↓ssM,aa,ssU,Go.Sx.LV.undef,Go.undef,ssR,k1,h1,k3,w1,le,mp,g4,iA,rA,iB,rB]
theorem zJ {V:List Wv} : run ⟨Ω,gG,H,nx⟩ (tlC alB) (alS nx D V D.length)=some (.exit 0,⟨(alS nx D V D.length).env++[(13,.bool false)],(alS nx D V D.length).h⟩):=by
 simp only [alS,alD]
 generalize rowL V=A at*
 generalize rrL V=B at*
 generalize dwP D=P at*
 simp +contextual (maxSteps:=1000000) [alB,ir9_0,tlC,ssL,↓ssM,aa,ssU,Go.Sx.LV.undef,Go.undef,ssR]
end
end Go.Proofs.YtoeblkipfdnnlaaGreatDoor
end

section
namespace Go.Proofs.YtoeblkipfdnnlaaGreatDoor
open Go Go.Sx
set_option maxHeartbeats 2000000
structure DwOk (D:List Dw):Prop where
 s : ∀ d∈D,d.s.length<2^63
 l:D.length<2^63
theorem uV (d:Dw) (h:d.s.length<2^63) (H:Heap) (nx:Nat):Ω 17 [.p (.agg d.cells)] H nx=some (.tuple [.p (d.v.pv false),.p (.agg d.v.rcs)],[],[]):=Ba d.x false d.s d.g h H nx
section
variable {D:List Dw} {H:Heap} {nx:Nat}
theorem fp:alB = .seq (hdC alB) (tlC alB):=rfl
theorem mo (hD:DwOk D) : ∀ (m i:Nat),i+m=D.length→0<i →
  restL ⟨Ω,gG,H,nx⟩ alB (alS nx D (((D.take i).take 14).map Dw.v) i)=some (.exit 0,⟨(alS nx D (vsW D) D.length).env++[(13,.bool false)],(alS nx D (vsW D) D.length).h⟩)
 | 0,i,hi,h0=>by
  obtain rfl:i=D.length:=by omega
  rw [List.take_length]
  exact ug zJ
 | m+1,i,hi,h0=>by
  have h1:i<D.length:=by omega
  have hd:=List.getElem?_eq_getElem h1
  have hl:=hD.l
  by_cases h14:i<14
  ·have e1:(D.take i).take 14=D.take i:=by rw [List.take_take,Nat.min_eq_right (by omega)]
   have e2:(D.take (i+1)).take 14=D.take i++[D[i]]:=by
    rw [List.take_take,Nat.min_eq_right (by omega),List.take_add_one,hd];rfl
   have st:=xa (H:=H) (nx:=nx) (V:=(D.take i).map Dw.v) (by rw [List.length_map,List.length_take];omega) h0 h14 hd (by omega) (uV _ (hD.s _ (List.getElem_mem h1)))
   have ih:=mo hD m (i+1) (by omega) (by omega)
   rw [e2,List.map_append] at ih
   rw [e1,gx fp st]
   exact ih
  ·have e1:(D.take (i+1)).take 14=(D.take i).take 14:=by rw [List.take_take,List.take_take,Nat.min_eq_left (by omega),Nat.min_eq_left (by omega)]
   have st:=xb (H:=H) (nx:=nx) (V:=((D.take i).take 14).map Dw.v) h14 h1 hl
   have ih:=mo hD m (i+1) (by omega) (by omega)
   rw [e1] at ih
   rw [gx fp st]
   exact ih
def dsP (D:List Dw):PV→Prop:=fun x=>x = .s (.slice none 0 0)∧D=[]∨x = .sl (dwP D) D.length 3 false
theorem gL {x:PV} (hx:dsP [] x):Ω 9 [.p x] H nx=some (.tuple [.p (.s (.slice none 0 0)),.p (.s (.slice none 0 0))],[],[]):=by
 have h0:run ⟨Ω,gG,H,nx⟩ (.loop alB) ⟨[(4,.p (.s (.slice none 0 0))),(5,.p (.s (.slice none 0 0))),(10,.p x),(11,.int .i64 0),(12,.int .i64 0)],⟨[],[]⟩⟩=
   some (.exit 0,⟨[(4,.p (.s (.slice none 0 0))),(5,.p (.s (.slice none 0 0))),(10,.p x),(11,.int .i64 0),(12,.int .i64 0),(13,.bool false)],⟨[],[]⟩⟩):=by
  rw [ai]
  simp +contextual (maxSteps:=1000000) [alB,ir9_0,ssL,↓ssM,aa,ssU,Go.Sx.LV.undef,Go.undef,ssR]
 simp only [alB] at h0
 rcases hx with ⟨rfl,_⟩|rfl
 ·refine ae (ir:=ir9) (by kernel_rfl) ?_;simp +contextual (maxSteps:=1000000) [ir9,ssL,↓ssM,aa,ssU,Go.Sx.LV.undef,Go.undef,ssR,h0]
 ·simp only [dwP,List.flatMap_nil,List.length_nil] at h0 ⊢
  refine ae (ir:=ir9) (by kernel_rfl) ?_;simp +contextual (maxSteps:=1000000) [ir9,ssL,↓ssM,aa,ssU,Go.Sx.LV.undef,Go.undef,ssR,h0]
theorem xe {x:PV} (hx:dsP D x) (h:D≠[]) (hD:DwOk D):Ω 9 [.p x] H nx=
  some (.tuple [.arr nx 0 (vsW D).length 4 (vsW D).length false,.arr (nx+1) 0 (vsW D).length 3 (vsW D).length false],[],[some (.cells (rowL (vsW D))),some (.cells (rrL (vsW D)))]):=by
 obtain rfl:x = .sl (dwP D) D.length 3 false:=by
  rcases hx with ⟨_,e⟩|e
  ·exact absurd e h
  ·exact e
 have hpos:0<D.length:=List.length_pos_iff.2 h
 have hd:=List.getElem?_eq_getElem hpos
 have lp:=mo (H:=H) (nx:=nx) hD (D.length-1) 1 (by omega) (by decide)
 have e1:((D.take 1).take 14).map Dw.v=[(D[0]).v]:=by
  cases D with
  | nil=>exact absurd rfl h
  | cons d D=>rfl
 rw [e1] at lp
 have st:=uy (H:=H) (nx:=nx) hd (uV _ (hD.s _ (List.getElem_mem hpos)))
 have l2:run ⟨Ω,gG,H,nx⟩ (.loop alB) (al0 D 0)=_:=(bo fp (zI 0)).trans ((gx fp st).trans lp)
 clear lp st
 have iA:=aO (vsW D)
 have rA:=fun a s=>aS a s (vsW D)
 have iB:=co (vsW D)
 have rB:=fun a s=>cP a s (vsW D)
 simp only [al0,alS,alD,alB,Int.natCast_zero,List.cons_append,List.nil_append] at l2
 generalize vsW D=V at*
 generalize rowL V=A at*
 generalize rrL V=B at*
 generalize dwP D=P at*
 refine ae (ir:=ir9) (by kernel_rfl) ?_;simp +contextual (maxSteps:=1000000) [ir9,ssL,↓ssM,aa,ssU,Go.Sx.LV.undef,Go.undef,ssR,l2,iA,rA,iB,rB]
end
end Go.Proofs.YtoeblkipfdnnlaaGreatDoor
end

section
namespace Go.Proofs.YtoeblkipfdnnlaaGreatDoor
open Go Go.Sx
set_option maxHeartbeats 2000000
theorem yV (v:Wv) (hv:v.Ok) (H:Heap) (nx:Nat):Ω 32 [.p (.agg (v.cells false))] H nx=some (.p (.sl (bytP v.bytes) v.bytes.length 1 false),[],[]):=kH v false hv H nx
section
variable {L M:List Wv} {H:Heap} {nx:Nat} {x:LV} {fl:Bool}
abbrev slG (fl:Bool) (M:List Wv):LV:=.p (.sl (rrP M) M.length 3 fl)
abbrev lkS (x:LV) (fl:Bool) (M:List Wv) (n i:Nat):St:=⟨[(1,slG fl M),(12,x),(13,.int .i64 n),(14,.int .i64 i)],⟨[],[]⟩⟩
theorem xY (hx:Rw H nx x L) {i:Nat} {v w:Wv} (hv:L[i]?=some v) (hw:M[i]?=some w) (h30:L.length<2^30) (hvo:v.Ok) (hwo:w.Ok) (b:Bool) (hb:decide (v.bytes=w.bytes)=b):
  run ⟨Ω,gG,H,nx⟩ ir12_0 (lkS x fl M L.length i)=if b=true then some (.normal,lkS x fl M L.length (i+1)) else some (.ret,⟨[(4,.bool false)],⟨[],[]⟩⟩):=by
 have hl:=aA L
 have hm:=bA M
 obtain ⟨h1,_⟩:=List.getElem?_eq_some_iff.1 hv
 obtain ⟨h2,_⟩:=List.getElem?_eq_some_iff.1 hw
 have k1 : ¬(L.length:Int)≤i:=by omega
 have w1:IntKind.i64.wrap ((i:Int)+1)=(i:Int)+1:=wrap_i64 _ (by omega) (by omega)
 have le2:i*3+3≤(rrL M).length:=by omega
 have mp:=bg L
 have mq:=bK M
 have g4:=a8 hv
 have g5:=ei hw []
 rw [List.append_nil] at g5
 have b1:=yV v hvo
 have b2:=dt w hwo
 have vl:=hvo.len
 have sm:=fun H nx=>qd (H:=H) (nx:=nx) (.sl v.bytes false) (.sl w.bytes false) (by omega)
 rw [hb] at sm
 clear hb vl hm
 simp only [lkS,slG,Wv.cells,Wv.rcs,Wv.lv,Wv.rlv] at b1 b2 g4 g5 ⊢
 generalize bytP v.bytes=V at*
 generalize v.bytes.length=vn at*
 generalize bytP w.bytes=W at*
 generalize w.bytes.length=wn at*
 generalize rrP M=Q at*
 generalize rrL M=E at*
 cases hx with
 | nil=>cases hv
 | sl _ fl'=>
  have g4:=g4 []
  rw [List.append_nil] at g4
  have le:i*4+4≤(rowL L).length:=by omega
  clear hl
  generalize rowP L=P at*
  generalize rowL L=C at*
  cases b
  all_goals (simp +contextual (maxSteps:=1000000) [ir12_0,ssL,↓ssM,aa,ssU,Go.Sx.LV.undef,Go.undef,ssR,k1,h1,h2,w1,mp,mq,g4,g5,le,le2,b1,b2,sm])
 | arr _ R id cp ex a1 a2=>
  have g4:=g4 R
  have le:i*4+4≤(rowL L++R).length:=by rw [List.length_append];omega
  clear hl
  generalize rowL L++R=C at*
  cases b
  all_goals (simp +contextual (maxSteps:=1000000) [ir12_0,ssL,↓ssM,aa,ssU,Go.Sx.LV.undef,Go.undef,ssR,k1,h1,h2,w1,mq,g4,g5,le,le2,b1,b2,sm,a1,a2])
def lkR (x:LV) (fl:Bool) (M:List Wv) (n:Nat) (b:Bool):Ex × St:=if b then (.exit 0,⟨(lkS x fl M n n).env++[(15,.bool false)],⟨[],[]⟩⟩) else (.ret,⟨[(4,.bool false)],⟨[],[]⟩⟩)
theorem Ae (hx:Rw H nx x L):run ⟨Ω,gG,H,nx⟩ ir12_0 (lkS x fl M L.length L.length)=some (lkR x fl M L.length true):=by
 simp only [lkS,slG,lkR]
 generalize rrP M=Q at*
 cases hx with
 | nil=>simp +contextual (maxSteps:=1000000) [ir12_0,ssL,↓ssM,aa,ssU,Go.Sx.LV.undef,Go.undef,ssR]
 | sl _ fl'=>
  generalize rowP L=P at*
  simp +contextual (maxSteps:=1000000) [ir12_0,ssL,↓ssM,aa,ssU,Go.Sx.LV.undef,Go.undef,ssR]
 | arr _ R id cp ex a1 a2=>simp +contextual (maxSteps:=1000000) [ir12_0,ssL,↓ssM,aa,ssU,Go.Sx.LV.undef,Go.undef,ssR,a2]
theorem rZ (hx:Rw H nx x L) (h30:L.length<2^30) (hn:L.length=M.length) (hL : ∀ v∈L,v.Ok) (hM : ∀ v∈M,v.Ok) : ∀ (m i:Nat),i+m=L.length →
  run ⟨Ω,gG,H,nx⟩ (.loop ir12_0) (lkS x fl M L.length i)=some (lkR x fl M L.length (decide ((L.drop i).map Wv.bytes=(M.drop i).map Wv.bytes)))
 | 0,i,hi=>by
  obtain rfl:i=L.length:=by omega
  rw [ai,Ae hx,List.drop_length,List.drop_of_length_le (by omega)];rfl
 | m+1,i,hi=>by
  have h1:i<L.length:=by omega
  have h2:i<M.length:=by omega
  have hv:=List.getElem?_eq_getElem h1
  have hw:=List.getElem?_eq_getElem h2
  rw [List.drop_eq_getElem_cons h1,List.drop_eq_getElem_cons h2,ai,xY hx hv hw h30 (hL _ (List.getElem_mem h1)) (hM _ (List.getElem_mem h2)) _ rfl]
  simp only [List.map_cons,List.cons.injEq]
  by_cases hq:(L[i]).bytes=(M[i]).bytes
  ·simp only [hq,decide_true,if_true,aE,aB,true_and]
   exact rZ hx h30 hn hL hM m (i+1) (by omega)
  ·simp [hq,lkR,bindK,seqK]
theorem rY (hx:Rw H nx x L) (h30:L.length<2^30) (hL : ∀ v∈L,v.Ok) (hM : ∀ v∈M,v.Ok) {y:PV} (hy:y = .s (.slice none 0 0)∧M=[]∨y = .sl (rrP M) M.length 3 fl):
  Ω 12 [x,.p y] H nx=some (.bool (decide (L.map Wv.bytes=M.map Wv.bytes)),[],[]):=by
 by_cases hn:L.length=M.length
 ·by_cases h0:L=[]
  ·subst h0
   obtain rfl:M=[]:=List.eq_nil_of_length_eq_zero hn.symm
   have lo : ∀ H,(∀ id,id<nx→True)→run ⟨Ω,gG,H,nx⟩ (.loop ir12_0) ⟨[(1,.p y),(12,x),(13,.int .i64 0),(14,.int .i64 0)],⟨[],[]⟩⟩=some (.exit 0,⟨[(1,.p y),(12,x),(13,.int .i64 0),(14,.int .i64 0),(15,.bool false)],⟨[],[]⟩⟩):=fun H _=>by
    rw [ai]
    cases hx with
    | nil=>simp +contextual (maxSteps:=1000000) [ir12_0,ssL,↓ssM,aa,ssU,Go.Sx.LV.undef,Go.undef,ssR]
    | sl _ fl'=>simp +contextual (maxSteps:=1000000) [ir12_0,ssL,↓ssM,aa,ssU,Go.Sx.LV.undef,Go.undef,ssR]
    | arr _ R id cp ex a1 a2=>simp +contextual (maxSteps:=1000000) [ir12_0,ssL,↓ssM,aa,ssU,Go.Sx.LV.undef,Go.undef,ssR,a2]
   have lo:=lo H fun _ _=>trivial
   simp only [List.map_nil,decide_true]
   rcases hy with ⟨rfl,_⟩|rfl
   ·cases hx
    all_goals (try simp only [List.length_nil] at lo)
    all_goals (refine ae (ir:=ir12) (by kernel_rfl) ?_;simp +contextual (maxSteps:=1000000) [ir12,ssL,↓ssM,aa,ssU,Go.Sx.LV.undef,Go.undef,ssR,lo])
   ·simp only [yG,List.length_nil] at lo ⊢
    cases hx
    all_goals (try simp only [List.length_nil] at lo)
    all_goals (refine ae (ir:=ir12) (by kernel_rfl) ?_;simp +contextual (maxSteps:=1000000) [ir12,ssL,↓ssM,aa,ssU,Go.Sx.LV.undef,Go.undef,ssR,lo])
  ·have hy':y = .sl (rrP M) M.length 3 fl:=by
    rcases hy with ⟨_,e⟩|e
    ·exact absurd (List.eq_nil_of_length_eq_zero (by rw [hn,e];rfl)) h0
    ·exact e
   subst hy'
   have lp:=rZ (fl:=fl) hx h30 hn hL hM L.length 0 (by omega)
   simp only [List.drop_zero,lkS,slG,Int.natCast_zero] at lp
   generalize decide (L.map Wv.bytes=M.map Wv.bytes)=D at*
   rw [←hn] at*
   generalize rrP M=Q at*
   cases D
   all_goals
    simp only [lkR,lkS,slG,if_true,Bool.false_eq_true,if_false,←hn,List.cons_append,List.nil_append] at lp
    cases hx with
    | nil=>exact absurd rfl h0
    | sl _ fl'=>refine ae (ir:=ir12) (by kernel_rfl) ?_;simp +contextual (maxSteps:=1000000) [ir12,ssL,↓ssM,aa,ssU,Go.Sx.LV.undef,Go.undef,ssR,lp]
    | arr _ R id cp ex a1 a2=>refine ae (ir:=ir12) (by kernel_rfl) ?_;simp +contextual (maxSteps:=1000000) [ir12,ssL,↓ssM,aa,ssU,Go.Sx.LV.undef,Go.undef,ssR,lp]
 ·have hd:decide (L.map Wv.bytes=M.map Wv.bytes)=false:=decide_eq_false fun h=>hn (by have:=congrArg List.length h;simpa using this)
  rw [hd]
  have hn' : ¬(L.length:Int)=M.length:=by omega
  rcases hy with ⟨rfl,rfl⟩|rfl
  ·simp only [List.length_nil,Int.natCast_zero] at hn hn'
   cases hx with
   | nil=>exact absurd rfl hn
   | sl _ fl'=>
    have h0 : ¬L=[]:=by rintro rfl;exact hn rfl
    refine ae (ir:=ir12) (by kernel_rfl) ?_;simp +contextual (maxSteps:=1000000) [ir12,ssL,↓ssM,aa,ssU,Go.Sx.LV.undef,Go.undef,ssR,hn',hn,h0]
   | arr _ R id cp ex a1 a2=>
    have h0 : ¬L=[]:=by rintro rfl;exact hn rfl
    refine ae (ir:=ir12) (by kernel_rfl) ?_;simp +contextual (maxSteps:=1000000) [ir12,ssL,↓ssM,aa,ssU,Go.Sx.LV.undef,Go.undef,ssR,hn',hn,h0]
  ·generalize rrP M=Q at*
   cases hx with
   | nil=>
    simp only [List.length_nil,Int.natCast_zero] at hn hn'
    have hn2 : ¬M.length=0:=fun e=>hn e.symm
    have h0 : ¬M=[]:=by rintro rfl;exact hn2 rfl
    refine ae (ir:=ir12) (by kernel_rfl) ?_;simp +contextual (maxSteps:=1000000) [ir12,ssL,↓ssM,aa,ssU,Go.Sx.LV.undef,Go.undef,ssR,hn',hn,hn2,h0]
   | sl _ fl'=>refine ae (ir:=ir12) (by kernel_rfl) ?_;simp +contextual (maxSteps:=1000000) [ir12,ssL,↓ssM,aa,ssU,Go.Sx.LV.undef,Go.undef,ssR,hn',hn]
   | arr _ R id cp ex a1 a2=>refine ae (ir:=ir12) (by kernel_rfl) ?_;simp +contextual (maxSteps:=1000000) [ir12,ssL,↓ssM,aa,ssU,Go.Sx.LV.undef,Go.undef,ssR,hn',hn]
end
end Go.Proofs.YtoeblkipfdnnlaaGreatDoor
end

section
namespace Go.Proofs.YtoeblkipfdnnlaaGreatDoor
open Go Go.Sx
set_option maxHeartbeats 2000000
section
variable {o:List UInt8} {H:Heap} {nx:Nat} {O S:PV} {c:Int}
end
section
variable {H:Heap} {nx:Nat} {S:PV} {W:List Wv}
end
end Go.Proofs.YtoeblkipfdnnlaaGreatDoor
end

section
namespace Go.Proofs.YtoeblkipfdnnlaaGreatDoor
open Go Go.Sx
def wNum (p:List UInt8) (e:Int):Nat × List UInt8 × Int:=if e=0 then (match rnum 0 0 p with
 | none=>(0,p,6)
 | some (v,r)=>(v,r,0)) else (0,p,e)
def wText (most:Nat) (p:List UInt8) (e:Int):List UInt8 × List UInt8 × Int:=if e=0 then (if (wNum p 0).2.2=0 then (if most<(wNum p 0).1 then ([],p,9) else if (wNum p 0).2.1.length<(wNum p 0).1 then ([],p,6) else ((wNum p 0).2.1.take (wNum p 0).1,(wNum p 0).2.1.drop (wNum p 0).1,0)) else ([],p,(wNum p 0).2.2)) else ([],p,e)
end Go.Proofs.YtoeblkipfdnnlaaGreatDoor
end

section
namespace Go.Proofs.YtoeblkipfdnnlaaGreatDoor
open Go Go.Sx
section number
variable {c:Ctx}
end number
end Go.Proofs.YtoeblkipfdnnlaaGreatDoor
end

section
namespace Go.Proofs.YtoeblkipfdnnlaaGreatDoor
open Go Go.Sx
theorem pX {n x i:Nat} (hn:n<2^i) (hx:x*2^i<2^64):n ||| x*2^i%2^64=n+x*2^i:=by
 rw [Nat.mod_eq_of_lt hx,Nat.or_comm,Nat.mul_comm x,←Nat.two_pow_add_eq_or_of_lt hn,Nat.add_comm]
section
variable {P p:List UInt8}
end
end Go.Proofs.YtoeblkipfdnnlaaGreatDoor
end

section
namespace Go.Proofs.YtoeblkipfdnnlaaGreatDoor
open Go Go.Sx
def bitN (p:List UInt8) (i:Nat):Nat:=(p.getD (i/8) 0).toNat/2^(7-i%8)%2
def bvA (v:Nat):List Bool→Nat
 | []=>v
 | b::r=>bvA (2*v+b.toNat) r
def bitsB (p:List UInt8):List Bool:=(List.range (8*p.length)).map fun i=>bitN p i==1
abbrev brn (fl:Bool) (P:List UInt8) (n:Nat) (e:Int):Ob:=some (.cells [sB fl P,.int .i64 n,.int .i64 e])
abbrev br (fl:Bool) (P:List UInt8) (b:List Bool) (e:Int):Ob:=brn fl P (8*P.length-b.length) e
end Go.Proofs.YtoeblkipfdnnlaaGreatDoor
end

section
namespace Go.Proofs.YtoeblkipfdnnlaaGreatDoor
open Go Go.Sx
def boP (l:List Bool):List PV:=l.map fun b=>.s (.bool b)
abbrev bS (fl:Bool) (l:List Bool):LV:=.p (.sl (boP l) l.length 1 fl)
abbrev rr (fl:Bool) (l:List Bool) (e:Int):Ob:=some (.cells [bS fl l,.int .i64 e])
def wEnd (b:List Bool) (e:Int):Int:=if e=0 then (if 8≤b.length∨b.any id=true then 6 else 0) else e
end Go.Proofs.YtoeblkipfdnnlaaGreatDoor
end

section
namespace Go.Proofs.YtoeblkipfdnnlaaGreatDoor
open Go Go.Sx
def numF (w base:Nat) (r:List Bool):Option (Nat × List Bool):=if r.length<w then none else if 2^64≤base+bvA 0 (r.take w) then none else some (base+bvA 0 (r.take w),r.drop w)
def numR:Nat→Nat→Nat→List Bool→Option (Nat × List Bool)
 | _,_,_,[]=>none
 | _,w,base,false::r=>numF w base r
 | 0,_,_,true::_=>none
 | m+1,w,base,true::r=>numR m (w+1) (base+2^w) r
end Go.Proofs.YtoeblkipfdnnlaaGreatDoor
end

section
namespace Go.Proofs.YtoeblkipfdnnlaaGreatDoor
open Go Go.Sx
end Go.Proofs.YtoeblkipfdnnlaaGreatDoor
end

section
namespace Go.Proofs.YtoeblkipfdnnlaaGreatDoor
open Go Go.Sx
end Go.Proofs.YtoeblkipfdnnlaaGreatDoor
end

section
namespace Go.Proofs.YtoeblkipfdnnlaaGreatDoor
open Go Go.Sx
inductive Rd (α:Type) where
 | ok (x:α) (r:List Bool)
 | bad (c:Int)
def Rd.then {α β:Type} (x:Rd α) (f:α→List Bool→Rd β):Rd β:=match x with
 | .ok a r=>f a r
 | .bad c=>.bad c
def getN20 (b:List Bool):Rd Nat:=match numR 62 2 0 b with
 | none=>.bad 6
 | some (v,r)=>if v≤2^20 then .ok v r else .bad 4
def hdE:List Bool→Rd (Bool × Bool × Nat)
 | true::true::true::r=>(getN20 r).then fun v r=>if v=0 then .bad 6 else .ok (true,true,v) r
 | true::true::false::w::r=>(getN20 r).then fun v r=>if v=0 then .bad 6 else .ok (w,!w,v) r
 | true::true::_=>.bad 6
 | y::z::r=>.ok (y||z,y||!z,0) r
 | _=>.bad 6
def okE (le ri:Bool) (l r:Ev):Bool:=(decide (l = .leaf 0)==!le)&&(decide (r = .leaf 0)==!ri)&&decide (Min.min l.n r.n=0)&&!(l.isLeaf&&r.isLeaf&&decide (l.n=r.n))
def getE:Nat→List Bool→Rd Ev
 | _,[]=>.bad 6
 | _,true::r=>(getN20 r).then fun v r=>.ok (.leaf v) r
 | 0,false::_=>.bad 3
 | k+1,false::r=>(hdE r).then fun h r=>(if h.1=true then getE k r else .ok (.leaf 0) r).then fun x r=>(if h.2.1=true then getE k r else .ok (.leaf 0) r).then fun y r=>
   if okE h.1 h.2.1 x y=true then (if (Ev.node h.2.2 x y).max≤2^20 then .ok (.node h.2.2 x y) r else .bad 4) else .bad 6
end Go.Proofs.YtoeblkipfdnnlaaGreatDoor
end

section
namespace Go.Proofs.YtoeblkipfdnnlaaGreatDoor
open Go Go.Sx
section
variable (fl:Bool) (P:List UInt8) (x1:Ob) (d:Int) (base N:Nat) (hw:IntKind.i64.wrap (d+1)=d+1)
include hw
end
end Go.Proofs.YtoeblkipfdnnlaaGreatDoor
end

section
namespace Go.Proofs.YtoeblkipfdnnlaaGreatDoor
open Go Go.Sx
section
variable (fl:Bool) (P:List UInt8) (d:Int)
end
section
variable {fl:Bool} {P:List UInt8} {d:Int} {b:List Bool} (h28:P.length<2^28) (hb:b <:+ bitsB P)
include h28 hb
end
end Go.Proofs.YtoeblkipfdnnlaaGreatDoor
end

section
namespace Go.Proofs.YtoeblkipfdnnlaaGreatDoor
open Go Go.Sx
abbrev cI (i:Id):Ob:=some (.cells [.bool i.all,.p i.ptr])
section
variable (fl:Bool) (P:List UInt8) (x1:Ob) (d:Int) (N:Nat) (hw:IntKind.i64.wrap (d+1)=d+1)
include hw
end
end Go.Proofs.YtoeblkipfdnnlaaGreatDoor
end

section
namespace Go.Proofs.YtoeblkipfdnnlaaGreatDoor
open Go Go.Sx
def bits8 (b:UInt8):List Bool:=(List.range 8).map fun i=>b.toNat/2^(7-i)%2==1
theorem pC (b:UInt8) (p:List UInt8):bitsB (b::p)=bits8 b++bitsB p:=by
 unfold bitsB bits8
 rw [List.length_cons,show 8*(p.length+1)=8+8*p.length by omega,List.range_add,List.map_append,List.map_map]
 congr 1
 apply List.map_congr_left
 intro i hi
 simp only [Function.comp,bitN]
 rw [show (8+i)/8=i/8+1 by omega,show (8+i)%8=i%8 by omega,List.getD_cons_succ]
set_option maxRecDepth 100000 in
theorem uH : ∀ l:List Bool,l.length≤8→bits8 (UInt8.ofNat (valL 0 l*2^(8-l.length)))=l++List.replicate (8-l.length) false
 | [],_=>by decide
 | [a],_=>by revert a;decide
 | [a,b],_=>by revert a b;decide
 | [a,b,c],_=>by revert a b c;decide
 | [a,b,c,d],_=>by revert a b c d;decide
 | [a,b,c,d,e],_=>by revert a b c d e;decide
 | [a,b,c,d,e,f],_=>by revert a b c d e f;decide
 | [a,b,c,d,e,f,g],_=>by revert a b c d e f g;decide
 | [a,b,c,d,e,f,g,h],_=>by revert a b c d e f g h;decide
 | _::_::_::_::_::_::_::_::_::_,h=>by simp at h
theorem lX : ∀ f,packL f []=[]
 | 0=>rfl
 | f+1=>by rw [packL,if_pos rfl]
theorem i9 : ∀ (f:Nat) (l:List Bool),l.length≤8*f→∃ k,k<8∧bitsB (packL f l)=l++List.replicate k false
 | 0,l,h=>by
  obtain rfl:l=[]:=List.eq_nil_of_length_eq_zero (by omega)
  exact ⟨0,by decide,rfl⟩
 | f+1,l,h=>by
  by_cases hl:l=[]
  ·subst hl
   exact ⟨0,by decide,by rw [lX];rfl⟩
  have hpos:0<l.length:=List.length_pos_iff.2 hl
  rw [packL,if_neg hl]
  have hb:=uH (l.take 8) (by rw [List.length_take];omega)
  rw [pC,hb]
  by_cases h8:l.length<8
  ·rw [List.drop_of_length_le (by omega),lX,List.take_of_length_le (by omega)]
   exact ⟨8-l.length,by omega,by rw [show bitsB []=[] from rfl,List.append_nil]⟩
  ·obtain ⟨k,hk,e⟩:=i9 f (l.drop 8) (by rw [List.length_drop];omega)
   refine ⟨k,hk,?_⟩
   have e8:8-(l.take 8).length=0:=by rw [List.length_take];omega
   rw [e,e8,List.replicate_zero,List.append_nil,←List.append_assoc,List.take_append_drop]
theorem pD (l:List Bool) : ∃ k,k<8∧bitsB (pack l)=l++List.replicate k false:=by
 have h:=dW (l.length+1) [] l (by omega)
 have e:pack l=packL (l.length+1) l:=by simpa [pack] using h
 rw [e]
 exact i9 _ _ (by omega)
theorem jO : ∀ (k x v:Nat),bvA v (bitsOf x k)=v*2^k+x%2^k
 | 0,x,v=>by simp [bitsOf,bvA,Nat.mod_one]
 | k+1,x,v=>by
  rw [bitsOf,bvA,jO k x,Nat.mod_pow_succ,Nat.pow_succ,Nat.testBit_eq_decide_div_mod_eq]
  have hb:x/2^k%2<2:=Nat.mod_lt _ (by decide)
  generalize x/2^k%2=b at*
  generalize x%2^k=r
  generalize 2^k=P
  rcases (by omega:b=0∨b=1) with rfl|rfl
  ·simp [Nat.mul_comm,Nat.mul_left_comm,Nat.mul_assoc]
  ·have e:(2*v+1)*P=v*(P*2)+P:=by rw [Nat.add_mul,Nat.one_mul,Nat.mul_comm 2 v,Nat.mul_assoc,Nat.mul_comm 2 P]
   simp;omega
theorem sk (w base v:Nat) (r:List Bool) (h:v<2^w) (h2:base+v<2^64):numF w base (bitsOf v w++r)=some (base+v,r):=by
 unfold numF
 have e1:(bitsOf v w++r).take w=bitsOf v w:=by rw [List.take_append_of_le_length (by rw [am];exact Nat.le_refl _),List.take_of_length_le (by rw [am];exact Nat.le_refl _)]
 have e2:(bitsOf v w++r).drop w=r:=by rw [List.drop_append_of_le_length (by rw [am];exact Nat.le_refl _),List.drop_of_length_le (by rw [am];exact Nat.le_refl _)];rfl
 rw [e1,e2,jO,Nat.zero_mul,Nat.zero_add,Nat.mod_eq_of_lt h,if_neg (by rw [List.length_append,am];omega),if_neg (by omega)]
theorem so : ∀ (m w base v:Nat) (r:List Bool),m+w=64→base+v<2^64→2^w≤base+4→numR m w base (numBits v w m++r)=some (base+v,r)
 | 0,w,base,v,r,hm,hv,hb=>by
  rw [numBits,List.cons_append,numR]
  exact sk w base v r (by have hw:w=64:=(by omega);subst hw;omega) hv
 | m+1,w,base,v,r,hm,hv,hb=>by
  rw [numBits]
  have hp:0<2^w:=Nat.two_pow_pos w
  have hs:0<v >>> w↔2^w≤v:=by
   rw [Nat.shiftRight_eq_div_pow]
   exact Nat.div_pos_iff.trans ⟨fun h=>h.2,fun h=>⟨hp,h⟩⟩
  by_cases h:0<v >>> w
  ·have h':=hs.1 h
   rw [if_pos h,List.cons_append,numR,so m (w+1) (base+2^w) (v-2^w) r (by omega) (by omega) (by rw [Nat.pow_succ];omega)]
   congr 2
   omega
  ·have h':v<2^w:=by
    have:=mt hs.2 h
    omega
   rw [if_neg h,List.cons_append,numR]
   exact sk w base v r h' hv
theorem lF (v:Nat) (h:v≤2^20) (r:List Bool):getN20 (numBits v 2 62++r) = .ok v r:=by
 unfold getN20
 rw [so 62 2 0 v r rfl (by omega) (by decide),Nat.zero_add]
 exact if_pos h
theorem mO : ∀ (e:Ev) (k:Nat) (r:List Bool),e.norm→e.max≤2^20→e.depth≤k→getE k (evBits e++r) = .ok e r
 | .leaf n,k,r,hn,hm,hd=>by
  have e:evBits (.leaf n)++r=true::(numBits n 2 62++r):=by rw [evBits,List.append_assoc];rfl
  have e2:getE k (true::(numBits n 2 62++r))=(getN20 (numBits n 2 62++r)).then fun v r=>.ok (.leaf v) r:=by cases k<;>rfl
  rw [e,e2,lF n hm]
  rfl
 | .node n x y,0,r,hn,hm,hd=>by simp only [Ev.depth] at hd;omega
 | .node n x y,k+1,r,hn,hm,hd=>by
  have dx:x.depth≤k:=by simp only [Ev.depth] at hd;omega
  have dy:y.depth≤k:=by simp only [Ev.depth] at hd;omega
  have mx:x.max≤2^20:=by have:=Ev.max_l n x y;omega
  have my:y.max≤2^20:=by have:=Ev.max_r n x y;omega
  have mn:n≤2^20:=by simp only [Ev.max] at hm;omega
  obtain ⟨nx,ny,h0,hs⟩:=hn
  have ix:=fun r=>mO x k r nx mx dx
  have iy:=fun r=>mO y k r ny my dy
  have hxy : ¬(x = .leaf 0∧y = .leaf 0):=by
   rintro ⟨rfl,rfl⟩
   exact hs ⟨rfl,rfl,rfl⟩
  have hh : ∀ s,hdE (evKind n (decide (x = .leaf 0)) (decide (y = .leaf 0))++((if n=0 then [] else numBits n 2 62)++s)) = .ok (!decide (x = .leaf 0),!decide (y = .leaf 0),n) s:=by
   intro s
   unfold evKind
   by_cases hn0:n=0
   ·subst hn0
    by_cases h1:x = .leaf 0
    ·have h2 : ¬y = .leaf 0:=fun h=>hxy ⟨h1,h⟩
     simp [h1,h2,bitsOf,hdE]
    ·by_cases h2:y = .leaf 0<;>simp [h1,h2,bitsOf,hdE,Nat.testBit]
   ·have g:=lF n mn s
    by_cases h1:x = .leaf 0
    ·have h2 : ¬y = .leaf 0:=fun h=>hxy ⟨h1,h⟩
     simp [h1,h2,bitsOf,hdE,hn0,Nat.testBit,g,Rd.then]
    ·by_cases h2:y = .leaf 0<;>simp [h1,h2,bitsOf,hdE,hn0,Nat.testBit,g,Rd.then]
  have eb:evBits (.node n x y)++r=false::(evKind n (decide (x = .leaf 0)) (decide (y = .leaf 0))++((if n=0 then [] else numBits n 2 62)++((if x = .leaf 0 then [] else evBits x)++((if y = .leaf 0 then [] else evBits y)++r)))):=by
   rw [evBits]
   simp only [List.append_assoc]
   rfl
  have ok:okE (!decide (x = .leaf 0)) (!decide (y = .leaf 0)) x y=true:=by
   unfold okE
   simp only [Bool.and_eq_true,Bool.not_not,beq_self_eq_true,true_and,Bool.not_eq_true',decide_eq_true_eq]
   refine ⟨by omega,?_⟩
   simpa using fun h1 h2 h3=>hs ⟨h1,h2,h3⟩
  rw [eb,getE,hh]
  simp only [Rd.then]
  by_cases h1:x = .leaf 0
  ·have h2 : ¬y = .leaf 0:=fun h=>hxy ⟨h1,h⟩
   simp only [h1,h2,decide_true,decide_false,Bool.not_true,Bool.not_false,Bool.false_eq_true,if_false,if_true,List.nil_append] at ok ⊢
   rw [iy]
   simp only [ok,if_true]
   rw [if_pos (by rw [←h1];exact hm)]
  ·simp only [h1,decide_false,Bool.not_false,if_true,if_false] at ok ⊢
   rw [ix]
   simp only []
   by_cases h2:y = .leaf 0
   ·simp only [h2,decide_true,Bool.not_true,Bool.false_eq_true,if_false,if_true,List.nil_append] at ok ⊢
    simp only [ok,if_true]
    rw [if_pos (by rw [←h2];exact hm)]
   ·simp only [h2,decide_false,Bool.not_false,if_true,if_false] at ok ⊢
    rw [iy]
    simp only [ok,if_true]
    rw [if_pos hm]
theorem AP (k:Nat) (h:k<8):wEnd (List.replicate k false) 0=0:=by
 unfold wEnd
 rw [if_pos rfl,if_neg]
 simp
 omega
end Go.Proofs.YtoeblkipfdnnlaaGreatDoor
end

section
namespace Go.Proofs.YtoeblkipfdnnlaaGreatDoor
open Go Go.Sx
section
variable {fl:Bool} {P:List UInt8} (h28:P.length<2^28) {b:List Bool} (hb:b <:+ bitsB P)
include h28 hb
end
def rdE (p:List UInt8):Ev × Int:=match getE 16 (bitsB p) with
 | .ok x r=>if wEnd r 0=0 then (x,0) else (.leaf 0,wEnd r 0)
 | .bad c=>(.leaf 0,c)
end Go.Proofs.YtoeblkipfdnnlaaGreatDoor
end

section
namespace Go.Proofs.YtoeblkipfdnnlaaGreatDoor
open Go Go.Sx
theorem wm (e:Ev) (hn:e.norm) (hm:e.max≤2^20) (hd:e.depth≤16):rdE (pack (evBits e))=(e,0):=by
 obtain ⟨k,hk,h⟩:=pD (evBits e)
 unfold rdE
 rw [h,mO e 16 _ hn hm hd]
 simp only [AP k hk,if_true]
theorem nB (n:Nat) (h:n<2^64) (r:List UInt8):wNum (vnum n++r) 0=(n,r,0):=by
 unfold wNum
 rw [if_pos rfl,yE n h]
theorem pz (most:Nat) (s r:List UInt8) (h:s.length≤most) (hm:most<2^31):wText most (txt s++r) 0=(s,r,0):=by
 unfold wText txt
 rw [if_pos rfl,List.append_assoc,nB _ (by omega)]
 simp only [if_true]
 rw [if_neg (by omega),if_neg (by rw [List.length_append];omega),List.take_append_of_le_length (Nat.le_refl _),List.take_length,List.drop_append_of_le_length (Nat.le_refl _),List.drop_length]
 rfl
section
variable (fl:Bool) (r:List UInt8)
end
end Go.Proofs.YtoeblkipfdnnlaaGreatDoor
end

section
namespace Go.Proofs.YtoeblkipfdnnlaaGreatDoor
open Go Go.Sx
structure Wp (v:Wv):Prop where
 n:v.ev.norm
 m:v.ev.max≤2^20
 d:v.ev.depth≤16
 b:(evBits v.ev).length≤2^14
 s : ∀ s,v.nm=some s→Nam s
 g:v.gone=true→v.nm=none
theorem Wp.ok {v:Wv} (h:Wp v):v.Ok:=⟨h.n,by have:=h.m;omega,by have:=h.b;omega,fun s e=>by have:=(h.s s e).l;omega⟩
theorem Wp.right {v:Wv} (h:Wp v):v.right=true:=by
 unfold Wv.right
 cases hg:v.gone with
 | false=>rfl
 | true=>simp [h.g hg]
theorem s9 {most:Nat} {s s' r r':List UInt8} (hm:most<2^31) (h:s.length≤most) (h':s'.length≤most) (e:txt s++r=txt s'++r'):s=s'∧r=r':=by
 have a:=pz most s r h hm
 have b:=pz most s' r' h' hm
 rw [e,b] at a
 simp only [Prod.mk.injEq] at a
 exact ⟨a.1.symm,a.2.1.symm⟩
theorem uN {a b:Option (List UInt8)} (ha : ∀ s,a=some s→s.length≤40) (hb : ∀ s,b=some s→s.length≤40) (h:crdW a=crdW b):a=b:=by
 have num : ∀ s,crdW none≠crdW (some s):=fun s e=>by
  have h1:=nB 0 (by decide) []
  have h2:=nB 1 (by decide) ([1]++txt []++txt s)
  rw [List.append_nil] at h1
  simp only [crdW,List.append_assoc] at e
  rw [e] at h1
  simp only [List.append_assoc] at h2
  rw [h2] at h1
  simp at h1
 cases a with
 | none=>
  cases b with
  | none=>rfl
  | some s=>exact absurd h (num s)
 | some s=>
  cases b with
  | none=>exact absurd h.symm (num s)
  | some s'=>
   simp only [crdW] at h
   have h2:=List.append_cancel_left h
   have:=s9 (most:=40) (r:=[]) (r':=[]) (by decide) (ha s rfl) (hb s' rfl) (by simpa using h2)
   rw [this.1]
theorem AR {v w:Wv} (hv:Wp v) (hw:Wp w) (h:v.bytes=w.bytes):v=w:=by
 obtain ⟨ev,nm,gone⟩:=v
 obtain ⟨ev',nm',gone'⟩:=w
 unfold Wv.bytes at h
 simp only at h
 have p1:=e9 (evBits ev)
 have p2:=e9 (evBits ev')
 have b1:=hv.b
 have b2:=hw.b
 simp only at b1 b2
 obtain ⟨e1,e2⟩:=s9 (most:=2^15) (by decide) (by omega) (by omega) h
 have r1:=wm ev hv.n hv.m hv.d
 have r2:=wm ev' hw.n hw.m hw.d
 rw [e1,r2] at r1
 obtain rfl:ev'=ev:=(Prod.mk.inj r1).1
 have hg:gone=gone':=by
  cases gone<;>cases gone'<;>first|rfl|(simp at e2)
 subst hg
 cases gone with
 | true=>
  have a:=hv.g rfl
  have b:=hw.g rfl
  simp only at a b
  rw [a,b]
 | false=>
  simp only [Bool.false_eq_true,if_false,List.cons.injEq,true_and] at e2
  have:=uN (fun s e=>(hv.s s e).l) (fun s e=>(hw.s s e).l) e2
  simp only at this
  rw [this]
theorem yT (v:Wv):v.und v=false:=by simp [Wv.und]
theorem ut {u v w:Wv} (hu:u.ev.norm) (hv:v.ev.norm) (hw:w.ev.norm) (h1:u.und v=true) (h2:v.und w=true):u.und w=true:=by
 simp only [Wv.und,Bool.and_eq_true,Bool.not_eq_true'] at h1 h2 ⊢
 refine ⟨Ev.leqb_trans hv hw h1.1 h2.1,?_⟩
 cases q:Ev.leqb w.ev u.ev with
 | false=>rfl
 | true=>
  have:=Ev.leqb_trans hu hv q h1.1
  rw [this] at h2
  exact absurd h2.2 (by decide)
theorem kI:Ord Wv.bytes Wv.und Wp where
 irr v _:=yT v
 trans u v w hu hv hw h1 h2:=ut hu.n hv.n hw.n h1 h2
 inj u v hu hv h:=AR hu hv h
theorem eL : ∀ (e:Ev),(evBits e).length+140≤280*2^e.depth
 | .leaf n=>by
  have:=jf 62 n 2
  simp [evBits,am,Ev.depth];omega
 | .node n l r=>by
  have h1:=eL l
  have h2:=eL r
  have h3:=jf 62 n 2
  have h4:=(pK n (decide (l = .leaf 0)) (decide (r = .leaf 0))).2
  have hd:(Ev.node n l r).depth=1+Max.max l.depth r.depth:=rfl
  have p1:2^l.depth≤2^Max.max l.depth r.depth:=Nat.pow_le_pow_right (by omega) (Nat.le_max_left _ _)
  have p2:2^r.depth≤2^Max.max l.depth r.depth:=Nat.pow_le_pow_right (by omega) (Nat.le_max_right _ _)
  have p3:2^(1+Max.max l.depth r.depth)=2*2^Max.max l.depth r.depth:=by rw [Nat.add_comm,Nat.pow_succ,Nat.mul_comm]
  rw [hd,p3]
  unfold evBits
  simp only [List.length_append,am]
  have q1:(if n=0 then [] else numBits n 2 62).length≤127:=by
   by_cases q:n=0
   ·rw [if_pos q];exact Nat.zero_le _
   ·rw [if_neg q];omega
  have q2:(if l = .leaf 0 then [] else evBits l).length≤(evBits l).length:=by split<;>simp
  have q3:(if r = .leaf 0 then [] else evBits r).length≤(evBits r).length:=by split<;>simp
  omega
theorem A1 (x:Option (List UInt8)) (s:List UInt8) (g:Bool):Wp (dv x s g):=by
 obtain ⟨a,b,c⟩:=fI 4 (x.map (·.take 40))
 have h1:=eL (mkEv 4 (x.map (·.take 40))).1
 have h2:2^(mkEv 4 (x.map (·.take 40))).1.depth≤2^4:=Nat.pow_le_pow_right (by omega) b
 refine ⟨a,Nat.le_trans c (by decide),Nat.le_trans b (by decide),?_,fun s' e => ?_,fun e => ?_⟩
 ·show (evBits (mkEv 4 (x.map (·.take 40))).1).length≤2^14
  omega
 ·simp only [dv,wvOf] at e
  split at e
  ·rename_i h
   obtain rfl:=Option.some.inj e
   exact vG h.2
  ·cases e
 ·simp only [dv,wvOf] at e ⊢
  rw [if_neg (by rw [e];simp)]
theorem te {D:List Dw} {v:Wv} (h:v∈vsW D):Wp v:=by
 obtain ⟨d,_,rfl⟩:=List.mem_map.1 h
 exact A1 _ _ _
theorem nA (D:List Dw):(vsW D).length≤14:=by
 rw [List.length_map,List.length_take];omega
end Go.Proofs.YtoeblkipfdnnlaaGreatDoor
end

section
namespace Go.Proofs.YtoeblkipfdnnlaaGreatDoor
open Go Go.Sx
set_option maxHeartbeats 4000000
theorem Is.len {L M:List Wv} (h:L.map Wv.bytes=M.map Wv.bytes):L.length=M.length:=by
 have:=congrArg List.length h
 simpa using this
section
variable {V W:List Wv}
theorem tf (hV : ∀ v∈V,Wp v):Is Wv.bytes Wv.und (setsW V V []) V:=yM kI V hV
theorem fo (hW : ∀ v∈W,Wp v):Is Wv.bytes Wv.und (addsW [] W) W:=by
 have:=Is.adds kI W (L:=[]) (l:=[]) Is.nil (by simp) hW
 simpa using this
theorem ig (hV : ∀ v∈V,Wp v) (hm : ∀ v,v∈W↔v∈V):(addsW [] W).map Wv.bytes=(setsW V V []).map Wv.bytes:=
 Is.same (fo fun v hv=>hV v ((hm v).1 hv)) (tf hV) (mh hm)
theorem kc {A B:List Wv} (hA : ∀ v∈A,Wp v) (hB : ∀ v∈B,Wp v) (hW : ∀ v∈W,Wp v) (hm : ∀ v,v∈A++B↔v∈W):(addsW (addsW [] A) (addsW [] B)).map Wv.bytes=(addsW [] W).map Wv.bytes:=by
 have b:=fo hB
 have hb : ∀ v∈addsW [] B,Wp v:=fun v hv=>hB v ((b.mem v).1 hv).1
 have a:=Is.adds kI (addsW [] B) (fo hA) hA hb
 refine Is.same a (fo hW) fun v => ?_
 rw [wO kI hA hB b.mem v]
 exact mh hm v
theorem ii (hV : ∀ v∈V,Wp v) {v:Wv} (h:v∈setsW V V []):v∈V:=(((tf hV).mem v).1 h).1
theorem w7 (L:List Wv) (w:Wv):addW L w≠[]:=by
 unfold addW addK
 split
 ·rename_i h;rintro rfl;simp at h
 ·rw [js];simp
theorem cX : ∀ (W:List Wv) {L:List Wv},L≠[]∨W≠[]→addsW L W≠[]
 | [],L,h=>by simpa using h
 | w::W,L,h=>cX W (.inl (w7 L w))
end
section
variable {H:Heap} {nx:Nat} {S:PV} {W:List Wv}
end
end Go.Proofs.YtoeblkipfdnnlaaGreatDoor
end

section
namespace Go.Proofs.YtoeblkipfdnnlaaGreatDoor
open Go Go.Sx Go.ChangeShapes Go.WideShapes
end Go.Proofs.YtoeblkipfdnnlaaGreatDoor
end

section
namespace Go.Proofs.YtoeblkipfdnnlaaGreatDoor
open Go Go.Sx Go.ChangeShapes Go.WideShapes
inductive SK where
 | int (k:IntKind)
 | bool
 | str
def SK.of (P:Program) (t:TypeId):Option SK:=match P.underlying t with
 | some (.int k)=>some (.int k)
 | some .bool=>some .bool
 | some .string=>some .str
 | _=>none
def SK.fits:SK→Value→Prop
 | .int k,.int k' n=>k'=k∧(Lit.int k n).wf=true
 | .bool,.bool _=>True
 | .str,.string s=>s.size≤maxLen
 | _,_=>False
inductive Fits:List SK→List Value→Prop
 | nil:Fits [] []
 | cons {k:SK} {v:Value} {ks:List SK} {vs:List Value} : k.fits v→Fits ks vs→Fits (k::ks) (v::vs)
section
variable {H:Type} {enc:TypeId × Value→H} {P:Program} {W:World} {base:Nat} {spare:Nat→Bool} {held:Bool}
theorem yQ {t:TypeId} {s:SK} {n:Nat} {v:Value} {x:DataW H × List MemPlace} (hs:SK.of P t=some s) (h:DataW.trod enc P W base spare held n t [v]=some x):s.fits v:=by
 unfold SK.of at hs
 cases n with
 | zero=>simp [DataW.trod] at h
 | succ n=>
  unfold DataW.trod at h
  split at hs
  ·rename_i k hk
   obtain rfl:=Option.some.inj hs
   rw [hk] at h
   cases v<;>simp at h
   exact ⟨h.1.1,h.1.2⟩
  ·rename_i hk
   obtain rfl:=Option.some.inj hs
   rw [hk] at h
   cases v<;>simp at h
   trivial
  ·rename_i hk
   obtain rfl:=Option.some.inj hs
   rw [hk] at h
   cases v<;>simp at h
   exact h.1
  ·cases hs
theorem oR {s:SK} {v:Value} (h:s.fits v):v.oneCell'=true:=by
 cases s<;>cases v<;>simp [SK.fits] at h<;>rfl
theorem Fits.len {ks:List SK} {vs:List Value} (h:Fits ks vs):vs.length=ks.length:=by
 induction h with
 | nil=>rfl
 | cons _ _ ih=>simp [ih]
theorem Fits.one {ks:List SK} {vs:List Value} (h:Fits ks vs) : ∀ v∈vs,v.oneCell'=true:=by
 induction h with
 | nil=>simp
 | cons hk _ ih=>
  intro v hv
  rcases List.mem_cons.1 hv with rfl|hv
  ·exact oR hk
  ·exact ih v hv
end
end Go.Proofs.YtoeblkipfdnnlaaGreatDoor
end

section
namespace Go.Proofs.YtoeblkipfdnnlaaGreatDoor
open Go Go.Sx Go.ChangeShapes Go.WideShapes
inductive CT where
 | k (s:SK)
 | sl (ks:List CT)
def flatFs (g:TypeId→Option (List CT)) (P:Program):Nat→List Field→Option (List CT)
 | _,[]=>some []
 | i,f::r=>match g f.type with
  | some a=>if f.offset=i∧P.cellsOf f.type=a.length then (match flatFs g P (i+a.length) r with
   | some b=>some (a++b)
   | none=>none) else none
  | none=>none
def flatT (P:Program):Nat→TypeId→Option (List CT)
 | 0,_=>none
 | m+1,t=>match P.underlying t with
  | some (.slice e)=>match flatT P m e with
   | some ks=>if P.cellsOf e=ks.length∧0<ks.length then some [.sl ks] else none
   | none=>none
  | some (.struct fs)=>match flatFs (flatT P m) P 0 fs.toList with
   | some ks=>if P.cellsOf t=ks.length then some ks else none
   | none=>none
  | _=>match SK.of P t with
   | some s=>some [.k s]
   | none=>none
inductive RV (W:World):CT→Value→PV→Prop
 | k {s:SK} {v:Value} : s.fits v→RV W (.k s) v (.s v)
 | nil (ks:List CT):RV W (.sl ks) (.slice none 0 0) (.s (.slice none 0 0))
 | sl0 (ks:List CT) (a:Addr) (cap:Nat):RV W (.sl ks) (.slice (some a) 0 cap) (.sl [] 0 ks.length false)
 | sl (ks:List CT) (b off len cap:Nat) (u:Nat→Value) (xs:List PV) (c:Nat→CT) (hx:xs.length=len*ks.length) (hk : ∀ j,j<len*ks.length→ks[j%ks.length]?=some (c j))
   (hu : ∀ j,j<len*ks.length→W.cell? ⟨b,off+j,none⟩=some (u j)) (h : ∀ (j:Nat) (x:PV),xs[j]?=some x→RV W (c j) (u j) x) (hcap:len≤cap) (hb:b<W.heap.size) (hm:len<2^63):
   RV W (.sl ks) (.slice (some ⟨b,off,none⟩) len cap) (.sl xs len ks.length false)
theorem RV.one {W:World} {c:CT} {v:Value} {x:PV} (h:RV W c v x):v.oneCell'=true:=by
 cases h with
 | k h=>exact oR h
 | _=>rfl
theorem RV.pr {W:World} {c:CT} {v:Value} {x:PV} (h:RV W c v x):PR (fun b=>b<W.heap.size) W x v:=by
 induction h with
 | k h=>exact .s _
 | nil ks=>exact .s _
 | sl0 ks a cap=>exact .sl0 _ _ _ _ (fun h=>by cases h)
 | sl ks b off len cap u xs c hx hk hu h hcap hb hm ih=>
  refine .sl _ len ks.length false b off cap u hb (fun j hj=>hu j (by omega)) ?_ ?_ hcap (fun h=>by cases h)
  ·intro j hj
   obtain ⟨x,hx'⟩ : ∃ x,xs[j]?=some x:=⟨xs[j],by simp [hj]⟩
   exact (h j x hx').one
  ·intro j l hj;exact ih j l hj
def AllR (W:World) (ks:List CT) (cs:List Value) (xs:List PV):Prop:=
 cs.length=ks.length∧xs.length=ks.length∧∀ (j:Nat) (c:CT) (v:Value) (x:PV),ks[j]?=some c→cs[j]?=some v→xs[j]?=some x→RV W c v x
theorem AllR.app {W:World} {ks ks':List CT} {cs cs':List Value} {xs xs':List PV} (h:AllR W ks cs xs) (h':AllR W ks' cs' xs'):AllR W (ks++ks') (cs++cs') (xs++xs'):=by
 obtain ⟨a1,a2,a3⟩:=h
 obtain ⟨b1,b2,b3⟩:=h'
 refine ⟨by simp [a1,b1],by simp [a2,b2],?_⟩
 intro j c v x h1 h2 h3
 by_cases hj:j<ks.length
 ·rw [List.getElem?_append_left hj] at h1
  rw [List.getElem?_append_left (by omega)] at h2 h3
  exact a3 j c v x h1 h2 h3
 ·rw [List.getElem?_append_right (by omega)] at h1 h2 h3
  rw [a1] at h2
  rw [a2] at h3
  exact b3 _ c v x h1 h2 h3
theorem dT {α:Type} (rows:Nat→List α) (m:Nat) : ∀ (n:Nat),(∀ i,i<n→(rows i).length=m)→(((List.range n).map rows).flatten).length=n*m∧∀ j,j<n*m→(((List.range n).map rows).flatten)[j]?=(rows (j/m))[j%m]?
 | 0,_=>⟨by simp,fun j hj=>by omega⟩
 | n+1,h=>by
  obtain ⟨l1,l2⟩:=dT rows m n (fun i hi=>h i (by omega))
  rw [List.range_succ,List.map_append,List.flatten_append]
  refine ⟨by rw [List.length_append,l1];simp [h n (by omega),Nat.add_mul],?_⟩
  intro j hj
  have hm:0<m:=by
   rcases Nat.eq_zero_or_pos m with rfl|h'
   ·simp at hj
   ·exact h'
  by_cases hlt:j<n*m
  ·rw [List.getElem?_append_left (by omega),l2 j hlt]
  ·rw [List.getElem?_append_right (by omega),l1]
   have e1:j/m=n:=Nat.div_eq_of_lt_le (by omega) (by rw [Nat.add_mul] at *;omega)
   have e2:j%m=j-n*m:=by
    have:=Nat.div_add_mod j m
    rw [e1,Nat.mul_comm] at this
    omega
   rw [e1,e2];simp
section
variable {H:Type} {enc:TypeId × Value→H} {P:Program} {W:World} {base:Nat} {spare:Nat→Bool} {held:Bool}
theorem wM {t:TypeId} {s:SK} {n:Nat} {cs:List Value} {x:DataW H × List MemPlace} (hs:SK.of P t=some s) (h:DataW.trod enc P W base spare held n t cs=some x) : ∃ v,cs=[v]∧s.fits v:=by
 obtain ⟨v,rfl⟩ : ∃ v,cs=[v]:=by
  unfold SK.of at hs
  cases n with
  | zero=>simp [DataW.trod] at h
  | succ n=>
   unfold DataW.trod at h
   split at hs
   ·rename_i k hk
    rw [hk] at h
    split at h<;>simp_all
   ·rename_i hk
    rw [hk] at h
    split at h<;>simp_all
   ·rename_i hk
    rw [hk] at h
    split at h<;>simp_all
   ·cases hs
 exact ⟨v,rfl,yQ hs h⟩
theorem ij {g:TypeId→Option (List CT)} (ih : ∀ t ks n cs y,g t=some ks→DataW.trod enc P W base spare held n t cs=some y→∃ xs,AllR W ks cs xs) : ∀ (fs:List Field) (i:Nat) (ks:List CT) (cs:List Value),flatFs g P i fs=some ks →
  (∀ (j:Nat) (f:Field),fs[j]?=some f→∃ n y,DataW.trod enc P W base spare held n f.type ((cs.drop f.offset).take (P.cellsOf f.type))=some y)→cs.length=i+ks.length→∃ xs,AllR W ks (cs.drop i) xs
 | [],i,ks,cs,h,_,hl=>by
  simp only [flatFs,Option.some.injEq] at h
  subst h
  exact ⟨[],by simp at hl ⊢;omega,rfl,fun j c v x h=>by simp at h⟩
 | f::r,i,ks,cs,h,hf,hl=>by
  simp only [flatFs] at h
  split at h
  case h_2=>cases h
  rename_i a ha
  split at h
  case isFalse=>cases h
  rename_i hc
  obtain ⟨ho,hc⟩:=hc
  split at h
  case h_2=>cases h
  rename_i b hb
  obtain rfl:=Option.some.inj h
  obtain ⟨n,y,hy⟩:=hf 0 f rfl
  obtain ⟨xs,h1⟩:=ih _ _ _ _ _ ha hy
  rw [List.length_append] at hl
  obtain ⟨ys,h2⟩:=ij ih r (i+a.length) b cs hb (fun j g hg=>hf (j+1) g hg) (by omega)
  refine ⟨xs++ys,?_⟩
  have e:cs.drop i=(cs.drop f.offset).take (P.cellsOf f.type)++cs.drop (i+a.length):=by
   rw [ho,hc,←List.drop_drop,List.take_append_drop]
  rw [e]
  exact h1.app h2
theorem tv {W:World} {a:Addr} {v:Value} (h:W.cell? a=some v):a.spot=none∧a.block<W.heap.size:=by
 unfold World.cell? at h
 split at h
 ·rename_i c _ _ hh
  split at h
  ·cases h
  ·rename_i hs
   refine ⟨by cases hq:a.spot with
    | none=>rfl
    | some z=>rw [hq] at hs;simp at hs,(Array.getElem?_eq_some_iff.1 hh).1⟩
 ·cases h
theorem wq : ∀ (m:Nat) (t:TypeId) (ks:List CT) (n:Nat) (cs:List Value) (y:DataW H × List MemPlace),flatT P m t=some ks→DataW.trod enc P W base spare held n t cs=some y→∃ xs,AllR W ks cs xs
 | 0,t,ks,n,cs,y,h,_=>by cases h
 | m+1,t,ks,n,cs,y,h,ht=>by
  rw [flatT] at h
  split at h
  ·rename_i e he
   split at h
   case h_2=>cases h
   rename_i ks' hk
   split at h
   case isFalse=>cases h
   rename_i hc
   obtain ⟨hce,hpos⟩:=hc
   obtain rfl:=Option.some.inj h
   rcases Go.Deep.open_slice he ht with ⟨rfl,hx⟩|⟨a,len,cap,m',n',D,Pl,rfl,_,hl,hm,hmm,hx,hel⟩
   ·refine ⟨[.s (.slice none 0 0)],rfl,rfl,?_⟩
    intro j c v x h1 h2 h3
    match j with
    | 0=>
     obtain rfl:=Option.some.inj h1
     obtain rfl:=Option.some.inj h2
     obtain rfl:=Option.some.inj h3
     exact .nil _
    | j+1=>simp at h1
   ·have hlm:len≤m':=by rw [hmm];split<;>omega
    have fin : ∀ x,RV W (.sl ks') (.slice (some a) len cap) x→∃ xs,AllR W [.sl ks'] [.slice (some a) len cap] xs:=by
     intro x hx
     refine ⟨[x],rfl,rfl,?_⟩
     intro j c v x h1 h2 h3
     match j with
     | 0=>
      obtain rfl:=Option.some.inj h1
      obtain rfl:=Option.some.inj h2
      obtain rfl:=Option.some.inj h3
      exact hx
     | j+1=>simp at h1
    rcases Nat.eq_zero_or_pos len with rfl|hlen
    ·exact fin _ (.sl0 _ _ _)
    have each : ∀ i,∃ r:List Value × List PV,i<m'→W.cells? 0 (a.add (i*P.cellsOf e)) (P.cellsOf e)=some r.1∧AllR W ks' r.1 r.2:=by
     intro i
     by_cases hi:i<m'
     ·obtain ⟨cs',h1,h2⟩:=hel i hi
      obtain ⟨xs,h3⟩:=wq m e ks' n' cs' _ hk h2
      refine ⟨(cs',xs),fun _=>⟨?_,h3⟩⟩
      unfold World.cells? at h1 ⊢
      split at h1
      ·rw [if_pos (Nat.zero_le _)];exact h1
      ·cases h1
     ·exact ⟨([],[]),fun h=>absurd h hi⟩
    obtain ⟨rows,hrows⟩:=Classical.axiomOfChoice each
    have cellE : ∀ i,i<m'→∀ j,j<ks'.length→W.cell? ((a.add (i*ks'.length)).add j)=(rows i).1[j]?:=by
     intro i hi j hj
     obtain ⟨h1,h2⟩:=hrows i hi
     rw [hce] at h1
     exact (World.cells?_some h1).2.2 j hj
    obtain ⟨b,off,spot⟩:=a
    have h0:spot=none∧b<W.heap.size:=by
     have h1:=cellE 0 (by omega) 0 hpos
     have hl0:0<(rows 0).1.length:=by rw [(hrows 0 (by omega)).2.1];exact hpos
     rw [List.getElem?_eq_getElem hl0] at h1
     have:=tv h1
     simpa [Addr.add] using this
    obtain ⟨rfl,hb⟩:=h0
    have rl1 : ∀ i,i<len→(rows i).1.length=ks'.length:=fun i hi=>(hrows i (by omega)).2.1
    have rl2 : ∀ i,i<len→(rows i).2.length=ks'.length:=fun i hi=>(hrows i (by omega)).2.2.1
    obtain ⟨f1,f2⟩:=dT (fun i=>(rows i).1) ks'.length len rl1
    obtain ⟨g1,g2⟩:=dT (fun i=>(rows i).2) ks'.length len rl2
    have dv : ∀ j,j<len*ks'.length→j/ks'.length<len∧j%ks'.length<ks'.length:=fun j hj=>⟨Nat.div_lt_of_lt_mul (by rw [Nat.mul_comm];exact hj),Nat.mod_lt _ hpos⟩
    refine fin (.sl (((List.range len).map fun i=>(rows i).2).flatten) len ks'.length false) (.sl ks' b off len cap (fun j=>(((List.range len).map fun i=>(rows i).1).flatten).getD j default) _ (fun j=>ks'.getD (j%ks'.length) (.sl [])) g1 ?_ ?_ ?_ hl hb (by have hm':cap≤maxLen:=hm;unfold maxLen at hm';omega))
    ·intro j hj
     obtain ⟨d1,d2⟩:=dv j hj
     rw [List.getD_eq_getElem?_getD,List.getElem?_eq_getElem d2];rfl
    ·intro j hj
     obtain ⟨d1,d2⟩:=dv j hj
     have h1:=cellE (j/ks'.length) (by omega) (j%ks'.length) d2
     have hl1:j%ks'.length<(rows (j/ks'.length)).1.length:=by rw [rl1 _ d1];exact d2
     rw [List.getD_eq_getElem?_getD,f2 j hj,List.getElem?_eq_getElem hl1]
     rw [List.getElem?_eq_getElem hl1] at h1
     rw [Option.getD_some,←h1,add_plain,add_plain]
     have:=Nat.div_add_mod j ks'.length
     rw [Nat.mul_comm] at this
     congr 2
     omega
    ·intro j x hj
     have hj':j<len*ks'.length:=by rw [←g1];exact (List.getElem?_eq_some_iff.1 hj).1
     obtain ⟨d1,d2⟩:=dv j hj'
     obtain ⟨_,r1,r2,r3⟩:=hrows (j/ks'.length) (by omega)
     rw [g2 j hj'] at hj
     have hl1:j%ks'.length<(rows (j/ks'.length)).1.length:=by rw [r1];exact d2
     refine r3 (j%ks'.length) _ _ x ?_ ?_ hj
     ·rw [List.getD_eq_getElem?_getD,List.getElem?_eq_getElem d2];rfl
     ·rw [List.getD_eq_getElem?_getD,f2 j hj',List.getElem?_eq_getElem hl1];rfl
  ·rename_i fs he
   split at h
   case h_2=>cases h
   rename_i ks' hk
   split at h
   case isFalse=>cases h
   rename_i hc
   obtain rfl:=Option.some.inj h
   obtain ⟨xs,q,_,_,h3,h4,h5⟩:=DataW.trod_struct he ht
   have:=ij (fun t ks n cs y h1 h2=>wq m t ks n cs y h1 h2) fs.toList 0 ks' cs hk (fun j f hj=>by
    have hj':fs[j]?=some f:=by simpa using hj
    have hlt:j<xs.length:=by rw [h4];exact (Array.getElem?_eq_some_iff.1 hj').1
    exact ⟨q,xs[j],by rw [h5 j f hj',List.getElem?_eq_getElem hlt]⟩) (by rw [h3,hc];simp)
   simpa using this
  ·split at h
   case h_2=>cases h
   rename_i s hs
   obtain rfl:=Option.some.inj h
   obtain ⟨v,rfl,hv⟩:=wM hs ht
   refine ⟨[.s v],rfl,rfl,?_⟩
   intro j c v x h1 h2 h3
   match j with
   | 0=>
    obtain rfl:=Option.some.inj h1
    obtain rfl:=Option.some.inj h2
    obtain rfl:=Option.some.inj h3
    exact .k hv
   | j+1=>simp at h1
theorem xW {α:Type} {f:α→PV} {Q:α→Prop} {c:CT} (hf : ∀ v x,RV W c v x→∃ a,x=f a∧Q a) {v:Value} {x:PV} (h:RV W (.sl [c]) v x):x = .s (.slice none 0 0)∨∃ L:List α,x = .sl (L.map f) L.length 1 false∧(∀ a∈L,Q a)∧L.length<2^63:=by
 generalize hc:CT.sl [c]=t at h
 cases h with
 | k h=>cases hc
 | nil ks=>exact .inl rfl
 | sl0 ks a cap=>
  obtain rfl:=CT.sl.inj hc
  exact .inr ⟨[],rfl,by simp,by simp⟩
 | sl ks b off len cap u xs c' hx hk hu h hcap hb hm=>
  obtain rfl:=CT.sl.inj hc
  right
  have hx':xs.length=len:=by simpa using hx
  have each : ∀ j:Fin xs.length,∃ a,xs[j]=f a∧Q a:=by
   intro j
   have h1:=hk j.1 (by rw [←hx];exact j.2)
   have h2:=h j.1 xs[j] (by simp)
   have:c' j.1=c:=by
    have e:j.1 % [c].length=0:=by simp [Nat.mod_one]
    rw [e] at h1
    exact (Option.some.inj h1).symm
   rw [this] at h2
   exact hf _ _ h2
  obtain ⟨L,hL⟩:=Classical.axiomOfChoice each
  refine ⟨List.ofFn L,?_,?_,by simp [hx',hm]⟩
  ·have e:(List.ofFn L).map f=xs:=by
    apply List.ext_getElem
    ·simp
    ·intro j h1 h2
     simp only [List.getElem_map,List.getElem_ofFn]
     exact (hL ⟨j,h2⟩).1.symm
   rw [e,List.length_ofFn,hx'];rfl
  ·intro a ha
   obtain ⟨j,rfl⟩:=List.mem_ofFn.1 ha
   exact (hL j).2
end
end Go.Proofs.YtoeblkipfdnnlaaGreatDoor
end

section
namespace Go.Proofs.YtoeblkipfdnnlaaGreatDoor
open Go Go.Sx Go.ChangeShapes Go.WideShapes
section
variable {W:World}
theorem AE {k:IntKind} {v:Value} {x:PV} (h:RV W (.k (.int k)) v x) : ∃ n:Int,x = .s (.int k n)∧k.min≤n∧n≤k.max:=by
 cases h with
 | k h=>
  cases v<;>simp only [SK.fits] at h
  obtain ⟨rfl,h⟩:=h
  exact ⟨_,rfl,by simpa [Lit.wf] using h⟩
theorem yI {v:Value} {x:PV} (h:RV W (.k .bool) v x) : ∃ b:Bool,x = .s (.bool b):=by
 cases h with
 | k h=>cases v<;>first|exact ⟨_,rfl⟩|exact absurd h (by simp [SK.fits])
theorem AF {k:IntKind} (h0:k.min=0) {v:Value} {x:PV} (h:RV W (.k (.int k)) v x) : ∃ n:Nat,x = .s (.int k n)∧(n:Int)≤k.max:=by
 obtain ⟨n,rfl,h1,h2⟩:=AE h
 rw [h0] at h1
 exact ⟨n.toNat,by rw [Int.toNat_of_nonneg h1],by omega⟩
theorem yJ {v:Value} {x:PV} (h:RV W (.k (.int .u8)) v x) : ∃ b:UInt8,x = .s (.int .u8 b.toNat)∧True:=by
 obtain ⟨n,rfl,h⟩:=AF rfl h
 have:n<256:=by have e:IntKind.u8.max=255:=rfl;omega
 exact ⟨UInt8.ofNat n,by simp [Nat.mod_eq_of_lt this],trivial⟩
theorem wD {v:Value} {x:PV} (h:RV W (.sl [.k (.int .u8)]) v x) : ∃ o:Option (List UInt8),x=obP false o∧∀ l,o=some l→l.length<2^63:=by
 rcases xW (f:=fun b:UInt8=>PV.s (.int .u8 b.toNat)) (Q:=fun _=>True) (fun v x h=>yJ h) h with rfl|⟨L,rfl,_,h2⟩
 ·exact ⟨none,rfl,fun l h=>by cases h⟩
 ·exact ⟨some L,rfl,fun l h=>by cases h;exact h2⟩
theorem all_cons {c:CT} {ks:List CT} {cs:List Value} {xs:List PV} (h:AllR W (c::ks) cs xs) : ∃ v vs x ys,cs=v::vs∧xs=x::ys∧RV W c v x∧AllR W ks vs ys:=by
 obtain ⟨h1,h2,h3⟩:=h
 cases cs with
 | nil=>cases h1
 | cons v vs=>
  cases xs with
  | nil=>cases h2
  | cons x ys=>exact ⟨v,vs,x,ys,rfl,rfl,h3 0 c v x rfl rfl rfl,by simpa using h1,by simpa using h2,fun j c v x a b d=>h3 (j+1) c v x a b d⟩
theorem all_nil {cs:List Value} {xs:List PV} (h:AllR W [] cs xs):cs=[]∧xs=[]:=⟨List.eq_nil_of_length_eq_zero h.1,List.eq_nil_of_length_eq_zero h.2.1⟩
theorem AllR.pr {ks:List CT} {a:Array Value} {xs:List PV} (h:AllR W ks a.toList xs):PR (fun b=>b<W.heap.size) W (.agg xs) (.agg a):=by
 obtain ⟨h1,h2,h3⟩:=h
 refine .agg xs a (by simpa [h2] using h1) ?_ ?_
 ·intro u hu
  obtain ⟨j,hj,rfl⟩:=List.getElem_of_mem hu
  exact (h3 j (ks[j]'(by omega)) a.toList[j] (xs[j]'(by omega)) (by simp [←h1,hj]) (by simp [hj]) (by simp [h2,←h1,hj])).one
 ·intro j l u hl hu
  have hj:j<xs.length:=(List.getElem?_eq_some_iff.1 hl).1
  exact (h3 j (ks[j]'(by omega)) u l (by simp [←h2,hj]) (by simpa using hu) hl).pr
theorem AG {v:Value} {x:PV} (h:RV W (.k .str) v x) : ∃ s:List UInt8,x=strP s∧s.length<2^63:=by
 cases h with
 | k h=>
  cases v with
  | string s=>
   have e:(⟨s.data.toList.toArray⟩:ByteArray)=s:=congrArg ByteArray.mk (Array.toArray_toList)
   refine ⟨s.data.toList,by rw [strP,e],?_⟩
   have h':s.size≤maxLen:=h
   have e:s.data.toList.length=s.size:=Array.length_toList
   have m:maxLen<2^63:=by unfold maxLen;omega
   omega
  | _=>exact absurd h (by intro h;exact h)
def drwK:List CT:=[.sl [.k (.int .u8)],.k .str,.k .bool]
theorem xz {xs:List PV} {vs:List Value} (h:AllR W drwK vs xs) : ∃ d:Dw,xs=d.cells∧d.s.length<2^63:=by
 obtain ⟨_,_,_,_,rfl,rfl,r1,h⟩:=all_cons h
 obtain ⟨_,_,_,_,rfl,rfl,r2,h⟩:=all_cons h
 obtain ⟨_,_,_,_,rfl,rfl,r3,h⟩:=all_cons h
 obtain ⟨rfl,rfl⟩:=all_nil h
 obtain ⟨o,rfl,_⟩:=wD r1
 obtain ⟨s,rfl,hs⟩:=AG r2
 obtain ⟨g,rfl⟩:=yI r3
 exact ⟨⟨o,s,g⟩,rfl,hs⟩
theorem uX {v:Value} {x:PV} (h:RV W (.sl drwK) v x) : ∃ D:List Dw,dsP D x∧(∀ d∈D,d.s.length<2^63)∧D.length<2^63:=by
 generalize hc:CT.sl drwK=t at h
 cases h with
 | k h=>cases hc
 | nil ks=>exact ⟨[],.inl ⟨rfl,rfl⟩,by simp,by decide⟩
 | sl0 ks a cap=>
  obtain rfl:=CT.sl.inj hc
  exact ⟨[],.inr rfl,by simp,by decide⟩
 | sl ks b off len cap u xs c' hx hk hu h hcap hb hm=>
  obtain rfl:=CT.sl.inj hc
  have l3:drwK.length=3:=rfl
  rw [l3] at hx
  have each : ∀ i:Fin len,∃ d:Dw,(xs.drop (i.1*3)).take 3=d.cells∧d.s.length<2^63:=fun i=>by
   have hi:=i.2
   refine xz (W:=W) (vs:=[u (i.1*3),u (i.1*3+1),u (i.1*3+2)]) ⟨rfl,by rw [List.length_take,List.length_drop];show min 3 _=3;omega,fun j c v x hj hv hxj => ?_⟩
   have hj3:j<3:=by
    rcases Nat.lt_or_ge j 3 with q|q
    ·exact q
    ·rw [List.getElem?_eq_none (by rw [l3];exact q)] at hj;cases hj
   rw [List.getElem?_take,if_pos hj3,List.getElem?_drop] at hxj
   have hk':=hk (i.1*3+j) (by rw [l3];omega)
   rw [l3,show (i.1*3+j)%3=j by omega,hj] at hk'
   obtain rfl:=Option.some.inj hk'
   have hv':v=u (i.1*3+j):=by
    match j,hj3,hv with
    | 0,_,hv=>exact (Option.some.inj hv).symm
    | 1,_,hv=>exact (Option.some.inj hv).symm
    | 2,_,hv=>exact (Option.some.inj hv).symm
   rw [hv']
   exact h _ _ hxj
  refine ⟨List.ofFn fun i=>(each i).choose,.inr ?_,fun d hd => ?_,by rw [List.length_ofFn];exact hm⟩
  ·rw [List.length_ofFn]
   have e:xs=dwP (List.ofFn fun i=>(each i).choose):=by
    refine List.ext_getElem? fun k => ?_
    rcases Nat.lt_or_ge k xs.length with q|q
    ·have hi:k/3<len:=by omega
     have hd:(List.ofFn fun i=>(each i).choose)[k/3]?=some (each ⟨k/3,hi⟩).choose:=by
      rw [List.getElem?_ofFn,dif_pos hi]
     have r:=ww qY hd (show k%3<3 by omega)
     rw [show k/3*3+k%3=k by omega] at r
     have r':(dwP (List.ofFn fun i=>(each i).choose))[k]?=((each ⟨k/3,hi⟩).choose.cells)[k%3]?:=r
     rw [r',←(each ⟨k/3,hi⟩).choose_spec.1,List.getElem?_take,if_pos (by omega),List.getElem?_drop]
     show xs[k]?=xs[k/3*3+k%3]?
     rw [show k/3*3+k%3=k by omega]
    ·rw [List.getElem?_eq_none q,List.getElem?_eq_none]
     have:=fL qY (List.ofFn fun i=>(each i).choose)
     rw [List.length_ofFn] at this
     show (dwP _).length≤k
     unfold dwP
     omega
   rw [←e,l3]
  ·rw [List.mem_ofFn] at hd
   obtain ⟨i,rfl⟩:=hd
   exact (each i).choose_spec.2
end
section
variable {P:Program} {H:Type} {enc:TypeId × Value→H} {W:World} {base:Nat} {spare:Nat→Bool} {held:Bool} {t:TypeId} {v:Value} {d:DataW H} {p:List MemPlace}
theorem Aj {e:TypeId} {k:CT} (hf:flatT P 4 t=some [k]) (ht:P.underlying t=some (.slice e)) (hval:Value.okWide P W .any base t v) (h:DataW.Trod enc P W 0 spare held t v d p) : ∃ x,RV W k v x:=by
 obtain ⟨a0,len,cap,rfl⟩:=okWide_slice ht hval
 obtain ⟨n,hn⟩:=h
 obtain ⟨xs,hx⟩:=wq 4 t [k] n _ _ hf hn
 have e:(Value.slice a0 len cap).cells.toList=[.slice a0 len cap]:=rfl
 rw [e] at hx
 obtain ⟨_,_,_,_,e1,rfl,r,h⟩:=all_cons hx
 obtain ⟨rfl,_⟩:=List.cons.inj e1
 exact ⟨_,r⟩
theorem zE {e:TypeId} (hf:flatT P 4 t=some [.sl drwK]) (ht:P.underlying t=some (.slice e)) (hval:Value.okWide P W .any base t v) (h:DataW.Trod enc P W 0 spare held t v d p):
  ∃ (D:List Dw) (x:Go.Sx.PV),dsP D x∧DwOk D∧Go.Sx.PR (fun b=>b<W.heap.size) W x v:=by
 obtain ⟨x,r⟩:=Aj hf ht hval h
 obtain ⟨D,h1,h2,h3⟩:=uX r
 exact ⟨D,x,h1,⟨h2,h3⟩,r.pr⟩
end
end Go.Proofs.YtoeblkipfdnnlaaGreatDoor
end

section
namespace Go.Proofs.YtoeblkipfdnnlaaGreatDoor
open Go Go.Sx Go.ChangeShapes Go.WideShapes
section
variable {W:World}
theorem fH {P:Program} {x:String × DataW Unit} {r:List (String × DataW Unit)} {ps:List MemPlace} (h:DataW.LaidVars P W (x::r) ps) : ∃ q,DataW.LaidVars P W r q:=by
 obtain ⟨g,t,cs,fuel,p,q,_,_,_,_,h,_⟩:=h
 exact ⟨q,h⟩
theorem sd {P:Program} {n:String} {d:DataW Unit} {r:List (String × DataW Unit)} {ps:List MemPlace} (h:DataW.LaidVars P W ((n,d)::r) ps) {g:Nat} {t:TypeId} (hg:P.globalNamed n=some g) (ht:(P.globals[g]?).map (·.type)=some t):
  ∃ cs fuel p,W.var? P n=some cs∧DataW.trod (fun _=>()) P W 0 (fun _=>true) false fuel t cs.toList=some (d,p):=by
 obtain ⟨g',t',cs,fuel,p,q,h1,h2,h3,h4,_,_⟩:=h
 obtain rfl:=Option.some.inj (hg.symm.trans h1)
 obtain rfl:=Option.some.inj (ht.symm.trans h2)
 exact ⟨cs,fuel,p,h3,h4⟩
theorem tJ:(Go.Pinned.utf8FirstZ==(List.range 256).map firstN)=true:=by kernel_rfl
theorem ol {r:List (String × DataW Unit)} {ps:List MemPlace} (h:DataW.LaidVars Tryz.prog W (("unicode/utf8.first",Rows.laid_unicode_utf8_first)::r) ps) (j:Nat) (hj:j<256):W.cell? ⟨1,j,none⟩=some (.int .u8 (firstN j:Nat)):=by
 have hg:Tryz.prog.globalNamed "unicode/utf8.first" = some 1:=by kernel_rfl
 obtain ⟨cs,fuel,p,hv,hd⟩:=sd h hg (show (Tryz.prog.globals[1]?).map (·.type)=some 228 by kernel_rfl)
 obtain ⟨xs,m,_,ex,_,hl,hel⟩:=DataW.trod_array (Tryz.underlying228) hd
 have c5:Tryz.prog.cellsOf 5=1:=by kernel_rfl
 have hE:=hel j hj
 rw [c5,Nat.mul_one,List.getElem?_eq_getElem (by omega)] at hE
 obtain ⟨z,e1,e2,_⟩:=DataW.trod_int (Tryz.underlying5) hE
 have e3:(xs.map (·.1))=Go.Pinned.numbers .u8 Go.Pinned.utf8FirstZ:=(DataW.agg.inj (Prod.mk.inj ex).1).symm
 have hz:(xs.map (·.1))[j]?=some (.lit (.int .u8 (firstN j:Nat))):=by
  rw [e3,eq_of_beq tJ]
  simp [Go.Pinned.numbers,hj]
 rw [List.getElem?_map,List.getElem?_eq_getElem (by omega:j<xs.length),e2] at hz
 simp only [Option.map_some,Option.some.injEq,DataW.lit.injEq,Lit.int.injEq,true_and] at hz
 rw [World.var?_cell hg hv j,←hz]
 have h0:((cs.toList.drop j).take 1)[0]?=some (.int .u8 z):=by rw [e1];rfl
 have:cs.toList[j]?=some (.int .u8 z):=by simpa using h0
 simpa using this
def accZ:List Int:=[128,191,160,191,128,159,144,191,128,143,0,0,0,0,0,0,0,0,0,0,0,0,0,0,0,0,0,0,0,0,0,0]
theorem tg {r:List (String × DataW Unit)} {ps:List MemPlace} (h:DataW.LaidVars Tryz.prog W (("unicode/utf8.acceptRanges",Rows.laid_unicode_utf8_acceptRanges)::r) ps) (j:Nat) (hj:j<32):W.cell? ⟨2,j,none⟩=some (.int .u8 (accZ.getD j 0)):=by
 have hg:Tryz.prog.globalNamed "unicode/utf8.acceptRanges" = some 2:=by kernel_rfl
 obtain ⟨cs,fuel,p,hv,hd⟩:=sd h hg (show (Tryz.prog.globals[2]?).map (·.type)=some 231 by kernel_rfl)
 obtain ⟨xs,m,_,ex,_,hl,hel⟩:=DataW.trod_array (Tryz.underlying231) hd
 have c5:Tryz.prog.cellsOf 5=1:=by kernel_rfl
 have c230:Tryz.prog.cellsOf 230=2:=by kernel_rfl
 have hE:=hel (j/2) (by omega)
 rw [c230,List.getElem?_eq_getElem (by omega)] at hE
 obtain ⟨y0,y1,n',ey,_,t0,t1⟩:=trod_struct2 Tryz.underlying230 hE
 rw [c5] at t0 t1
 obtain ⟨z0,a1,a2,_⟩:=DataW.trod_int (Tryz.underlying5) t0
 obtain ⟨z1,b1,b2,_⟩:=DataW.trod_int (Tryz.underlying5) t1
 have e3:(xs.map (·.1))=(match (Rows.laid_unicode_utf8_acceptRanges:DataW Unit) with
  | .agg l=>l
  | _=>[]):=by rw [(Prod.mk.inj ex).1]
 have hz:(xs.map (·.1))[j/2]?=some (.agg [.lit (.int .u8 z0),.lit (.int .u8 z1)]):=by
  rw [List.getElem?_map,List.getElem?_eq_getElem (by omega:j/2<xs.length),ey,a2,b2];rfl
 rw [e3] at hz
 have key : ∀ i,i<16→(match (Rows.laid_unicode_utf8_acceptRanges:DataW Unit) with
  | .agg l=>l
  | _=>[])[i]?=some (.agg [.lit (.int .u8 (accZ.getD (2*i) 0)),.lit (.int .u8 (accZ.getD (2*i+1) 0))]):=by
  intro i hi
  match i with
  | 0=>rfl
  | 1=>rfl
  | 2=>rfl
  | 3=>rfl
  | 4=>rfl
  | 5=>rfl
  | 6=>rfl
  | 7=>rfl
  | 8=>rfl
  | 9=>rfl
  | 10=>rfl
  | 11=>rfl
  | 12=>rfl
  | 13=>rfl
  | 14=>rfl
  | 15=>rfl
  | n+16=>omega
 rw [key (j/2) (by omega)] at hz
 simp only [Option.some.injEq,DataW.agg.injEq,List.cons.injEq,DataW.lit.injEq,Lit.int.injEq,true_and,and_true] at hz
 rw [World.var?_cell hg hv j]
 have h0:((((cs.toList.drop (j/2*2)).take 2).drop 0).take 1)[0]?=some (.int .u8 z0):=by rw [a1];rfl
 have h1:((((cs.toList.drop (j/2*2)).take 2).drop 1).take 1)[0]?=some (.int .u8 z1):=by rw [b1];rfl
 simp only [List.getElem?_take,List.getElem?_drop] at h0 h1
 simp at h0 h1
 rcases Nat.mod_two_eq_zero_or_one j with hm|hm
 ·rw [show j/2*2=j by omega] at h0
  rw [show 2*(j/2)=j by omega] at hz
  rw [hz.1]
  simpa using h0
 ·rw [show j/2*2+1=j by omega] at h1
  rw [show 2*(j/2)+1=j by omega] at hz
  rw [hz.2]
  simpa using h1
theorem qQ {b j:Nat} {v:Value} (h:W.cell? ⟨b,j,none⟩=some v):b<W.heap.size:=by
 unfold World.cell? at h
 simp only at h
 cases hb:W.heap[b]? with
 | none=>rw [hb] at h;cases h
 | some o=>exact (Array.getElem?_eq_some_iff.1 hb).1
theorem oi:firstT.length=256:=by simp [firstT]
theorem kS:accT.length=32:=rfl
theorem zW (h1 : ∀ j,j<256→W.cell? ⟨1,j,none⟩=some (.int .u8 (firstN j:Nat))) (h2 : ∀ j,j<32→W.cell? ⟨2,j,none⟩=some (.int .u8 (accZ.getD j 0))):GOK gG (fun b=>b<W.heap.size) W:=by
 intro n cs hn
 unfold gG at hn
 split at hn
 ·rename_i e
  subst e
  obtain rfl:=Option.some.inj hn
  refine .imm firstT 0 1 0 (fun j=>.int .u8 (firstN j:Nat)) (qQ (h1 0 (by decide))) (fun j hj => ?_) (fun j hj=>rfl) fun j l hl => ?_
  ·rw [Nat.zero_add];exact h1 j (by rw [oi] at hj;exact hj)
  ·unfold firstT at hl
   rw [List.getElem?_map] at hl
   rcases Nat.lt_or_ge j 256 with q|q
   ·rw [List.getElem?_range q] at hl
    obtain rfl:=Option.some.inj hl
    exact .s _
   ·rw [List.getElem?_eq_none (by simpa using q)] at hl;cases hl
 ·split at hn
  ·rename_i e
   subst e
   obtain rfl:=Option.some.inj hn
   refine .imm accT 0 2 0 (fun j=>.int .u8 (accZ.getD j 0)) (qQ (h2 0 (by decide))) (fun j hj => ?_) (fun j hj=>rfl) fun j l hl => ?_
   ·rw [Nat.zero_add];exact h2 j (by rw [kS] at hj;exact hj)
   ·have hj:j<32:=by
     rcases Nat.lt_or_ge j 32 with q|q
     ·exact q
     ·rw [List.getElem?_eq_none (by rw [kS];exact q)] at hl;cases hl
    have key : ∀ k,k<32→accT[k]?=some (.s (.int .u8 (accZ.getD k 0))):=by
     intro k hk
     match k with
     | 0=>rfl
     | 1=>rfl
     | 2=>rfl
     | 3=>rfl
     | 4=>rfl
     | 5=>rfl
     | 6=>rfl
     | 7=>rfl
     | 8=>rfl
     | 9=>rfl
     | 10=>rfl
     | 11=>rfl
     | 12=>rfl
     | 13=>rfl
     | 14=>rfl
     | 15=>rfl
     | 16=>rfl
     | 17=>rfl
     | 18=>rfl
     | 19=>rfl
     | 20=>rfl
     | 21=>rfl
     | 22=>rfl
     | 23=>rfl
     | 24=>rfl
     | 25=>rfl
     | 26=>rfl
     | 27=>rfl
     | 28=>rfl
     | 29=>rfl
     | 30=>rfl
     | 31=>rfl
     | n+32=>omega
    rw [key j hj] at hl
    obtain rfl:=Option.some.inj hl
    exact .s _
  ·cases hn
abbrev sibsLaid:List (String × DataW Unit):=[("math/bits.deBruijn32tab",Rows.laid_math_bits_deBruijn32tab),("math/bits.deBruijn64tab",Rows.laid_math_bits_deBruijn64tab),("internal/strconv.uint64pow10",Rows.laid_internal_strconv_uint64pow10),("unicode/utf8.acceptRanges",Rows.laid_unicode_utf8_acceptRanges),("strconv.ErrRange",Rows.laid_strconv_ErrRange),("strconv.ErrSyntax",Rows.laid_strconv_ErrSyntax),("unicode/utf8.first",Rows.laid_unicode_utf8_first)]
theorem vt (h:laidMetH Tryz.prog sibsLaid W):GOK gG (fun b=>b<W.heap.size) W:=by
 rw [MakeChecks.laidMetH_plain _ _ _ (by kernel_rfl)] at h
 obtain ⟨ps,h,_⟩:=h
 obtain ⟨_,h⟩:=fH h
 obtain ⟨_,h⟩:=fH h
 obtain ⟨_,h⟩:=fH h
 have ha:=tg h
 obtain ⟨_,h⟩:=fH h
 obtain ⟨_,h⟩:=fH h
 obtain ⟨_,h⟩:=fH h
 exact zW (fun j hj=>ol h j hj) fun j hj=>ha j hj
end
theorem wX:OSound Tryz.prog gG xX:=by
 have h0:OSound Tryz.prog gG (om cls (findF irsX) gG noX):=mb cls fun f args H nx r u n h=>by
  obtain ⟨m,hm⟩:=oO h
  exact eN (an:=an) Tryz.checked.mixed (tU _ _) (fun f ir hf=>xO (f,ir) (iM hf)) m f args H nx r u n hm
 intro f args H nx r u n h
 unfold xX at h
 split at h
 ·rename_i e
  exact pE h0 f args H nx r u n h
 ·cases h
end Go.Proofs.YtoeblkipfdnnlaaGreatDoor
end

section
namespace Go.Proofs.YtoeblkipfdnnlaaGreatDoor
open Go Go.Sx
theorem Ev.h_down (e:Ev) (k:Nat) (hk:k≤e.n) (s:Nat→Bool):(e.down k).h s+k=e.h s:=by
 cases e with
 | leaf n=>simp only [Ev.n_l] at hk;simp only [Ev.down,Ev.h];omega
 | node n l r=>simp only [Ev.n_n] at hk;simp only [Ev.down,Ev.h];omega
theorem Ev.h_mk (n:Nat) (l r:Ev) (s:Nat→Bool):(Ev.mk n l r).h s=n+(if s 0 then r.h fun k=>s (k+1) else l.h fun k=>s (k+1)):=by
 unfold Ev.mk
 by_cases hc:l.isLeaf=true∧r.isLeaf=true∧l.n=r.n
 ·rw [if_pos hc]
  cases l with
  | node a x y=>exact absurd hc.1 (by simp [Ev.isLeaf])
  | leaf a=>
   cases r with
   | node b x y=>exact absurd hc.2.1 (by simp [Ev.isLeaf])
   | leaf b=>
    have e:a=b:=hc.2.2
    subst e
    simp [Ev.h,Ev.n_l]
 ·rw [if_neg hc]
  have h1:=l.h_down (Min.min l.n r.n) (Nat.min_le_left _ _) fun k=>s (k+1)
  have h2:=r.h_down (Min.min l.n r.n) (Nat.min_le_right _ _) fun k=>s (k+1)
  simp only [Ev.h]
  split<;>omega
theorem Ev.h_max : ∀ (e:Ev) (s:Nat→Bool),e.h s≤e.max
 | .leaf n,s=>Nat.le_refl _
 | .node n l r,s=>by
  have h1:=l.h_max fun k=>s (k+1)
  have h2:=r.h_max fun k=>s (k+1)
  have m1:=Ev.max_l n l r
  have m2:=Ev.max_r n l r
  simp only [Ev.h]
  split<;>omega
theorem Ev.max_h : ∀ (e:Ev),∃ s,e.h s=e.max
 | .leaf n=>⟨fun _=>false,rfl⟩
 | .node n l r=>by
  obtain ⟨s,hs⟩:=l.max_h
  obtain ⟨t,ht⟩:=r.max_h
  by_cases h:l.max≤r.max
  ·refine ⟨toR t,?_⟩
   show n+r.h t=n+Max.max l.max r.max
   rw [ht,Nat.max_eq_right h]
  ·refine ⟨toL s,?_⟩
   show n+l.h s=n+Max.max l.max r.max
   rw [hs,Nat.max_eq_left (by omega)]
def Ev.joinN:Nat→Ev→Ev→Ev
 | 0,a,b=>.leaf (Max.max a.n b.n)
 | d+1,a,b=>if a.isLeaf=true∧b.isLeaf=true then .leaf (Max.max a.n b.n) else Ev.mk 0 (Ev.joinN d (a.left.up a.n) (b.left.up b.n)) (Ev.joinN d (a.right.up a.n) (b.right.up b.n))
def Ev.join (a b:Ev):Ev:=Ev.joinN (Max.max a.depth b.depth) a b
theorem Ev.leaf_of {a:Ev} (h:a.depth≤0) : ∃ n,a = .leaf n:=by
 cases a with
 | leaf n=>exact ⟨n,rfl⟩
 | node n l r=>simp [Ev.depth] at h
theorem Ev.leaf_is {a:Ev} (h:a.isLeaf=true) : ∃ n,a = .leaf n:=by
 cases a with
 | leaf n=>exact ⟨n,rfl⟩
 | node n l r=>cases h
theorem Ev.left_depth {a:Ev} {d:Nat} (h:a.depth≤d+1):(a.left.up a.n).depth≤d:=by
 rw [Ev.up_depth]
 cases a with
 | leaf n=>exact Nat.zero_le _
 | node n l r=>simp only [Ev.depth] at h;show l.depth≤d;omega
theorem Ev.right_depth {a:Ev} {d:Nat} (h:a.depth≤d+1):(a.right.up a.n).depth≤d:=by
 rw [Ev.up_depth]
 cases a with
 | leaf n=>exact Nat.zero_le _
 | node n l r=>simp only [Ev.depth] at h;show r.depth≤d;omega
theorem Ev.left_max (a:Ev):(a.left.up a.n).max≤a.max:=by
 rw [Ev.up_max]
 cases a with
 | leaf n=>simp [Ev.left,Ev.max,Ev.n]
 | node n l r=>have:=Ev.max_l n l r;show l.max+n≤_;omega
theorem Ev.right_max (a:Ev):(a.right.up a.n).max≤a.max:=by
 rw [Ev.up_max]
 cases a with
 | leaf n=>simp [Ev.right,Ev.max,Ev.n]
 | node n l r=>have:=Ev.max_r n l r;show r.max+n≤_;omega
theorem BI (s:Nat→Bool):(s 0=false∧s=toL fun k=>s (k+1))∨(s 0=true∧s=toR fun k=>s (k+1)):=by
 cases hs:s 0 with
 | false=>exact .inl ⟨rfl,by funext k;cases k with|zero=>exact hs|succ k=>rfl⟩
 | true=>exact .inr ⟨rfl,by funext k;cases k with|zero=>exact hs|succ k=>rfl⟩
theorem Ev.h_joinN : ∀ (d:Nat) (a b:Ev),a.depth≤d→b.depth≤d→∀ s,(Ev.joinN d a b).h s=Max.max (a.h s) (b.h s)
 | 0,a,b,ha,hb,s=>by
  obtain ⟨n,rfl⟩:=Ev.leaf_of ha
  obtain ⟨m,rfl⟩:=Ev.leaf_of hb
  rfl
 | d+1,a,b,ha,hb,s=>by
  rw [Ev.joinN]
  split
  ·rename_i h
   obtain ⟨n,rfl⟩:=Ev.leaf_is h.1
   obtain ⟨m,rfl⟩:=Ev.leaf_is h.2
   rfl
  ·rw [Ev.h_mk,Ev.h_joinN d _ _ (Ev.left_depth ha) (Ev.left_depth hb),Ev.h_joinN d _ _ (Ev.right_depth ha) (Ev.right_depth hb),Ev.h_left,Ev.h_left,Ev.h_right,Ev.h_right,Nat.zero_add]
   rcases BI s with ⟨h0,e⟩|⟨h0,e⟩
   ·rw [h0,←e];simp
   ·rw [h0,←e];simp
theorem Ev.joinN_norm : ∀ (d:Nat) (a b:Ev),a.norm→b.norm→(Ev.joinN d a b).norm
 | 0,a,b,ha,hb=>trivial
 | d+1,a,b,ha,hb=>by
  rw [Ev.joinN]
  split
  ·trivial
  ·exact Ev.mk_norm (Ev.joinN_norm d _ _ ((Ev.norm_up _ _).2 (Ev.norm_left a ha)) ((Ev.norm_up _ _).2 (Ev.norm_left b hb))) (Ev.joinN_norm d _ _ ((Ev.norm_up _ _).2 (Ev.norm_right a ha)) ((Ev.norm_up _ _).2 (Ev.norm_right b hb)))
theorem Ev.joinN_max {d:Nat} {a b:Ev} (ha:a.depth≤d) (hb:b.depth≤d) {k:Nat} (h1:a.max≤k) (h2:b.max≤k):(Ev.joinN d a b).max≤k:=by
 obtain ⟨s,hs⟩:=(Ev.joinN d a b).max_h
 rw [←hs,Ev.h_joinN d a b ha hb]
 have:=a.h_max s
 have:=b.h_max s
 omega
theorem Ev.h_join (a b:Ev) (s:Nat→Bool):(Ev.join a b).h s=Max.max (a.h s) (b.h s):=Ev.h_joinN _ a b (Nat.le_max_left _ _) (Nat.le_max_right _ _) s
theorem Ev.join_norm {a b:Ev} (ha:a.norm) (hb:b.norm):(Ev.join a b).norm:=Ev.joinN_norm _ a b ha hb
theorem Ev.join_max {a b:Ev} {k:Nat} (h1:a.max≤k) (h2:b.max≤k):(Ev.join a b).max≤k:=Ev.joinN_max (Nat.le_max_left _ _) (Nat.le_max_right _ _) h1 h2
section
variable (H:Heap) (nx:Nat)
theorem ld (n m:Nat):Ω 29 [.p (Ev.leaf n).pv,.p (Ev.leaf m).pv] H nx=some (.p (Ev.leaf (Max.max n m)).pv,[],[]):=by
 refine ax (ir:=ir29) (by kernel_rfl) 0 ?_
 have hm:(if (m:Int)>n then (m:Int) else n)=((Max.max n m:Nat):Int):=by split<;>omega
 have hm' : ∀ (i:Decidable (n<m)),@ite Int (n<m) i (m:Int) (n:Int)=((Max.max n m:Nat):Int):=fun i=>by split<;>omega
 generalize Max.max n m=k at*
 simp [ir29,Ev.n_l,Ev.ptr_l,ssB,ssU,Go.Sx.LV.undef,Go.undef,ssP,appO,hm']
end
theorem uZ : ∀ (d:Nat) (a b:Ev),a.depth≤d→b.depth≤d→a.max<2^62→b.max<2^62→∀ (H:Heap) (nx:Nat),Ω 29 [.p a.pv,.p b.pv] H nx=some (.p (Ev.joinN d a b).pv,[],[]):=by
 intro d
 induction d with
 | zero=>
  intro a b ha hb _ _ H nx
  obtain ⟨n,rfl⟩:=Ev.leaf_of ha
  obtain ⟨m,rfl⟩:=Ev.leaf_of hb
  exact ld H nx n m
 | succ d ih=>
  intro a b ha hb hma hmb H nx
  by_cases hc:a.isLeaf=true∧b.isLeaf=true
  ·rw [Ev.joinN,if_pos hc]
   obtain ⟨n,rfl⟩:=Ev.leaf_is hc.1
   obtain ⟨m,rfl⟩:=Ev.leaf_is hc.2
   exact ld H nx n m
  ·have hj:Ev.joinN (d+1) a b=Ev.mk 0 (Ev.joinN d (a.left.up a.n) (b.left.up b.n)) (Ev.joinN d (a.right.up a.n) (b.right.up b.n)):=by rw [Ev.joinN,if_neg hc]
   rw [hj]
   have la:=Ev.left_depth ha
   have lb:=Ev.left_depth hb
   have ra:=Ev.right_depth ha
   have rb:=Ev.right_depth hb
   have lam:=a.left_max
   have lbm:=b.left_max
   have ram:=a.right_max
   have rbm:=b.right_max
   have e1:=ih _ _ la lb (by omega) (by omega)
   have e2:=ih _ _ ra rb (by omega) (by omega)
   have j1:=Nat.le_trans (Ev.n_max _) (Ev.joinN_max la lb (k:=2^62) (by omega) (by omega))
   have j2:=Nat.le_trans (Ev.n_max _) (Ev.joinN_max ra rb (k:=2^62) (by omega) (by omega))
   have nd:=rn 0 _ _ (show 0+(Ev.joinN d (a.left.up a.n) (b.left.up b.n)).n<2^64 by omega) (show (Ev.joinN d (a.right.up a.n) (b.right.up b.n)).n<2^64 by omega)
   clear hj ih la lb ra rb j1 j2
   generalize Ev.joinN d (a.left.up a.n) (b.left.up b.n)=J1 at*
   generalize Ev.joinN d (a.right.up a.n) (b.right.up b.n)=J2 at*
   simp only [Ev.pv,Ev.up_n,Ev.up_ptr,Int.natCast_add,Int.natCast_zero] at e1 e2 nd ⊢
   refine ax (ir:=ir29) (by kernel_rfl) 0 ?_
   cases a with
   | leaf n=>
    have u1:=dS 0 n (.s (.pointer none)) (by omega) (by have:=(Ev.leaf n).n_max;simp only [Ev.n_l] at this;omega)
    cases b with
    | leaf m=>exact absurd ⟨rfl,rfl⟩ hc
    | node m bl br=>
     rw [Ev.up_max] at lbm rbm
     have n3:=bl.n_max
     have n4:=br.n_max
     simp only [Ev.left,Ev.right,Ev.n_n] at lbm rbm
     have u3:=dS bl.n m bl.ptr (by omega) (by omega)
     have u4:=dS br.n m br.ptr (by omega) (by omega)
     simp only [Ev.left,Ev.right,Ev.n_l,Ev.n_n,Ev.ptr_l,Ev.ptr_n,Int.natCast_zero,Int.zero_add] at e1 e2 u1 ⊢
     simp [ir29,gS,fD,eM,dR,u1,u3,u4,e1,e2,nd,ssB,ssU,Go.Sx.LV.undef,Go.undef,ssP,appO]
   | node n l r=>
    rw [Ev.up_max] at lam ram
    have n1:=l.n_max
    have n2:=r.n_max
    simp only [Ev.left,Ev.right,Ev.n_n] at lam ram
    have u1:=dS l.n n l.ptr (by omega) (by omega)
    have u2:=dS r.n n r.ptr (by omega) (by omega)
    cases b with
    | leaf m=>
     have u3:=dS 0 m (.s (.pointer none)) (by omega) (by have:=(Ev.leaf m).n_max;simp only [Ev.n_l] at this;omega)
     simp only [Ev.left,Ev.right,Ev.n_l,Ev.n_n,Ev.ptr_l,Ev.ptr_n,Int.natCast_zero,Int.zero_add] at e1 e2 u3 ⊢
     simp [ir29,gS,fD,eM,dR,u1,u2,u3,e1,e2,nd,ssB,ssU,Go.Sx.LV.undef,Go.undef,ssP,appO]
    | node m bl br=>
     rw [Ev.up_max] at lbm rbm
     have n3:=bl.n_max
     have n4:=br.n_max
     simp only [Ev.left,Ev.right,Ev.n_n] at lbm rbm
     have u3:=dS bl.n m bl.ptr (by omega) (by omega)
     have u4:=dS br.n m br.ptr (by omega) (by omega)
     simp only [Ev.left,Ev.right,Ev.n_n,Ev.ptr_n] at e1 e2 ⊢
     simp [ir29,eM,dR,u1,u2,u3,u4,e1,e2,nd,ssB,ssU,Go.Sx.LV.undef,Go.undef,ssP,appO]
theorem ed (a b:Ev) (h1:a.max<2^62) (h2:b.max<2^62) (H:Heap) (nx:Nat):Ω 29 [.p a.pv,.p b.pv] H nx=some (.p (Ev.join a b).pv,[],[]):=
 uZ _ a b (Nat.le_max_left _ _) (Nat.le_max_right _ _) h1 h2 H nx
end Go.Proofs.YtoeblkipfdnnlaaGreatDoor
end

section
namespace Go.Proofs.YtoeblkipfdnnlaaGreatDoor
open Go Go.Sx
set_option maxHeartbeats 1000000
abbrev Ev.imm (e:Ev):PV:=.imm [.s (.int .u64 e.n),e.ptr] 0
theorem Ah (v:Wv) (e:Ev) (hv:v.ev.max<2^63) (he:e.max<2^63) (H:Heap) (nx:Nat):Ω 61 [.p (v.pv false),.p e.imm] H nx=some (.bool (Ev.leqb v.ev e),[],[]):=by
 have u:=pL v.ev e hv he
 generalize Ev.leqb v.ev e=b at*
 simp only [Wv.pv,Wv.cells,Ev.pv,Ev.imm] at u ⊢
 refine ae (ir:=ir61) (by kernel_rfl) ?_;simp +contextual (maxSteps:=1000000) [ir61,ssL,↓ssM,aa,ssU,Go.Sx.LV.undef,Go.undef,ssR,u]
abbrev missW (L:List Wv) (e:Ev):List Wv:=L.filter fun v => !Ev.leqb v.ev e
theorem eX (e:Ev) (H:Heap) (nx:Nat):Ω 24 [.p (setP []),.p e.pv] H nx=some (.p (.s (.slice none 0 0)),[],[]):=by
 have ls:=kb
 have df:=fun H nx=>nU (g:=61) (c:=e.imm) (H:=H) (nx:=nx)
 simp only [setP,bi,Ev.pv,Ev.imm] at ls df ⊢
 refine ae (ir:=ir24) (by kernel_rfl) ?_;simp +contextual (maxSteps:=1000000) [ir24,ssL,↓ssM,aa,ssU,Go.Sx.LV.undef,Go.undef,ssR,ls,df]
theorem eU (L:List Wv) (e:Ev) (h0:L≠[]) (h30:L.length<2^29) (hL : ∀ v∈L,v.Ok) (he:e.max<2^63) (H:Heap) (nx:Nat):
  Ω 24 [.p (setP L),.p e.pv] H nx=some (.p (.sl (rowP (missW L e)) (missW L e).length 4 false),[],[]):=by
 have ls:=oH L h0 (by omega)
 have df:=zb (L:=L) (by omega) (fun x hx H nx=>Ah x e (hL x hx).m he H nx)
 have iL:=aO L
 have rL:=fun a s=>aS a s L
 rcases df with ⟨q,df⟩|⟨R,hR,df⟩
 ·rw [missW,q]
  have lL:=aA L
  have le:L.length*4≤(rowL L).length:=by omega
  have tk:(rowL L).take (L.length*4)=rowL L:=List.take_of_length_le (by omega)
  have al:=bP L
  clear lL
  simp only [setP,Ev.pv,Ev.imm] at ls df ⊢
  generalize slP L=S at*
  generalize rowP L=P at*
  generalize rowL L=C at*
  generalize L.length=n at*
  refine ae (ir:=ir24) (by kernel_rfl) ?_;simp +contextual (maxSteps:=1000000) [ir24,ssL,↓ssM,aa,ssU,Go.Sx.LV.undef,Go.undef,ssR,ls,df,iL,rL,le,tk,al]
 ·have iK:=aO (missW L e++R)
  have rK:=fun a s=>aS a s (missW L e++R)
  rw [ba] at iK
  simp only [ba] at rK
  have lK:=aA (missW L e)
  have le:(missW L e).length*4≤(rowL (missW L e)++rowL R).length:=by rw [List.length_append];omega
  have tk:(rowL (missW L e)++rowL R).take ((missW L e).length*4)=rowL (missW L e):=by
   rw [List.take_append_of_le_length (by omega),List.take_of_length_le (by omega)]
  have al:=bP (missW L e)
  simp only [setP,Ev.pv,Ev.imm,missW] at ls df iK rK le tk al ⊢
  clear hR lK
  generalize L.filter (fun v => !Ev.leqb v.ev e)=K at*
  generalize rowL K++rowL R=C2 at*
  generalize rowL K=C3 at*
  generalize rowP K=P at*
  generalize slP L=S at*
  generalize rowL L=C at*
  generalize L.length=n at*
  generalize K.length=k at*
  refine ae (ir:=ir24) (by kernel_rfl) ?_;simp +contextual (maxSteps:=1000000) [ir24,ssL,↓ssM,aa,ssU,Go.Sx.LV.undef,Go.undef,ssR,ls,df,iL,rL,iK,rK,le,tk,al]
end Go.Proofs.YtoeblkipfdnnlaaGreatDoor
end

section
namespace Go.Proofs.YtoeblkipfdnnlaaGreatDoor
open Go Go.Sx
set_option maxHeartbeats 2000000
abbrev joinsW (a:Ev) (L:List Wv):Ev:=L.foldl (fun a v=>Ev.join a v.ev) a
theorem bH {L:List Wv} (hL : ∀ v∈L,v.ev.norm∧v.ev.max≤2^20) : ∀ {a:Ev},a.norm→a.max≤2^20→(joinsW a L).norm∧(joinsW a L).max≤2^20:=by
 induction L with
 | nil=>exact fun h1 h2=>⟨h1,h2⟩
 | cons v L ih=>
  intro a h1 h2
  have hv:=hL v List.mem_cons_self
  exact ih (fun w hw=>hL w (List.mem_cons_of_mem _ hw)) (Ev.join_norm h1 hv.1) (Ev.join_max h2 hv.2)
theorem tM {L:List Wv} (hL : ∀ v∈L,v.ev.norm∧v.ev.max≤2^20) : ∀ {a:Ev},a.norm→∀ s,a.h s≤(joinsW a L).h s:=by
 induction L with
 | nil=>exact fun _ _=>Nat.le_refl _
 | cons v L ih=>
  intro a h1 s
  have hv:=hL v List.mem_cons_self
  have:=ih (fun w hw=>hL w (List.mem_cons_of_mem _ hw)) (Ev.join_norm h1 hv.1) s
  rw [Ev.h_join] at this
  exact Nat.le_trans (Nat.le_max_left _ _) this
theorem j8 {L:List Wv} (hL : ∀ v∈L,v.ev.norm∧v.ev.max≤2^20) : ∀ {a:Ev},a.norm→∀ v∈L,∀ s,v.ev.h s≤(joinsW a L).h s:=by
 induction L with
 | nil=>exact fun _ v hv=>absurd hv List.not_mem_nil
 | cons w L ih=>
  intro a h1 v hv s
  have hw:=hL w List.mem_cons_self
  have hL' : ∀ v∈L,v.ev.norm∧v.ev.max≤2^20:=fun w hw=>hL w (List.mem_cons_of_mem _ hw)
  rcases List.mem_cons.1 hv with rfl|hv
  ·have:=tM hL' (Ev.join_norm h1 hw.1) s
   rw [Ev.h_join] at this
   exact Nat.le_trans (Nat.le_max_right _ _) this
  ·exact ih hL' (Ev.join_norm h1 hw.1) v hv s
abbrev agA:IRC:=ir5_1
abbrev agB:IRC:=ir5_0
section
abbrev agS0 (w y:PV) (X:PV) (n i:Nat) (s t:List Wv) (a b:Ev):St:=⟨[(6,.p (.s (.slice none 0 0))),(7,.p w),(8,.p y),(9,.ref 0 0),(10,.ref 1 0),(11,.ref 2 0),(12,.ref 3 0),(32,.p X),(33,.int .i64 n),(34,.int .i64 i)],⟨[],[some (.cells [.p (slP s)]),some (.cells [.p (slP t)]),some (.cells [.p (.s (.int .u64 a.n)),.p a.ptr]),some (.cells [.p (.s (.int .u64 b.n)),.p b.ptr])]⟩⟩
theorem nC (w y X:PV) (n:Nat) (s t:List Wv) (a b:Ev):run ⟨Ω,gG,noH,0⟩ agA (agS0 w y X n n s t a b)=some (.exit 0,⟨(agS0 w y X n n s t a b).env++[(35,.bool false)],(agS0 w y X n n s t a b).h⟩):=by
 simp only [agS0]
 generalize slP s=s0 at*
 generalize slP t=t0 at*
 simp +contextual (maxSteps:=1000000) [agA,ir5_1,ssL,↓ssM,aa,ssU,Go.Sx.LV.undef,Go.undef,ssR]
theorem qq (w y X:PV) (n i:Nat) (s t:List Wv) (a b:Ev):run ⟨Ω,gG,noH,0⟩ (.loop agA) ⟨[(6,.p (.s (.slice none 0 0))),(7,.p w),(8,.p y),(9,.ref 0 0),(10,.ref 1 0),(11,.ref 2 0),(12,.ref 3 0),(33,.int .i64 n),(34,.int .i64 i),(32,.p X)],(agS0 w y X n i s t a b).h⟩=run ⟨Ω,gG,noH,0⟩ (.loop agA) (agS0 w y X n i s t a b):=by
 have hB:agA = .seq (hdC agA) (tlC agA):=rfl
 have h1:run ⟨Ω,gG,noH,0⟩ (hdC agA) ⟨[(6,.p (.s (.slice none 0 0))),(7,.p w),(8,.p y),(9,.ref 0 0),(10,.ref 1 0),(11,.ref 2 0),(12,.ref 3 0),(33,.int .i64 n),(34,.int .i64 i),(32,.p X)],(agS0 w y X n i s t a b).h⟩=some (.normal,agS0 w y X n i s t a b):=by
  simp only [agS0]
  generalize slP s=s0 at*
  generalize slP t=t0 at*
  simp +contextual (maxSteps:=1000000) [agA,ir5_1,hdC,ssL,↓ssM,aa,ssU,Go.Sx.LV.undef,Go.undef,ssR]
 have h2:run ⟨Ω,gG,noH,0⟩ (hdC agA) (agS0 w y X n i s t a b)=some (.normal,agS0 w y X n i s t a b):=by
  simp only [agS0]
  generalize slP s=s0 at*
  generalize slP t=t0 at*
  simp +contextual (maxSteps:=1000000) [agA,ir5_1,hdC,ssL,↓ssM,aa,ssU,Go.Sx.LV.undef,Go.undef,ssR]
 rw [bo hB h1,bo hB h2]
end
section
abbrev bgS0 (y:PV) (X:PV) (n i:Nat) (s t:List Wv) (a b:Ev):St:=⟨[(6,.p (.s (.slice none 0 0))),(8,.p y),(9,.ref 0 0),(10,.ref 1 0),(11,.ref 2 0),(12,.ref 3 0),(46,.p X),(47,.int .i64 n),(48,.int .i64 i)],⟨[],[some (.cells [.p (slP s)]),some (.cells [.p (slP t)]),some (.cells [.p (.s (.int .u64 a.n)),.p a.ptr]),some (.cells [.p (.s (.int .u64 b.n)),.p b.ptr])]⟩⟩
theorem tj (y:PV) {V:List Wv} {i:Nat} {v:Wv} (hv:V[i]?=some v) (h30:V.length<2^30) (s t:List Wv) (a b:Ev) (hs : ∀ H nx,Ω 11 [.p (setP t),.p (v.pv false)] H nx=some (.p (setP (addW t v)),[],[])) (ha : ∀ H nx,Ω 29 [.p b.pv,.p v.ev.pv] H nx=some (.p (Ev.join b v.ev).pv,[],[])):
  run ⟨Ω,gG,noH,0⟩ agB (bgS0 y (.sl (rowP V) V.length 4 false) V.length i s t a b)=some (.normal,bgS0 y (.sl (rowP V) V.length 4 false) V.length (i+1) s (addW t v) a (Ev.join b v.ev)):=by
 have hl:=aA V
 obtain ⟨h1,_⟩:=List.getElem?_eq_some_iff.1 hv
 have k1 : ¬(V.length:Int)≤i:=by omega
 have w1:IntKind.i64.wrap ((i:Int)+1)=(i:Int)+1:=wrap_i64 _ (by omega) (by omega)
 have le:i*4+4≤(rowL V).length:=by omega
 have mp:=bg V
 have g4:=a8 hv []
 rw [List.append_nil] at g4
 clear hl
 simp only [Wv.pv,Wv.cells,Wv.lv,setP,Ev.pv] at hs ha g4
 simp only [bgS0]
 generalize rowP V=P at*
 generalize rowL V=C at*
 generalize slP (addW t v)=t' at*
 generalize slP s=s0 at*
 generalize slP t=t0 at*
 generalize Ev.join b v.ev=j at*
 simp +contextual (maxSteps:=1000000) [agB,ir5_0,ssL,↓ssM,aa,ssU,Go.Sx.LV.undef,Go.undef,ssR,k1,h1,w1,mp,g4,le,hs,ha]
theorem nD (y X:PV) (n:Nat) (s t:List Wv) (a b:Ev):run ⟨Ω,gG,noH,0⟩ agB (bgS0 y X n n s t a b)=some (.exit 2,⟨(bgS0 y X n n s t a b).env++[(49,.bool false)],(bgS0 y X n n s t a b).h⟩):=by
 simp only [bgS0]
 generalize slP s=s0 at*
 generalize slP t=t0 at*
 simp +contextual (maxSteps:=1000000) [agB,ir5_0,ssL,↓ssM,aa,ssU,Go.Sx.LV.undef,Go.undef,ssR]
theorem qv (y X:PV) (n i:Nat) (s t:List Wv) (a b:Ev):run ⟨Ω,gG,noH,0⟩ (.loop agB) ⟨[(6,.p (.s (.slice none 0 0))),(8,.p y),(9,.ref 0 0),(10,.ref 1 0),(11,.ref 2 0),(12,.ref 3 0),(47,.int .i64 n),(48,.int .i64 i),(46,.p X)],(bgS0 y X n i s t a b).h⟩=run ⟨Ω,gG,noH,0⟩ (.loop agB) (bgS0 y X n i s t a b):=by
 have hB:agB = .seq (hdC agB) (tlC agB):=rfl
 have h1:run ⟨Ω,gG,noH,0⟩ (hdC agB) ⟨[(6,.p (.s (.slice none 0 0))),(8,.p y),(9,.ref 0 0),(10,.ref 1 0),(11,.ref 2 0),(12,.ref 3 0),(47,.int .i64 n),(48,.int .i64 i),(46,.p X)],(bgS0 y X n i s t a b).h⟩=some (.normal,bgS0 y X n i s t a b):=by
  simp only [bgS0]
  generalize slP s=s0 at*
  generalize slP t=t0 at*
  simp +contextual (maxSteps:=1000000) [agB,ir5_0,hdC,ssL,↓ssM,aa,ssU,Go.Sx.LV.undef,Go.undef,ssR]
 have h2:run ⟨Ω,gG,noH,0⟩ (hdC agB) (bgS0 y X n i s t a b)=some (.normal,bgS0 y X n i s t a b):=by
  simp only [bgS0]
  generalize slP s=s0 at*
  generalize slP t=t0 at*
  simp +contextual (maxSteps:=1000000) [agB,ir5_0,hdC,ssL,↓ssM,aa,ssU,Go.Sx.LV.undef,Go.undef,ssR]
 rw [bo hB h1,bo hB h2]
theorem kT (y:PV) {V:List Wv} (h30:V.length<2^20) (hV : ∀ v∈V,Wp v) (s:List Wv) (a:Ev) : ∀ (m i:Nat) (t:List Wv) (b:Ev),i+m=V.length→Ws t→t.length+m<2^29→b.norm→b.max≤2^20 →
  run ⟨Ω,gG,noH,0⟩ (.loop agB) (bgS0 y (.sl (rowP V) V.length 4 false) V.length i s t a b)=some (.exit 2,⟨(bgS0 y (.sl (rowP V) V.length 4 false) V.length V.length s (addsW t (V.drop i)) a (joinsW b (V.drop i))).env++[(49,.bool false)],(bgS0 y (.sl (rowP V) V.length 4 false) V.length V.length s (addsW t (V.drop i)) a (joinsW b (V.drop i))).h⟩)
 | 0,i,t,b,hi,_,_,_,_=>by
  obtain rfl:i=V.length:=by omega
  rw [ai,nD ,List.drop_length];rfl
 | m+1,i,t,b,hi,hs,ls,hn,hm=>by
  have h1:i<V.length:=by omega
  have hv:=List.getElem?_eq_getElem h1
  have hp:=hV _ (List.getElem_mem h1)
  have az:=pB t V[i] (by omega) hs hp.ok hp.right
  have ls':=dF t V[i]
  have ja:=ed b V[i].ev (by omega) (by have:=hp.m;omega)
  rw [ai,tj y hv (by omega) s t a b az ja,aE,aB,kT y h30 hV s a m (i+1) _ _ (by omega) (hs.add hp.ok hp.right) (by omega) (Ev.join_norm hn hp.n) (Ev.join_max hm hp.m)]
  have e1:addsW t (V.drop i)=addsW (addW t V[i]) (V.drop (i+1)):=by rw [List.drop_eq_getElem_cons h1];rfl
  have e2:joinsW b (V.drop i)=joinsW (Ev.join b V[i].ev) (V.drop (i+1)):=by rw [List.drop_eq_getElem_cons h1];rfl
  rw [e1,e2]
end
section
abbrev agS1 (Q:List LV) (q:Nat) (w y:PV) (X:PV) (n i:Nat) (s t:List Wv) (a b:Ev):St:=⟨[(6,.arr 0 0 q 3 q false),(7,.p w),(8,.p y),(9,.ref 1 0),(10,.ref 2 0),(11,.ref 3 0),(12,.ref 4 0),(32,.p X),(33,.int .i64 n),(34,.int .i64 i)],⟨[],[some (.cells Q),some (.cells [.p (slP s)]),some (.cells [.p (slP t)]),some (.cells [.p (.s (.int .u64 a.n)),.p a.ptr]),some (.cells [.p (.s (.int .u64 b.n)),.p b.ptr])]⟩⟩
theorem ti (Q:List LV) (q:Nat) (iQ:ids.idsL Q=[]) (rQ : ∀ n s,ren.go n s Q=some Q) (w y:PV) {V:List Wv} {i:Nat} {v:Wv} (hv:V[i]?=some v) (h30:V.length<2^30) (s t:List Wv) (a b:Ev) (hs : ∀ H nx,Ω 11 [.p (setP s),.p (v.pv false)] H nx=some (.p (setP (addW s v)),[],[])) (ha : ∀ H nx,Ω 29 [.p a.pv,.p v.ev.pv] H nx=some (.p (Ev.join a v.ev).pv,[],[])):
  run ⟨Ω,gG,noH,0⟩ agA (agS1 Q q w y (.sl (rowP V) V.length 4 false) V.length i s t a b)=some (.normal,agS1 Q q w y (.sl (rowP V) V.length 4 false) V.length (i+1) (addW s v) t (Ev.join a v.ev) b):=by
 have hl:=aA V
 obtain ⟨h1,_⟩:=List.getElem?_eq_some_iff.1 hv
 have k1 : ¬(V.length:Int)≤i:=by omega
 have w1:IntKind.i64.wrap ((i:Int)+1)=(i:Int)+1:=wrap_i64 _ (by omega) (by omega)
 have le:i*4+4≤(rowL V).length:=by omega
 have mp:=bg V
 have g4:=a8 hv []
 rw [List.append_nil] at g4
 clear hl
 simp only [Wv.pv,Wv.cells,Wv.lv,setP,Ev.pv] at hs ha g4
 simp only [agS1]
 generalize rowP V=P at*
 generalize rowL V=C at*
 generalize slP (addW s v)=s' at*
 generalize slP s=s0 at*
 generalize slP t=t0 at*
 generalize Ev.join a v.ev=j at*
 simp +contextual (maxSteps:=1000000) [agA,ir5_1,ssL,↓ssM,aa,ssU,Go.Sx.LV.undef,Go.undef,ssR,k1,h1,w1,mp,g4,le,hs,ha,iQ,rQ]
theorem ux (Q:List LV) (q:Nat) (iQ:ids.idsL Q=[]) (rQ : ∀ n s,ren.go n s Q=some Q) (w y X:PV) (n:Nat) (s t:List Wv) (a b:Ev):run ⟨Ω,gG,noH,0⟩ agA (agS1 Q q w y X n n s t a b)=some (.exit 0,⟨(agS1 Q q w y X n n s t a b).env++[(35,.bool false)],(agS1 Q q w y X n n s t a b).h⟩):=by
 simp only [agS1]
 generalize slP s=s0 at*
 generalize slP t=t0 at*
 simp +contextual (maxSteps:=1000000) [agA,ir5_1,ssL,↓ssM,aa,ssU,Go.Sx.LV.undef,Go.undef,ssR,iQ,rQ]
theorem qs (Q:List LV) (q:Nat) (iQ:ids.idsL Q=[]) (rQ : ∀ n s,ren.go n s Q=some Q) (w y X:PV) (n i:Nat) (s t:List Wv) (a b:Ev):run ⟨Ω,gG,noH,0⟩ (.loop agA) ⟨[(6,.arr 0 0 q 3 q false),(7,.p w),(8,.p y),(9,.ref 1 0),(10,.ref 2 0),(11,.ref 3 0),(12,.ref 4 0),(33,.int .i64 n),(34,.int .i64 i),(32,.p X)],(agS1 Q q w y X n i s t a b).h⟩=run ⟨Ω,gG,noH,0⟩ (.loop agA) (agS1 Q q w y X n i s t a b):=by
 have hB:agA = .seq (hdC agA) (tlC agA):=rfl
 have h1:run ⟨Ω,gG,noH,0⟩ (hdC agA) ⟨[(6,.arr 0 0 q 3 q false),(7,.p w),(8,.p y),(9,.ref 1 0),(10,.ref 2 0),(11,.ref 3 0),(12,.ref 4 0),(33,.int .i64 n),(34,.int .i64 i),(32,.p X)],(agS1 Q q w y X n i s t a b).h⟩=some (.normal,agS1 Q q w y X n i s t a b):=by
  simp only [agS1]
  generalize slP s=s0 at*
  generalize slP t=t0 at*
  simp +contextual (maxSteps:=1000000) [agA,ir5_1,hdC,ssL,↓ssM,aa,ssU,Go.Sx.LV.undef,Go.undef,ssR,iQ,rQ]
 have h2:run ⟨Ω,gG,noH,0⟩ (hdC agA) (agS1 Q q w y X n i s t a b)=some (.normal,agS1 Q q w y X n i s t a b):=by
  simp only [agS1]
  generalize slP s=s0 at*
  generalize slP t=t0 at*
  simp +contextual (maxSteps:=1000000) [agA,ir5_1,hdC,ssL,↓ssM,aa,ssU,Go.Sx.LV.undef,Go.undef,ssR,iQ,rQ]
 rw [bo hB h1,bo hB h2]
theorem iw (Q:List LV) (q:Nat) (iQ:ids.idsL Q=[]) (rQ : ∀ n s,ren.go n s Q=some Q) (w y:PV) {V:List Wv} (h30:V.length<2^20) (hV : ∀ v∈V,Wp v) (t:List Wv) (b:Ev) : ∀ (m i:Nat) (s:List Wv) (a:Ev),i+m=V.length→Ws s→s.length+m<2^29→a.norm→a.max≤2^20 →
  run ⟨Ω,gG,noH,0⟩ (.loop agA) (agS1 Q q w y (.sl (rowP V) V.length 4 false) V.length i s t a b)=some (.exit 0,⟨(agS1 Q q w y (.sl (rowP V) V.length 4 false) V.length V.length (addsW s (V.drop i)) t (joinsW a (V.drop i)) b).env++[(35,.bool false)],(agS1 Q q w y (.sl (rowP V) V.length 4 false) V.length V.length (addsW s (V.drop i)) t (joinsW a (V.drop i)) b).h⟩)
 | 0,i,s,a,hi,_,_,_,_=>by
  obtain rfl:i=V.length:=by omega
  rw [ai,ux Q q iQ rQ ,List.drop_length];rfl
 | m+1,i,s,a,hi,hs,ls,hn,hm=>by
  have h1:i<V.length:=by omega
  have hv:=List.getElem?_eq_getElem h1
  have hp:=hV _ (List.getElem_mem h1)
  have az:=pB s V[i] (by omega) hs hp.ok hp.right
  have ls':=dF s V[i]
  have ja:=ed a V[i].ev (by omega) (by have:=hp.m;omega)
  rw [ai,ti Q q iQ rQ w y hv (by omega) s t a b az ja,aE,aB,iw Q q iQ rQ w y h30 hV t b m (i+1) _ _ (by omega) (hs.add hp.ok hp.right) (by omega) (Ev.join_norm hn hp.n) (Ev.join_max hm hp.m)]
  have e1:addsW s (V.drop i)=addsW (addW s V[i]) (V.drop (i+1)):=by rw [List.drop_eq_getElem_cons h1];rfl
  have e2:joinsW a (V.drop i)=joinsW (Ev.join a V[i].ev) (V.drop (i+1)):=by rw [List.drop_eq_getElem_cons h1];rfl
  rw [e1,e2]
end
section
abbrev bgS1 (Q:List LV) (q:Nat) (y:PV) (X:PV) (n i:Nat) (s t:List Wv) (a b:Ev):St:=⟨[(6,.arr 0 0 q 3 q false),(8,.p y),(9,.ref 1 0),(10,.ref 2 0),(11,.ref 3 0),(12,.ref 4 0),(46,.p X),(47,.int .i64 n),(48,.int .i64 i)],⟨[],[some (.cells Q),some (.cells [.p (slP s)]),some (.cells [.p (slP t)]),some (.cells [.p (.s (.int .u64 a.n)),.p a.ptr]),some (.cells [.p (.s (.int .u64 b.n)),.p b.ptr])]⟩⟩
theorem tm (Q:List LV) (q:Nat) (iQ:ids.idsL Q=[]) (rQ : ∀ n s,ren.go n s Q=some Q) (y:PV) {V:List Wv} {i:Nat} {v:Wv} (hv:V[i]?=some v) (h30:V.length<2^30) (s t:List Wv) (a b:Ev) (hs : ∀ H nx,Ω 11 [.p (setP t),.p (v.pv false)] H nx=some (.p (setP (addW t v)),[],[])) (ha : ∀ H nx,Ω 29 [.p b.pv,.p v.ev.pv] H nx=some (.p (Ev.join b v.ev).pv,[],[])):
  run ⟨Ω,gG,noH,0⟩ agB (bgS1 Q q y (.sl (rowP V) V.length 4 false) V.length i s t a b)=some (.normal,bgS1 Q q y (.sl (rowP V) V.length 4 false) V.length (i+1) s (addW t v) a (Ev.join b v.ev)):=by
 have hl:=aA V
 obtain ⟨h1,_⟩:=List.getElem?_eq_some_iff.1 hv
 have k1 : ¬(V.length:Int)≤i:=by omega
 have w1:IntKind.i64.wrap ((i:Int)+1)=(i:Int)+1:=wrap_i64 _ (by omega) (by omega)
 have le:i*4+4≤(rowL V).length:=by omega
 have mp:=bg V
 have g4:=a8 hv []
 rw [List.append_nil] at g4
 clear hl
 simp only [Wv.pv,Wv.cells,Wv.lv,setP,Ev.pv] at hs ha g4
 simp only [bgS1]
 generalize rowP V=P at*
 generalize rowL V=C at*
 generalize slP (addW t v)=t' at*
 generalize slP s=s0 at*
 generalize slP t=t0 at*
 generalize Ev.join b v.ev=j at*
 simp +contextual (maxSteps:=1000000) [agB,ir5_0,ssL,↓ssM,aa,ssU,Go.Sx.LV.undef,Go.undef,ssR,k1,h1,w1,mp,g4,le,hs,ha,iQ,rQ]
theorem nF (Q:List LV) (q:Nat) (iQ:ids.idsL Q=[]) (rQ : ∀ n s,ren.go n s Q=some Q) (y X:PV) (n:Nat) (s t:List Wv) (a b:Ev):run ⟨Ω,gG,noH,0⟩ agB (bgS1 Q q y X n n s t a b)=some (.exit 2,⟨(bgS1 Q q y X n n s t a b).env++[(49,.bool false)],(bgS1 Q q y X n n s t a b).h⟩):=by
 simp only [bgS1]
 generalize slP s=s0 at*
 generalize slP t=t0 at*
 simp +contextual (maxSteps:=1000000) [agB,ir5_0,ssL,↓ssM,aa,ssU,Go.Sx.LV.undef,Go.undef,ssR,iQ,rQ]
theorem qw (Q:List LV) (q:Nat) (iQ:ids.idsL Q=[]) (rQ : ∀ n s,ren.go n s Q=some Q) (y X:PV) (n i:Nat) (s t:List Wv) (a b:Ev):run ⟨Ω,gG,noH,0⟩ (.loop agB) ⟨[(6,.arr 0 0 q 3 q false),(8,.p y),(9,.ref 1 0),(10,.ref 2 0),(11,.ref 3 0),(12,.ref 4 0),(47,.int .i64 n),(48,.int .i64 i),(46,.p X)],(bgS1 Q q y X n i s t a b).h⟩=run ⟨Ω,gG,noH,0⟩ (.loop agB) (bgS1 Q q y X n i s t a b):=by
 have hB:agB = .seq (hdC agB) (tlC agB):=rfl
 have h1:run ⟨Ω,gG,noH,0⟩ (hdC agB) ⟨[(6,.arr 0 0 q 3 q false),(8,.p y),(9,.ref 1 0),(10,.ref 2 0),(11,.ref 3 0),(12,.ref 4 0),(47,.int .i64 n),(48,.int .i64 i),(46,.p X)],(bgS1 Q q y X n i s t a b).h⟩=some (.normal,bgS1 Q q y X n i s t a b):=by
  simp only [bgS1]
  generalize slP s=s0 at*
  generalize slP t=t0 at*
  simp +contextual (maxSteps:=1000000) [agB,ir5_0,hdC,ssL,↓ssM,aa,ssU,Go.Sx.LV.undef,Go.undef,ssR,iQ,rQ]
 have h2:run ⟨Ω,gG,noH,0⟩ (hdC agB) (bgS1 Q q y X n i s t a b)=some (.normal,bgS1 Q q y X n i s t a b):=by
  simp only [bgS1]
  generalize slP s=s0 at*
  generalize slP t=t0 at*
  simp +contextual (maxSteps:=1000000) [agB,ir5_0,hdC,ssL,↓ssM,aa,ssU,Go.Sx.LV.undef,Go.undef,ssR,iQ,rQ]
 rw [bo hB h1,bo hB h2]
theorem kU (Q:List LV) (q:Nat) (iQ:ids.idsL Q=[]) (rQ : ∀ n s,ren.go n s Q=some Q) (y:PV) {V:List Wv} (h30:V.length<2^20) (hV : ∀ v∈V,Wp v) (s:List Wv) (a:Ev) : ∀ (m i:Nat) (t:List Wv) (b:Ev),i+m=V.length→Ws t→t.length+m<2^29→b.norm→b.max≤2^20 →
  run ⟨Ω,gG,noH,0⟩ (.loop agB) (bgS1 Q q y (.sl (rowP V) V.length 4 false) V.length i s t a b)=some (.exit 2,⟨(bgS1 Q q y (.sl (rowP V) V.length 4 false) V.length V.length s (addsW t (V.drop i)) a (joinsW b (V.drop i))).env++[(49,.bool false)],(bgS1 Q q y (.sl (rowP V) V.length 4 false) V.length V.length s (addsW t (V.drop i)) a (joinsW b (V.drop i))).h⟩)
 | 0,i,t,b,hi,_,_,_,_=>by
  obtain rfl:i=V.length:=by omega
  rw [ai,nF Q q iQ rQ ,List.drop_length];rfl
 | m+1,i,t,b,hi,hs,ls,hn,hm=>by
  have h1:i<V.length:=by omega
  have hv:=List.getElem?_eq_getElem h1
  have hp:=hV _ (List.getElem_mem h1)
  have az:=pB t V[i] (by omega) hs hp.ok hp.right
  have ls':=dF t V[i]
  have ja:=ed b V[i].ev (by omega) (by have:=hp.m;omega)
  rw [ai,tm Q q iQ rQ y hv (by omega) s t a b az ja,aE,aB,kU Q q iQ rQ y h30 hV s a m (i+1) _ _ (by omega) (hs.add hp.ok hp.right) (by omega) (Ev.join_norm hn hp.n) (Ev.join_max hm hp.m)]
  have e1:addsW t (V.drop i)=addsW (addW t V[i]) (V.drop (i+1)):=by rw [List.drop_eq_getElem_cons h1];rfl
  have e2:joinsW b (V.drop i)=joinsW (Ev.join b V[i].ev) (V.drop (i+1)):=by rw [List.drop_eq_getElem_cons h1];rfl
  rw [e1,e2]
end
end Go.Proofs.YtoeblkipfdnnlaaGreatDoor
end

section
namespace Go.Proofs.YtoeblkipfdnnlaaGreatDoor
open Go Go.Sx
set_option maxHeartbeats 4000000
theorem cD {A B:List Wv} (hA : ∀ v∈A,Wp v) (hB : ∀ v∈B,Wp v):(addsW (addsW [] A) (addsW [] B)).map Wv.bytes=(addsW [] (A++B)).map Wv.bytes:=
 kc hA hB (fun v hv=>(List.mem_append.1 hv).elim (hA v) (hB v)) (fun v=>Iff.rfl)
theorem fq {A B:List Wv} (hA : ∀ v∈A,Wp v) (hB : ∀ v∈B,Wp v):(addsW (addsW [] B) (addsW [] A)).map Wv.bytes=(addsW [] (A++B)).map Wv.bytes:=
 kc hB hA (fun v hv=>(List.mem_append.1 hv).elim (hA v) (hB v)) (fun v=>by rw [List.mem_append,List.mem_append,or_comm])
theorem AL {A B:List Wv} (hA : ∀ v∈A,Wp v) (hB : ∀ v∈B,Wp v) {v:Wv} (h:v∈addsW (addsW [] A) (addsW [] B)):v∈A∨v∈B:=by
 have b:=fo hB
 have hb : ∀ v∈addsW [] B,Wp v:=fun v hv=>hB v ((b.mem v).1 hv).1
 have a:=Is.adds kI (addsW [] B) (fo hA) hA hb
 have:=((a.mem v).1 h).1
 rcases List.mem_append.1 this with h|h
 ·exact .inl h
 ·exact .inr ((b.mem v).1 h).1
theorem cN {A B:List Wv} (hA : ∀ v∈A,Wp v) (hB : ∀ v∈B,Wp v):missW (addsW (addsW [] A) (addsW [] B)) (Ev.join (joinsW (.leaf 0) A) (joinsW (.leaf 0) B))=[]:=by
 have eA : ∀ v∈A,v.ev.norm∧v.ev.max≤2^20:=fun v hv=>⟨(hA v hv).n,(hA v hv).m⟩
 have eB : ∀ v∈B,v.ev.norm∧v.ev.max≤2^20:=fun v hv=>⟨(hB v hv).n,(hB v hv).m⟩
 have jA:=bH eA (a:=.leaf 0) trivial (Nat.zero_le _)
 have jB:=bH eB (a:=.leaf 0) trivial (Nat.zero_le _)
 rw [missW,List.filter_eq_nil_iff]
 intro v hv
 have:Ev.leqb v.ev (Ev.join (joinsW (.leaf 0) A) (joinsW (.leaf 0) B))=true:=by
  rw [Ev.leqb_iff (Ev.join_norm jA.1 jB.1)]
  intro s
  rw [Ev.h_join]
  rcases AL hA hB hv with h|h
  ·exact Nat.le_trans (j8 eA (a:=.leaf 0) trivial v h s) (Nat.le_max_left _ _)
  ·exact Nat.le_trans (j8 eB (a:=.leaf 0) trivial v h s) (Nat.le_max_right _ _)
 rw [this];decide
theorem kR {D E:List Dw} {x y:PV} (hx:dsP D x) (h0:D≠[]) (hD:DwOk D) (hy:dsP E y) (h1:E≠[]) (hE:DwOk E):Ω 5 [.p x,.p y] noH 0=some (.bool true,[],[]):=by
 have aw:=mA
 have al:=fun H nx=>xe (H:=H) (nx:=nx) hx h0 hD
 have be:=fun H nx=>xe (H:=H) (nx:=nx) hy h1 hE
 have hV : ∀ v∈vsW D,Wp v:=fun v h=>te h
 have hV0:vsW D≠[]:=by
  cases D with
  | nil=>exact absurd rfl h0
  | cons d D=>simp
 have hVl:=nA D
 generalize vsW D=V at*
 have hW : ∀ v∈vsW E,Wp v:=fun v h=>te h
 have hW0:vsW E≠[]:=by
  cases E with
  | nil=>exact absurd rfl h1
  | cons d D=>simp
 have hWl:=nA E
 generalize vsW E=W at*
 have iV:=aO V
 have rV:=fun a s=>aS a s V
 have aP:=bP V
 have iR:=co V
 have rR:=fun a s=>cP a s V
 have aR:=dG V
 have lV:=aA V
 have lR:=bA V
 have mR:=bK V
 have tV:(rowL V).take (V.length*4)=rowL V:=List.take_of_length_le (by omega)
 have leV:V.length*4≤(rowL V).length:=by omega
 have tR:(rrL V).take (V.length*3)=rrL V:=List.take_of_length_le (by omega)
 have leR:V.length*3≤(rrL V).length:=by omega
 have iVe:=aO W
 have rVe:=fun a s=>aS a s W
 have aPe:=bP W
 have iRe:=co W
 have rRe:=fun a s=>cP a s W
 have aRe:=dG W
 have lVe:=aA W
 have lRe:=bA W
 have mRe:=bK W
 have tVe:(rowL W).take (W.length*4)=rowL W:=List.take_of_length_le (by omega)
 have leVe:W.length*4≤(rowL W).length:=by omega
 have tRe:(rrL W).take (W.length*3)=rrL W:=List.take_of_length_le (by omega)
 have leRe:W.length*3≤(rrL W).length:=by omega
 have l1:=fun w y=>(qs (rrL V) V.length iR rR w y (.sl (rowP V) V.length 4 false) V.length 0 [] [] (.leaf 0) (.leaf 0)).trans (iw (rrL V) V.length iR rR w y (by omega) hV [] (.leaf 0) V.length 0 [] (.leaf 0) (by omega) Ws.nil (by simp only [List.length_nil];omega) trivial (Nat.zero_le _))
 have l2:=fun y=>(qw (rrL V) V.length iR rR y (.sl (rowP W) W.length 4 false) W.length 0 (addsW [] V) [] (joinsW (.leaf 0) V) (.leaf 0)).trans (kU (rrL V) V.length iR rR y (by omega) hW (addsW [] V) (joinsW (.leaf 0) V) W.length 0 [] (.leaf 0) (by omega) Ws.nil (by simp only [List.length_nil];omega) trivial (Nat.zero_le _))
 have okV : ∀ v∈V,v.Ok∧v.right=true:=fun v hv=>⟨(hV v hv).ok,(hV v hv).right⟩
 have okW : ∀ v∈W,v.Ok∧v.right=true:=fun v hv=>⟨(hW v hv).ok,(hW v hv).right⟩
 have wsS:Ws (addsW [] V):=Ws.adds okV Ws.nil
 have wsT:Ws (addsW [] W):=Ws.adds okW Ws.nil
 have lS:=a9 V []
 have lT:=a9 W []
 simp only [List.length_nil,Nat.zero_add] at lS lT
 have both : ∀ {L:List Wv},Ws L→∀ v∈L,v.Ok∧v.right=true:=fun h v hv=>⟨h.o v hv,h.r v hv⟩
 have mab:=fun H nx=>eT (H:=H) (nx:=nx) (M:=addsW [] W) (addsW [] V) (by omega) (both wsT) wsS (by omega)
 have mba:=fun H nx=>eT (H:=H) (nx:=nx) (M:=addsW [] V) (addsW [] W) (by omega) (both wsS) wsT (by omega)
 have wsU:=Ws.adds (both wsT) wsS
 have wsU':=Ws.adds (both wsS) wsT
 have lU:=a9 (addsW [] W) (addsW [] V)
 have lU':=a9 (addsW [] V) (addsW [] W)
 have kab:=mr (addsW (addsW [] V) (addsW [] W)) (addsW (addsW [] W) (addsW [] V)) (by omega) wsU.o wsU'.o
 rw [decide_eq_true ((cD hV hW).trans (fq hV hW).symm)] at kab
 have eV : ∀ v∈V,v.ev.norm∧v.ev.max≤2^20:=fun v hv=>⟨(hV v hv).n,(hV v hv).m⟩
 have eW : ∀ v∈W,v.ev.norm∧v.ev.max≤2^20:=fun v hv=>⟨(hW v hv).n,(hW v hv).m⟩
 have jA:=bH eV (a:=.leaf 0) trivial (Nat.zero_le _)
 have jB:=bH eW (a:=.leaf 0) trivial (Nat.zero_le _)
 have jab:=ed (joinsW (.leaf 0) V) (joinsW (.leaf 0) W) (by omega) (by omega)
 have jm:=Ev.join_max jA.2 jB.2
 have ln:=len_ (addsW [] V)
 have nm:=cN hV hW
 have hX : ∀ v∈V++W,Wp v:=fun v hv=>(List.mem_append.1 hv).elim (hV v) (hW v)
 have eqw:=(cD hV hW).trans (ig hX (fun v=>Iff.rfl))
 have hsl:=Is.len eqw
 have wo : ∀ v∈setsW (V++W) (V++W) [],v.Ok:=fun v hv=>(hX v (ii hX hv)).ok
 have s0:addsW [] V≠[]:=cX V (.inr hV0)
 have ms:=eU (addsW [] V) (.leaf 0) s0 (by omega) wsS.o (by decide)
 have mle:(missW (addsW [] V) (.leaf 0)).length≤(addsW [] V).length:=List.length_filter_le _ _
 have u0:addsW (addsW [] V) (addsW [] W)≠[]:=cX _ (.inl s0)
 have w0:setsW (V++W) (V++W) []≠[]:=by intro e;rw [e] at hsl;exact u0 (List.eq_nil_of_length_eq_zero hsl)
 have mu:=eU (addsW (addsW [] V) (addsW [] W)) (Ev.join (joinsW (.leaf 0) V) (joinsW (.leaf 0) W)) u0 (by omega) wsU.o (by omega)
 rw [nm] at mu
 have li:=oH (addsW (addsW [] V) (addsW [] W)) u0 (by omega)
 have lk:=fun (H:Heap) nx id cp ex (h1:H id=some (.cells (rowL (addsW (addsW [] V) (addsW [] W))))) (h2:id<nx)=>rY (H:=H) (nx:=nx) (L:=addsW (addsW [] V) (addsW [] W)) (M:=setsW (V++W) (V++W) []) (fl:=false) (.arr _ [] id cp ex (by rw [List.append_nil];exact h1) h2) (by omega) wsU.o wo (.inr rfl)
 rw [decide_eq_true eqw] at lk
 have rs:=fun (H:Heap) nx id cp ex (h1:H id=some (.cells (rrL (V++W)))) (h2:id<nx)=>sL (H:=H) (nx:=nx) (L:=V++W) (.arr _ [] id cp ex (by rw [List.append_nil];exact h1) h2) (by rw [List.length_append];skip;omega) (fun w hw=>⟨(hX w hw).ok,(hX w hw).right⟩)
 have iU:=aO (addsW (addsW [] V) (addsW [] W))
 have rU:=fun a s=>aS a s (addsW (addsW [] V) (addsW [] W))
 rw [i5 w0] at rs
 rw [←hsl] at rs lk
 simp only [agA,agS1,bi,Ev.n_l,Ev.ptr_l,Int.natCast_zero,List.drop_zero,List.cons_append,List.nil_append] at l1
 simp only [agB,bgS1,bi,Ev.n_l,Ev.ptr_l,Int.natCast_zero,List.drop_zero,List.cons_append,List.nil_append] at l2
 simp only [List.nil_append,List.append_nil,cR,List.length_append,setP,Ev.pv,Ev.n_l,Ev.ptr_l,Int.natCast_zero,ju,List.length_nil,Int.natCast_add] at mab mba kab jab ln ms mu li lk rs
 have k9 : ¬V.length=0:=fun e=>hV0 (List.eq_nil_of_length_eq_zero e)
 have k0 : ¬W.length=0:=fun e=>hW0 (List.eq_nil_of_length_eq_zero e)
 have iX:=co (V++W)
 have rX:=fun a s=>cP a s (V++W)
 rw [cR] at iX
 simp only [cR] at rX
 have k5 : ¬1099511627776<(V.length+W.length)*40:=by omega
 clear hx hy hD hE okV okW wsS wsT lS lT both wsU wsU' lU lU' eV eW jA jB jm nm hX eqw hsl wo hV hW s0 hV0 hVl lV h0 leR hW0 hWl lVe h1 leRe u0 w0
 try generalize slP (addsW (addsW [] V) (addsW [] W))=U0 at*
 try generalize slP (addsW (addsW [] W) (addsW [] V))=U1 at*
 try generalize slP (addsW [] V)=S0 at*
 try generalize slP (addsW [] W)=T0 at*
 try generalize rowL (addsW (addsW [] V) (addsW [] W))=RU at*
 try generalize (addsW (addsW [] V) (addsW [] W)).length=nu at*
 try generalize rrP (setsW (V++W) (V++W) [])=RZ at*
 generalize rowP (missW (addsW [] V) (.leaf 0))=MP at*
 generalize (missW (addsW [] V) (.leaf 0)).length=mn at*
 generalize (addsW [] V).length=sn at*
 generalize joinsW (.leaf 0) V=a at*
 generalize joinsW (.leaf 0) W=b at*
 generalize Ev.join a b=c at*
 generalize rowP V=pxV at*
 generalize rowL V=cxV at*
 generalize rrP V=qxV at*
 generalize rrL V=exV at*
 generalize V.length=nxV at*
 generalize rowP W=pxW at*
 generalize rowL W=cxW at*
 generalize rrP W=qxW at*
 generalize rrL W=exW at*
 generalize W.length=nxW at*
 refine ae (ir:=ir5) (by kernel_rfl) ?_;simp +contextual (maxSteps:=1000000) [ir5,ssL,↓ssM,aa,ssU,Go.Sx.LV.undef,Go.undef,ssR,aw,al,be,l1,l2,mab,mba,kab,jab,ln,ms,mu,li,lk,rs,mle,iV,rV,aP,iR,rR,aR,mR,tV,leV,tR,lR,k9,iVe,rVe,aPe,iRe,rRe,aRe,mRe,tVe,leVe,tRe,lRe,k0,iX,rX,iU,rU,k5]
theorem kQ {D E:List Dw} {x y:PV} (hx:dsP D x) (h0:D≠[]) (hD:DwOk D) (hy:dsP E y) (h1:E=[]) (hE:DwOk E):Ω 5 [.p x,.p y] noH 0=some (.bool true,[],[]):=by
 subst h1
 have aw:=mA
 have al:=fun H nx=>xe (H:=H) (nx:=nx) hx h0 hD
 have be:=fun H nx=>gL (H:=H) (nx:=nx) hy
 have hV : ∀ v∈vsW D,Wp v:=fun v h=>te h
 have hV0:vsW D≠[]:=by
  cases D with
  | nil=>exact absurd rfl h0
  | cons d D=>simp
 have hVl:=nA D
 generalize vsW D=V at*
 have hW : ∀ v∈([]:List Wv),Wp v:=by simp
 have iV:=aO V
 have rV:=fun a s=>aS a s V
 have aP:=bP V
 have iR:=co V
 have rR:=fun a s=>cP a s V
 have aR:=dG V
 have lV:=aA V
 have lR:=bA V
 have mR:=bK V
 have tV:(rowL V).take (V.length*4)=rowL V:=List.take_of_length_le (by omega)
 have leV:V.length*4≤(rowL V).length:=by omega
 have tR:(rrL V).take (V.length*3)=rrL V:=List.take_of_length_le (by omega)
 have leR:V.length*3≤(rrL V).length:=by omega
 have l1:=fun w y=>(qs (rrL V) V.length iR rR w y (.sl (rowP V) V.length 4 false) V.length 0 [] [] (.leaf 0) (.leaf 0)).trans (iw (rrL V) V.length iR rR w y (by omega) hV [] (.leaf 0) V.length 0 [] (.leaf 0) (by omega) Ws.nil (by simp only [List.length_nil];omega) trivial (Nat.zero_le _))
 have l2:=fun y=>(qw (rrL V) V.length iR rR y (.s (.slice none 0 0)) 0 0 (addsW [] V) [] (joinsW (.leaf 0) V) (.leaf 0)).trans (show run ⟨Ω,gG,noH,0⟩ (.loop agB) (bgS1 (rrL V) V.length y (.s (.slice none 0 0)) 0 0 (addsW [] V) (addsW [] []) (joinsW (.leaf 0) V) (joinsW (.leaf 0) []))=some (.exit 2,⟨(bgS1 (rrL V) V.length y (.s (.slice none 0 0)) 0 0 (addsW [] V) (addsW [] []) (joinsW (.leaf 0) V) (joinsW (.leaf 0) [])).env++[(49,.bool false)],(bgS1 (rrL V) V.length y (.s (.slice none 0 0)) 0 0 (addsW [] V) (addsW [] []) (joinsW (.leaf 0) V) (joinsW (.leaf 0) [])).h⟩) by rw [ai,nF (rrL V) V.length iR rR ];rfl)
 have okV : ∀ v∈V,v.Ok∧v.right=true:=fun v hv=>⟨(hV v hv).ok,(hV v hv).right⟩
 have okW : ∀ v∈([]:List Wv),v.Ok∧v.right=true:=fun v hv=>⟨(hW v hv).ok,(hW v hv).right⟩
 have wsS:Ws (addsW [] V):=Ws.adds okV Ws.nil
 have wsT:Ws (addsW [] []):=Ws.adds okW Ws.nil
 have lS:=a9 V []
 have lT:=a9 [] []
 simp only [List.length_nil,Nat.zero_add] at lS lT
 have both : ∀ {L:List Wv},Ws L→∀ v∈L,v.Ok∧v.right=true:=fun h v hv=>⟨h.o v hv,h.r v hv⟩
 have mab:=fun H nx=>eT (H:=H) (nx:=nx) (M:=addsW [] []) (addsW [] V) (by omega) (both wsT) wsS (by omega)
 have mba:=fun H nx=>eT (H:=H) (nx:=nx) (M:=addsW [] V) (addsW [] []) (by omega) (both wsS) wsT (by omega)
 have wsU:=Ws.adds (both wsT) wsS
 have wsU':=Ws.adds (both wsS) wsT
 have lU:=a9 (addsW [] []) (addsW [] V)
 have lU':=a9 (addsW [] V) (addsW [] [])
 have kab:=mr (addsW (addsW [] V) (addsW [] [])) (addsW (addsW [] []) (addsW [] V)) (by omega) wsU.o wsU'.o
 rw [decide_eq_true ((cD hV hW).trans (fq hV hW).symm)] at kab
 have eV : ∀ v∈V,v.ev.norm∧v.ev.max≤2^20:=fun v hv=>⟨(hV v hv).n,(hV v hv).m⟩
 have eW : ∀ v∈([]:List Wv),v.ev.norm∧v.ev.max≤2^20:=fun v hv=>⟨(hW v hv).n,(hW v hv).m⟩
 have jA:=bH eV (a:=.leaf 0) trivial (Nat.zero_le _)
 have jB:=bH eW (a:=.leaf 0) trivial (Nat.zero_le _)
 have jab:=ed (joinsW (.leaf 0) V) (joinsW (.leaf 0) []) (by omega) (by omega)
 have jm:=Ev.join_max jA.2 jB.2
 have ln:=len_ (addsW [] V)
 have nm:=cN hV hW
 have hX : ∀ v∈V++[],Wp v:=fun v hv=>(List.mem_append.1 hv).elim (hV v) (hW v)
 have eqw:=(cD hV hW).trans (ig hX (fun v=>Iff.rfl))
 have hsl:=Is.len eqw
 have wo : ∀ v∈setsW (V++[]) (V++[]) [],v.Ok:=fun v hv=>(hX v (ii hX hv)).ok
 have s0:addsW [] V≠[]:=cX V (.inr hV0)
 have ms:=eU (addsW [] V) (.leaf 0) s0 (by omega) wsS.o (by decide)
 have mle:(missW (addsW [] V) (.leaf 0)).length≤(addsW [] V).length:=List.length_filter_le _ _
 have u0:addsW (addsW [] V) (addsW [] [])≠[]:=cX _ (.inl s0)
 have w0:setsW (V++[]) (V++[]) []≠[]:=by intro e;rw [e] at hsl;exact u0 (List.eq_nil_of_length_eq_zero hsl)
 have mu:=eU (addsW (addsW [] V) (addsW [] [])) (Ev.join (joinsW (.leaf 0) V) (joinsW (.leaf 0) [])) u0 (by omega) wsU.o (by omega)
 rw [nm] at mu
 have li:=oH (addsW (addsW [] V) (addsW [] [])) u0 (by omega)
 have lk:=fun (H:Heap) nx id cp ex (h1:H id=some (.cells (rowL (addsW (addsW [] V) (addsW [] []))))) (h2:id<nx)=>rY (H:=H) (nx:=nx) (L:=addsW (addsW [] V) (addsW [] [])) (M:=setsW (V++[]) (V++[]) []) (fl:=false) (.arr _ [] id cp ex (by rw [List.append_nil];exact h1) h2) (by omega) wsU.o wo (.inr rfl)
 rw [decide_eq_true eqw] at lk
 have rs:=fun (H:Heap) nx id cp ex (h1:H id=some (.cells (rrL (V++[])))) (h2:id<nx)=>sL (H:=H) (nx:=nx) (L:=V++[]) (.arr _ [] id cp ex (by rw [List.append_nil];exact h1) h2) (by rw [List.length_append];simp only [List.length_nil];omega) (fun w hw=>⟨(hX w hw).ok,(hX w hw).right⟩)
 have iU:=aO (addsW (addsW [] V) (addsW [] []))
 have rU:=fun a s=>aS a s (addsW (addsW [] V) (addsW [] []))
 rw [i5 w0] at rs
 rw [←hsl] at rs lk
 simp only [agA,agS1,bi,Ev.n_l,Ev.ptr_l,Int.natCast_zero,List.drop_zero,List.cons_append,List.nil_append] at l1
 simp only [agB,bgS1,bi,Ev.n_l,Ev.ptr_l,Int.natCast_zero,List.drop_zero,List.cons_append,List.nil_append] at l2
 simp only [List.nil_append,List.append_nil,cR,List.length_append,setP,Ev.pv,Ev.n_l,Ev.ptr_l,Int.natCast_zero,ju,List.length_nil,Int.natCast_add] at mab mba kab jab ln ms mu li lk rs
 have k9 : ¬V.length=0:=fun e=>hV0 (List.eq_nil_of_length_eq_zero e)
 have k5 : ¬1099511627776<V.length*40:=by omega
 clear hx hy hD hE okV okW wsS wsT lS lT both wsU wsU' lU lU' eV eW jA jB jm nm hX eqw hsl wo hV hW s0 hV0 hVl lV h0 leR u0 w0
 try generalize slP (addsW (addsW [] V) (addsW [] []))=U0 at*
 try generalize slP (addsW (addsW [] []) (addsW [] V))=U1 at*
 try generalize slP (addsW [] V)=S0 at*
 try generalize slP (addsW [] [])=T0 at*
 try generalize rowL (addsW (addsW [] V) (addsW [] []))=RU at*
 try generalize (addsW (addsW [] V) (addsW [] [])).length=nu at*
 try generalize rrP (setsW V V [])=RZ at*
 generalize rowP (missW (addsW [] V) (.leaf 0))=MP at*
 generalize (missW (addsW [] V) (.leaf 0)).length=mn at*
 generalize (addsW [] V).length=sn at*
 generalize joinsW (.leaf 0) V=a at*
 generalize joinsW (.leaf 0) []=b at*
 generalize Ev.join a b=c at*
 generalize rowP V=pxV at*
 generalize rowL V=cxV at*
 generalize rrP V=qxV at*
 generalize rrL V=exV at*
 generalize V.length=nxV at*
 refine ae (ir:=ir5) (by kernel_rfl) ?_;simp +contextual (maxSteps:=1000000) [ir5,ssL,↓ssM,aa,ssU,Go.Sx.LV.undef,Go.undef,ssR,aw,al,be,l1,l2,mab,mba,kab,jab,ln,ms,mu,li,lk,rs,mle,iV,rV,aP,iR,rR,aR,mR,tV,leV,tR,lR,k9,iU,rU,k5]
theorem kP {D E:List Dw} {x y:PV} (hx:dsP D x) (h0:D=[]) (hD:DwOk D) (hy:dsP E y) (h1:E≠[]) (hE:DwOk E):Ω 5 [.p x,.p y] noH 0=some (.bool true,[],[]):=by
 subst h0
 have aw:=mA
 have al:=fun H nx=>gL (H:=H) (nx:=nx) hx
 have be:=fun H nx=>xe (H:=H) (nx:=nx) hy h1 hE
 have hV : ∀ v∈([]:List Wv),Wp v:=by simp
 have hW : ∀ v∈vsW E,Wp v:=fun v h=>te h
 have hW0:vsW E≠[]:=by
  cases E with
  | nil=>exact absurd rfl h1
  | cons d D=>simp
 have hWl:=nA E
 generalize vsW E=W at*
 have iVe:=aO W
 have rVe:=fun a s=>aS a s W
 have aPe:=bP W
 have iRe:=co W
 have rRe:=fun a s=>cP a s W
 have aRe:=dG W
 have lVe:=aA W
 have lRe:=bA W
 have mRe:=bK W
 have tVe:(rowL W).take (W.length*4)=rowL W:=List.take_of_length_le (by omega)
 have leVe:W.length*4≤(rowL W).length:=by omega
 have tRe:(rrL W).take (W.length*3)=rrL W:=List.take_of_length_le (by omega)
 have leRe:W.length*3≤(rrL W).length:=by omega
 have l1:=fun w y=>(qq w y (.s (.slice none 0 0)) 0 0 [] [] (.leaf 0) (.leaf 0)).trans (show run ⟨Ω,gG,noH,0⟩ (.loop agA) (agS0 w y (.s (.slice none 0 0)) 0 0 (addsW [] []) [] (joinsW (.leaf 0) []) (.leaf 0))=some (.exit 0,⟨(agS0 w y (.s (.slice none 0 0)) 0 0 (addsW [] []) [] (joinsW (.leaf 0) []) (.leaf 0)).env++[(35,.bool false)],(agS0 w y (.s (.slice none 0 0)) 0 0 (addsW [] []) [] (joinsW (.leaf 0) []) (.leaf 0)).h⟩) by rw [ai,nC];rfl)
 have l2:=fun y=>(qv y (.sl (rowP W) W.length 4 false) W.length 0 (addsW [] []) [] (joinsW (.leaf 0) []) (.leaf 0)).trans (kT y (by omega) hW (addsW [] []) (joinsW (.leaf 0) []) W.length 0 [] (.leaf 0) (by omega) Ws.nil (by simp only [List.length_nil];omega) trivial (Nat.zero_le _))
 have okV : ∀ v∈([]:List Wv),v.Ok∧v.right=true:=fun v hv=>⟨(hV v hv).ok,(hV v hv).right⟩
 have okW : ∀ v∈W,v.Ok∧v.right=true:=fun v hv=>⟨(hW v hv).ok,(hW v hv).right⟩
 have wsS:Ws (addsW [] []):=Ws.adds okV Ws.nil
 have wsT:Ws (addsW [] W):=Ws.adds okW Ws.nil
 have lS:=a9 [] []
 have lT:=a9 W []
 simp only [List.length_nil,Nat.zero_add] at lS lT
 have both : ∀ {L:List Wv},Ws L→∀ v∈L,v.Ok∧v.right=true:=fun h v hv=>⟨h.o v hv,h.r v hv⟩
 have mab:=fun H nx=>eT (H:=H) (nx:=nx) (M:=addsW [] W) (addsW [] []) (by omega) (both wsT) wsS (by omega)
 have mba:=fun H nx=>eT (H:=H) (nx:=nx) (M:=addsW [] []) (addsW [] W) (by omega) (both wsS) wsT (by omega)
 have wsU:=Ws.adds (both wsT) wsS
 have wsU':=Ws.adds (both wsS) wsT
 have lU:=a9 (addsW [] W) (addsW [] [])
 have lU':=a9 (addsW [] []) (addsW [] W)
 have kab:=mr (addsW (addsW [] []) (addsW [] W)) (addsW (addsW [] W) (addsW [] [])) (by omega) wsU.o wsU'.o
 rw [decide_eq_true ((cD hV hW).trans (fq hV hW).symm)] at kab
 have eV : ∀ v∈([]:List Wv),v.ev.norm∧v.ev.max≤2^20:=fun v hv=>⟨(hV v hv).n,(hV v hv).m⟩
 have eW : ∀ v∈W,v.ev.norm∧v.ev.max≤2^20:=fun v hv=>⟨(hW v hv).n,(hW v hv).m⟩
 have jA:=bH eV (a:=.leaf 0) trivial (Nat.zero_le _)
 have jB:=bH eW (a:=.leaf 0) trivial (Nat.zero_le _)
 have jab:=ed (joinsW (.leaf 0) []) (joinsW (.leaf 0) W) (by omega) (by omega)
 have jm:=Ev.join_max jA.2 jB.2
 have ln:=len_ (addsW [] [])
 have nm:=cN hV hW
 have hX : ∀ v∈([]:List Wv)++W,Wp v:=fun v hv=>(List.mem_append.1 hv).elim (hV v) (hW v)
 have eqw:=(cD hV hW).trans (ig hX (fun v=>Iff.rfl))
 have hsl:=Is.len eqw
 have wo : ∀ v∈setsW ([]++W) ([]++W) [],v.Ok:=fun v hv=>(hX v (ii hX hv)).ok
 have ms : ∀ (H:Heap) (nx:Nat),Ω 24 [.p (setP (addsW [] [])),.p (Ev.leaf 0).pv] H nx=some (.p (.s (.slice none 0 0)),[],[]):=eX (.leaf 0)
 have u0:addsW (addsW [] []) (addsW [] W)≠[]:=cX _ (.inr (cX W (.inr hW0)))
 have w0:setsW ([]++W) ([]++W) []≠[]:=by intro e;rw [e] at hsl;exact u0 (List.eq_nil_of_length_eq_zero hsl)
 have mu:=eU (addsW (addsW [] []) (addsW [] W)) (Ev.join (joinsW (.leaf 0) []) (joinsW (.leaf 0) W)) u0 (by omega) wsU.o (by omega)
 rw [nm] at mu
 have li:=oH (addsW (addsW [] []) (addsW [] W)) u0 (by omega)
 have lk:=fun (H:Heap) nx id cp ex (h1:H id=some (.cells (rowL (addsW (addsW [] []) (addsW [] W))))) (h2:id<nx)=>rY (H:=H) (nx:=nx) (L:=addsW (addsW [] []) (addsW [] W)) (M:=setsW ([]++W) ([]++W) []) (fl:=false) (.arr _ [] id cp ex (by rw [List.append_nil];exact h1) h2) (by omega) wsU.o wo (.inr rfl)
 rw [decide_eq_true eqw] at lk
 have rs:=fun (H:Heap) nx id cp ex (h1:H id=some (.cells (rrL ([]++W)))) (h2:id<nx)=>sL (H:=H) (nx:=nx) (L:=[]++W) (.arr _ [] id cp ex (by rw [List.append_nil];exact h1) h2) (by rw [List.length_append];simp only [List.length_nil];omega) (fun w hw=>⟨(hX w hw).ok,(hX w hw).right⟩)
 have iU:=aO (addsW (addsW [] []) (addsW [] W))
 have rU:=fun a s=>aS a s (addsW (addsW [] []) (addsW [] W))
 rw [i5 w0] at rs
 rw [←hsl] at rs lk
 simp only [agA,agS0,bi,Ev.n_l,Ev.ptr_l,Int.natCast_zero,List.drop_zero,List.cons_append,List.nil_append] at l1
 simp only [agB,bgS0,bi,Ev.n_l,Ev.ptr_l,Int.natCast_zero,List.drop_zero,List.cons_append,List.nil_append] at l2
 simp only [List.nil_append,List.append_nil,cR,List.length_append,setP,Ev.pv,Ev.n_l,Ev.ptr_l,Int.natCast_zero,ju,List.length_nil,Int.natCast_add] at mab mba kab jab ln ms mu li lk rs
 have k0 : ¬W.length=0:=fun e=>hW0 (List.eq_nil_of_length_eq_zero e)
 have k5 : ¬1099511627776<W.length*40:=by omega
 clear hx hy hD hE okV okW wsS wsT lS lT both wsU wsU' lU lU' eV eW jA jB jm nm hX eqw hsl wo hV hW hW0 hWl lVe h1 leRe u0 w0
 try generalize slP (addsW (addsW [] []) (addsW [] W))=U0 at*
 try generalize slP (addsW (addsW [] W) (addsW [] []))=U1 at*
 try generalize slP (addsW [] [])=S0 at*
 try generalize slP (addsW [] W)=T0 at*
 try generalize rowL (addsW (addsW [] []) (addsW [] W))=RU at*
 try generalize (addsW (addsW [] []) (addsW [] W)).length=nu at*
 try generalize rrP (setsW W W [])=RZ at*
 generalize joinsW (.leaf 0) []=a at*
 generalize joinsW (.leaf 0) W=b at*
 generalize Ev.join a b=c at*
 generalize rowP W=pxW at*
 generalize rowL W=cxW at*
 generalize rrP W=qxW at*
 generalize rrL W=exW at*
 generalize W.length=nxW at*
 refine ae (ir:=ir5) (by kernel_rfl) ?_;simp +contextual (maxSteps:=1000000) [ir5,ssL,↓ssM,aa,ssU,Go.Sx.LV.undef,Go.undef,ssR,aw,al,be,l1,l2,mab,mba,kab,jab,ln,ms,mu,li,lk,rs,iVe,rVe,aPe,iRe,rRe,aRe,mRe,tVe,leVe,tRe,lRe,k0,iU,rU,k5]
theorem kO {D E:List Dw} {x y:PV} (hx:dsP D x) (h0:D=[]) (hD:DwOk D) (hy:dsP E y) (h1:E=[]) (hE:DwOk E):Ω 5 [.p x,.p y] noH 0=some (.bool true,[],[]):=by
 subst h0
 subst h1
 have aw:=mA
 have al:=fun H nx=>gL (H:=H) (nx:=nx) hx
 have be:=fun H nx=>gL (H:=H) (nx:=nx) hy
 have hV : ∀ v∈([]:List Wv),Wp v:=by simp
 have hW : ∀ v∈([]:List Wv),Wp v:=by simp
 have l1:=fun w y=>(qq w y (.s (.slice none 0 0)) 0 0 [] [] (.leaf 0) (.leaf 0)).trans (show run ⟨Ω,gG,noH,0⟩ (.loop agA) (agS0 w y (.s (.slice none 0 0)) 0 0 (addsW [] []) [] (joinsW (.leaf 0) []) (.leaf 0))=some (.exit 0,⟨(agS0 w y (.s (.slice none 0 0)) 0 0 (addsW [] []) [] (joinsW (.leaf 0) []) (.leaf 0)).env++[(35,.bool false)],(agS0 w y (.s (.slice none 0 0)) 0 0 (addsW [] []) [] (joinsW (.leaf 0) []) (.leaf 0)).h⟩) by rw [ai,nC];rfl)
 have l2:=fun y=>(qv y (.s (.slice none 0 0)) 0 0 (addsW [] []) [] (joinsW (.leaf 0) []) (.leaf 0)).trans (show run ⟨Ω,gG,noH,0⟩ (.loop agB) (bgS0 y (.s (.slice none 0 0)) 0 0 (addsW [] []) (addsW [] []) (joinsW (.leaf 0) []) (joinsW (.leaf 0) []))=some (.exit 2,⟨(bgS0 y (.s (.slice none 0 0)) 0 0 (addsW [] []) (addsW [] []) (joinsW (.leaf 0) []) (joinsW (.leaf 0) [])).env++[(49,.bool false)],(bgS0 y (.s (.slice none 0 0)) 0 0 (addsW [] []) (addsW [] []) (joinsW (.leaf 0) []) (joinsW (.leaf 0) [])).h⟩) by rw [ai,nD ];rfl)
 have okV : ∀ v∈([]:List Wv),v.Ok∧v.right=true:=fun v hv=>⟨(hV v hv).ok,(hV v hv).right⟩
 have okW : ∀ v∈([]:List Wv),v.Ok∧v.right=true:=fun v hv=>⟨(hW v hv).ok,(hW v hv).right⟩
 have wsS:Ws (addsW [] []):=Ws.adds okV Ws.nil
 have wsT:Ws (addsW [] []):=Ws.adds okW Ws.nil
 have lS:=a9 [] []
 have lT:=a9 [] []
 simp only [List.length_nil,Nat.zero_add] at lS lT
 have both : ∀ {L:List Wv},Ws L→∀ v∈L,v.Ok∧v.right=true:=fun h v hv=>⟨h.o v hv,h.r v hv⟩
 have mab:=fun H nx=>eT (H:=H) (nx:=nx) (M:=addsW [] []) (addsW [] []) (by omega) (both wsT) wsS (by omega)
 have mba:=fun H nx=>eT (H:=H) (nx:=nx) (M:=addsW [] []) (addsW [] []) (by omega) (both wsS) wsT (by omega)
 have wsU:=Ws.adds (both wsT) wsS
 have wsU':=Ws.adds (both wsS) wsT
 have lU:=a9 (addsW [] []) (addsW [] [])
 have lU':=a9 (addsW [] []) (addsW [] [])
 have kab:=mr (addsW (addsW [] []) (addsW [] [])) (addsW (addsW [] []) (addsW [] [])) (by omega) wsU.o wsU'.o
 rw [decide_eq_true ((cD hV hW).trans (fq hV hW).symm)] at kab
 have eV : ∀ v∈([]:List Wv),v.ev.norm∧v.ev.max≤2^20:=fun v hv=>⟨(hV v hv).n,(hV v hv).m⟩
 have eW : ∀ v∈([]:List Wv),v.ev.norm∧v.ev.max≤2^20:=fun v hv=>⟨(hW v hv).n,(hW v hv).m⟩
 have jA:=bH eV (a:=.leaf 0) trivial (Nat.zero_le _)
 have jB:=bH eW (a:=.leaf 0) trivial (Nat.zero_le _)
 have jab:=ed (joinsW (.leaf 0) []) (joinsW (.leaf 0) []) (by omega) (by omega)
 have jm:=Ev.join_max jA.2 jB.2
 have ln:=len_ (addsW [] [])
 have nm:=cN hV hW
 have hX : ∀ v∈([]:List Wv)++[],Wp v:=fun v hv=>(List.mem_append.1 hv).elim (hV v) (hW v)
 have eqw:=(cD hV hW).trans (ig hX (fun v=>Iff.rfl))
 have hsl:=Is.len eqw
 have wo : ∀ v∈setsW ([]++[]) ([]++[]) [],v.Ok:=fun v hv=>(hX v (ii hX hv)).ok
 have ms : ∀ (H:Heap) (nx:Nat),Ω 24 [.p (setP (addsW [] [])),.p (Ev.leaf 0).pv] H nx=some (.p (.s (.slice none 0 0)),[],[]):=eX (.leaf 0)
 have mu : ∀ (H:Heap) (nx:Nat),Ω 24 [.p (setP (addsW (addsW [] []) (addsW [] []))),.p (Ev.join (joinsW (.leaf 0) []) (joinsW (.leaf 0) [])).pv] H nx=some (.p (.s (.slice none 0 0)),[],[]):=eX _
 have li : ∀ (H:Heap) (nx:Nat),Ω 13 [.p (setP (addsW (addsW [] []) (addsW [] [])))] H nx=some (.p (.s (.slice none 0 0)),[],[]):=kb
 have rs:=fun H nx=>sL (H:=H) (nx:=nx) (L:=[]) .nil (by decide) (by simp)
 have e0:setsW [] [] []=[]:=rfl
 rw [e0,sZ] at rs
 have lk:=fun H nx=>rY (H:=H) (nx:=nx) (L:=[]) (M:=[]) (fl:=false) .nil (by decide) (by simp) (by simp) (.inl ⟨rfl,rfl⟩)
 simp only [decide_true] at lk
 simp only [agA,agS0,bi,Ev.n_l,Ev.ptr_l,Int.natCast_zero,List.drop_zero,List.cons_append,List.nil_append] at l1
 simp only [agB,bgS0,bi,Ev.n_l,Ev.ptr_l,Int.natCast_zero,List.drop_zero,List.cons_append,List.nil_append] at l2
 simp only [List.nil_append,List.append_nil,cR,List.length_append,setP,Ev.pv,Ev.n_l,Ev.ptr_l,Int.natCast_zero,ju,List.length_nil,Int.natCast_add] at mab mba kab jab ln ms mu li lk rs
 clear hx hy hD hE okV okW wsS wsT lS lT both wsU wsU' lU lU' eV eW jA jB jm nm hX eqw hsl wo hV hW
 try generalize slP (addsW (addsW [] []) (addsW [] []))=U0 at*
 try generalize slP (addsW (addsW [] []) (addsW [] []))=U1 at*
 try generalize slP (addsW [] [])=S0 at*
 try generalize slP (addsW [] [])=T0 at*
 generalize joinsW (.leaf 0) []=a at*
 generalize Ev.join a a=c at*
 refine ae (ir:=ir5) (by kernel_rfl) ?_;simp +contextual (maxSteps:=1000000) [ir5,ssL,↓ssM,aa,ssU,Go.Sx.LV.undef,Go.undef,ssR,aw,al,be,l1,l2,mab,mba,kab,jab,ln,ms,mu,li,lk,rs]
end Go.Proofs.YtoeblkipfdnnlaaGreatDoor
end
