/- What the proof of the claim leans on, part 5 of 5: the value machine, the functions as it has them, their specifications. No condition. -/
import Derived.Test.YtoeblkipfdnnlaaGreatDoorC4
import Derived.ProofKit
import Derived.OpenShut
import Derived.Below
import Derived.Deep.Slices
import Derived.ChangeArms
import Derived.Test.YtoeblkipfdnnlaaGreatDoorRows
import Derived.MakeChecks
import Derived.FnData
import Derived.ChangeSame
set_option linter.all false
set_option linter.unnecessarySimpa false
set_option linter.unusedSimpArgs false
set_option linter.unusedVariables false
set_option linter.constructorNameAsVariable false
set_option maxHeartbeats 4000000
section
namespace Go.Proofs.YtoeblkipfdnnlaaGreatDoor
open Go Go.Sx
set_option maxHeartbeats 1000000
theorem xI (H:Heap) (nx:Nat) (a b c:UInt8) (r:List UInt8) (ha:128≤a.toNat) (lo hi:Nat) (e:acc a.toNat=some (3,lo,hi)) (hlo:lo≤b.toNat) (hhi:b.toNat≤hi) (hc:cont c=true):
  run ⟨Ω,gG,H,nx⟩ ir156_1 ⟨[(0,.str ⟨(a::b::c::r).toArray⟩)],⟨[],[]⟩⟩=some (.normal,⟨[(0,.str ⟨r.toArray⟩)],⟨[],[]⟩⟩):=by
 have h8:=a.toNat_lt
 have sz:=aS (a::b::c::r)
 obtain ⟨t1,t2,t3,-,-⟩:=mh (by omega) ha e
 have fl:=hP a.toNat
 have k7:=yv (firstN a.toNat) fl
 have k4:=zG (firstN a.toNat)
 rw [t1] at k7
 have gt:=fM (show a.toNat<256 by omega)
 have ft:=fN
 have G1:=gG1
 have G2:=gG2
 have hg0 : ∀ h:0<(a::b::c::r).length,(a::b::c::r)[0]'h=a:=fun _=>rfl
 have f1:(128:Int)≤a.toNat:=by omega
 have h0:0<(a::b::c::r).length:=by simp
 have hI : ¬((a::b::c::r).length:Int)≤0:=by simp;omega
 have h2 : ¬(a::b::c::r).length=0:=by simp
 have w1:IntKind.i64.wrap 3=3:=by decide
 have gg : ∀ h,firstT[a.toNat]'h = .s (.int .u8 (firstN a.toNat:Nat)):=fun h=>(List.getElem?_eq_some_iff.1 gt).2
 clear gt
 have hF:firstN a.toNat/16<16:=by omega
 have aL:accT.length=32:=rfl
 have pf:List.take 2 (List.drop ((((firstN a.toNat:Nat):Int)/16).toNat*2) (List.map LV.p accT))=[.p (.s (.int .u8 (lo:Int))),.p (.s (.int .u8 (hi:Int)))]:=by
  have e1:(((firstN a.toNat:Nat):Int)/16).toNat=firstN a.toNat/16:=by omega
  rw [e1,Nat.mul_comm]
  have hb:2*(firstN a.toNat/16)+1<accL.length:=by rw [show accL.length=32 from rfl];omega
  rw [List.getElem?_eq_getElem (by omega)] at t2 t3
  simp only [Option.some.injEq] at t2 t3
  rw [kY,List.map_map,←List.map_drop,List.drop_eq_getElem_cons (show 2*(firstN a.toNat/16)<accL.length by omega),List.drop_eq_getElem_cons hb,t2,t3]
  rfl
 simp only [Int.cast_ofNat_Int] at k7
 have f2:(3:Int)≤((a::b::c::r).length:Int):=by simp;omega
 have n1:1<(a::b::c::r).length:=by simp
 have n2:3≤(a::b::c::r).length:=by simp
 have hg1 : ∀ h:1<(a::b::c::r).length,(a::b::c::r)[1]'h=b:=fun _=>rfl
 have c1:(lo:Int)≤b.toNat:=by omega
 have c2:(b.toNat:Int)≤hi:=by omega
 have n2':2<(a::b::c::r).length:=by simp
 have hg2 : ∀ h:2<(a::b::c::r).length,(a::b::c::r)[2]'h=c:=fun _=>rfl
 have u2:(128:Int)≤c.toNat:=by have:=bH hc;omega
 have v2:(c.toNat:Int)≤191:=by have:=bH hc;omega
 have x2:=bp (a::b::c::r) 3 (a::b::c::r).length
 rw [List.take_length,show (a::b::c::r).drop 3=r from rfl] at x2
 generalize firstT=FT at*
 generalize accT=AT at*
 generalize a::b::c::r=l at*
 generalize firstN a.toNat=F at*
 clear t1 t2 t3 e
 simp +contextual (maxSteps:=200000) [ir156_1,ssL,↓ssM,aa,ssU,Go.Sx.LV.undef,Go.undef,ssR,sz,hg0,hg1,f1,f2,n1,n2,h0,hI,h2,k7,k4,G1,G2,ft,gg,w1,pf,aL,hF,c1,c2,x2,n2',hg2,u2,v2]
 omega
theorem xJ (H:Heap) (nx:Nat) (a b c d:UInt8) (r:List UInt8) (ha:128≤a.toNat) (lo hi:Nat) (e:acc a.toNat=some (4,lo,hi)) (hlo:lo≤b.toNat) (hhi:b.toNat≤hi) (hc:cont c=true) (hd:cont d=true):
  run ⟨Ω,gG,H,nx⟩ ir156_1 ⟨[(0,.str ⟨(a::b::c::d::r).toArray⟩)],⟨[],[]⟩⟩=some (.normal,⟨[(0,.str ⟨r.toArray⟩)],⟨[],[]⟩⟩):=by
 have h8:=a.toNat_lt
 have sz:=aS (a::b::c::d::r)
 obtain ⟨t1,t2,t3,-,-⟩:=mh (by omega) ha e
 have fl:=hP a.toNat
 have k7:=yv (firstN a.toNat) fl
 have k4:=zG (firstN a.toNat)
 rw [t1] at k7
 have gt:=fM (show a.toNat<256 by omega)
 have ft:=fN
 have G1:=gG1
 have G2:=gG2
 have hg0 : ∀ h:0<(a::b::c::d::r).length,(a::b::c::d::r)[0]'h=a:=fun _=>rfl
 have f1:(128:Int)≤a.toNat:=by omega
 have h0:0<(a::b::c::d::r).length:=by simp
 have hI : ¬((a::b::c::d::r).length:Int)≤0:=by simp;omega
 have h2 : ¬(a::b::c::d::r).length=0:=by simp
 have w1:IntKind.i64.wrap 4=4:=by decide
 have gg : ∀ h,firstT[a.toNat]'h = .s (.int .u8 (firstN a.toNat:Nat)):=fun h=>(List.getElem?_eq_some_iff.1 gt).2
 clear gt
 have hF:firstN a.toNat/16<16:=by omega
 have aL:accT.length=32:=rfl
 have pf:List.take 2 (List.drop ((((firstN a.toNat:Nat):Int)/16).toNat*2) (List.map LV.p accT))=[.p (.s (.int .u8 (lo:Int))),.p (.s (.int .u8 (hi:Int)))]:=by
  have e1:(((firstN a.toNat:Nat):Int)/16).toNat=firstN a.toNat/16:=by omega
  rw [e1,Nat.mul_comm]
  have hb:2*(firstN a.toNat/16)+1<accL.length:=by rw [show accL.length=32 from rfl];omega
  rw [List.getElem?_eq_getElem (by omega)] at t2 t3
  simp only [Option.some.injEq] at t2 t3
  rw [kY,List.map_map,←List.map_drop,List.drop_eq_getElem_cons (show 2*(firstN a.toNat/16)<accL.length by omega),List.drop_eq_getElem_cons hb,t2,t3]
  rfl
 simp only [Int.cast_ofNat_Int] at k7
 have f2:(4:Int)≤((a::b::c::d::r).length:Int):=by simp;omega
 have n1:1<(a::b::c::d::r).length:=by simp
 have n2:4≤(a::b::c::d::r).length:=by simp
 have hg1 : ∀ h:1<(a::b::c::d::r).length,(a::b::c::d::r)[1]'h=b:=fun _=>rfl
 have c1:(lo:Int)≤b.toNat:=by omega
 have c2:(b.toNat:Int)≤hi:=by omega
 have n2':2<(a::b::c::d::r).length:=by simp
 have hg2 : ∀ h:2<(a::b::c::d::r).length,(a::b::c::d::r)[2]'h=c:=fun _=>rfl
 have u2:(128:Int)≤c.toNat:=by have:=bH hc;omega
 have v2:(c.toNat:Int)≤191:=by have:=bH hc;omega
 have n3':3<(a::b::c::d::r).length:=by simp
 have hg3 : ∀ h:3<(a::b::c::d::r).length,(a::b::c::d::r)[3]'h=d:=fun _=>rfl
 have u3:(128:Int)≤d.toNat:=by have:=bH hd;omega
 have v3:(d.toNat:Int)≤191:=by have:=bH hd;omega
 have x2:=bp (a::b::c::d::r) 4 (a::b::c::d::r).length
 rw [List.take_length,show (a::b::c::d::r).drop 4=r from rfl] at x2
 generalize firstT=FT at*
 generalize accT=AT at*
 generalize a::b::c::d::r=l at*
 generalize firstN a.toNat=F at*
 clear t1 t2 t3 e
 simp +contextual (maxSteps:=200000) [ir156_1,ssL,↓ssM,aa,ssU,Go.Sx.LV.undef,Go.undef,ssR,sz,hg0,hg1,f1,f2,n1,n2,h0,hI,h2,k7,k4,G1,G2,ft,gg,w1,pf,aL,hF,c1,c2,x2,n2',hg2,u2,v2,n3',hg3,u3,v3]
 omega
end Go.Proofs.YtoeblkipfdnnlaaGreatDoor
end

section
namespace Go.Proofs.YtoeblkipfdnnlaaGreatDoor
open Go Go.Sx
set_option maxHeartbeats 1000000
theorem gP (H:Heap) (nx:Nat) : ∀ (m:Nat) (l:List UInt8),l.length≤m→good l→l.length<2^29 →
  run ⟨Ω,gG,H,nx⟩ (.loop ir156_1) ⟨[(0,.str ⟨l.toArray⟩)],⟨[],[]⟩⟩=some (.exit 0,⟨[],⟨[],[]⟩⟩)
 | m,[],_,_,_=>vM H nx
 | 0,a::r,hm,_,_=>by simp at hm
 | m+1,a::r,hm,hg,hl=>by
  have hm':r.length≤m:=by simpa using hm
  have hl':r.length<2^29:=by simp at hl;omega
  by_cases ha:a.toNat<128
  ·obtain ⟨j,e,hj⟩:=zO H nx a r ha hl'
   rw [ay,e,aE,aA]
   exact gP H nx m _ (by simp;omega) (kG j r (nf hg ha) hj) (by simp;omega)
  ·obtain ⟨x,k,hs,hk⟩:=ng hg
   have sz:=vy a r ha
   rw [hs] at sz
   simp only [Option.map_some] at sz
   unfold accOk at sz
   cases e:acc a.toNat with
   | none=>rw [e] at sz;cases sz
   | some q=>
    obtain ⟨n,lo,hi⟩:=q
    rw [e] at sz
    simp only at sz
    obtain ⟨-,-,-,n2,n4⟩:=mh a.toNat_lt (by omega) e
    split at sz
    ·rename_i hr
     obtain rfl:k=n:=by simpa using sz
     rcases (by omega:k=2∨k=3∨k=4) with rfl|rfl|rfl
     ·match r,hr with
      | b::r,hr=>
       simp only [restOk,Bool.and_eq_true,decide_eq_true_eq] at hr
       rw [ay,zP H nx a b r (by omega) lo hi e hr.1 hr.2,aE,aA]
       exact gP H nx m r (by simp at hm';omega) hk (by simp at hl';omega)
     ·match r,hr with
      | b::c::r,hr=>
       simp only [restOk,Bool.and_eq_true,decide_eq_true_eq] at hr
       rw [ay,xI H nx a b c r (by omega) lo hi e hr.1.1 hr.1.2 hr.2,aE,aA]
       exact gP H nx m r (by simp at hm';omega) hk (by simp at hl';omega)
     ·match r,hr with
      | b::c::d::r,hr=>
       simp only [restOk,Bool.and_eq_true,decide_eq_true_eq] at hr
       rw [ay,xJ H nx a b c d r (by omega) lo hi e hr.1.1.1 hr.1.1.2 hr.1.2 hr.2,aE,aA]
       exact gP H nx m r (by simp at hm';omega) hk (by simp at hl';omega)
    ·cases sz
theorem zN (l:List UInt8) (h:good l) (hl:l.length<2^29):Ψ 156 [.str ⟨l.toArray⟩] []=some (.bool true):=by
 have lp:=fun H nx=>gP H nx l.length l (Nat.le_refl _) h hl
 refine aU (ir:=ir156) (by kernel_rfl) ?_;simp +contextual (maxSteps:=1000000) [ir156,ssL,↓ssM,aa,ssU,Go.Sx.LV.undef,Go.undef,ssR,lp]
theorem jJ (s:List UInt8) (h:Nam s):Ψ 94 [.p (.agg (fldP s))] []=some (.int .i64 0):=
 w9 s h xF (zN s (nc _ _ h.c) (by have:=h.l;omega))
end Go.Proofs.YtoeblkipfdnnlaaGreatDoor
end

section
namespace Go.Proofs.YtoeblkipfdnnlaaGreatDoor
open Go Go.Sx
set_option maxHeartbeats 1000000
theorem Ao (s:List UInt8) (fl:Bool):Ψ 95 [.p (.sl (fldP s) 1 3 fl)] []=some (.p (.agg [.sl (fldP s) 1 3 false])):=by
 cases fl<;>exact kM (n:=40) (by kernel_rfl)
theorem tt (s:List UInt8) (fl:Bool) (H:Heap) (nx:Nat):Ω 86 [.p (.agg [.sl (fldP s) 1 3 fl])] H nx=some (.int .i64 1,[],[]):=by
 have:=mH fl (some s) H nx
 simpa [bX] using this
theorem yb:Ψ 51 [.p (.s (.slice none 0 0))] []=some (.tuple [.p (.agg [.s (.slice none 0 0)]),.int .i64 0]):=kM (n:=40) (by kernel_rfl)
theorem yd (s:List UInt8) (h:Nam s) (fl:Bool):Ψ 51 [.p (.sl (fldP s) 1 3 fl)] []=some (.tuple [.p (.agg [.sl (fldP s) 1 3 false]),.int .i64 0]):=by
 have m:=Ao s fl
 have n:=jJ s h
 have k:=tt s false
 have w1:IntKind.i64.wrap 1=1:=by decide
 have lp0 : ∀ H nx,run ⟨Ω,gG,H,nx⟩ ir51_0 ⟨[(0,.p (.sl (fldP s) 1 3 fl)),(2,.ref nx 0),(8,.p (.sl (fldP s) 1 3 fl)),(9,.int .i64 1),(10,.int .i64 0)],⟨[],[some (.cells [.p (.s (.slice none 0 0))])]⟩⟩=some (.normal,⟨[(0,.p (.sl (fldP s) 1 3 fl)),(2,.ref nx 0),(8,.p (.sl (fldP s) 1 3 fl)),(9,.int .i64 1),(10,.int .i64 1)],⟨[],[some (.cells [.p (.s (.slice none 0 0))])]⟩⟩):=fun H nx=>by
  simp +contextual (maxSteps:=100000) [ir51_0,ssL,↓ssM,aa,ssU,Go.Sx.LV.undef,Go.undef,ssR,n,w1]
 have lp1 : ∀ H nx,run ⟨Ω,gG,H,nx⟩ ir51_0 ⟨[(0,.p (.sl (fldP s) 1 3 fl)),(2,.ref nx 0),(8,.p (.sl (fldP s) 1 3 fl)),(9,.int .i64 1),(10,.int .i64 1)],⟨[],[some (.cells [.p (.s (.slice none 0 0))])]⟩⟩=some (.exit 0,⟨[(0,.p (.sl (fldP s) 1 3 fl)),(2,.ref nx 0)],⟨[],[some (.cells [.p (.s (.slice none 0 0))])]⟩⟩):=fun H nx=>by
  simp +contextual (maxSteps:=100000) [ir51_0,ssL,↓ssM,aa,ssU,Go.Sx.LV.undef,Go.undef,ssR]
 have lp : ∀ H nx,run ⟨Ω,gG,H,nx⟩ (.loop ir51_0) ⟨[(0,.p (.sl (fldP s) 1 3 fl)),(2,.ref nx 0),(8,.p (.sl (fldP s) 1 3 fl)),(9,.int .i64 1),(10,.int .i64 0)],⟨[],[some (.cells [.p (.s (.slice none 0 0))])]⟩⟩=some (.exit 0,⟨[(0,.p (.sl (fldP s) 1 3 fl)),(2,.ref nx 0)],⟨[],[some (.cells [.p (.s (.slice none 0 0))])]⟩⟩):=fun H nx=>by
  rw [ay,lp0,aE,aA,ay,lp1];rfl
 refine aU (ir:=ir51) (by kernel_rfl) ?_;simp +contextual (maxSteps:=1000000) [ir51,ssL,↓ssM,aa,ssU,Go.Sx.LV.undef,Go.undef,ssR,lp,m,k]
end Go.Proofs.YtoeblkipfdnnlaaGreatDoor
end

section
namespace Go.Proofs.YtoeblkipfdnnlaaGreatDoor
open Go Go.Sx
theorem vH : ∀ (e:Ev),e.norm→e.depth≤16→e.max≤2^20→∀ (H:Heap) (nx:Nat),Ω 25 [.p e.rv] H nx=some (.p e.pv,[],[])
 | .leaf n,_,_,hm,H,nx=>by
  refine av (ir:=ir25) (by kernel_rfl) 0 ?_
  have z:=lu n hm
  rw [Ev.rv_l]
  generalize Ev.leaf n=e at*
  simp [ir25,ssB,ssU,Go.Sx.LV.undef,Go.undef,ssP,appO,z]
 | .node n l r,hn,hd,hm,H,nx=>by
  refine av (ir:=ir25) (by kernel_rfl) 0 ?_
  have hd':(Ev.node n l r).depth=1+Max.max l.depth r.depth:=rfl
  have d1:=Ev.max_l n l r
  have d2:=Ev.max_r n l r
  have m1:=Ev.n_max l
  have m2:=Ev.n_max r
  have e1:=vH l hn.1 (by omega) (by omega)
  have e2:=vH r hn.2.1 (by omega) (by omega)
  have hid:=Ev.mk_id hn
  have her:(Ev.node n l r).err=0:=by
   unfold Ev.err
   rw [if_neg (by omega),if_neg (by omega)]
  have e3:=pE n l r (by have:=Ev.n_max (.node n l r);simp only [Ev.n] at this;omega) (by rw [hid];exact her) (by omega) (by omega) (by rw [hid];omega) (by rw [hid];omega)
  rw [hid] at e3
  obtain ⟨c1,h1⟩:=Ev.rv_imm l
  obtain ⟨c2,h2⟩:=Ev.rv_imm r
  rw [h1] at e1
  rw [h2] at e2
  rw [Ev.rv_n]
  generalize Ev.node n l r=e at*
  simp [ir25,ssB,ssU,Go.Sx.LV.undef,Go.undef,ssP,appO,h1,h2,e1,e2,e3]
end Go.Proofs.YtoeblkipfdnnlaaGreatDoor
end

section
namespace Go.Proofs.YtoeblkipfdnnlaaGreatDoor
open Go Go.Sx
set_option maxHeartbeats 2000000
def wvOf (x:Option (List UInt8)) (s:List UInt8) (gone:Bool):Wv:=⟨(mkEv 4 (x.map (·.take 40))).1,if gone=false∧errR s=0 then some s else none,gone⟩
theorem nQ (s:List UInt8) (hs:s.length≤60) (H:Heap) (nx:Nat):Ω 93 [.p (.agg (fldP s))] H nx=some (.int .i64 (errR s),[],[]):=by
 have h:=u6 s (by omega)
 simp [ssL,↓ssM,aa,ssU,Go.Sx.LV.undef,Go.undef,ssR,h]
theorem AW (x:Option (List UInt8)) (fl:Bool) (s:List UInt8) (gone:Bool) (hs:s.length≤60) (H:Heap) (nx:Nat):
  Ω 50 [.p (obP fl x),.str ⟨s.toArray⟩,.bool gone] H nx=some (.p (.agg (wvOf x s gone).rcs),[],[]):=by
 have rr:=nQ s hs
 have mk : ∀ fl' H nx,Ω 18 [.p (obP fl' (x.map (·.take 40))),.int .i64 4] H nx=_:=fun fl' H nx=>lY 4 (x.map (·.take 40)) fl' (by decide) (fun l' e=>by
  cases x with
  | none=>cases e
  | some l=>obtain rfl:=Option.some.inj e;simp;omega) H nx
 simp only [wvOf,Wv.rcs]
 obtain ⟨cs,hcs⟩:=Ev.rv_imm (mkEv 4 (x.map (·.take 40))).1
 simp only [hcs] at mk ⊢
 generalize hR:(mkEv 4 (x.map (·.take 40))).2=rest at*
 clear hcs hR
 cases x with
 | none=>
  have mk:=mk fl
  simp only [Option.map_none,Aq] at mk ⊢
  generalize obP fl rest=R at*
  cases gone with
  | true=>refine au (ir:=ir50) (by kernel_rfl) ?_;simp +contextual (maxSteps:=1000000) [ir50,ssL,↓ssM,aa,ssU,Go.Sx.LV.undef,Go.undef,ssR,mk,rr,bv]
  | false=>
   by_cases he:errR s=0
   ·rw [he] at rr
    refine au (ir:=ir50) (by kernel_rfl) ?_;simp +contextual (maxSteps:=1000000) [ir50,ssL,↓ssM,aa,ssU,Go.Sx.LV.undef,Go.undef,ssR,mk,rr,bv,bX,he]
   ·have he':=he
    refine au (ir:=ir50) (by kernel_rfl) ?_;simp +contextual (maxSteps:=1000000) [ir50,ssL,↓ssM,aa,ssU,Go.Sx.LV.undef,Go.undef,ssR,mk,rr,bv,he]
 | some l=>
  by_cases h40:l.length≤40
  ·have mk:=mk fl
   have e:l.take 40=l:=List.take_of_length_le h40
   simp only [Option.map_some,kJ,e] at mk ⊢
   have k1:(l.length:Int)≤40:=by omega
   generalize obP fl rest=R at*
   generalize bytP l=P at*
   cases gone with
   | true=>refine au (ir:=ir50) (by kernel_rfl) ?_;simp +contextual (maxSteps:=1000000) [ir50,ssL,↓ssM,aa,ssU,Go.Sx.LV.undef,Go.undef,ssR,mk,rr,bv,k1]
   | false=>
    by_cases he:errR s=0
    ·rw [he] at rr
     refine au (ir:=ir50) (by kernel_rfl) ?_;simp +contextual (maxSteps:=1000000) [ir50,ssL,↓ssM,aa,ssU,Go.Sx.LV.undef,Go.undef,ssR,mk,rr,bv,bX,he,k1]
    ·refine au (ir:=ir50) (by kernel_rfl) ?_;simp +contextual (maxSteps:=1000000) [ir50,ssL,↓ssM,aa,ssU,Go.Sx.LV.undef,Go.undef,ssR,mk,rr,bv,he,k1]
  ·have mk:=mk (fl&&40==l.length)
   have l40:(l.take 40).length=40:=by simp;omega
   have tb:List.take 40 (bytP l)=bytP (l.take 40):=by unfold bytP;rw [List.map_take]
   have lb:(bytP l).length=l.length:=ak l
   simp only [Option.map_some,kJ,l40] at mk ⊢
   have k1 : ¬(l.length:Int)≤40:=by omega
   have k2:40≤l.length:=by omega
   have k3 : ¬40=l.length:=by omega
   generalize obP (fl&&40==l.length) rest=R at*
   generalize bytP (l.take 40)=Q at*
   generalize bytP l=P at*
   cases gone with
   | true=>refine au (ir:=ir50) (by kernel_rfl) ?_;simp +contextual (maxSteps:=1000000) [ir50,ssL,↓ssM,aa,ssU,Go.Sx.LV.undef,Go.undef,ssR,mk,rr,bv,k1,k2,k3,tb,lb]
   | false=>
    by_cases he:errR s=0
    ·rw [he] at rr
     refine au (ir:=ir50) (by kernel_rfl) ?_;simp +contextual (maxSteps:=1000000) [ir50,ssL,↓ssM,aa,ssU,Go.Sx.LV.undef,Go.undef,ssR,mk,rr,bv,bX,he,k1,k2,k3,tb,lb]
    ·refine au (ir:=ir50) (by kernel_rfl) ?_;simp +contextual (maxSteps:=1000000) [ir50,ssL,↓ssM,aa,ssU,Go.Sx.LV.undef,Go.undef,ssR,mk,rr,bv,he,k1,k2,k3,tb,lb]
end Go.Proofs.YtoeblkipfdnnlaaGreatDoor
end

section
namespace Go.Proofs.YtoeblkipfdnnlaaGreatDoor
open Go Go.Sx
set_option maxHeartbeats 2000000
section
variable {H:Heap} {nx:Nat} {I:List PV}
abbrev z4:Ob:=some (.cells [.p (.s (.int .u64 0)),.p (.s (.pointer none)),.p (.s (.slice none 0 0)),.p (.s (.bool false))])
abbrev z3:Ob:=some (.cells [.p (.s (.pointer none)),.p (.s (.slice none 0 0)),.p (.s (.bool false))])
theorem wS:run ⟨Ω,gG,H,nx⟩ (.loop ir17_0) ⟨[(2,.ref nx 0),(3,.ref (nx+1) 0),(4,.p (.imm I 0)),(5,.p (.s (.slice none 0 0))),(23,.p (.s (.slice none 0 0))),(24,.int .i64 0),(25,.int .i64 0)],⟨[],[z4,z3]⟩⟩=
  some (.exit 0,⟨[(2,.ref nx 0),(3,.ref (nx+1) 0),(4,.p (.imm I 0)),(5,.p (.s (.slice none 0 0))),(23,.p (.s (.slice none 0 0))),(24,.int .i64 0),(25,.int .i64 0),(26,.bool false)],⟨[],[z4,z3]⟩⟩):=by
 rw [ay]
 simp +contextual (maxSteps:=1000000) [ir17_0,ssL,↓ssM,aa,ssU,Go.Sx.LV.undef,Go.undef,ssR]
theorem wT (s:List UInt8):run ⟨Ω,gG,H,nx⟩ (.loop ir17_0) ⟨[(2,.ref nx 0),(3,.ref (nx+1) 0),(4,.p (.imm I 0)),(5,.p (.s (.slice none 0 0))),(23,.p (.sl (fldP s) 1 3 true)),(24,.int .i64 1),(25,.int .i64 0)],⟨[],[z4,z3]⟩⟩=
  some (.exit 0,⟨[(2,.ref nx 0),(3,.ref (nx+1) 0),(4,.p (.imm I 0)),(5,.arr (nx+2) 0 1 3 1 false),(23,.p (.sl (fldP s) 1 3 true)),(24,.int .i64 1),(25,.int .i64 1),(26,.bool false)],⟨[],[z4,z3,some (.cells ((fldP s).map .p))]⟩⟩):=by
 have w1:IntKind.i64.wrap 1=1:=by decide
 have e1:run ⟨Ω,gG,H,nx⟩ ir17_0 ⟨[(2,.ref nx 0),(3,.ref (nx+1) 0),(4,.p (.imm I 0)),(5,.p (.s (.slice none 0 0))),(23,.p (.sl (fldP s) 1 3 true)),(24,.int .i64 1),(25,.int .i64 0)],⟨[],[z4,z3]⟩⟩=
   some (.normal,⟨[(2,.ref nx 0),(3,.ref (nx+1) 0),(4,.p (.imm I 0)),(5,.arr (nx+2) 0 1 3 1 false),(23,.p (.sl (fldP s) 1 3 true)),(24,.int .i64 1),(25,.int .i64 1)],⟨[],[z4,z3,some (.cells ((fldP s).map .p))]⟩⟩):=by
  simp +contextual (maxSteps:=1000000) [ir17_0,ssL,↓ssM,aa,ssU,Go.Sx.LV.undef,Go.undef,ssR,w1]
 have e2:run ⟨Ω,gG,H,nx⟩ ir17_0 ⟨[(2,.ref nx 0),(3,.ref (nx+1) 0),(4,.p (.imm I 0)),(5,.arr (nx+2) 0 1 3 1 false),(23,.p (.sl (fldP s) 1 3 true)),(24,.int .i64 1),(25,.int .i64 1)],⟨[],[z4,z3,some (.cells ((fldP s).map .p))]⟩⟩=
   some (.exit 0,⟨[(2,.ref nx 0),(3,.ref (nx+1) 0),(4,.p (.imm I 0)),(5,.arr (nx+2) 0 1 3 1 false),(23,.p (.sl (fldP s) 1 3 true)),(24,.int .i64 1),(25,.int .i64 1),(26,.bool false)],⟨[],[z4,z3,some (.cells ((fldP s).map .p))]⟩⟩):=by
  simp +contextual (maxSteps:=1000000) [ir17_0,ssL,↓ssM,aa,ssU,Go.Sx.LV.undef,Go.undef,ssR,w1]
 rw [ay,e1,aE,aA,ay,e2];rfl
end
abbrev drwP (fl:Bool) (x:Option (List UInt8)) (s:List UInt8) (g:Bool):List PV:=[obP fl x,strP s,.s (.bool g)]
abbrev dv (x:Option (List UInt8)) (s:List UInt8) (g:Bool):Wv:=wvOf x (s.take 60) g
theorem Ap (x:Option (List UInt8)) (fl:Bool) (s:List UInt8) (g:Bool) (hs:s.length<2^63) (H:Heap) (nx:Nat):
  Ω 17 [.p (.agg (drwP fl x s g))] H nx=some (.tuple [.p ((dv x s g).pv false),.p (.agg (dv x s g).rcs)],[],[]):=by
 have mk : ∀ H nx,Ω 50 [.p (obP fl x),.str ⟨(s.take 60).toArray⟩,.bool g] H nx=some (.p (.agg (dv x s g).rcs),[],[]):=AW x fl (s.take 60) g (by simp;omega)
 obtain ⟨o1,o2,o3⟩:=fe 4 (x.map (·.take 40))
 have tr:=vH (mkEv 4 (x.map (·.take 40))).1 o1 (by omega) (by omega)
 have m0:=yb
 have l0:=fun H nx I=>wS (H:=H) (nx:=nx) (I:=I)
 have l1:=fun H nx I=>wT (H:=H) (nx:=nx) (I:=I) (s.take 60)
 have hsz:=aS s
 have hnm : ∀ H nx,(dv x s g).nm=some (s.take 60)→Ω 51 [.p (.sl (fldP (s.take 60)) 1 3 false)] H nx=some (.tuple [.p (.agg [.sl (fldP (s.take 60)) 1 3 false]),.int .i64 0],[],[]):=fun H nx h=>by
  simp only [dv,wvOf] at h
  split at h
  ·rename_i h1
   have m1:=yd (s.take 60) (uA h1.2) false
   simp [ssL,↓ssM,aa,ssU,Go.Sx.LV.undef,Go.undef,ssR,m1]
  ·cases h
 have nms:(dv x s g).nm=none∨(dv x s g).nm=some (s.take 60):=by
  simp only [dv,wvOf];split<;>simp
 have hev:(dv x s g).ev=(mkEv 4 (x.map (·.take 40))).1:=rfl
 have hg:(dv x s g).gone=g:=rfl
 rw [←hev] at tr
 generalize dv x s g=v at*
 clear hev o1 o2 o3
 obtain ⟨ev,nm,gone⟩:=v
 simp only at hg nms hnm tr
 subst hg
 simp only [drwP,Wv.pv,Wv.cells,Wv.rcs,Ev.pv] at mk tr hnm ⊢
 obtain ⟨cs,hcs⟩:=Ev.rv_imm ev
 simp only [hcs] at mk tr ⊢
 generalize ev.ptr=ep at*
 generalize ev.n=en at*
 generalize obP fl x=X at*
 have se:=bp s
 by_cases h60:s.length≤60
 ·have e:s.take 60=s:=List.take_of_length_le h60
  have k1 : ¬(60:Int)<s.length:=by omega
  rw [e] at mk hnm nms l1
  rcases nms with rfl|rfl
  ·simp only [bv] at mk ⊢
   refine au (ir:=ir17) (by kernel_rfl) ?_;simp +contextual (maxSteps:=1000000) [ir17,ssL,↓ssM,aa,ssU,Go.Sx.LV.undef,Go.undef,ssR,mk,tr,m0,l0,hsz,se,k1]
  ·have hnm:=fun H nx=>hnm H nx rfl
   simp only [bX] at mk ⊢
   refine au (ir:=ir17) (by kernel_rfl) ?_;simp +contextual (maxSteps:=1000000) [ir17,ssL,↓ssM,aa,ssU,Go.Sx.LV.undef,Go.undef,ssR,mk,tr,hnm,l1,hsz,se,k1]
 ·have k1:(60:Int)<s.length:=by omega
  have k2:60≤s.length:=by omega
  rcases nms with rfl|rfl
  ·simp only [bv] at mk ⊢
   clear hnm l1
   refine au (ir:=ir17) (by kernel_rfl) ?_;simp +contextual (maxSteps:=1000000) [ir17,ssL,↓ssM,aa,ssU,Go.Sx.LV.undef,Go.undef,ssR,mk,tr,m0,l0,hsz,se,k1,k2]
  ·have hnm:=fun H nx=>hnm H nx rfl
   simp only [bX,fldP,strP] at mk hnm l1 ⊢
   refine au (ir:=ir17) (by kernel_rfl) ?_;simp +contextual (maxSteps:=1000000) [ir17,ssL,↓ssM,aa,ssU,Go.Sx.LV.undef,Go.undef,ssR,mk,tr,hnm,l1,hsz,se,k1,k2]
end Go.Proofs.YtoeblkipfdnnlaaGreatDoor
end

section
namespace Go.Sx
open Go
end Go.Sx
end

section
namespace Go.Proofs.YtoeblkipfdnnlaaGreatDoor
open Go Go.Sx
set_option maxHeartbeats 2000000
structure Dw where
 x:Option (List UInt8)
 s:List UInt8
 g:Bool
abbrev Dw.cells (d:Dw):List PV:=drwP false d.x d.s d.g
abbrev Dw.lv (d:Dw):List LV:=[.p (obP false d.x),.p (strP d.s),.p (.s (.bool d.g))]
abbrev Dw.v (d:Dw):Wv:=dv d.x d.s d.g
section
variable {D:List Dw} {H:Heap} {nx:Nat} {d:Dw}
end
end Go.Proofs.YtoeblkipfdnnlaaGreatDoor
end

section
namespace Go.Proofs.YtoeblkipfdnnlaaGreatDoor
open Go Go.Sx
set_option maxHeartbeats 2000000
structure DwOk (D:List Dw):Prop where
 s : ∀ d∈D,d.s.length<2^63
 l:D.length<2^63
theorem tH (d:Dw) (h:d.s.length<2^63) (H:Heap) (nx:Nat):Ω 17 [.p (.agg d.cells)] H nx=some (.tuple [.p (d.v.pv false),.p (.agg d.v.rcs)],[],[]):=Ap d.x false d.s d.g h H nx
section
variable {D:List Dw} {H:Heap} {nx:Nat}
end
end Go.Proofs.YtoeblkipfdnnlaaGreatDoor
end

section
namespace Go.Proofs.YtoeblkipfdnnlaaGreatDoor
open Go Go.Sx
set_option maxHeartbeats 2000000
theorem xG (v:Wv) (hv:v.Ok) (H:Heap) (nx:Nat):Ω 32 [.p (.agg (v.cells false))] H nx=some (.p (.sl (bytP v.bytes) v.bytes.length 1 false),[],[]):=j5 v false hv H nx
section
variable {L M:List Wv} {H:Heap} {nx:Nat} {x:LV} {fl:Bool}
end
end Go.Proofs.YtoeblkipfdnnlaaGreatDoor
end

section
namespace Go.Proofs.YtoeblkipfdnnlaaGreatDoor
open Go Go.Sx
set_option maxHeartbeats 2000000
section
variable {o:List UInt8} {H:Heap} {nx:Nat} {O S:PV} {c:Int}
end
section
variable {H:Heap} {nx:Nat} {S:PV} {W:List Wv}
end
end Go.Proofs.YtoeblkipfdnnlaaGreatDoor
end

section
namespace Go.Proofs.YtoeblkipfdnnlaaGreatDoor
open Go Go.Sx
theorem rU {p:List UInt8} (h : ¬p=[]):(bytP p)[0]?=some (.s (.int .u8 (p.headD 0).toNat)):=by
 cases p with
 | nil=>exact absurd rfl h
 | cons b r=>rfl
theorem yX {α:Type} (l:List α):1≤l.length ↔ ¬l=[]:=by cases l<;>simp
theorem rV (l:List UInt8):List.take (l.length-1) (bytP l).tail=bytP l.tail:=by
 rw [←List.drop_one,gZ,List.drop_one]
def wByte (p:List UInt8) (e:Int):UInt8 × List UInt8 × Int:=if e=0 then (p.headD 0,p.tail,if p=[] then 6 else 0) else (0,p,e)
theorem yK (fl p e):Φ 75 [.ref 0 0] [wi fl p e]=some (.int .u8 (wByte p e).1.toNat,[wi fl (wByte p e).2.1 (wByte p e).2.2]):=by
 unfold wByte
 by_cases h:e=0<;>by_cases h2:p=[]
 ·have h4:=eq_true h2;refine aP (ir:=ir75) (by kernel_rfl) ?_;simp +contextual (maxSteps:=1000000) [ir75,ssL,↓ssM,aa,ssU,Go.Sx.LV.undef,Go.undef,ssR,cw,ct,h,h4];simp [h2]
 ·refine aP (ir:=ir75) (by kernel_rfl) ?_;simp +contextual (maxSteps:=1000000) [ir75,ssL,↓ssM,aa,ssU,Go.Sx.LV.undef,Go.undef,ssR,cw,ct,rV,ak,yX,-List.length_tail,List.length_pos_iff,rU,h2,h];obtain ⟨b,r,rfl⟩:=List.exists_cons_of_ne_nil h2;simp [bytP]
 ·have h4:=eq_true h2;refine aP (ir:=ir75) (by kernel_rfl) ?_;simp +contextual (maxSteps:=1000000) [ir75,ssL,↓ssM,aa,ssU,Go.Sx.LV.undef,Go.undef,ssR,cw,ct,h,h4]
 ·refine aP (ir:=ir75) (by kernel_rfl) ?_;simp +contextual (maxSteps:=1000000) [ir75,ssL,↓ssM,aa,ssU,Go.Sx.LV.undef,Go.undef,ssR,cw,ct,h,h2]
theorem rq (k:Nat) (p:List UInt8) (fl:Bool):PV.sl (bytP (p.drop k)) (p.length-k) 1 fl = .sl (bytP (p.drop k)) (p.drop k).length 1 fl:=by rw [List.length_drop]
theorem jD (fl:Bool) (p:List UInt8) (h30:p.length<2^31) : ∀ (r:List UInt8) (i n:Nat),p.drop i=r→i≤9→n<2^64→run ⟨Ω,gG,hpL [wi fl p 0],1⟩ (.loop ir103_0) ⟨[(0,.ref 0 0),(3,.int .u64 n),(12,sB fl p),(13,.int .i64 p.length),(14,.int .i64 i)],⟨[],[]⟩⟩=
  match rnum i n r with
  | none=>some (.exit 0,⟨[(0,.ref 0 0)],⟨[],[]⟩⟩)
  | some (v,rest)=>some (.ret,⟨[(2,.int .u64 v)],⟨[(0,wi fl rest 0)],[]⟩⟩)
 | [],i,n,hr,hi,hn=>by
  rw [ay]
  have h1 : ¬i<p.length:=by simpa using hr
  have h2:p.length≤i:=by omega
  simp +contextual (maxSteps:=1000000) [ir103_0,ssL,↓ssM,aa,ssU,Go.Sx.LV.undef,Go.undef,ssR,h1,h2,rnum]
 | b::r,i,n,hr,hi,hn=>by
  rw [ay]
  have h1:i<p.length:=by
   rcases Nat.lt_or_ge i p.length with h|h
   ·exact h
   ·rw [List.drop_of_length_le h] at hr;cases hr
  have h2 : ¬p.length≤i:=by omega
  have hb:p[i]?=some b:=by rw [←List.head?_drop,hr];rfl
  have hg:=bA hb
  have hr':p.drop (i+1)=r:=by rw [←List.drop_drop,hr];rfl
  have a1:IntKind.i64.wrap (7*(i:Int))=7*i:=wrap_i64 _ (by omega) (by omega)
  have a2:=cD (b.toNat%128) (7*i) (by omega)
  rw [show ((7*i:Nat):Int)=7*(i:Int) by omega] at a2
  have a3:=aY (b.toNat%128) (by omega)
  have hlt:=Nat.mod_lt (b.toNat%128*2^(7*i)) (show 0<2^64 by decide)
  have a4:=cy n (b.toNat%128*2^(7*i)%2^64) hn hlt
  have hn':=Nat.or_lt_two_pow hn hlt
  have a5:=tq b
  have a6:IntKind.i64.wrap ((i:Int)+1)=i+1:=wrap_i64 _ (by omega) (by omega)
  have a7:i+1≤p.length:=by omega
  have a8:(0:Int)≤i+1:=by omega
  have c1:(decide ((i:Int)=9)&&!decide ((b.toNat:Int)≤1)||decide (b.toNat=0)&&!decide (i=0))=decide ((i=9∧1<b.toNat)∨(b=0∧0<i)):=by
   have hb0:b=0↔b.toNat=0:=by rw [←UInt8.toNat_inj];rfl
   rw [Bool.eq_iff_iff]
   simp only [Bool.or_eq_true,Bool.and_eq_true,decide_eq_true_eq,Bool.not_eq_true',decide_eq_false_iff_not,hb0]
   omega
  have c2:(!decide ((128:Int)≤b.toNat))=decide (b.toNat<128):=by
   rw [Bool.eq_iff_iff]
   simp only [decide_eq_true_eq,Bool.not_eq_true',decide_eq_false_iff_not]
   omega
  have ih:=fun h=>jD fl p h30 r (i+1) (n ||| (b.toNat%128*2^(7*i))%2^64) hr' h hn'
  rw [rnum]
  generalize n ||| b.toNat%128*2^(7*i)%2^64=n' at*
  generalize b.toNat%128*2^(7*i)%2^64=y at*
  generalize b.toNat%128=z at*
  simp only [Int.natCast_add,Int.natCast_one] at ih
  generalize IRC.loop ir103_0=LB at*
  simp +contextual (maxSteps:=1000000) [ir103_0,ssL,↓ssM,aa,ssU,Go.Sx.LV.undef,Go.undef,ssR,h1,h2,ak,aJ,hg,gZ,rq,hr',-List.length_drop,a1,a2,a3,a4,a5,a6,a7,a8,c1,c2]
  by_cases d1:(i=9∧1<b.toNat)∨(b=0∧0<i)
  ·simp [d1,iteK]
  ·by_cases d2:b.toNat<128
   ·have hlen:p.length-(i+1)=r.length:=by rw [←hr',List.length_drop]
    simp [d1,d2,iteK,hlen]
   ·rw [ih (by omega)]
    simp [d1,d2,iteK]
def wNum (p:List UInt8) (e:Int):Nat × List UInt8 × Int:=if e=0 then (match rnum 0 0 p with
 | none=>(0,p,6)
 | some (v,r)=>(v,r,0)) else (0,p,e)
theorem xW (fl p e) (h30:p.length<2^31):Φ 103 [.ref 0 0] [wi fl p e]=some (.int .u64 (wNum p e).1,[wi fl (wNum p e).2.1 (wNum p e).2.2]):=by
 have hl:=jD fl p h30 p 0 0 rfl (by omega) (by decide)
 simp only [Int.natCast_zero] at hl
 unfold wNum
 by_cases he:e=0
 ·subst he
  cases hr:rnum 0 0 p with
  | none=>rw [hr] at hl;refine aP (ir:=ir103) (by kernel_rfl) ?_;simp +contextual (maxSteps:=1000000) [ir103,ssL,↓ssM,aa,ssU,Go.Sx.LV.undef,Go.undef,ssR,ct,cw,hl]
  | some q=>obtain ⟨v,r⟩:=q;rw [hr] at hl;refine aP (ir:=ir103) (by kernel_rfl) ?_;simp +contextual (maxSteps:=1000000) [ir103,ssL,↓ssM,aa,ssU,Go.Sx.LV.undef,Go.undef,ssR,ct,cw,hl]
 ·refine aP (ir:=ir103) (by kernel_rfl) ?_;simp +contextual (maxSteps:=1000000) [ir103,ssL,↓ssM,aa,ssU,Go.Sx.LV.undef,Go.undef,ssR,ct,he]
theorem rb : ∀ (p:List UInt8) (i n v:Nat) (r:List UInt8),rnum i n p=some (v,r)→r.length<p.length∧(n<2^64→v<2^64)
 | [],i,n,v,r,h=>by cases h
 | b::l,i,n,v,r,h=>by
  have hlt:=Nat.mod_lt (b.toNat%128*2^(7*i)) (show 0<2^64 by decide)
  rw [rnum] at h
  split at h
  ·cases h
  ·split at h
   ·obtain ⟨rfl,rfl⟩:_=v∧_=r:=by simpa using h
    exact ⟨by simp,fun hn=>Nat.or_lt_two_pow hn hlt⟩
   ·have:=rb l _ _ _ _ h
    exact ⟨by simp;omega,fun hn=>this.2 (Nat.or_lt_two_pow hn hlt)⟩
theorem xK (p e):(wNum p e).2.1.length≤p.length∧(wNum p e).1<2^64:=by
 unfold wNum
 split
 ·split
  ·simp
  ·rename_i v r h
   have:=rb _ _ _ _ _ h
   exact ⟨by simp;omega,by simpa using this.2 (by decide)⟩
 ·simp
theorem ts (l:List UInt8):bytesL ((bytP l).map .p)=some l:=by rw [aJ,bW]
def wText (most:Nat) (p:List UInt8) (e:Int):List UInt8 × List UInt8 × Int:=if e=0 then (if (wNum p 0).2.2=0 then (if most<(wNum p 0).1 then ([],p,9) else if (wNum p 0).2.1.length<(wNum p 0).1 then ([],p,6) else ((wNum p 0).2.1.take (wNum p 0).1,(wNum p 0).2.1.drop (wNum p 0).1,0)) else ([],p,(wNum p 0).2.2)) else ([],p,e)
theorem yM (fl) (most:Nat) (p e) (h30:p.length<2^31) (hm:most<2^31):Φ 71 [.ref 0 0,.int .i64 most] [wi fl p e]=some (.str ⟨(wText most p e).1.toArray⟩,[wi fl (wText most p e).2.1 (wText most p e).2.2]):=by
 unfold wText
 by_cases he:e=0
 ·subst he
  have hn:=xW fl p 0 h30
  obtain ⟨hq,h64⟩:=xK p 0
  generalize wNum p 0=x at*
  obtain ⟨n,q,e1⟩:=x
  simp only at hn hq h64 ⊢
  have a1:=aY most (by omega)
  have a3:=Int.natCast_nonneg most
  have a4 : ¬(most:Int)<0:=by omega
  have a2:=aY q.length (by omega)
  by_cases h1:e1=0
  ·subst h1
   by_cases h2:most<n
   ·have h2' : ¬n≤most:=by omega
    refine aP (ir:=ir71) (by kernel_rfl) ?_;simp +contextual (maxSteps:=1000000) [ir71,ssL,↓ssM,aa,ssU,Go.Sx.LV.undef,Go.undef,ssR,ct,cw,hn,a1,a2,a3,a4,h2,h2']
   ·have h2':n≤most:=by omega
    by_cases h3:q.length<n
    ·have h3' : ¬n≤q.length:=by omega
     refine aP (ir:=ir71) (by kernel_rfl) ?_;simp +contextual (maxSteps:=1000000) [ir71,ssL,↓ssM,aa,ssU,Go.Sx.LV.undef,Go.undef,ssR,ct,cw,hn,a1,a2,a3,a4,h2,h2',h3,h3']
    ·have h3':n≤q.length:=by omega
     refine aP (ir:=ir71) (by kernel_rfl) ?_;simp +contextual (maxSteps:=1000000) [ir71,ssL,↓ssM,aa,ssU,Go.Sx.LV.undef,Go.undef,ssR,ct,cw,hn,a1,a2,a3,a4,h2,h2',h3,h3',rX,gZ,ts,ak,rq,-List.length_drop,-List.length_take]
     simp [h3']
  ·refine aP (ir:=ir71) (by kernel_rfl) ?_;simp +contextual (maxSteps:=1000000) [ir71,ssL,↓ssM,aa,ssU,Go.Sx.LV.undef,Go.undef,ssR,ct,cw,hn,a1,a2,a3,a4,h1]
 ·refine aP (ir:=ir71) (by kernel_rfl) ?_;simp +contextual (maxSteps:=1000000) [ir71,ssL,↓ssM,aa,ssU,Go.Sx.LV.undef,Go.undef,ssR,ct,he]
theorem AR (fl p) (h30:p.length<2^31):Φ 70 [sB fl p] []=some (.ref 0 0,[wi p.isEmpty p 0]):=by
 refine aP (ir:=ir70) (by kernel_rfl) ?_;simp +contextual (maxSteps:=1000000) [ir70,ssL,↓ssM,aa,ssU,Go.Sx.LV.undef,Go.undef,ssR,pw p fl h30]
end Go.Proofs.YtoeblkipfdnnlaaGreatDoor
end

section
namespace Go.Proofs.YtoeblkipfdnnlaaGreatDoor
open Go Go.Sx
section number
variable {c:Ctx}
end number
end Go.Proofs.YtoeblkipfdnnlaaGreatDoor
end

section
namespace Go.Proofs.YtoeblkipfdnnlaaGreatDoor
open Go Go.Sx
theorem oL {n x i:Nat} (hn:n<2^i) (hx:x*2^i<2^64):n ||| x*2^i%2^64=n+x*2^i:=by
 rw [Nat.mod_eq_of_lt hx,Nat.or_comm,Nat.mul_comm x,←Nat.two_pow_add_eq_or_of_lt hn,Nat.add_comm]
section
variable {P p:List UInt8}
end
end Go.Proofs.YtoeblkipfdnnlaaGreatDoor
end

section
namespace Go.Proofs.YtoeblkipfdnnlaaGreatDoor
open Go Go.Sx
def bitN (p:List UInt8) (i:Nat):Nat:=(p.getD (i/8) 0).toNat/2^(7-i%8)%2
def getN (p:List UInt8) (i:Nat):Nat→Nat→Nat
 | 0,v=>v
 | k+1,v=>getN p (i+1) k (2*v+bitN p i)
theorem lg (p:List UInt8) (i:Nat):bitN p i<2:=Nat.mod_lt _ (by decide)
theorem zH (x k:Nat) (hk:k≤8):shI .shr .u8 x k=some (.int .u8 (x/2^k:Nat)):=by
 have:shI .shr .u8 (x:Int) k=some (.int .u8 ((x:Int).fdiv (2^(min k 8)))):=by
  simp only [shI]
  rw [if_neg (by omega)]
  rfl
 rw [this,Int.fdiv_eq_ediv_of_nonneg _ (Int.le_of_lt (Int.pow_pos (by decide))),Nat.min_eq_left hk]
 norm_cast
theorem vW (y:Nat):binI .and .u8 y 1=some (.int .u8 (y%2:Nat)):=by
 have:binI .and .u8 (y:Int) 1=some (.int .u8 (IntKind.u8.wrap (BitVec.ofInt 8 (y:Int) &&& BitVec.ofInt 8 1).toNat)):=rfl
 rw [this,BitVec.ofInt_natCast,BitVec.toNat_and,BitVec.toNat_ofNat]
 have e:(BitVec.ofInt 8 1).toNat=1:=by decide
 rw [e,Nat.and_one_is_mod]
 have e2:y%2^8%2=y%2:=by omega
 rw [e2]
 simp [IntKind.wrap,IntKind.signed,IntKind.bits]
 omega
theorem za (a b:Nat) (hb:b<2):2*a ||| b=2*a+b:=by
 have h:=Nat.two_pow_add_eq_or_of_lt (i:=1) (b:=b) (by omega) a
 rw [←h]
def bvA (v:Nat):List Bool→Nat
 | []=>v
 | b::r=>bvA (2*v+b.toNat) r
theorem tp : ∀ (l:List Bool) (v k:Nat),v<2^k→bvA v l<2^(k+l.length)
 | [],v,k,h=>h
 | b::r,v,k,h=>by
  have:=tp r (2*v+b.toNat) (k+1) (by have:=Bool.toNat_lt b;rw [Nat.pow_succ];omega)
  rw [show k+(b::r).length=k+1+r.length by simp;omega]
  exact this
def bitsB (p:List UInt8):List Bool:=(List.range (8*p.length)).map fun i=>bitN p i==1
theorem eU (p):(bitsB p).length=8*p.length:=by simp [bitsB]
theorem rR {p:List UInt8} {i:Nat} (h:i<8*p.length):(bitsB p)[i]?=some (bitN p i==1):=by simp [bitsB,h]
theorem vX (p i):(bitN p i==1).toNat=bitN p i:=by
 have:=lg p i
 rcases (show bitN p i=0∨bitN p i=1 by omega) with h|h<;>rw [h]<;>rfl
theorem pY (p:List UInt8) : ∀ (k n v:Nat),n+k≤8*p.length→getN p n k v=bvA v (((bitsB p).drop n).take k)
 | 0,n,v,h=>by simp [getN,bvA]
 | k+1,n,v,h=>by
  have hg:=rR (p:=p) (i:=n) (by omega)
  obtain ⟨hlt,he⟩:=List.getElem?_eq_some_iff.1 hg
  rw [getN,pY p k (n+1) _ (by omega),List.drop_eq_getElem_cons hlt,List.take_succ_cons,bvA,he,vX]
abbrev brn (fl:Bool) (P:List UInt8) (n:Nat) (e:Int):Ob:=some (.cells [sB fl P,.int .i64 n,.int .i64 e])
theorem eu (fl P n e):Ψ 175 [.ref 0 0] [brn fl P n e]=some (.int .i64 e):=by
 refine aU (ir:=ir175) (by kernel_rfl) ?_;simp +contextual (maxSteps:=1000000) [ir175,ssL,↓ssM,aa,ssU,Go.Sx.LV.undef,Go.undef,ssR]
theorem tn (fl) (P:List UInt8) (n e) (h28:P.length<2^28) (hn:n≤8*P.length):Ψ 176 [.ref 0 0] [brn fl P n e]=some (.int .i64 (8*P.length-n:Nat)):=by
 have w1:IntKind.i64.wrap (8*(P.length:Int))=8*(P.length:Int):=wrap_i64 _ (by omega) (by omega)
 have w2:IntKind.i64.wrap (8*(P.length:Int)-n)=((8*P.length-n:Nat):Int):=by rw [wrap_i64 _ (by omega) (by omega)];omega
 refine aU (ir:=ir176) (by kernel_rfl) ?_;simp +contextual (maxSteps:=1000000) [ir176,ssL,↓ssM,aa,ssU,Go.Sx.LV.undef,Go.undef,ssR,w1,w2]
theorem bJ (fl P n e):Φ 178 [.ref 0 0] [brn fl P n e]=some (.int .u64 0,[brn fl P n (if e=0 then 6 else e)]):=by
 by_cases h:e=0
 all_goals
 refine aP (ir:=ir178) (by kernel_rfl) ?_;simp +contextual (maxSteps:=1000000) [ir178,ssL,↓ssM,aa,ssU,Go.Sx.LV.undef,Go.undef,ssR,h]
theorem oq (fl) (P:List UInt8) (n k j v:Nat) (x0:Ob) (u:Upd) (h28:P.length<2^28) (hn:n<8*P.length) (hk:k≤64) (hj:j<k) (hv:v<2^j) (hu:(u=[]∧x0=brn fl P n 0)∨u=[(0,brn fl P n 0)]):
  run ⟨Ω,gG,hpL [x0],1⟩ ir177_0 ⟨[(0,.ref 0 0),(5,.int .u64 v),(20,.int .i64 k),(21,.int .i64 j)],⟨u,[]⟩⟩=
   some (.normal,⟨[(0,.ref 0 0),(5,.int .u64 (2*v+bitN P n:Nat)),(20,.int .i64 k),(21,.int .i64 (j+1:Nat))],⟨[(0,brn fl P (n+1) 0)],[]⟩⟩):=by
 have hm:n/8<P.length:=by omega
 have q1:binI .quo .i64 (n:Int) 8=some (.int .i64 (n/8:Nat)):=lU .i64 n 8 (by decide) (fun z hz=>wrap_i64 _ (by omega) (by omega))
 have q2:binI .rem .i64 (n:Int) 8=some (.int .i64 (n%8:Nat)):=by
  rw [eS _ _ _ (by decide),Int.tmod_eq_emod_of_nonneg (by omega)]
  norm_cast
 have q3:IntKind.i64.wrap (7-((n%8:Nat):Int))=((7-n%8:Nat):Int):=by rw [wrap_i64 _ (by omega) (by omega)];omega
 have hg:(byt P)[n/8]?=some (.int .u8 (P.getD (n/8) 0).toNat):=by simp [byt,hm]
 have q4:=zH (P.getD (n/8) 0).toNat (7-n%8) (by omega)
 have q5:=vW ((P.getD (n/8) 0).toNat/2^(7-n%8))
 have e0:(P.getD (n/8) 0).toNat/2^(7-n%8)%2=bitN P n:=rfl
 rw [e0] at q5
 have hbl:=lg P n
 have q6:=aY (bitN P n) (by omega)
 have hj2:2^j≤2^63:=Nat.pow_le_pow_right (by decide) (by omega)
 have q7:shI .shl .u64 (v:Int) 1=some (.int .u64 (2*v:Nat)):=by
  rw [show ((1:Int))=((1:Nat):Int) from rfl,cD _ 1 (by decide)]
  congr 3;omega
 have q8:=cy (2*v) (bitN P n) (by omega) (by omega)
 rw [za _ _ hbl] at q8
 have q9:IntKind.i64.wrap ((n:Int)+1)=(n:Int)+1:=wrap_i64 _ (by omega) (by omega)
 have q10:IntKind.i64.wrap ((j:Int)+1)=(j:Int)+1:=wrap_i64 _ (by omega) (by omega)
 have hj' : ¬k≤j:=by omega
 generalize bitN P n=bt at*
 generalize 2*v+bt=v1 at*
 generalize 2*v=v2 at*
 generalize (P.getD (n/8) 0).toNat/2^(7-n%8)=y1 at*
 generalize (P.getD (n/8) 0).toNat=y0 at*
 generalize 7-n%8=d3 at*
 generalize n%8=d2 at*
 generalize n/8=d1 at*
 clear hv
 rcases hu with ⟨rfl,rfl⟩|rfl
 all_goals simp +contextual (maxSteps:=1000000) [ir177_0,ssL,↓ssM,aa,ssU,Go.Sx.LV.undef,Go.undef,ssR,hj',hj,q1,q2,q3,hg,q4,q5,q6,q7,q8,q9,q10,hm,aJ]
theorem ji (fl) (P:List UInt8) (k:Nat) (x0:Ob) (h28:P.length<2^28) (hk:k≤64) : ∀ (t n j v:Nat) (u:Upd),t+j=k→n+t≤8*P.length→v<2^j→((u=[]∧x0=brn fl P n 0)∨u=[(0,brn fl P n 0)]) →
  run ⟨Ω,gG,hpL [x0],1⟩ (.loop ir177_0) ⟨[(0,.ref 0 0),(5,.int .u64 v),(20,.int .i64 k),(21,.int .i64 j)],⟨u,[]⟩⟩=
   some (.exit 0,⟨[(5,.int .u64 (getN P n t v))],⟨if t=0 then u else [(0,brn fl P (n+t) 0)],[]⟩⟩)
 | 0,n,j,v,u,hj,hn,hv,hu=>by
  have h1 : ¬j<k:=by omega
  have h2:k≤j:=by omega
  rw [ay]
  rcases hu with ⟨rfl,rfl⟩|rfl
  all_goals simp +contextual (maxSteps:=1000000) [ir177_0,ssL,↓ssM,aa,ssU,Go.Sx.LV.undef,Go.undef,ssR,h1,h2,getN]
 | t+1,n,j,v,u,hj,hn,hv,hu=>by
  have hb:=lg P n
  rw [ay,oq fl P n k j v x0 u h28 (by omega) hk (by omega) hv hu,aE,aA,
   ji fl P k x0 h28 hk t (n+1) (j+1) _ _ (by omega) (by omega) (by rw [Nat.pow_succ];omega) (.inr rfl),getN,if_neg (by omega : ¬t+1=0),show n+1+t=n+(t+1) by omega]
  cases t<;>simp
def wGet (k:Nat) (b:List Bool) (e:Int):Nat × List Bool × Int:=if e=0 then (if b.length<k then (0,b,6) else (bvA 0 (b.take k),b.drop k,0)) else (0,b,e)
abbrev br (fl:Bool) (P:List UInt8) (b:List Bool) (e:Int):Ob:=brn fl P (8*P.length-b.length) e
theorem mg {P:List UInt8} {b:List Bool} (hb:b <:+ bitsB P):b.length≤8*P.length:=by rw [←eU];exact hb.length_le
theorem vG {P:List UInt8} {b:List Bool} (hb:b <:+ bitsB P):(bitsB P).drop (8*P.length-b.length)=b:=by rw [←eU];exact (List.suffix_iff_eq_drop.1 hb).symm
theorem pt (fl) (P:List UInt8) (k:Nat) (b:List Bool) (e) (h28:P.length<2^28) (hk:k≤64) (hb:b <:+ bitsB P):
  Φ 177 [.ref 0 0,.int .i64 k] [br fl P b e]=some (.int .u64 (wGet k b e).1,[br fl P (wGet k b e).2.1 (wGet k b e).2.2]):=by
 unfold wGet
 have hl:=mg hb
 have hw:=rG k hk
 have lf:=tn fl P (8*P.length-b.length) e h28 (by omega)
 rw [show 8*P.length-(8*P.length-b.length)=b.length by omega] at lf
 by_cases he:e=0
 ·subst he
  by_cases h:b.length<k
  ·have h' : ¬k≤b.length:=by omega
   refine aP (ir:=ir177) (by kernel_rfl) ?_;simp +contextual (maxSteps:=1000000) [ir177,ssL,↓ssM,aa,ssU,Go.Sx.LV.undef,Go.undef,ssR,hw,eu,lf,bJ,h,h']
  ·have h':k≤b.length:=by omega
   have lp:=ji fl P k (br fl P b 0) h28 hk k (8*P.length-b.length) 0 0 [] rfl (by omega) (by decide) (.inl ⟨rfl,rfl⟩)
   rw [pY _ _ _ _ (by omega),vG hb] at lp
   simp only [Int.natCast_zero] at lp
   rw [if_neg h]
   have e1:8*P.length-(b.drop k).length=8*P.length-b.length+k:=by rw [List.length_drop];omega
   have e2:br fl P (b.drop k) 0=brn fl P (8*P.length-b.length+k) 0:=by rw [←e1]
   simp only [e2]
   by_cases hk0:k=0
   ·rw [if_pos hk0] at lp
    refine aP (ir:=ir177) (by kernel_rfl) ?_;simp +contextual (maxSteps:=1000000) [ir177,ssL,↓ssM,aa,ssU,Go.Sx.LV.undef,Go.undef,ssR,hw,eu,lf,h,h',lp];omega
   ·rw [if_neg hk0] at lp
    refine aP (ir:=ir177) (by kernel_rfl) ?_;simp +contextual (maxSteps:=1000000) [ir177,ssL,↓ssM,aa,ssU,Go.Sx.LV.undef,Go.undef,ssR,hw,eu,lf,bJ,h,h',lp];omega
 ·by_cases h:b.length<k
  all_goals
  refine aP (ir:=ir177) (by kernel_rfl) ?_;simp +contextual (maxSteps:=1000000) [ir177,ssL,↓ssM,aa,ssU,Go.Sx.LV.undef,Go.undef,ssR,hw,eu,lf,bJ,he,h]
end Go.Proofs.YtoeblkipfdnnlaaGreatDoor
end

section
namespace Go.Proofs.YtoeblkipfdnnlaaGreatDoor
open Go Go.Sx
def boP (l:List Bool):List PV:=l.map fun b=>.s (.bool b)
abbrev bS (fl:Bool) (l:List Bool):LV:=.p (.sl (boP l) l.length 1 fl)
abbrev rr (fl:Bool) (l:List Bool) (e:Int):Ob:=some (.cells [bS fl l,.int .i64 e])
theorem mA : ∀ (b:List Bool) (v:Nat),bvA v b=0↔v=0∧b.any id=false
 | [],v=>by simp [bvA]
 | x::r,v=>by
  rw [bvA,mA r]
  cases x<;>simp<;>omega
def wEnd (b:List Bool) (e:Int):Int:=if e=0 then (if 8≤b.length∨b.any id=true then 6 else 0) else e
theorem zV (fl) (P:List UInt8) (b:List Bool) (e) (h28:P.length<2^28) (hb:b <:+ bitsB P):Φ 142 [.ref 0 0] [br fl P b e]=some (.int .i64 (wEnd b e),[br fl P b (wEnd b e)]):=by
 unfold wEnd
 have hl:=mg hb
 have lf:=tn fl P (8*P.length-b.length) e h28 (by omega)
 rw [show 8*P.length-(8*P.length-b.length)=b.length by omega] at lf
 by_cases he:e=0
 ·subst he
  by_cases h:8≤b.length
  ·have h' : ¬b.length<8:=by omega
   have h2:(8:Int)≤b.length:=by omega
   refine aP (ir:=ir142) (by kernel_rfl) ?_;simp +contextual (maxSteps:=1000000) [ir142,ssL,↓ssM,aa,ssU,Go.Sx.LV.undef,Go.undef,ssR,eu,lf,bJ,h,h',h2]
  ·have h':b.length<8:=by omega
   have h2 : ¬(8:Int)≤b.length:=by omega
   have g:=pt fl P b.length b 0 h28 (by omega) hb
   unfold wGet at g
   simp only [if_true,Nat.lt_irrefl,if_false,List.take_length] at g
   have hz:=mA b 0
   simp only [true_and] at hz
   generalize bvA 0 b=v at*
   cases ha:b.any id with
   | false=>
    have hv:v=0:=hz.2 ha
    subst hv
    refine aP (ir:=ir142) (by kernel_rfl) ?_;simp +contextual (maxSteps:=1000000) [ir142,ssL,↓ssM,aa,ssU,Go.Sx.LV.undef,Go.undef,ssR,eu,lf,bJ,h,h',h2,g]
   | true=>
    have hv : ¬v=0:=fun e=>by rw [hz.1 e] at ha;cases ha
    refine aP (ir:=ir142) (by kernel_rfl) ?_;simp +contextual (maxSteps:=1000000) [ir142,ssL,↓ssM,aa,ssU,Go.Sx.LV.undef,Go.undef,ssR,eu,lf,bJ,h,h',h2,g,hv]
 ·refine aP (ir:=ir142) (by kernel_rfl) ?_;simp +contextual (maxSteps:=1000000) [ir142,ssL,↓ssM,aa,ssU,Go.Sx.LV.undef,Go.undef,ssR,eu,lf,bJ,he]
end Go.Proofs.YtoeblkipfdnnlaaGreatDoor
end

section
namespace Go.Proofs.YtoeblkipfdnnlaaGreatDoor
open Go Go.Sx
def numF (w base:Nat) (r:List Bool):Option (Nat × List Bool):=if r.length<w then none else if 2^64≤base+bvA 0 (r.take w) then none else some (base+bvA 0 (r.take w),r.drop w)
def numR:Nat→Nat→Nat→List Bool→Option (Nat × List Bool)
 | _,_,_,[]=>none
 | _,w,base,false::r=>numF w base r
 | 0,_,_,true::_=>none
 | m+1,w,base,true::r=>numR m (w+1) (base+2^w) r
theorem nC : ∀ (b:List Bool) (m w base v:Nat) (r:List Bool),numR m w base b=some (v,r)→r <:+ b∧v<2^64
 | [],m,w,base,v,r,h=>by cases m<;>cases h
 | false::b,m,w,base,v,r,h=>by
  have h':numF w base b=some (v,r):=by cases m<;>exact h
  unfold numF at h'
  split at h'
  ·cases h'
  ·split at h'
   ·cases h'
   ·obtain ⟨rfl,rfl⟩:_=v∧_=r:=by simpa using h'
    exact ⟨(List.drop_suffix _ _).trans (List.suffix_cons _ _),by omega⟩
 | true::b,0,w,base,v,r,h=>by cases h
 | true::b,m+1,w,base,v,r,h=>by
  have:=nC b m _ _ _ _ h
  exact ⟨this.1.trans (List.suffix_cons _ _),this.2⟩
def wBNum (b:List Bool) (e:Int):Nat × List Bool × Int:=if e=0 then (match numR 62 2 0 b with
 | none=>(0,b,6)
 | some (v,r)=>(v,r,0)) else (0,b,e)
theorem vA (w:Nat) (hw:w<64):shI .shl .u64 1 w=some (.int .u64 (2^w:Nat)):=by
 rw [show (1:Int)=((1:Nat):Int) from rfl,cD 1 w (by omega),Nat.one_mul,Nat.mod_eq_of_lt (Nat.pow_lt_pow_right (by decide) hw)]
def scB:IRC→IRC
 | .scope _ _ b=>b
 | .seq _ b=>scB b
 | c=>c
theorem ci (fl) (P:List UInt8) (k:Nat) (b:List Bool) (e:Int) (v:Nat) (b':List Bool) (e':Int) (h28:P.length<2^28) (hk:k≤64) (hb:b <:+ bitsB P) (hw:wGet k b e=(v,b',e')):
  Φ 177 [.ref 0 0,.int .i64 k] [brn fl P (8*P.length-b.length) e]=some (.int .u64 v,[brn fl P (8*P.length-b'.length) e']):=by
 have:=pt fl P k b e h28 hk hb
 rwa [hw] at this
theorem oh (k:Nat) (hk:0<k):wGet k [] 0=(0,[],6):=by simp [wGet,hk]
theorem cq (x:Bool) (r:List Bool):wGet 1 (x::r) 0=(x.toNat,r,0):=by simp [wGet,bvA]
theorem pe (k:Nat) (b:List Bool):wGet k b 6=(0,b,6):=by simp [wGet]
set_option maxHeartbeats 1000000 in
theorem jk (fl) (P:List UInt8) (n0:Nat) (x0:Ob) (h28:P.length<2^28) : ∀ (b:List Bool) (m w base:Nat) (u:Upd) (xs:Env),m+1+w=64→2≤w→base+4=2^w→b <:+ bitsB P→((u=[]∧x0=br fl P b 0)∨u=[(0,br fl P b 0)]) →
  run ⟨Ω,gG,hpL [x0],1⟩ (.scope .skip 0 (scB ir208.body)) ⟨(0,.ref 0 0)::(3,.int .i64 n0)::(4,.int .i64 w)::(5,.int .u64 base)::xs,⟨u,[]⟩⟩=
   (match numR (m+1) w base b with
   | none=>some (.ret,⟨[(2,.int .u64 0)],⟨[(0,brn fl P n0 6)],[]⟩⟩)
   | some (v,r)=>some (.ret,⟨[(2,.int .u64 v)],⟨[(0,br fl P r 0)],[]⟩⟩))
 | [],m,w,base,u,xs,hm,hw,hba,hb,hu=>by
  have g1:=ci fl P 1 [] 0 0 [] 6 h28 (by decide) hb (oh 1 (by decide))
  have g2:=ci fl P w [] 6 0 [] 6 h28 (by omega) hb (pe w [])
  simp only [Int.natCast_one,Int.natCast_zero] at g1 g2
  rw [gI]
  unfold br at hu
  generalize 8*P.length-([]:List Bool).length=N at*
  rcases hu with ⟨rfl,rfl⟩|rfl
  all_goals simp +contextual (maxSteps:=1000000) [ir208,scB,ssL,↓ssM,aa,ssU,Go.Sx.LV.undef,Go.undef,ssR,g1,g2,bJ,gotK,numR]
 | false::r,m,w,base,u,xs,hm,hw,hba,hb,hu=>by
  have hr:r <:+ bitsB P:=(List.suffix_cons _ _).trans hb
  have hl:=mg hr
  have g1:=ci fl P 1 (false::r) 0 0 r 0 h28 (by decide) hb (cq false r)
  simp only [Int.natCast_one,Int.natCast_zero] at g1
  have hwl:2^w≤2^63:=Nat.pow_le_pow_right (by decide) (by omega)
  have a1:IntKind.u64.wrap (18446744073709551615-(base:Int))=((18446744073709551615-base:Nat):Int):=by rw [show (18446744073709551615:Int)-base=((18446744073709551615-base:Nat):Int) by omega,aY _ (by omega)]
  rw [gI]
  unfold br at hu
  generalize hN:8*P.length-(false::r).length=N at*
  by_cases h1:r.length<w
  ·have g2:=ci fl P w r 0 0 r 6 h28 (by omega) hr (by simp [wGet,h1])
   simp only [Int.natCast_zero] at g2
   generalize hN1:8*P.length-r.length=N1 at*
   rcases hu with ⟨rfl,rfl⟩|rfl
   all_goals simp +contextual (maxSteps:=1000000) [ir208,scB,ssL,↓ssM,aa,ssU,Go.Sx.LV.undef,Go.undef,ssR,g1,g2,bJ,gotK,numR,numF,h1]
  ·have g2:=ci fl P w r 0 (bvA 0 (r.take w)) (r.drop w) 0 h28 (by omega) hr (by simp [wGet,h1])
   have hv:=tp (r.take w) 0 0 (by decide)
   have hv2:bvA 0 (r.take w)<2^64:=Nat.lt_of_lt_of_le hv (Nat.pow_le_pow_right (by decide) (by rw [List.length_take];omega))
   generalize hN1:8*P.length-r.length=N1 at*
   unfold br
   by_cases h2:2^64≤base+bvA 0 (r.take w)
   ·have h3 : ¬bvA 0 (r.take w)≤18446744073709551615-base:=by omega
    have e:numR (m+1) w base (false::r)=none:=by simp only [numR,numF,if_neg h1,if_pos h2]
    rw [e]
    generalize bvA 0 (r.take w)=v at*
    generalize 8*P.length-(r.drop w).length=N2 at*
    generalize 18446744073709551615-base=bb at*
    rcases hu with ⟨rfl,rfl⟩|rfl
    all_goals simp +contextual (maxSteps:=1000000) [ir208,scB,ssL,↓ssM,aa,ssU,Go.Sx.LV.undef,Go.undef,ssR,g1,g2,bJ,gotK,a1,h3]
   ·have h3:bvA 0 (r.take w)≤18446744073709551615-base:=by omega
    have e:numR (m+1) w base (false::r)=some (base+bvA 0 (r.take w),r.drop w):=by simp only [numR,numF,if_neg h1,if_neg h2]
    have a2:IntKind.u64.wrap ((base:Int)+(bvA 0 (r.take w):Int))=((base+bvA 0 (r.take w):Nat):Int):=by rw [show (base:Int)+(bvA 0 (r.take w):Int)=((base+bvA 0 (r.take w):Nat):Int) by omega,aY _ (by omega)]
    rw [e]
    simp only []
    generalize base+bvA 0 (r.take w)=v' at*
    generalize bvA 0 (r.take w)=v at*
    generalize 8*P.length-(r.drop w).length=N2 at*
    generalize 18446744073709551615-base=bb at*
    rcases hu with ⟨rfl,rfl⟩|rfl
    all_goals simp +contextual (maxSteps:=1000000) [ir208,scB,ssL,↓ssM,aa,ssU,Go.Sx.LV.undef,Go.undef,ssR,g1,g2,bJ,gotK,a1,a2,h3]
 | true::r,m,w,base,u,xs,hm,hw,hba,hb,hu=>by
  have hr:r <:+ bitsB P:=(List.suffix_cons _ _).trans hb
  have g1:=ci fl P 1 (true::r) 0 1 r 0 h28 (by decide) hb (cq true r)
  simp only [Int.natCast_one,Int.natCast_zero] at g1
  have hwl:2^w≤2^63:=Nat.pow_le_pow_right (by decide) (by omega)
  have a1:=vA w (by omega)
  have a2:IntKind.u64.wrap ((base:Int)+((2^w:Nat):Int))=((base+2^w:Nat):Int):=by rw [show (base:Int)+((2^w:Nat):Int)=((base+2^w:Nat):Int) by omega,aY _ (by omega)]
  have a3:IntKind.i64.wrap ((w:Int)+1)=(w:Int)+1:=wrap_i64 _ (by omega) (by omega)
  have hb':base+2^w+4=2^(w+1):=by rw [Nat.pow_succ];omega
  rw [gI]
  cases m with
  | succ m=>
   have h1:(w:Int)+1<64:=by omega
   have h1' : ¬(64:Int)≤(w:Int)+1:=by omega
   have ih:=jk fl P n0 x0 h28 r m (w+1) (base+2^w) [(0,br fl P r 0)] [] (by omega) (by omega) hb' hr (.inr rfl)
   rw [show ((w+1:Nat):Int)=(w:Int)+1 by omega] at ih
   rw [show numR (m+1+1) w base (true::r)=numR (m+1) (w+1) (base+2^w) r from rfl,←ih]
   clear ih
   unfold br at hu ⊢
   generalize hN:8*P.length-(true::r).length=N at*
   generalize hN1:8*P.length-r.length=N1 at*
   generalize base+2^w=base' at*
   generalize hw2:2^w=w2 at*
   generalize hLB:IRC.scope .skip 0 (scB ir208.body)=LB
   rcases hu with ⟨rfl,rfl⟩|rfl
   all_goals simp +contextual (maxSteps:=1000000) [ir208,scB,ssL,↓ssM,aa,ssU,Go.Sx.LV.undef,Go.undef,ssR,g1,gotK,a1,a2,a3,h1,h1']
  | zero=>
   obtain rfl:w=63:=by omega
   obtain rfl:base=9223372036854775804:=by omega
   have a1':shI .shl .u64 1 63=some (.int .u64 9223372036854775808):=rfl
   have a2':IntKind.u64.wrap 18446744073709551612=18446744073709551612:=rfl
   have a4:IntKind.u64.wrap 3=3:=rfl
   have a5:IntKind.i64.wrap 64=64:=rfl
   rw [show numR (0+1) 63 9223372036854775804 (true::r)=numR 0 64 18446744073709551612 r from rfl]
   unfold br at hu ⊢
   generalize hN:8*P.length-(true::r).length=N at*
   cases r with
   | nil=>
    have g2:=ci fl P 1 [] 0 0 [] 6 h28 (by decide) hr (oh 1 (by decide))
    have g3:=ci fl P 64 [] 6 0 [] 6 h28 (by decide) hr (pe 64 [])
    simp only [Int.natCast_one,Int.natCast_zero,Int.cast_ofNat_Int] at g2 g3
    generalize hN1:8*P.length-([]:List Bool).length=N1 at*
    rcases hu with ⟨rfl,rfl⟩|rfl
    all_goals simp +contextual (maxSteps:=1000000) [ir208,scB,ssL,↓ssM,aa,ssU,Go.Sx.LV.undef,Go.undef,ssR,g1,g2,g3,bJ,gotK,numR,a1',a2',a4,a5]
   | cons x r2=>
    have hr2:r2 <:+ bitsB P:=(List.suffix_cons _ _).trans hr
    have g2:=ci fl P 1 (x::r2) 0 x.toNat r2 0 h28 (by decide) hr (cq x r2)
    cases x with
    | true=>
     have g3:=ci fl P 64 r2 6 0 r2 6 h28 (by decide) hr2 (pe 64 r2)
     simp only [Int.natCast_one,Int.natCast_zero,Int.cast_ofNat_Int,Bool.toNat_true] at g2 g3
     generalize hN1:8*P.length-(true::r2).length=N1 at*
     generalize hN2:8*P.length-r2.length=N2 at*
     rcases hu with ⟨rfl,rfl⟩|rfl
     all_goals simp +contextual (maxSteps:=1000000) [ir208,scB,ssL,↓ssM,aa,ssU,Go.Sx.LV.undef,Go.undef,ssR,g1,g2,g3,bJ,gotK,numR,a1',a2',a4,a5]
    | false=>
     simp only [Int.natCast_one,Int.natCast_zero,Bool.toNat_false] at g2
     rw [show numR 0 64 18446744073709551612 (false::r2)=numF 64 18446744073709551612 r2 from rfl]
     generalize hN1:8*P.length-(false::r2).length=N1 at*
     generalize hN2:8*P.length-r2.length=N2 at*
     by_cases h1:r2.length<64
     ·have g3:=ci fl P 64 r2 0 0 r2 6 h28 (by decide) hr2 (by simp [wGet,h1])
      simp only [Int.natCast_zero,Int.cast_ofNat_Int,hN2] at g3
      rcases hu with ⟨rfl,rfl⟩|rfl
      all_goals simp +contextual (maxSteps:=1000000) [ir208,scB,ssL,↓ssM,aa,ssU,Go.Sx.LV.undef,Go.undef,ssR,g1,g2,g3,bJ,gotK,numF,h1,a1',a2',a4,a5]
     ·have g3:=ci fl P 64 r2 0 (bvA 0 (r2.take 64)) (r2.drop 64) 0 h28 (by decide) hr2 (by simp [wGet,h1])
      simp only [Int.cast_ofNat_Int,hN2] at g3
      by_cases h2:2^64≤18446744073709551612+bvA 0 (r2.take 64)
      ·have h3 : ¬(bvA 0 (r2.take 64):Int)≤3:=by omega
       rw [show numF 64 18446744073709551612 r2=none by simp only [numF,if_neg h1,if_pos h2]]
       generalize bvA 0 (r2.take 64)=v at*
       generalize 8*P.length-(r2.drop 64).length=N3 at*
       rcases hu with ⟨rfl,rfl⟩|rfl
       all_goals simp +contextual (maxSteps:=1000000) [ir208,scB,ssL,↓ssM,aa,ssU,Go.Sx.LV.undef,Go.undef,ssR,g1,g2,g3,bJ,gotK,a1',a2',a4,a5,h3]
      ·have h3:(bvA 0 (r2.take 64):Int)≤3:=by omega
       have a6:IntKind.u64.wrap (18446744073709551612+(bvA 0 (r2.take 64):Int))=((18446744073709551612+bvA 0 (r2.take 64):Nat):Int):=by rw [show (18446744073709551612:Int)+(bvA 0 (r2.take 64):Int)=((18446744073709551612+bvA 0 (r2.take 64):Nat):Int) by omega,aY _ (by omega)]
       rw [show numF 64 18446744073709551612 r2=some (18446744073709551612+bvA 0 (r2.take 64),r2.drop 64) by simp only [numF,if_neg h1,if_neg h2]]
       simp only []
       generalize 18446744073709551612+bvA 0 (r2.take 64)=v' at*
       generalize bvA 0 (r2.take 64)=v at*
       generalize 8*P.length-(r2.drop 64).length=N3 at*
       rcases hu with ⟨rfl,rfl⟩|rfl
       all_goals simp +contextual (maxSteps:=1000000) [ir208,scB,ssL,↓ssM,aa,ssU,Go.Sx.LV.undef,Go.undef,ssR,g1,g2,g3,bJ,gotK,a1',a2',a4,a5,a6,h3]
theorem zX (fl) (P:List UInt8) (b:List Bool) (e) (h28:P.length<2^28) (hb:b <:+ bitsB P):Φ 208 [.ref 0 0] [br fl P b e]=some (.int .u64 (wBNum b e).1,[br fl P (wBNum b e).2.1 (wBNum b e).2.2]):=by
 unfold wBNum
 by_cases he:e=0
 ·subst he
  have lp:=jk fl P (8*P.length-b.length) (br fl P b 0) h28 b 61 2 0 [] [] rfl (by decide) (by decide) hb (.inl ⟨rfl,rfl⟩)
  simp only [Int.natCast_zero,Int.cast_ofNat_Int,ir208,scB] at lp
  cases hr:numR 62 2 0 b with
  | none=>
   rw [hr] at lp
   refine aP (ir:=ir208) (by kernel_rfl) ?_;simp +contextual (maxSteps:=1000000) [ir208,ssL,↓ssM,aa,ssU,Go.Sx.LV.undef,Go.undef,ssR,ik,scoK,lp]
  | some q=>
   obtain ⟨v,r⟩:=q
   rw [hr] at lp
   refine aP (ir:=ir208) (by kernel_rfl) ?_;simp +contextual (maxSteps:=1000000) [ir208,ssL,↓ssM,aa,ssU,Go.Sx.LV.undef,Go.undef,ssR,ik,scoK,lp]
 ·have g:=pt fl P 1 b e h28 (by decide) hb
  have g2:=pt fl P 2 b e h28 (by decide) hb
  unfold wGet at g g2
  simp only [if_neg he,Int.natCast_one,Int.natCast_zero,Int.cast_ofNat_Int] at g g2
  have lp:run ⟨Ω,gG,hpL [br fl P b e],1⟩ (.scope .skip 0 (scB ir208.body)) ⟨[(0,.ref 0 0),(3,.int .i64 (8*P.length-b.length:Nat)),(4,.int .i64 2),(5,.int .u64 0)],⟨[],[]⟩⟩=some (.ret,⟨[(2,.int .u64 0)],⟨[(0,br fl P b e)],[]⟩⟩):=by
   rw [gI]
   simp +contextual (maxSteps:=1000000) [ir208,scB,ssL,↓ssM,aa,ssU,Go.Sx.LV.undef,Go.undef,ssR,gotK,g,g2,bJ,he]
  simp only [ir208,scB] at lp
  refine aP (ir:=ir208) (by kernel_rfl) ?_;simp +contextual (maxSteps:=1000000) [ir208,ssL,↓ssM,aa,ssU,Go.Sx.LV.undef,Go.undef,ssR,ik,scoK,lp]
  simp [he]
end Go.Proofs.YtoeblkipfdnnlaaGreatDoor
end

section
namespace Go.Proofs.YtoeblkipfdnnlaaGreatDoor
open Go Go.Sx
end Go.Proofs.YtoeblkipfdnnlaaGreatDoor
end

section
namespace Go.Proofs.YtoeblkipfdnnlaaGreatDoor
open Go Go.Sx
abbrev so (se:Int):Ob:=some (.cells [.ref 1 0,.int .i64 se])
theorem bw (fl P n e k se):Φ 171 [.ref 0 0,.int .i64 k] [so se,brn fl P n e]=some (.tuple [],[so (if se=0 then k else se),brn fl P n e]):=by
 by_cases h:se=0
 all_goals
 refine aP (ir:=ir171) (by kernel_rfl) ?_;simp +contextual (maxSteps:=1000000) [ir171,ssL,↓ssM,aa,ssU,Go.Sx.LV.undef,Go.undef,ssR,h]
theorem gK (fl P n):Φ 173 [.ref 0 0] [so 0,brn fl P n 0]=some (.bool true,[so 0,brn fl P n 0]):=by
 refine aP (ir:=ir173) (by kernel_rfl) ?_;simp +contextual (maxSteps:=1000000) [ir173,ssL,↓ssM,aa,ssU,Go.Sx.LV.undef,Go.undef,ssR,eu,bw]
theorem rx (fl P n):Φ 173 [.ref 0 0] [so 0,brn fl P n 6]=some (.bool false,[so 6,brn fl P n 6]):=by
 refine aP (ir:=ir173) (by kernel_rfl) ?_;simp +contextual (maxSteps:=1000000) [ir173,ssL,↓ssM,aa,ssU,Go.Sx.LV.undef,Go.undef,ssR,eu,bw]
theorem es (fl P n e se) (h:se≠0):Φ 173 [.ref 0 0] [so se,brn fl P n e]=some (.bool false,[so se,brn fl P n e]):=by
 by_cases he:e=0
 all_goals
 refine aP (ir:=ir173) (by kernel_rfl) ?_;simp +contextual (maxSteps:=1000000) [ir173,ssL,↓ssM,aa,ssU,Go.Sx.LV.undef,Go.undef,ssR,eu,bw,h,he]
theorem bD (fl P n e se) (x:Bool):Φ 172 [.ref 0 0,.bool x] [so se,brn fl P n e]=some (.tuple [],[so (if x=true then se else if se=0 then 6 else se),brn fl P n e]):=by
 cases x
 all_goals
 refine aP (ir:=ir172) (by kernel_rfl) ?_;simp +contextual (maxSteps:=1000000) [ir172,ssL,↓ssM,aa,ssU,Go.Sx.LV.undef,Go.undef,ssR,bw]
theorem dM (fl) (P:List UInt8) (k:Nat) (b:List Bool) (v:Nat) (b':List Bool) (h28:P.length<2^28) (hk:k≤64) (hb:b <:+ bitsB P) (hw:wGet k b 0=(v,b',0)):
  Φ 169 [.ref 0 0,.int .i64 k] [so 0,brn fl P (8*P.length-b.length) 0]=some (.int .u64 v,[so 0,brn fl P (8*P.length-b'.length) 0]):=by
 have g:=ci fl P k b 0 v b' 0 h28 hk hb hw
 refine aP (ir:=ir169) (by kernel_rfl) ?_;simp +contextual (maxSteps:=1000000) [ir169,ssL,↓ssM,aa,ssU,Go.Sx.LV.undef,Go.undef,ssR,gK,g]
theorem jY (fl) (P:List UInt8) (k:Nat) (b:List Bool) (h28:P.length<2^28) (hk:k≤64) (hb:b <:+ bitsB P) (hw:b.length<k):
  Φ 169 [.ref 0 0,.int .i64 k] [so 0,brn fl P (8*P.length-b.length) 0]=some (.int .u64 0,[so 6,brn fl P (8*P.length-b.length) 6]):=by
 have g:=ci fl P k b 0 0 b 6 h28 hk hb (by simp [wGet,hw])
 refine aP (ir:=ir169) (by kernel_rfl) ?_;simp +contextual (maxSteps:=1000000) [ir169,ssL,↓ssM,aa,ssU,Go.Sx.LV.undef,Go.undef,ssR,gK,rx,g]
theorem il (fl P n e se k) (h:se≠0):Φ 169 [.ref 0 0,.int .i64 k] [so se,brn fl P n e]=some (.int .u64 0,[so se,brn fl P n e]):=by
 refine aP (ir:=ir169) (by kernel_rfl) ?_;simp +contextual (maxSteps:=1000000) [ir169,ssL,↓ssM,aa,ssU,Go.Sx.LV.undef,Go.undef,ssR,es,h]
theorem vE (fl P n e se) (h:se≠0):Φ 170 [.ref 0 0] [so se,brn fl P n e]=some (.int .u64 0,[so se,brn fl P n e]):=by
 refine aP (ir:=ir170) (by kernel_rfl) ?_;simp +contextual (maxSteps:=1000000) [ir170,ssL,↓ssM,aa,ssU,Go.Sx.LV.undef,Go.undef,ssR,es,h]
theorem vD (fl) (P:List UInt8) (b:List Bool) (h28:P.length<2^28) (hb:b <:+ bitsB P):
  Φ 170 [.ref 0 0] [so 0,brn fl P (8*P.length-b.length) 0]=(match numR 62 2 0 b with
  | none=>some (.int .u64 0,[so 6,brn fl P (8*P.length-b.length) 6])
  | some (v,r)=>if v≤2^20 then some (.int .u64 v,[so 0,brn fl P (8*P.length-r.length) 0]) else some (.int .u64 v,[so 4,brn fl P (8*P.length-r.length) 0])):=by
 have g:=zX fl P b 0 h28 hb
 unfold wBNum at g
 simp only [if_true] at g
 cases hr:numR 62 2 0 b with
 | none=>
  rw [hr] at g
  refine aP (ir:=ir170) (by kernel_rfl) ?_;simp +contextual (maxSteps:=1000000) [ir170,ssL,↓ssM,aa,ssU,Go.Sx.LV.undef,Go.undef,ssR,gK,rx,g]
 | some q=>
  obtain ⟨v,r⟩:=q
  rw [hr] at g
  by_cases h:v≤2^20
  ·have h':(v:Int)≤1048576:=by omega
   simp only [if_pos h]
   refine aP (ir:=ir170) (by kernel_rfl) ?_;simp +contextual (maxSteps:=1000000) [ir170,ssL,↓ssM,aa,ssU,Go.Sx.LV.undef,Go.undef,ssR,gK,rx,bw,g,h']
  ·have h' : ¬(v:Int)≤1048576:=by omega
   simp only [if_neg h]
   refine aP (ir:=ir170) (by kernel_rfl) ?_;simp +contextual (maxSteps:=1000000) [ir170,ssL,↓ssM,aa,ssU,Go.Sx.LV.undef,Go.undef,ssR,gK,rx,bw,g,h']
end Go.Proofs.YtoeblkipfdnnlaaGreatDoor
end

section
namespace Go.Proofs.YtoeblkipfdnnlaaGreatDoor
open Go Go.Sx
inductive Rd (α:Type) where
 | ok (x:α) (r:List Bool)
 | bad (c:Int)
def Rd.then {α β:Type} (x:Rd α) (f:α→List Bool→Rd β):Rd β:=match x with
 | .ok a r=>f a r
 | .bad c=>.bad c
def getN20 (b:List Bool):Rd Nat:=match numR 62 2 0 b with
 | none=>.bad 6
 | some (v,r)=>if v≤2^20 then .ok v r else .bad 4
def hdE:List Bool→Rd (Bool × Bool × Nat)
 | true::true::true::r=>(getN20 r).then fun v r=>if v=0 then .bad 6 else .ok (true,true,v) r
 | true::true::false::w::r=>(getN20 r).then fun v r=>if v=0 then .bad 6 else .ok (w,!w,v) r
 | true::true::_=>.bad 6
 | y::z::r=>.ok (y||z,y||!z,0) r
 | _=>.bad 6
def okE (le ri:Bool) (l r:Ev):Bool:=(decide (l = .leaf 0)==!le)&&(decide (r = .leaf 0)==!ri)&&decide (Min.min l.n r.n=0)&&!(l.isLeaf&&r.isLeaf&&decide (l.n=r.n))
def getE:Nat→List Bool→Rd Ev
 | _,[]=>.bad 6
 | _,true::r=>(getN20 r).then fun v r=>.ok (.leaf v) r
 | 0,false::_=>.bad 3
 | k+1,false::r=>(hdE r).then fun h r=>(if h.1=true then getE k r else .ok (.leaf 0) r).then fun x r=>(if h.2.1=true then getE k r else .ok (.leaf 0) r).then fun y r=>
   if okE h.1 h.2.1 x y=true then (if (Ev.node h.2.2 x y).max≤2^20 then .ok (.node h.2.2 x y) r else .bad 4) else .bad 6
theorem Rd.then_ok {α β:Type} {x:Rd α} {f:α→List Bool→Rd β} {y:β} {r:List Bool} (h:x.then f = .ok y r) : ∃ a s,x = .ok a s∧f a s = .ok y r:=by
 cases x with
 | ok a s=>exact ⟨a,s,rfl,h⟩
 | bad c=>cases h
theorem ia {b:List Bool} {v:Nat} {r:List Bool} (h:getN20 b = .ok v r):v≤2^20∧r <:+ b:=by
 unfold getN20 at h
 split at h
 ·cases h
 ·rename_i v' r' hr
  split at h
  ·cases h;exact ⟨by assumption,(nC _ _ _ _ _ _ hr).1⟩
  ·cases h
theorem ui {b:List Bool} {x:Bool × Bool × Nat} {r:List Bool} (h:hdE b = .ok x r):x.2.2≤2^20∧r <:+ b∧(x.1=true∨x.2.1=true):=by
 unfold hdE at h
 split at h
 ·rename_i q
  obtain ⟨v,s,h1,h2⟩:=Rd.then_ok h
  have:=ia h1
  split at h2
  ·cases h2
  ·cases h2
   exact ⟨this.1,this.2.trans ((List.suffix_cons _ _).trans ((List.suffix_cons _ _).trans (List.suffix_cons _ _))),.inl rfl⟩
 ·rename_i w q
  obtain ⟨v,s,h1,h2⟩:=Rd.then_ok h
  have:=ia h1
  split at h2
  ·cases h2
  ·cases h2
   exact ⟨this.1,this.2.trans ((List.suffix_cons _ _).trans ((List.suffix_cons _ _).trans ((List.suffix_cons _ _).trans (List.suffix_cons _ _)))),by cases w<;>simp⟩
 ·cases h
 ·rename_i y z q _ _ _
  cases h
  exact ⟨Nat.zero_le _,(List.suffix_cons _ _).trans (List.suffix_cons _ _),by cases y<;>cases z<;>simp⟩
 ·cases h
theorem gu : ∀ (k:Nat) (b:List Bool) (x:Ev) (r:List Bool),getE k b = .ok x r→x.norm∧x.max≤2^20∧x.depth≤k∧r <:+ b
 | k,[],x,r,h=>by cases k<;>cases h
 | k,true::b,x,r,h=>by
  have h':(getN20 b).then (fun v r=>.ok (Ev.leaf v) r) = .ok x r:=by cases k<;>exact h
  obtain ⟨v,s,h1,h2⟩:=Rd.then_ok h'
  cases h2
  have:=ia h1
  exact ⟨trivial,this.1,Nat.zero_le _,this.2.trans (List.suffix_cons _ _)⟩
 | 0,false::b,x,r,h=>by cases h
 | k+1,false::b,x,r,h=>by
  obtain ⟨hd,s1,h1,h2⟩:=Rd.then_ok h
  obtain ⟨l,s2,h3,h4⟩:=Rd.then_ok h2
  obtain ⟨rr,s3,h5,h6⟩:=Rd.then_ok h4
  have e1:=ui h1
  have key : ∀ (c:Bool) (s:List Bool) (y:Ev) (s':List Bool),(if c=true then getE k s else Rd.ok (.leaf 0) s) = .ok y s'→y.norm∧y.max≤2^20∧y.depth≤k∧s' <:+ s:=by
   intro c s y s' hq
   cases c with
   | true=>exact gu k s y s' hq
   | false=>cases hq;exact ⟨trivial,by decide,Nat.zero_le _,List.suffix_refl _⟩
  have e2:=key _ _ _ _ h3
  have e3:=key _ _ _ _ h5
  split at h6
  ·rename_i hok
   split at h6
   ·rename_i hm
    cases h6
    unfold okE at hok
    simp only [Bool.and_eq_true,Bool.not_eq_true',decide_eq_true_eq] at hok
    refine ⟨⟨e2.1,e3.1,by have:=hok.1.2;omega,fun hc => ?_⟩,hm,?_,e3.2.2.2.trans (e2.2.2.2.trans (e1.2.1.trans (List.suffix_cons _ _)))⟩
    ·have:=hok.2
     simp [hc.1,hc.2.1,hc.2.2] at this
    ·simp only [Ev.depth]
     have:=e2.2.2.1;have:=e3.2.2.1
     omega
   ·cases h6
  ·cases h6
theorem fO {b:List Bool} {c:Int} (h:getN20 b = .bad c):c≠0:=by
 unfold getN20 at h
 split at h
 ·cases h;decide
 ·split at h<;>cases h;decide
theorem Rd.then_bad {α β:Type} {x:Rd α} {f:α→List Bool→Rd β} {c:Int} (h:x.then f = .bad c):x = .bad c∨∃ a s,x = .ok a s∧f a s = .bad c:=by
 cases x with
 | ok a s=>exact .inr ⟨a,s,rfl,h⟩
 | bad c=>left;cases h;rfl
theorem wC {b:List Bool} {c:Int} (h:hdE b = .bad c):c≠0:=by
 unfold hdE at h
 split at h
 ·rcases Rd.then_bad h with h|⟨v,s,h1,h2⟩
  ·exact fO h
  ·split at h2<;>cases h2;decide
 ·rcases Rd.then_bad h with h|⟨v,s,h1,h2⟩
  ·exact fO h
  ·split at h2<;>cases h2;decide
 ·cases h;decide
 ·cases h
 ·cases h;decide
theorem dH : ∀ (k:Nat) (b:List Bool) (c:Int),getE k b = .bad c→c≠0
 | k,[],c,h=>by cases k<;>cases h<;>decide
 | k,true::b,c,h=>by
  have h':(getN20 b).then (fun v r=>.ok (Ev.leaf v) r) = .bad c:=by cases k<;>exact h
  rcases Rd.then_bad h' with h|⟨v,s,h1,h2⟩
  ·exact fO h
  ·cases h2
 | 0,false::b,c,h=>by cases h;decide
 | k+1,false::b,c,h=>by
  have key : ∀ (q:Bool) (s:List Bool),(if q=true then getE k s else Rd.ok (.leaf 0) s) = .bad c→c≠0:=by
   intro q s hq
   cases q with
   | true=>exact dH k s c hq
   | false=>cases hq
  rcases Rd.then_bad h with h|⟨hd,s1,h1,h2⟩
  ·exact wC h
  ·rcases Rd.then_bad h2 with h|⟨l,s2,h3,h4⟩
   ·exact key _ _ h
   ·rcases Rd.then_bad h4 with h|⟨rr,s3,h5,h6⟩
    ·exact key _ _ h
    ·split at h6
     ·split at h6<;>cases h6;decide
     ·cases h6;decide
theorem wm (n:Nat) (h : ¬n≤2^20) (H:Heap) (nx:Nat):Ω 63 [.int .u64 n] H nx=some (.tuple [.p (Ev.leaf 0).pv,.int .i64 4],[],[]):=by
 refine av (ir:=ir63) (by kernel_rfl) 0 ?_
 have h1 : ¬(n:Int)≤1048576:=by omega
 simp [ir63,Ev.n_l,Ev.ptr_l,ssB,ssU,Go.Sx.LV.undef,Go.undef,ssP,appO,h1]
theorem wq (n:Nat) (l r:Ev) (hn:n≤2^20) (h1 : ¬(Ev.mk n l r).err=0) (h2:l.n≤2^21) (h3:r.n≤2^21) (hd:(Ev.mk n l r).depth<2^62) (hm:(Ev.mk n l r).max<2^64) (H:Heap) (nx:Nat):
  Ω 64 [.int .u64 n,.p l.pv,.p r.pv] H nx=some (.tuple [.p (Ev.leaf 0).pv,.int .i64 (Ev.mk n l r).err],[],[]):=by
 refine av (ir:=ir64) (by kernel_rfl) 0 ?_
 have hmin : ¬(2097152:Int)<n:=by omega
 have e1:=pM n l r (by omega) (by omega)
 have e2:=kh _ hd hm
 generalize Ev.mk n l r=e at*
 have h1' : ¬((e.err:Nat):Int)=0:=by omega
 simp [ir64,ssB,ssU,Go.Sx.LV.undef,Go.undef,ssP,appO,e1,e2,hmin,h1,h1',Ev.n_l,Ev.ptr_l]
end Go.Proofs.YtoeblkipfdnnlaaGreatDoor
end

section
namespace Go.Proofs.YtoeblkipfdnnlaaGreatDoor
open Go Go.Sx
theorem zI (fl P n) (v:Nat) (l r:Ev) (hv:v≤2^20) (hn:(Ev.node v l r).norm) (hd:(Ev.node v l r).depth≤16) (hl:l.max≤2^20) (hr:r.max≤2^20):
  Φ 174 [.ref 0 0,.int .u64 v,.p l.pv,.p r.pv] [so 0,brn fl P n 0]=if (Ev.node v l r).max≤2^20 then some (.p (Ev.node v l r).pv,[so 0,brn fl P n 0]) else some (.p (Ev.leaf 0).pv,[so 4,brn fl P n 0]):=by
 have hid:=Ev.mk_id hn
 have hm:(Ev.node v l r).max≤v+2^20:=Nat.add_le_add_left (Nat.max_le.2 ⟨hl,hr⟩) v
 have ln:=Ev.n_max l
 have rn:=Ev.n_max r
 by_cases h:(Ev.node v l r).max≤2^20
 ·have he:(Ev.mk v l r).err=0:=by
   rw [hid];unfold Ev.err
   rw [if_neg (by omega),if_neg (by omega)]
  have nd:=pE v l r hv he (by omega) (by omega) (by rw [hid];omega) (by rw [hid];omega)
  rw [hid] at nd
  rw [if_pos h]
  simp only [Ev.pv] at nd ⊢
  generalize (Ev.node v l r).ptr=p at*
  generalize (Ev.node v l r).n=m at*
  generalize l.ptr=p1 at*
  generalize r.ptr=p2 at*
  refine aP (ir:=ir174) (by kernel_rfl) ?_;simp +contextual (maxSteps:=1000000) [ir174,ssL,↓ssM,aa,List.idxOf?_cons,Go.Sx.LV.undef,Go.undef,Go.Sx.splice,Go.Sx.push,Go.Sx.setObj,Go.Sx.setU,Go.Sx.setAll,Go.Sx.leI_eq,ltF,nd,bw]
 ·have he:(Ev.mk v l r).err=4:=by
   rw [hid];unfold Ev.err
   rw [if_neg (by omega),if_pos (by omega)]
  have nd:=wq v l r hv (by rw [he];decide) (by omega) (by omega) (by rw [hid];omega) (by rw [hid];omega)
  rw [he] at nd
  rw [if_neg h]
  simp only [Ev.pv,Ev.n_l,Ev.ptr_l] at nd ⊢
  generalize l.ptr=p1 at*
  generalize r.ptr=p2 at*
  refine aP (ir:=ir174) (by kernel_rfl) ?_;simp +contextual (maxSteps:=1000000) [ir174,ssL,↓ssM,aa,List.idxOf?_cons,Go.Sx.LV.undef,Go.undef,Go.Sx.splice,Go.Sx.push,Go.Sx.setObj,Go.Sx.setU,Go.Sx.setAll,Go.Sx.leI_eq,ltF,nd,bw]
theorem Ar (x:Ev):okE true false x (.leaf 0)=(!decide (x = .leaf 0)&&!(x.isLeaf&&decide (x.n=0))):=by
 unfold okE;rw [Bool.eq_iff_iff];simp [Ev.n_l,show (Ev.leaf 0).isLeaf=true from rfl]
 exact fun _=>or_congr Iff.rfl decide_eq_false_iff_not
theorem As (x:Ev):okE false true (.leaf 0) x=(!decide (x = .leaf 0)&&!(x.isLeaf&&decide (0=x.n))):=by
 unfold okE;rw [Bool.eq_iff_iff];simp [Ev.n_l,show (Ev.leaf 0).isLeaf=true from rfl]
 exact fun _=>or_congr Iff.rfl decide_eq_false_iff_not
abbrev zE:Ob:=some (.cells [.int .u64 0,.p (.s (.pointer none))])
noncomputable abbrev TL (fl:Bool) (P:List UInt8) (x1:Ob) (d:Int) (le ri:Bool) (base N:Nat) (e se:Int):Option (LV × List (Ob)):=
 bindK (bindK (run ⟨Ω,gG,hpL [so 0,x1],2⟩ (rsC 8 ir141.body) ⟨[(0,.ref 0 0),(1,.int .i64 d),(4,.ref 2 0),(7,.ref 3 0),(8,.ref 4 0),(9,.int .u64 base),(11,.bool le),(12,.bool ri)],⟨[(1,brn fl P N e),(0,so se)],[zE,zE,zE]⟩⟩) (finK ir141 (hpL [so 0,x1]) 2)) (outW [so 0,x1])
section
variable (fl:Bool) (P:List UInt8) (x1:Ob) (d:Int) (base N:Nat) (hw:IntKind.i64.wrap (d+1)=d+1)
theorem zK (le ri:Bool) (e se:Int) (h:se≠0):TL fl P x1 d le ri base N e se=some (.p (Ev.leaf 0).pv,[so se,brn fl P N e]):=by
 unfold TL
 have z0:=bC (.leaf 0)
 have i0:=bf (.leaf 0)
 have b0:=bI (.leaf 0)
 simp only [Ev.pv,Ev.ptr_l,Ev.n_l,Int.natCast_zero,decide_true,show (Ev.leaf 0).isLeaf=true from rfl] at*
 cases le<;>cases ri<;>simp +contextual (maxSteps:=1000000) [ir141,rsC,ssL,↓ssM,aa,List.idxOf?_cons,Go.Sx.LV.undef,Go.undef,Go.Sx.splice,Go.Sx.push,Go.Sx.setObj,Go.Sx.setU,Go.Sx.setAll,Go.Sx.leI_eq,ltF,es,bD,h,z0,i0,b0]
include hw
theorem zL (ri:Bool) (c:Int) (n:Nat) (e:Int) (hc:c≠0) (hl:Φ 141 [.ref 0 0,.int .i64 (d+1)] [so 0,brn fl P N 0]=some (.p (Ev.leaf 0).pv,[so c,brn fl P n e])):
  TL fl P x1 d true ri base N 0 0=some (.p (Ev.leaf 0).pv,[so c,brn fl P n e]):=by
 unfold TL
 have z0:=bC (.leaf 0)
 have i0:=bf (.leaf 0)
 have b0:=bI (.leaf 0)
 simp only [Ev.pv,Ev.ptr_l,Ev.n_l,Int.natCast_zero,decide_true,show (Ev.leaf 0).isLeaf=true from rfl] at*
 cases ri<;>simp +contextual (maxSteps:=1000000) [ir141,rsC,ssL,↓ssM,aa,List.idxOf?_cons,Go.Sx.LV.undef,Go.undef,Go.Sx.splice,Go.Sx.push,Go.Sx.setObj,Go.Sx.setU,Go.Sx.setAll,Go.Sx.leI_eq,ltF,gK,es,bD,hc,z0,i0,b0,hl,hw]
theorem zM (x:Ev) (N1:Nat) (c:Int) (n:Nat) (e:Int) (hc:c≠0) (hl:Φ 141 [.ref 0 0,.int .i64 (d+1)] [so 0,brn fl P N 0]=some (.p x.pv,[so 0,brn fl P N1 0]))
  (hr:Φ 141 [.ref 0 0,.int .i64 (d+1)] [so 0,brn fl P N1 0]=some (.p (Ev.leaf 0).pv,[so c,brn fl P n e])):
  TL fl P x1 d true true base N 0 0=some (.p (Ev.leaf 0).pv,[so c,brn fl P n e]):=by
 unfold TL
 have z0:=bC (.leaf 0)
 have i0:=bf (.leaf 0)
 have b0:=bI (.leaf 0)
 have zx:=bC x
 have ix:=bf x
 have bx:=bI x
 simp only [Ev.pv,Ev.ptr_l,Ev.n_l,Int.natCast_zero,decide_true,show (Ev.leaf 0).isLeaf=true from rfl] at*
 generalize x.ptr=px at*
 generalize x.n=nx' at*
 generalize decide (x = .leaf 0)=zlx at*
 generalize x.isLeaf=lx at*
 simp +contextual (maxSteps:=1000000) [ir141,rsC,ssL,↓ssM,aa,List.idxOf?_cons,Go.Sx.LV.undef,Go.undef,Go.Sx.splice,Go.Sx.push,Go.Sx.setObj,Go.Sx.setU,Go.Sx.setAll,Go.Sx.leI_eq,ltF,gK,es,bD,hc,z0,i0,b0,zx,ix,bx,hl,hr,hw]
theorem xE (c:Int) (n:Nat) (e:Int) (hc:c≠0) (hr:Φ 141 [.ref 0 0,.int .i64 (d+1)] [so 0,brn fl P N 0]=some (.p (Ev.leaf 0).pv,[so c,brn fl P n e])):
  TL fl P x1 d false true base N 0 0=some (.p (Ev.leaf 0).pv,[so c,brn fl P n e]):=by
 unfold TL
 have z0:=bC (.leaf 0)
 have i0:=bf (.leaf 0)
 have b0:=bI (.leaf 0)
 simp only [Ev.pv,Ev.ptr_l,Ev.n_l,Int.natCast_zero,decide_true,show (Ev.leaf 0).isLeaf=true from rfl] at*
 simp +contextual (maxSteps:=1000000) [ir141,rsC,ssL,↓ssM,aa,List.idxOf?_cons,Go.Sx.LV.undef,Go.undef,Go.Sx.splice,Go.Sx.push,Go.Sx.setObj,Go.Sx.setU,Go.Sx.setAll,Go.Sx.leI_eq,ltF,gK,es,bD,hc,z0,i0,b0,hr,hw]
theorem zJ (x y:Ev) (N1 N2:Nat) (hl:Φ 141 [.ref 0 0,.int .i64 (d+1)] [so 0,brn fl P N 0]=some (.p x.pv,[so 0,brn fl P N1 0]))
  (hr:Φ 141 [.ref 0 0,.int .i64 (d+1)] [so 0,brn fl P N1 0]=some (.p y.pv,[so 0,brn fl P N2 0]))
  (z:Option (LV × List (Ob))) (hz:z=if okE true true x y=true then Φ 174 [.ref 0 0,.int .u64 base,.p x.pv,.p y.pv] [so 0,brn fl P N2 0] else some (.p (Ev.leaf 0).pv,[so 6,brn fl P N2 0]))
  (hzo:okE true true x y=true→∃ (v:Ev) (c:Int),z=some (.p v.pv,[so c,brn fl P N2 0])):
  TL fl P x1 d true true base N 0 0=z:=by
 unfold TL
 have zx:=bC x
 have ix:=bf x
 have bx:=bI x
 have zy:=bC y
 have iy:=bf y
 have by':=bI y
 unfold okE at hz hzo
 simp only [Ev.pv,Ev.ptr_l,Ev.n_l,Int.natCast_zero,decide_true,show (Ev.leaf 0).isLeaf=true from rfl] at*
 generalize x.ptr=px at*
 generalize x.n=nx' at*
 generalize decide (x = .leaf 0)=zlx at*
 generalize x.isLeaf=lx at*
 generalize y.ptr=py at*
 generalize y.n=ny at*
 generalize decide (y = .leaf 0)=zly at*
 generalize y.isLeaf=ly at*
 have hC:(((zlx=false∧zly=false)∧(if ny<nx' then (ny:Int) else nx')=0)∧((lx=false∨ly=false)∨¬(nx':Int)=ny))=(((zlx==!true)&&(zly==!true)&&decide (Min.min nx' ny=0)&&!(lx&&ly&&decide (nx'=ny)))=true):=by
  have e1:(if ny<nx' then (ny:Int) else nx')=0↔Min.min nx' ny=0:=by split<;>omega
  have e2:(nx':Int)=ny↔nx'=ny:=by omega
  simp only [e1,e2]
  generalize Min.min nx' ny=mm
  cases zlx<;>cases zly<;>cases lx<;>cases ly<;>simp
 by_cases hok:((zlx==!true)&&(zly==!true)&&decide (Min.min nx' ny=0)&&!(lx&&ly&&decide (nx'=ny)))=true
 ·rw [if_pos hok] at hz
  obtain ⟨v,c,hv⟩:=hzo hok
  rw [hv] at hz ⊢
  rw [eq_true hok] at hC
  have hz':=hz.symm
  simp +contextual (maxSteps:=1000000) [ir141,rsC,ssL,↓ssM,aa,List.idxOf?_cons,Go.Sx.LV.undef,Go.undef,Go.Sx.splice,Go.Sx.push,Go.Sx.setObj,Go.Sx.setU,Go.Sx.setAll,Go.Sx.leI_eq,ltF,gK,es,bD,zx,ix,bx,zy,iy,by',hl,hr,hw,hC,hz']
 ·rw [if_neg hok] at hz
  rw [eq_false hok] at hC
  subst hz
  simp +contextual (maxSteps:=1000000) [ir141,rsC,ssL,↓ssM,aa,List.idxOf?_cons,Go.Sx.LV.undef,Go.undef,Go.Sx.splice,Go.Sx.push,Go.Sx.setObj,Go.Sx.setU,Go.Sx.setAll,Go.Sx.leI_eq,ltF,gK,es,bD,zx,ix,bx,zy,iy,by',hl,hr,hw,hC]
theorem tlL (x:Ev) (N1:Nat) (hl:Φ 141 [.ref 0 0,.int .i64 (d+1)] [so 0,brn fl P N 0]=some (.p x.pv,[so 0,brn fl P N1 0]))
  (z:Option (LV × List (Ob))) (hz:z=if okE true false x (.leaf 0)=true then Φ 174 [.ref 0 0,.int .u64 base,.p x.pv,.p (Ev.leaf 0).pv] [so 0,brn fl P N1 0] else some (.p (Ev.leaf 0).pv,[so 6,brn fl P N1 0]))
  (hzo:okE true false x (.leaf 0)=true→∃ (v:Ev) (c:Int),z=some (.p v.pv,[so c,brn fl P N1 0])):
  TL fl P x1 d true false base N 0 0=z:=by
 unfold TL
 have z0:=bC (.leaf 0)
 have i0:=bf (.leaf 0)
 have b0:=bI (.leaf 0)
 have zx:=bC x
 have ix:=bf x
 have bx:=bI x
 rw [Ar] at hz hzo
 simp only [Ev.pv,Ev.ptr_l,Ev.n_l,Int.natCast_zero,decide_true,show (Ev.leaf 0).isLeaf=true from rfl] at*
 generalize x.ptr=px at*
 generalize x.n=nx' at*
 generalize decide (x = .leaf 0)=zlx at*
 generalize x.isLeaf=lx at*
 have hC:(zlx=false∧(lx=false∨¬nx'=0))=((!zlx&&!(lx&&decide (nx'=0)))=true):=by
  cases zlx<;>cases lx<;>simp
 by_cases hok:(!zlx&&!(lx&&decide (nx'=0)))=true
 ·rw [if_pos hok] at hz
  obtain ⟨v,c,hv⟩:=hzo hok
  rw [hv] at hz ⊢
  rw [eq_true hok] at hC
  have hz':=hz.symm
  simp +contextual (maxSteps:=1000000) [ir141,rsC,ssL,↓ssM,aa,List.idxOf?_cons,Go.Sx.LV.undef,Go.undef,Go.Sx.splice,Go.Sx.push,Go.Sx.setObj,Go.Sx.setU,Go.Sx.setAll,Go.Sx.leI_eq,ltF,gK,es,bD,zx,ix,bx,z0,i0,b0,hl,hw,hC,hz']
 ·rw [if_neg hok] at hz
  rw [eq_false hok] at hC
  subst hz
  simp +contextual (maxSteps:=1000000) [ir141,rsC,ssL,↓ssM,aa,List.idxOf?_cons,Go.Sx.LV.undef,Go.undef,Go.Sx.splice,Go.Sx.push,Go.Sx.setObj,Go.Sx.setU,Go.Sx.setAll,Go.Sx.leI_eq,ltF,gK,es,bD,zx,ix,bx,z0,i0,b0,hl,hw,hC]
theorem tlR (y:Ev) (N2:Nat) (hr:Φ 141 [.ref 0 0,.int .i64 (d+1)] [so 0,brn fl P N 0]=some (.p y.pv,[so 0,brn fl P N2 0]))
  (z:Option (LV × List (Ob))) (hz:z=if okE false true (.leaf 0) y=true then Φ 174 [.ref 0 0,.int .u64 base,.p (Ev.leaf 0).pv,.p y.pv] [so 0,brn fl P N2 0] else some (.p (Ev.leaf 0).pv,[so 6,brn fl P N2 0]))
  (hzo:okE false true (.leaf 0) y=true→∃ (v:Ev) (c:Int),z=some (.p v.pv,[so c,brn fl P N2 0])):
  TL fl P x1 d false true base N 0 0=z:=by
 unfold TL
 have z0:=bC (.leaf 0)
 have i0:=bf (.leaf 0)
 have b0:=bI (.leaf 0)
 have zy:=bC y
 have iy:=bf y
 have by':=bI y
 rw [As] at hz hzo
 simp only [Ev.pv,Ev.ptr_l,Ev.n_l,Int.natCast_zero,decide_true,show (Ev.leaf 0).isLeaf=true from rfl] at*
 generalize y.ptr=py at*
 generalize y.n=ny at*
 generalize decide (y = .leaf 0)=zly at*
 generalize y.isLeaf=ly at*
 have hC:(zly=false∧(ly=false∨¬(0:Int)=ny))=((!zly&&!(ly&&decide (0=ny)))=true):=by
  have e2:(0:Int)=ny↔0=ny:=by omega
  simp only [e2]
  cases zly<;>cases ly<;>simp
 by_cases hok:(!zly&&!(ly&&decide (0=ny)))=true
 ·rw [if_pos hok] at hz
  obtain ⟨v,c,hv⟩:=hzo hok
  rw [hv] at hz ⊢
  rw [eq_true hok] at hC
  have hz':=hz.symm
  simp +contextual (maxSteps:=1000000) [ir141,rsC,ssL,↓ssM,aa,List.idxOf?_cons,Go.Sx.LV.undef,Go.undef,Go.Sx.splice,Go.Sx.push,Go.Sx.setObj,Go.Sx.setU,Go.Sx.setAll,Go.Sx.leI_eq,ltF,gK,es,bD,zy,iy,by',z0,i0,b0,hr,hw,hC,hz']
 ·rw [if_neg hok] at hz
  rw [eq_false hok] at hC
  subst hz
  simp +contextual (maxSteps:=1000000) [ir141,rsC,ssL,↓ssM,aa,List.idxOf?_cons,Go.Sx.LV.undef,Go.undef,Go.Sx.splice,Go.Sx.push,Go.Sx.setObj,Go.Sx.setU,Go.Sx.setAll,Go.Sx.leI_eq,ltF,gK,es,bD,zy,iy,by',z0,i0,b0,hr,hw,hC]
end
end Go.Proofs.YtoeblkipfdnnlaaGreatDoor
end

section
namespace Go.Proofs.YtoeblkipfdnnlaaGreatDoor
open Go Go.Sx
def tkC:Nat→IRC→IRC
 | n+1,.seq a b=>.seq a (tkC n b)
 | _,_=>.skip
theorem rh (c:Ctx) : ∀ (k:Nat) (B:IRC) (st:St),run c B st=bindK (run c (tkC k B) st) fun p=>seqK p fun s=>run c (rsC k B) s
 | 0,B,st=>by rw [tkC,dL,aE,aA,rsC];intros;contradiction
 | k+1,.seq a b,st=>by
  rw [tkC,iU,iU,rsC]
  cases run c a st with
  | none=>rfl
  | some p=>
   obtain ⟨ex,s⟩:=p
   cases ex with
   | normal=>rw [aE,aA,aE,aA];exact rh c k b s
   | _=>rfl
 | k+1,.skip,st=>by rw [tkC,dL,aE,aA,rsC,dL]<;>(intros;first|contradiction|rename_i h;cases h)
 | k+1,.region _ _ _,st|k+1,.regq _ _ _,st|k+1,.cond _ _ _,st|k+1,.block _ _,st|k+1,.loop _,st|k+1,.exit _,st|k+1,.ret,st|k+1,.bad,st|k+1,.label _ _,st|k+1,.goto _,st|k+1,.scope _ _ _,st|k+1,.tidy _ _,st=>by
  rw [tkC,dL,aE,aA,rsC]
  all_goals (intros;first|contradiction|rename_i h;cases h|skip)
theorem AL (k:Nat) {f:FuncId} {ir:IRF} {a:List LV} {l:List (Ob)} {st:St} {x:LV × List (Ob)} (hf:findF irs f=some ir) (ha:a.length=ir.params.length)
  (h1:run ⟨Ω,gG,hpL l,l.length⟩ (tkC k ir.body) ⟨ir.params.zip a,⟨[],[]⟩⟩=some (.normal,st)) (h2:bindK (bindK (run ⟨Ω,gG,hpL l,l.length⟩ (rsC k ir.body) st) (finK ir (hpL l) l.length)) (outW l)=some x):Φ f a l=some x:=by
 refine aP hf ?_
 unfold runL
 rw [if_pos ha,rh _ k,h1,aE,aA]
 exact h2
section
variable (fl:Bool) (P:List UInt8) (d:Int)
theorem stA (N0:Nat) (x:LV × List (Ob)) (le ri:Bool) (base N:Nat) (e se:Int) (hT:TL fl P (brn fl P N0 0) d le ri base N e se=some x)
  (h:run ⟨Ω,gG,hpL [so 0,brn fl P N0 0],2⟩ (tkC 8 ir141.body) ⟨[(0,.ref 0 0),(1,.int .i64 d)],⟨[],[]⟩⟩=
   some (.normal,⟨[(0,.ref 0 0),(1,.int .i64 d),(4,.ref 2 0),(7,.ref 3 0),(8,.ref 4 0),(9,.int .u64 base),(11,.bool le),(12,.bool ri)],⟨[(1,brn fl P N e),(0,so se)],[zE,zE,zE]⟩⟩)):
  Φ 141 [.ref 0 0,.int .i64 d] [so 0,brn fl P N0 0]=some x:=
 AL 8 (ir:=ir141) (by kernel_rfl) rfl h hT
end
def EvSpec (fl:Bool) (P:List UInt8) (d:Int) (b:List Bool):Rd Ev→Prop
 | .ok x r=>Φ 141 [.ref 0 0,.int .i64 d] [so 0,brn fl P (8*P.length-b.length) 0]=some (.p x.pv,[so 0,brn fl P (8*P.length-r.length) 0])
 | .bad c=>∃ n e,Φ 141 [.ref 0 0,.int .i64 d] [so 0,brn fl P (8*P.length-b.length) 0]=some (.p (Ev.leaf 0).pv,[so c,brn fl P n e])
section
variable {fl:Bool} {P:List UInt8} {d:Int} {b:List Bool} (h28:P.length<2^28) (hb:b <:+ bitsB P)
include h28 hb
theorem dd (le ri:Bool) (base n:Nat) (e c:Int) (hc:c≠0) (h:run ⟨Ω,gG,hpL [so 0,brn fl P (8*P.length-b.length) 0],2⟩ (tkC 8 ir141.body) ⟨[(0,.ref 0 0),(1,.int .i64 d)],⟨[],[]⟩⟩=
   some (.normal,⟨[(0,.ref 0 0),(1,.int .i64 d),(4,.ref 2 0),(7,.ref 3 0),(8,.ref 4 0),(9,.int .u64 base),(11,.bool le),(12,.bool ri)],⟨[(1,brn fl P n e),(0,so c)],[zE,zE,zE]⟩⟩)):EvSpec fl P d b (.bad c):=
 ⟨n,e,stA fl P d _ _ le ri base n e c (zK fl P _ d base n le ri e c hc) h⟩
theorem yF (hnil:b=[]):EvSpec fl P d b (.bad 6):=by
 subst hnil
 have g1:=jY fl P 1 [] h28 (by decide) hb (by decide)
 simp only [Int.natCast_one] at g1
 refine dd h28 hb false true 0 (8*P.length-([]:List Bool).length) 6 6 (by decide) ?_
 generalize 8*P.length-([]:List Bool).length=N at*
 by_cases hd:d=16
 all_goals simp +contextual (maxSteps:=1000000) [ir141,tkC,ssL,↓ssM,aa,ssU,Go.Sx.LV.undef,Go.undef,ssR,g1,il,bw,hd]
theorem wu (r:List Bool) (hbr:b=true::r):EvSpec fl P d b ((getN20 r).then fun v r=>.ok (.leaf v) r):=by
 subst hbr
 have hr:r <:+ bitsB P:=(List.suffix_cons _ _).trans hb
 have g1:=dM fl P 1 (true::r) 1 r h28 (by decide) hb (cq true r)
 have g2:=vD fl P r h28 hr
 simp only [Int.natCast_one] at g1
 unfold getN20 EvSpec
 generalize 8*P.length-(true::r).length=N at*
 generalize 8*P.length-r.length=N1 at*
 cases hn:numR 62 2 0 r with
 | none=>
  rw [hn] at g2
  have lf:=lu 0 (by decide)
  simp only [Rd.then,Ev.n_l,Ev.ptr_l,Int.natCast_zero] at g2 lf ⊢
  refine ⟨N1,6,?_⟩
  refine aP (ir:=ir141) (by kernel_rfl) ?_;simp +contextual (maxSteps:=1000000) [ir141,ssL,↓ssM,aa,ssU,Go.Sx.LV.undef,Go.undef,ssR,g1,g2,lf,Ev.n_l,Ev.ptr_l]
 | some q=>
  obtain ⟨v,s⟩:=q
  rw [hn] at g2
  by_cases h:v≤2^20
  ·simp only [if_pos h] at g2 ⊢
   have lf:=lu v h
   simp only [Rd.then,Ev.n_l,Ev.ptr_l] at lf ⊢
   generalize 8*P.length-s.length=N2 at*
   refine aP (ir:=ir141) (by kernel_rfl) ?_;simp +contextual (maxSteps:=1000000) [ir141,ssL,↓ssM,aa,ssU,Go.Sx.LV.undef,Go.undef,ssR,g1,g2,lf,Ev.n_l,Ev.ptr_l]
  ·simp only [if_neg h] at g2 ⊢
   have lf:=wm v h
   simp only [Rd.then,Ev.n_l,Ev.ptr_l,Int.natCast_zero] at lf ⊢
   refine ⟨8*P.length-s.length,0,?_⟩
   generalize 8*P.length-s.length=N2 at*
   refine aP (ir:=ir141) (by kernel_rfl) ?_;simp +contextual (maxSteps:=1000000) [ir141,ssL,↓ssM,aa,ssU,Go.Sx.LV.undef,Go.undef,ssR,g1,g2,lf,Ev.n_l,Ev.ptr_l]
theorem wt (r:List Bool) (hbr:b=false::r) (hd:d=16):EvSpec fl P d b (.bad 3):=by
 subst hbr
 have g1:=dM fl P 1 (false::r) 0 r h28 (by decide) hb (cq false r)
 simp only [Int.natCast_one,Int.natCast_zero] at g1
 refine dd h28 hb false true 0 (8*P.length-r.length) 0 3 (by decide) ?_
 generalize 8*P.length-(false::r).length=N at*
 generalize 8*P.length-r.length=N1 at*
 simp +contextual (maxSteps:=1000000) [ir141,tkC,ssL,↓ssM,aa,ssU,Go.Sx.LV.undef,Go.undef,ssR,g1,il,bw,hd]
theorem sd (r:List Bool) (hbr:b=false::r) (hd:d≠16) (c:Int) (hh:hdE r = .bad c):EvSpec fl P d b (.bad c):=by
 subst hbr
 have hr:r <:+ bitsB P:=(List.suffix_cons _ _).trans hb
 have g1:=dM fl P 1 (false::r) 0 r h28 (by decide) hb (cq false r)
 simp only [Int.natCast_one,Int.natCast_zero] at g1
 match r,hr with
 | [],hr=>
  cases hh
  have g2:=jY fl P 2 [] h28 (by decide) hr (by decide)
  simp only [Int.cast_ofNat_Int] at g2
  refine dd h28 hb false true 0 (8*P.length-([]:List Bool).length) 6 6 (by decide) ?_
  generalize 8*P.length-([false]:List Bool).length=N at*
  generalize 8*P.length-([]:List Bool).length=N1 at*
  simp +contextual (maxSteps:=1000000) [ir141,tkC,ssL,↓ssM,aa,ssU,Go.Sx.LV.undef,Go.undef,ssR,g1,g2,il,bw,hd]
 | [y],hr=>
  have:hdE [y] = .bad 6:=by cases y<;>rfl
  rw [this] at hh
  cases hh
  have g2:=jY fl P 2 [y] h28 (by decide) hr (by simp)
  simp only [Int.cast_ofNat_Int] at g2
  refine dd h28 hb false true 0 (8*P.length - [y].length) 6 6 (by decide) ?_
  generalize 8*P.length - [false,y].length=N at*
  generalize 8*P.length - [y].length=N1 at*
  simp +contextual (maxSteps:=1000000) [ir141,tkC,ssL,↓ssM,aa,ssU,Go.Sx.LV.undef,Go.undef,ssR,g1,g2,il,bw,hd]
 | y::z::r2,hr=>
  have hr2:r2 <:+ bitsB P:=((List.suffix_cons _ _).trans (List.suffix_cons _ _)).trans hr
  cases y with
  | false=>cases z<;>cases hh
  | true=>
   cases z with
   | false=>cases hh
   | true=>
    have g2:=dM fl P 2 (true::true::r2) 3 r2 h28 (by decide) hr (by simp [wGet,bvA])
    simp only [Int.cast_ofNat_Int] at g2
    generalize hN:8*P.length-(false::true::true::r2).length=N at*
    generalize hN1:8*P.length-(true::true::r2).length=N1 at*
    have num : ∀ (r4:List Bool) (le ri:Bool),r4 <:+ bitsB P→((getN20 r4).then fun v r=>if v=0 then Rd.bad 6 else Rd.ok (le,ri,v) r) = .bad c→∃ (v n:Nat) (e:Int),
      Φ 170 [.ref 0 0] [so 0,brn fl P (8*P.length-r4.length) 0]=some (.int .u64 v,[so (if v=0∧e=0 then 0 else c),brn fl P n e])∧(v=0→c=6)∧c≠0:=by
     intro r4 le ri h4 hq
     have g:=vD fl P r4 h28 h4
     unfold getN20 at hq
     cases hn:numR 62 2 0 r4 with
     | none=>
      rw [hn] at g hq
      cases hq
      exact ⟨0,_,6,g,fun _=>rfl,by decide⟩
     | some q=>
      obtain ⟨v,s⟩:=q
      rw [hn] at g hq
      by_cases h:v≤2^20
      ·simp only [if_pos h,Rd.then] at g hq
       by_cases h0:v=0
       ·subst h0
        simp only [if_true] at hq
        cases hq
        exact ⟨0,_,0,g,fun _=>rfl,by decide⟩
       ·rw [if_neg h0] at hq;cases hq
      ·simp only [if_neg h,Rd.then] at g hq
       cases hq
       have h0 : ¬v=0:=by omega
       refine ⟨v,8*P.length-s.length,0,?_,fun e=>absurd e h0,by decide⟩
       rw [if_neg (by simp [h0])]
       exact g
    match r2,hr2 with
    | [],hr2=>
     cases hh
     have g3:=jY fl P 1 [] h28 (by decide) hr2 (by decide)
     simp only [Int.natCast_one] at g3
     refine dd h28 hb false true 0 (8*P.length-([]:List Bool).length) 6 6 (by decide) ?_
     rw [hN]
     generalize 8*P.length-([]:List Bool).length=N2 at*
     simp +contextual (maxSteps:=1000000) [ir141,tkC,ssL,↓ssM,aa,ssU,Go.Sx.LV.undef,Go.undef,ssR,g1,g2,g3,il,vE,bD,bw,hd]
    | [false],hr2=>
     cases hh
     have g3:=dM fl P 1 [false] 0 [] h28 (by decide) hr2 (cq false [])
     have g4:=jY fl P 1 [] h28 (by decide) ((List.suffix_cons _ _).trans hr2) (by decide)
     simp only [Int.natCast_one,Int.natCast_zero] at g3 g4
     refine dd h28 hb false true 0 (8*P.length-([]:List Bool).length) 6 6 (by decide) ?_
     rw [hN]
     generalize 8*P.length-([false]:List Bool).length=N3 at*
     generalize 8*P.length-([]:List Bool).length=N2 at*
     simp +contextual (maxSteps:=1000000) [ir141,tkC,ssL,↓ssM,aa,ssU,Go.Sx.LV.undef,Go.undef,ssR,g1,g2,g3,g4,il,vE,bD,bw,hd]
    | true::r3,hr2=>
     have hr3:r3 <:+ bitsB P:=(List.suffix_cons _ _).trans hr2
     have g3:=dM fl P 1 (true::r3) 1 r3 h28 (by decide) hr2 (cq true r3)
     simp only [Int.natCast_one] at g3
     obtain ⟨v,n,e,g4,h1,h2⟩:=num r3 true true hr3 hh
     refine dd h28 hb true true v n e c h2 ?_
     rw [hN]
     generalize 8*P.length-(true::r3).length=N3 at*
     generalize 8*P.length-r3.length=N2 at*
     by_cases h0:v=0
     ·have hc:=h1 h0
      subst h0 hc
      by_cases he:e=0
      all_goals
      simp only [he,and_self,and_false,if_true,if_false,Int.natCast_zero] at g4
      simp +contextual (maxSteps:=1000000) [ir141,tkC,ssL,↓ssM,aa,ssU,Go.Sx.LV.undef,Go.undef,ssR,g1,g2,g3,g4,bD,bw,hd,he]
     ·have h0':0<v:=by omega
      simp only [h0,false_and,if_false] at g4
      simp +contextual (maxSteps:=1000000) [ir141,tkC,ssL,↓ssM,aa,ssU,Go.Sx.LV.undef,Go.undef,ssR,g1,g2,g3,g4,bD,bw,hd,h0,h0',h2]
    | false::w::r4,hr2=>
     have hr3:w::r4 <:+ bitsB P:=(List.suffix_cons _ _).trans hr2
     have hr4:r4 <:+ bitsB P:=(List.suffix_cons _ _).trans hr3
     have g3:=dM fl P 1 (false::w::r4) 0 (w::r4) h28 (by decide) hr2 (cq false (w::r4))
     have g5:=dM fl P 1 (w::r4) w.toNat r4 h28 (by decide) hr3 (cq w r4)
     simp only [Int.natCast_one,Int.natCast_zero] at g3 g5
     obtain ⟨v,n,e,g4,h1,h2⟩:=num r4 w (!w) hr4 hh
     refine dd h28 hb w (!w) v n e c h2 ?_
     rw [hN]
     generalize 8*P.length-(false::w::r4).length=N3 at*
     generalize 8*P.length-(w::r4).length=N4 at*
     generalize 8*P.length-r4.length=N2 at*
     by_cases h0:v=0
     ·have hc:=h1 h0
      subst h0 hc
      by_cases he:e=0
      all_goals
      simp only [he,and_self,and_false,if_true,if_false,Int.natCast_zero] at g4
      cases w<;>simp +contextual (maxSteps:=1000000) [ir141,tkC,ssL,↓ssM,aa,ssU,Go.Sx.LV.undef,Go.undef,ssR,g1,g2,g3,g4,g5,bD,bw,hd,he]
     ·have h0':0<v:=by omega
      simp only [h0,false_and,if_false] at g4
      cases w<;>simp +contextual (maxSteps:=1000000) [ir141,tkC,ssL,↓ssM,aa,ssU,Go.Sx.LV.undef,Go.undef,ssR,g1,g2,g3,g4,g5,bD,bw,hd,h0,h0',h2]
theorem tU (r:List Bool) (hbr:b=false::r) (hd:d≠16) (le ri:Bool) (base:Nat) (s:List Bool) (hh:hdE r = .ok (le,ri,base) s) (x:LV × List (Ob))
  (hT:TL fl P (brn fl P (8*P.length-b.length) 0) d le ri base (8*P.length-s.length) 0 0=some x):Φ 141 [.ref 0 0,.int .i64 d] [so 0,brn fl P (8*P.length-b.length) 0]=some x:=by
 subst hbr
 have hr:r <:+ bitsB P:=(List.suffix_cons _ _).trans hb
 have g1:=dM fl P 1 (false::r) 0 r h28 (by decide) hb (cq false r)
 simp only [Int.natCast_one,Int.natCast_zero] at g1
 refine stA fl P d _ x le ri base _ 0 0 hT ?_
 clear hT
 have num : ∀ (r4:List Bool),r4 <:+ bitsB P→((getN20 r4).then fun v r=>if v=0 then Rd.bad 6 else Rd.ok (le,ri,v) r) = .ok (le,ri,base) s →
   Φ 170 [.ref 0 0] [so 0,brn fl P (8*P.length-r4.length) 0]=some (.int .u64 base,[so 0,brn fl P (8*P.length-s.length) 0])∧0<base:=by
  intro r4 h4 hq
  have g:=vD fl P r4 h28 h4
  unfold getN20 at hq
  cases hn:numR 62 2 0 r4 with
  | none=>rw [hn] at hq;cases hq
  | some q=>
   obtain ⟨v,t⟩:=q
   rw [hn] at g hq
   by_cases h:v≤2^20
   ·simp only [if_pos h,Rd.then] at g hq
    by_cases h0:v=0
    ·rw [if_pos h0] at hq;cases hq
    ·rw [if_neg h0] at hq;cases hq
     exact ⟨g,by omega⟩
   ·simp only [if_neg h,Rd.then] at g hq
    cases hq
 match r,hr with
 | [],_=>cases hh
 | [y],_=>cases y<;>cases hh
 | y::z::r2,hr=>
  have hr2:r2 <:+ bitsB P:=((List.suffix_cons _ _).trans (List.suffix_cons _ _)).trans hr
  have g2:=dM fl P 2 (y::z::r2) (2*y.toNat+z.toNat) r2 h28 (by decide) hr (by simp [wGet,bvA])
  simp only [Int.cast_ofNat_Int] at g2
  by_cases h3:y=true∧z=true
  ·obtain ⟨rfl,rfl⟩:=h3
   simp only [Bool.toNat_true,show ((2*1+1:Nat):Int)=3 from rfl] at g2
   generalize hN:8*P.length-(false::true::true::r2).length=N at*
   generalize hN1:8*P.length-(true::true::r2).length=N1 at*
   match r2,hr2 with
   | [],_=>cases hh
   | [false],_=>cases hh
   | true::r3,hr2=>
    have hr3:r3 <:+ bitsB P:=(List.suffix_cons _ _).trans hr2
    have g3:=dM fl P 1 (true::r3) 1 r3 h28 (by decide) hr2 (cq true r3)
    simp only [Int.natCast_one] at g3
    obtain ⟨rfl,rfl⟩:le=true∧ri=true:=by
     obtain ⟨v,t,_,h2⟩:=Rd.then_ok hh
     split at h2
     ·cases h2
     ·cases h2;exact ⟨rfl,rfl⟩
    obtain ⟨g4,h0⟩:=num r3 hr3 hh
    have h0' : ¬base=0:=by omega
    try rw [hN]
    generalize 8*P.length-(true::r3).length=N3 at*
    generalize 8*P.length-r3.length=N2 at*
    generalize 8*P.length-s.length=N5 at*
    simp +contextual (maxSteps:=1000000) [ir141,tkC,ssL,↓ssM,aa,ssU,Go.Sx.LV.undef,Go.undef,ssR,g1,g2,g3,g4,bD,bw,hd,h0,h0']
   | false::w::r4,hr2=>
    have hr3:w::r4 <:+ bitsB P:=(List.suffix_cons _ _).trans hr2
    have hr4:r4 <:+ bitsB P:=(List.suffix_cons _ _).trans hr3
    have g3:=dM fl P 1 (false::w::r4) 0 (w::r4) h28 (by decide) hr2 (cq false (w::r4))
    have g5:=dM fl P 1 (w::r4) w.toNat r4 h28 (by decide) hr3 (cq w r4)
    simp only [Int.natCast_one,Int.natCast_zero] at g3 g5
    obtain ⟨rfl,rfl⟩:le=w∧ri=!w:=by
     obtain ⟨v,t,_,h2⟩:=Rd.then_ok hh
     split at h2
     ·cases h2
     ·cases h2;exact ⟨rfl,rfl⟩
    obtain ⟨g4,h0⟩:=num r4 hr4 hh
    have h0' : ¬base=0:=by omega
    try rw [hN]
    generalize 8*P.length-(false::le::r4).length=N3 at*
    generalize 8*P.length-(le::r4).length=N4 at*
    generalize 8*P.length-r4.length=N2 at*
    generalize 8*P.length-s.length=N5 at*
    cases le<;>simp +contextual (maxSteps:=1000000) [ir141,tkC,ssL,↓ssM,aa,ssU,Go.Sx.LV.undef,Go.undef,ssR,g1,g2,g3,g4,g5,bD,bw,hd,h0,h0']
  ·have e:hdE (y::z::r2) = .ok (y||z,y||!z,0) r2:=by cases y<;>cases z<;>first|rfl|exact absurd ⟨rfl,rfl⟩ h3
   rw [e] at hh
   cases hh
   generalize hN:8*P.length-(false::y::z::s).length=N at*
   generalize hN1:8*P.length-(y::z::s).length=N1 at*
   generalize 8*P.length-s.length=N2 at*
   cases y<;>cases z
   case true.true=>exact absurd ⟨rfl,rfl⟩ h3
   all_goals
   simp only [Bool.toNat_true,Bool.toNat_false,Nat.mul_zero,Nat.mul_one,Nat.add_zero,Nat.zero_add,Int.natCast_zero,Int.natCast_one,Int.cast_ofNat_Int] at g2
   simp +contextual (maxSteps:=1000000) [ir141,tkC,ssL,↓ssM,aa,ssU,Go.Sx.LV.undef,Go.undef,ssR,g1,g2,bD,bw,hd]
end
theorem xO {fl:Bool} {P:List UInt8} (h28:P.length<2^28) : ∀ (k:Nat) (b:List Bool),k≤16→b <:+ bitsB P→EvSpec fl P (16-k:Nat) b (getE k b)
 | k,[],hk,hb=>by
  have e:getE k [] = .bad 6:=by cases k<;>rfl
  rw [e];exact yF h28 hb rfl
 | k,true::r,hk,hb=>by
  have e:getE k (true::r)=(getN20 r).then fun v r=>.ok (.leaf v) r:=by cases k<;>rfl
  rw [e];exact wu h28 hb r rfl
 | 0,false::r,hk,hb=>wt h28 hb r rfl rfl
 | k+1,false::r,hk,hb=>by
  have hr:r <:+ bitsB P:=(List.suffix_cons _ _).trans hb
  have hd:((16-(k+1):Nat):Int)≠16:=by omega
  cases hh:hdE r with
  | bad c=>
   have e:getE (k+1) (false::r) = .bad c:=by rw [getE,hh];rfl
   rw [e];exact sd h28 hb r rfl hd c hh
  | ok q s=>
   obtain ⟨le,ri,base⟩:=q
   obtain ⟨hbase,hs,hlr⟩:=ui hh
   have hs':=hs.trans hr
   have go:=tU (fl:=fl) h28 hb r rfl hd le ri base s hh
   have hw:IntKind.i64.wrap (((16-(k+1):Nat):Int)+1)=((16-(k+1):Nat):Int)+1:=wrap_i64 _ (by omega) (by omega)
   have hd1:((16-k:Nat):Int)=((16-(k+1):Nat):Int)+1:=by omega
   have ih:=fun (b:List Bool) (hb:b <:+ bitsB P)=>xO (fl:=fl) h28 k b (by omega) hb
   rw [hd1] at ih
   generalize ((16-(k+1):Nat):Int)=d at*
   have fin : ∀ (x y:Ev) (t:List Bool),x.norm→y.norm→x.max≤2^20→y.max≤2^20→x.depth≤k→y.depth≤k→okE le ri x y=true →
     Φ 174 [.ref 0 0,.int .u64 base,.p x.pv,.p y.pv] [so 0,brn fl P (8*P.length-t.length) 0]=if (Ev.node base x y).max≤2^20 then some (.p (Ev.node base x y).pv,[so 0,brn fl P (8*P.length-t.length) 0]) else some (.p (Ev.leaf 0).pv,[so 4,brn fl P (8*P.length-t.length) 0]):=by
    intro x y t nx ny mx my dx dy hok
    unfold okE at hok
    simp only [Bool.and_eq_true,Bool.not_eq_true',decide_eq_true_eq] at hok
    refine zI fl P _ base x y hbase ⟨nx,ny,by have:=hok.1.2;omega,fun hc => ?_⟩ (by simp only [Ev.depth];omega) mx my
    have:=hok.2
    simp [hc.1,hc.2.1,hc.2.2] at this
   have ends : ∀ (x y:Ev) (t:List Bool),(∀ z,z=(if okE le ri x y=true then (if (Ev.node base x y).max≤2^20 then some ((.p (Ev.node base x y).pv:LV),[so 0,brn fl P (8*P.length-t.length) 0]) else some (.p (Ev.leaf 0).pv,[so 4,brn fl P (8*P.length-t.length) 0])) else some (.p (Ev.leaf 0).pv,[so 6,brn fl P (8*P.length-t.length) 0])) →
     TL fl P (brn fl P (8*P.length-(false::r).length) 0) d le ri base (8*P.length-s.length) 0 0=z) →
     EvSpec fl P d (false::r) (if okE le ri x y=true then (if (Ev.node base x y).max≤2^20 then .ok (.node base x y) t else .bad 4) else .bad 6):=by
    intro x y t hz
    by_cases h1:okE le ri x y=true
    ·by_cases h2:(Ev.node base x y).max≤2^20
     ·rw [if_pos h1,if_pos h2];exact go _ (hz _ (by rw [if_pos h1,if_pos h2]))
     ·rw [if_pos h1,if_neg h2];exact ⟨_,_,go _ (hz _ (by rw [if_pos h1,if_neg h2]))⟩
    ·rw [if_neg h1];exact ⟨_,_,go _ (hz _ (by rw [if_neg h1]))⟩
   have hl0:(Ev.leaf 0).norm∧(Ev.leaf 0).max≤2^20∧(Ev.leaf 0).depth≤k:=⟨trivial,by decide,Nat.zero_le _⟩
   have ex : ∀ (x y:Ev) (t:List Bool),∃ (v:Ev) (c:Int),(if (Ev.node base x y).max≤2^20 then some ((.p (Ev.node base x y).pv:LV),[so 0,brn fl P (8*P.length-t.length) 0]) else some (.p (Ev.leaf 0).pv,[so 4,brn fl P (8*P.length-t.length) 0]))=some (.p v.pv,[so c,brn fl P (8*P.length-t.length) 0]):=by
    intro x y t
    split
    ·exact ⟨_,_,rfl⟩
    ·exact ⟨_,_,rfl⟩
   rw [getE,hh]
   simp only [Rd.then]
   cases le with
   | true=>
    have hx:=ih s hs'
    cases hgx:getE k s with
    | bad c=>
     rw [hgx] at hx
     obtain ⟨n,e,hx⟩:=hx
     simp only [if_true]
     exact ⟨_,_,go _ (zL fl P _ d base _ hw ri c n e (dH _ _ _ hgx) hx)⟩
    | ok x t=>
     rw [hgx] at hx
     obtain ⟨nx,mx,dx,tx⟩:=gu _ _ _ _ hgx
     simp only [if_true]
     cases ri with
     | true=>
      have hy:=ih t (tx.trans hs')
      cases hgy:getE k t with
      | bad c=>
       rw [hgy] at hy
       obtain ⟨n,e,hy⟩:=hy
       simp only [if_true]
       exact ⟨_,_,go _ (zM fl P _ d base _ hw x _ c n e (dH _ _ _ hgy) hx hy)⟩
      | ok y u=>
       rw [hgy] at hy
       obtain ⟨ny,my,dy,uy⟩:=gu _ _ _ _ hgy
       simp only [if_true]
       refine ends x y u fun z hz => ?_
       refine zJ fl P _ d base _ hw x y _ _ hx hy z ?_ ?_
       ·rw [hz]
        by_cases hok:okE true true x y=true
        ·rw [if_pos hok,if_pos hok,fin x y u nx ny mx my dx dy hok]
        ·rw [if_neg hok,if_neg hok]
       ·intro hok;rw [hz,if_pos hok];exact ex x y u
     | false=>
      simp only [Bool.false_eq_true,if_false]
      refine ends x (.leaf 0) t fun z hz => ?_
      refine tlL fl P _ d base _ hw x _ hx z ?_ ?_
      ·rw [hz]
       by_cases hok:okE true false x (.leaf 0)=true
       ·rw [if_pos hok,if_pos hok,fin x _ t nx hl0.1 mx hl0.2.1 dx hl0.2.2 hok]
       ·rw [if_neg hok,if_neg hok]
      ·intro hok;rw [hz,if_pos hok];exact ex x _ t
   | false=>
    obtain rfl:ri=true:=by simpa using hlr
    have hy:=ih s hs'
    simp only [Bool.false_eq_true,if_false,if_true]
    cases hgy:getE k s with
    | bad c=>
     rw [hgy] at hy
     obtain ⟨n,e,hy⟩:=hy
     exact ⟨_,_,go _ (xE fl P _ d base _ hw c n e (dH _ _ _ hgy) hy)⟩
    | ok y u=>
     rw [hgy] at hy
     obtain ⟨ny,my,dy,uy⟩:=gu _ _ _ _ hgy
     refine ends (.leaf 0) y u fun z hz => ?_
     refine tlR fl P _ d base _ hw y _ hy z ?_ ?_
     ·rw [hz]
      by_cases hok:okE false true (.leaf 0) y=true
      ·rw [if_pos hok,if_pos hok,fin _ y u hl0.1 ny hl0.2.1 my hl0.2.2 dy hok]
      ·rw [if_neg hok,if_neg hok]
     ·intro hok;rw [hz,if_pos hok];exact ex _ y u
end Go.Proofs.YtoeblkipfdnnlaaGreatDoor
end

section
namespace Go.Proofs.YtoeblkipfdnnlaaGreatDoor
open Go Go.Sx
abbrev cI (i:Id):Ob:=some (.cells [.bool i.all,.p i.ptr])
section
variable (fl:Bool) (P:List UInt8) (x1:Ob) (d:Int) (N:Nat) (hw:IntKind.i64.wrap (d+1)=d+1)
include hw
end
end Go.Proofs.YtoeblkipfdnnlaaGreatDoor
end

section
namespace Go.Proofs.YtoeblkipfdnnlaaGreatDoor
open Go Go.Sx
def bits8 (b:UInt8):List Bool:=(List.range 8).map fun i=>b.toNat/2^(7-i)%2==1
theorem ol (b:UInt8) (p:List UInt8):bitsB (b::p)=bits8 b++bitsB p:=by
 unfold bitsB bits8
 rw [List.length_cons,show 8*(p.length+1)=8+8*p.length by omega,List.range_add,List.map_append,List.map_map]
 congr 1
 apply List.map_congr_left
 intro i hi
 simp only [Function.comp,bitN]
 rw [show (8+i)/8=i/8+1 by omega,show (8+i)%8=i%8 by omega,List.getD_cons_succ]
set_option maxRecDepth 100000 in
theorem tg : ∀ l:List Bool,l.length≤8→bits8 (UInt8.ofNat (valL 0 l*2^(8-l.length)))=l++List.replicate (8-l.length) false
 | [],_=>by decide
 | [a],_=>by revert a;decide
 | [a,b],_=>by revert a b;decide
 | [a,b,c],_=>by revert a b c;decide
 | [a,b,c,d],_=>by revert a b c d;decide
 | [a,b,c,d,e],_=>by revert a b c d e;decide
 | [a,b,c,d,e,f],_=>by revert a b c d e f;decide
 | [a,b,c,d,e,f,g],_=>by revert a b c d e f g;decide
 | [a,b,c,d,e,f,g,h],_=>by revert a b c d e f g h;decide
 | _::_::_::_::_::_::_::_::_::_,h=>by simp at h
theorem kN : ∀ f,packL f []=[]
 | 0=>rfl
 | f+1=>by rw [packL,if_pos rfl]
theorem iu : ∀ (f:Nat) (l:List Bool),l.length≤8*f→∃ k,k<8∧bitsB (packL f l)=l++List.replicate k false
 | 0,l,h=>by
  obtain rfl:l=[]:=List.eq_nil_of_length_eq_zero (by omega)
  exact ⟨0,by decide,rfl⟩
 | f+1,l,h=>by
  by_cases hl:l=[]
  ·subst hl
   exact ⟨0,by decide,by rw [kN];rfl⟩
  have hpos:0<l.length:=List.length_pos_iff.2 hl
  rw [packL,if_neg hl]
  have hb:=tg (l.take 8) (by rw [List.length_take];omega)
  rw [ol,hb]
  by_cases h8:l.length<8
  ·rw [List.drop_of_length_le (by omega),kN,List.take_of_length_le (by omega)]
   exact ⟨8-l.length,by omega,by rw [show bitsB []=[] from rfl,List.append_nil]⟩
  ·obtain ⟨k,hk,e⟩:=iu f (l.drop 8) (by rw [List.length_drop];omega)
   refine ⟨k,hk,?_⟩
   have e8:8-(l.take 8).length=0:=by rw [List.length_take];omega
   rw [e,e8,List.replicate_zero,List.append_nil,←List.append_assoc,List.take_append_drop]
theorem jg (l:List Bool) : ∃ k,k<8∧bitsB (pack l)=l++List.replicate k false:=by
 have h:=dN (l.length+1) [] l (by omega)
 have e:pack l=packL (l.length+1) l:=by simpa [pack] using h
 rw [e]
 exact iu _ _ (by omega)
theorem jl : ∀ (k x v:Nat),bvA v (bitsOf x k)=v*2^k+x%2^k
 | 0,x,v=>by simp [bitsOf,bvA,Nat.mod_one]
 | k+1,x,v=>by
  rw [bitsOf,bvA,jl k x,Nat.mod_pow_succ,Nat.pow_succ,Nat.testBit_eq_decide_div_mod_eq]
  have hb:x/2^k%2<2:=Nat.mod_lt _ (by decide)
  generalize x/2^k%2=b at*
  generalize x%2^k=r
  generalize 2^k=P
  rcases (by omega:b=0∨b=1) with rfl|rfl
  ·simp [Nat.mul_comm,Nat.mul_left_comm,Nat.mul_assoc]
  ·have e:(2*v+1)*P=v*(P*2)+P:=by rw [Nat.add_mul,Nat.one_mul,Nat.mul_comm 2 v,Nat.mul_assoc,Nat.mul_comm 2 P]
   simp;omega
theorem qq (w base v:Nat) (r:List Bool) (h:v<2^w) (h2:base+v<2^64):numF w base (bitsOf v w++r)=some (base+v,r):=by
 unfold numF
 have e1:(bitsOf v w++r).take w=bitsOf v w:=by rw [List.take_append_of_le_length (by rw [aj];exact Nat.le_refl _),List.take_of_length_le (by rw [aj];exact Nat.le_refl _)]
 have e2:(bitsOf v w++r).drop w=r:=by rw [List.drop_append_of_le_length (by rw [aj];exact Nat.le_refl _),List.drop_of_length_le (by rw [aj];exact Nat.le_refl _)];rfl
 rw [e1,e2,jl,Nat.zero_mul,Nat.zero_add,Nat.mod_eq_of_lt h,if_neg (by rw [List.length_append,aj];omega),if_neg (by omega)]
theorem qs : ∀ (m w base v:Nat) (r:List Bool),m+w=64→base+v<2^64→2^w≤base+4→numR m w base (numBits v w m++r)=some (base+v,r)
 | 0,w,base,v,r,hm,hv,hb=>by
  rw [numBits,List.cons_append,numR]
  exact qq w base v r (by have hw:w=64:=(by omega);subst hw;omega) hv
 | m+1,w,base,v,r,hm,hv,hb=>by
  rw [numBits]
  have hp:0<2^w:=Nat.two_pow_pos w
  have hs:0<v >>> w↔2^w≤v:=by
   rw [Nat.shiftRight_eq_div_pow]
   exact Nat.div_pos_iff.trans ⟨fun h=>h.2,fun h=>⟨hp,h⟩⟩
  by_cases h:0<v >>> w
  ·have h':=hs.1 h
   rw [if_pos h,List.cons_append,numR,qs m (w+1) (base+2^w) (v-2^w) r (by omega) (by omega) (by rw [Nat.pow_succ];omega)]
   congr 2
   omega
  ·have h':v<2^w:=by
    have:=mt hs.2 h
    omega
   rw [if_neg h,List.cons_append,numR]
   exact qq w base v r h' hv
theorem kF (v:Nat) (h:v≤2^20) (r:List Bool):getN20 (numBits v 2 62++r) = .ok v r:=by
 unfold getN20
 rw [qs 62 2 0 v r rfl (by omega) (by decide),Nat.zero_add]
 exact if_pos h
theorem lB : ∀ (e:Ev) (k:Nat) (r:List Bool),e.norm→e.max≤2^20→e.depth≤k→getE k (evBits e++r) = .ok e r
 | .leaf n,k,r,hn,hm,hd=>by
  have e:evBits (.leaf n)++r=true::(numBits n 2 62++r):=by rw [evBits,List.append_assoc];rfl
  have e2:getE k (true::(numBits n 2 62++r))=(getN20 (numBits n 2 62++r)).then fun v r=>.ok (.leaf v) r:=by cases k<;>rfl
  rw [e,e2,kF n hm]
  rfl
 | .node n x y,0,r,hn,hm,hd=>by simp only [Ev.depth] at hd;omega
 | .node n x y,k+1,r,hn,hm,hd=>by
  have dx:x.depth≤k:=by simp only [Ev.depth] at hd;omega
  have dy:y.depth≤k:=by simp only [Ev.depth] at hd;omega
  have mx:x.max≤2^20:=by have:=Ev.max_l n x y;omega
  have my:y.max≤2^20:=by have:=Ev.max_r n x y;omega
  have mn:n≤2^20:=by simp only [Ev.max] at hm;omega
  obtain ⟨nx,ny,h0,hs⟩:=hn
  have ix:=fun r=>lB x k r nx mx dx
  have iy:=fun r=>lB y k r ny my dy
  have hxy : ¬(x = .leaf 0∧y = .leaf 0):=by
   rintro ⟨rfl,rfl⟩
   exact hs ⟨rfl,rfl,rfl⟩
  have hh : ∀ s,hdE (evKind n (decide (x = .leaf 0)) (decide (y = .leaf 0))++((if n=0 then [] else numBits n 2 62)++s)) = .ok (!decide (x = .leaf 0),!decide (y = .leaf 0),n) s:=by
   intro s
   unfold evKind
   by_cases hn0:n=0
   ·subst hn0
    by_cases h1:x = .leaf 0
    ·have h2 : ¬y = .leaf 0:=fun h=>hxy ⟨h1,h⟩
     simp [h1,h2,bitsOf,hdE]
    ·by_cases h2:y = .leaf 0<;>simp [h1,h2,bitsOf,hdE,Nat.testBit]
   ·have g:=kF n mn s
    by_cases h1:x = .leaf 0
    ·have h2 : ¬y = .leaf 0:=fun h=>hxy ⟨h1,h⟩
     simp [h1,h2,bitsOf,hdE,hn0,Nat.testBit,g,Rd.then]
    ·by_cases h2:y = .leaf 0<;>simp [h1,h2,bitsOf,hdE,hn0,Nat.testBit,g,Rd.then]
  have eb:evBits (.node n x y)++r=false::(evKind n (decide (x = .leaf 0)) (decide (y = .leaf 0))++((if n=0 then [] else numBits n 2 62)++((if x = .leaf 0 then [] else evBits x)++((if y = .leaf 0 then [] else evBits y)++r)))):=by
   rw [evBits]
   simp only [List.append_assoc]
   rfl
  have ok:okE (!decide (x = .leaf 0)) (!decide (y = .leaf 0)) x y=true:=by
   unfold okE
   simp only [Bool.and_eq_true,Bool.not_not,beq_self_eq_true,true_and,Bool.not_eq_true',decide_eq_true_eq]
   refine ⟨by omega,?_⟩
   simpa using fun h1 h2 h3=>hs ⟨h1,h2,h3⟩
  rw [eb,getE,hh]
  simp only [Rd.then]
  by_cases h1:x = .leaf 0
  ·have h2 : ¬y = .leaf 0:=fun h=>hxy ⟨h1,h⟩
   simp only [h1,h2,decide_true,decide_false,Bool.not_true,Bool.not_false,Bool.false_eq_true,if_false,if_true,List.nil_append] at ok ⊢
   rw [iy]
   simp only [ok,if_true]
   rw [if_pos (by rw [←h1];exact hm)]
  ·simp only [h1,decide_false,Bool.not_false,if_true,if_false] at ok ⊢
   rw [ix]
   simp only []
   by_cases h2:y = .leaf 0
   ·simp only [h2,decide_true,Bool.not_true,Bool.false_eq_true,if_false,if_true,List.nil_append] at ok ⊢
    simp only [ok,if_true]
    rw [if_pos (by rw [←h2];exact hm)]
   ·simp only [h2,decide_false,Bool.not_false,if_true,if_false] at ok ⊢
    rw [iy]
    simp only [ok,if_true]
    rw [if_pos hm]
theorem zQ (k:Nat) (h:k<8):wEnd (List.replicate k false) 0=0:=by
 unfold wEnd
 rw [if_pos rfl,if_neg]
 simp
 omega
end Go.Proofs.YtoeblkipfdnnlaaGreatDoor
end

section
namespace Go.Proofs.YtoeblkipfdnnlaaGreatDoor
open Go Go.Sx
theorem zW (fl p) (h30:p.length<2^31):Φ 104 [sB fl p] []=some (.ref 0 0,[brn p.isEmpty p 0 0]):=by
 refine aP (ir:=ir104) (by kernel_rfl) ?_;simp +contextual (maxSteps:=1000000) [ir104,ssL,↓ssM,aa,ssU,Go.Sx.LV.undef,Go.undef,ssR,pw p fl h30]
section
variable {fl:Bool} {P:List UInt8} (h28:P.length<2^28) {b:List Bool} (hb:b <:+ bitsB P)
include h28 hb
theorem Ad:(match getE 16 b with
  | .ok x r=>Φ 105 [.ref 0 0] [br fl P b 0]=some (.tuple [.p x.pv,.int .i64 0],[br fl P r 0])
  | .bad c=>∃ n e,Φ 105 [.ref 0 0] [br fl P b 0]=some (.tuple [.p (Ev.leaf 0).pv,.int .i64 c],[brn fl P n e])):=by
 have g:=xO (fl:=fl) h28 16 b (by decide) hb
 unfold EvSpec at g
 unfold br
 generalize 8*P.length-b.length=N at*
 cases hg:getE 16 b with
 | ok x r=>
  rw [hg] at g
  simp only [Nat.sub_self,Int.natCast_zero,Ev.pv] at g ⊢
  generalize 8*P.length-r.length=N1 at*
  generalize x.ptr=px at*
  generalize x.n=nx at*
  refine aP (ir:=ir105) (by kernel_rfl) ?_;simp +contextual (maxSteps:=1000000) [ir105,ssL,↓ssM,aa,ssU,Go.Sx.LV.undef,Go.undef,ssR,g]
 | bad c=>
  have hc:=dH _ _ _ hg
  rw [hg] at g
  obtain ⟨n,e,g⟩:=g
  simp only [Nat.sub_self,Int.natCast_zero,Ev.pv,Ev.n_l,Ev.ptr_l] at g ⊢
  refine ⟨n,e,?_⟩
  refine aP (ir:=ir105) (by kernel_rfl) ?_;simp +contextual (maxSteps:=1000000) [ir105,ssL,↓ssM,aa,ssU,Go.Sx.LV.undef,Go.undef,ssR,g,hc]
theorem ws (x:PV) (n:Int):Φ 106 [.ref 0 0,.p (.agg [.s (.int .u64 n),x]),.int .i64 0] [br fl P b 0]=if wEnd b 0=0 then some (.tuple [.p (.agg [.s (.int .u64 n),x]),.int .i64 0],[br fl P b 0]) else some (.tuple [.p (Ev.leaf 0).pv,.int .i64 (wEnd b 0)],[br fl P b (wEnd b 0)]):=by
 have g:=zV fl P b 0 h28 hb
 simp only [Ev.pv,Ev.n_l,Ev.ptr_l,Int.natCast_zero]
 unfold br at*
 generalize 8*P.length-b.length=N at*
 by_cases h:wEnd b 0=0
 ·rw [if_pos h];rw [h] at g
  refine aP (ir:=ir106) (by kernel_rfl) ?_;simp +contextual (maxSteps:=1000000) [ir106,ssL,↓ssM,aa,ssU,Go.Sx.LV.undef,Go.undef,ssR,g]
 ·rw [if_neg h]
  generalize wEnd b 0=w at*
  refine aP (ir:=ir106) (by kernel_rfl) ?_;simp +contextual (maxSteps:=1000000) [ir106,ssL,↓ssM,aa,ssU,Go.Sx.LV.undef,Go.undef,ssR,g,h]
end
theorem tN (fl P n e) (x:PV) (v c:Int) (hc:c≠0):Φ 106 [.ref 0 0,.p (.agg [.s (.int .u64 v),x]),.int .i64 c] [brn fl P n e]=some (.tuple [.p (Ev.leaf 0).pv,.int .i64 c],[brn fl P n e]):=by
 refine aP (ir:=ir106) (by kernel_rfl) ?_;simp +contextual (maxSteps:=1000000) [ir106,ssL,↓ssM,aa,ssU,Go.Sx.LV.undef,Go.undef,ssR,hc,Ev.n_l,Ev.ptr_l]
def rdE (p:List UInt8):Ev × Int:=match getE 16 (bitsB p) with
 | .ok x r=>if wEnd r 0=0 then (x,0) else (.leaf 0,wEnd r 0)
 | .bad c=>(.leaf 0,c)
theorem sJ (fl) (p:List UInt8) (h28:p.length<2^28):Ψ 73 [sB fl p] []=some (.tuple [.p (rdE p).1.pv,.int .i64 (rdE p).2]):=by
 have nw:=zW fl p (by omega)
 have g:=Ad (fl:=p.isEmpty) h28 (List.suffix_refl (bitsB p))
 have e0:8*p.length-(bitsB p).length=0:=by rw [eU];omega
 unfold rdE
 unfold br at g
 rw [e0] at g
 simp only [brn,Int.natCast_zero] at g nw
 cases hg:getE 16 (bitsB p) with
 | ok x r=>
  rw [hg] at g
  have hr:=(gu _ _ _ _ hg).2.2.2
  have w:=ws (fl:=p.isEmpty) h28 hr
  unfold br at w
  simp only [Ev.pv,Id.pv] at g ⊢
  generalize 8*p.length-r.length=N1 at*
  by_cases h:wEnd r 0=0
  ·simp only [if_pos h] at w ⊢
   generalize x.ptr=px at*
   generalize x.n=nx at*
   refine aU (ir:=ir73) (by kernel_rfl) ?_;simp +contextual (maxSteps:=1000000) [ir73,ssL,↓ssM,aa,ssU,Go.Sx.LV.undef,Go.undef,ssR,nw,g,w]
  ·simp only [if_neg h,Ev.pv,Ev.n_l,Ev.ptr_l,Int.natCast_zero] at w ⊢
   generalize x.ptr=px at*
   generalize x.n=nx at*
   generalize wEnd r 0=ww at*
   refine aU (ir:=ir73) (by kernel_rfl) ?_;simp +contextual (maxSteps:=1000000) [ir73,ssL,↓ssM,aa,ssU,Go.Sx.LV.undef,Go.undef,ssR,nw,g,w]
 | bad c=>
  rw [hg] at g
  obtain ⟨n,e,g⟩:=g
  have w:=fun fl P n e x v=>tN fl P n e x v c (dH _ _ _ hg)
  simp only [Ev.pv,Ev.n_l,Ev.ptr_l,Int.natCast_zero] at g w ⊢
  refine aU (ir:=ir73) (by kernel_rfl) ?_;simp +contextual (maxSteps:=1000000) [ir73,ssL,↓ssM,aa,ssU,Go.Sx.LV.undef,Go.undef,ssR,nw,g,w]
end Go.Proofs.YtoeblkipfdnnlaaGreatDoor
end

section
namespace Go.Proofs.YtoeblkipfdnnlaaGreatDoor
open Go Go.Sx
theorem zw (e:Ev) (hn:e.norm) (hm:e.max≤2^20) (hd:e.depth≤16):rdE (pack (evBits e))=(e,0):=by
 obtain ⟨k,hk,h⟩:=jg (evBits e)
 unfold rdE
 rw [h,lB e 16 _ hn hm hd]
 simp only [zQ k hk,if_true]
theorem rF (n:Nat) (h:n<2^64) (r:List UInt8):wNum (vnum n++r) 0=(n,r,0):=by
 unfold wNum
 rw [if_pos rfl,xq n h]
theorem vO (most:Nat) (s r:List UInt8) (h:s.length≤most) (hm:most<2^31):wText most (txt s++r) 0=(s,r,0):=by
 unfold wText txt
 rw [if_pos rfl,List.append_assoc,rF _ (by omega)]
 simp only [if_true]
 rw [if_neg (by omega),if_neg (by rw [List.length_append];omega),List.take_append_of_le_length (Nat.le_refl _),List.take_length,List.drop_append_of_le_length (Nat.le_refl _),List.drop_length]
 rfl
theorem vN (b:UInt8) (r:List UInt8):wByte (b::r) 0=(b,r,0):=by simp [wByte]
theorem mB (l:List UInt8):(l.map fun x:UInt8=>PV.s (.int .u8 x.toNat))=bytP l:=rfl
theorem bsz (l:List UInt8):ByteArray.size ⟨l.toArray⟩=l.length:=rfl
section
variable (fl:Bool) (r:List UInt8)
theorem uk (n:Nat) (h:n<2^64) (hl:(vnum n++r).length<2^31):Φ 103 [.ref 0 0] [wi fl (vnum n++r) 0]=some (.int .u64 n,[wi fl r 0]):=by
 have g:=xW fl (vnum n++r) 0 hl
 rw [rF n h] at g
 exact g
theorem iS (most:Nat) (s:List UInt8) (h:s.length≤most) (hm:most<2^31) (hl:(txt s++r).length<2^31):Φ 71 [.ref 0 0,.int .i64 most] [wi fl (txt s++r) 0]=some (.str ⟨s.toArray⟩,[wi fl r 0]):=by
 have g:=yM fl most (txt s++r) 0 hl hm
 rw [vO most s r h hm] at g
 exact g
theorem lF (b:UInt8):Φ 75 [.ref 0 0] [wi fl (b::r) 0]=some (.int .u8 b.toNat,[wi fl r 0]):=by
 have g:=yK fl (b::r) 0
 rw [vN] at g
 exact g
end
end Go.Proofs.YtoeblkipfdnnlaaGreatDoor
end

section
namespace Go.Proofs.YtoeblkipfdnnlaaGreatDoor
open Go Go.Sx
structure Wp (v:Wv):Prop where
 n:v.ev.norm
 m:v.ev.max≤2^20
 d:v.ev.depth≤16
 b:(evBits v.ev).length≤2^14
 s : ∀ s,v.nm=some s→Nam s
 g:v.gone=true→v.nm=none
theorem Wp.ok {v:Wv} (h:Wp v):v.Ok:=⟨h.n,by have:=h.m;omega,by have:=h.b;omega,fun s e=>by have:=(h.s s e).l;omega⟩
theorem Wp.right {v:Wv} (h:Wp v):v.right=true:=by
 unfold Wv.right
 cases hg:v.gone with
 | false=>rfl
 | true=>simp [h.g hg]
theorem ez : ∀ (e:Ev),(evBits e).length+140≤280*2^e.depth
 | .leaf n=>by
  have:=iG 62 n 2
  simp [evBits,aj,Ev.depth];omega
 | .node n l r=>by
  have h1:=ez l
  have h2:=ez r
  have h3:=iG 62 n 2
  have h4:=(oz n (decide (l = .leaf 0)) (decide (r = .leaf 0))).2
  have hd:(Ev.node n l r).depth=1+Max.max l.depth r.depth:=rfl
  have p1:2^l.depth≤2^Max.max l.depth r.depth:=Nat.pow_le_pow_right (by omega) (Nat.le_max_left _ _)
  have p2:2^r.depth≤2^Max.max l.depth r.depth:=Nat.pow_le_pow_right (by omega) (Nat.le_max_right _ _)
  have p3:2^(1+Max.max l.depth r.depth)=2*2^Max.max l.depth r.depth:=by rw [Nat.add_comm,Nat.pow_succ,Nat.mul_comm]
  rw [hd,p3]
  unfold evBits
  simp only [List.length_append,aj]
  have q1:(if n=0 then [] else numBits n 2 62).length≤127:=by
   by_cases q:n=0
   ·rw [if_pos q];exact Nat.zero_le _
   ·rw [if_neg q];omega
  have q2:(if l = .leaf 0 then [] else evBits l).length≤(evBits l).length:=by split<;>simp
  have q3:(if r = .leaf 0 then [] else evBits r).length≤(evBits r).length:=by split<;>simp
  omega
theorem xN (x:Option (List UInt8)) (s:List UInt8) (g:Bool):Wp (dv x s g):=by
 obtain ⟨a,b,c⟩:=fe 4 (x.map (·.take 40))
 have h1:=ez (mkEv 4 (x.map (·.take 40))).1
 have h2:2^(mkEv 4 (x.map (·.take 40))).1.depth≤2^4:=Nat.pow_le_pow_right (by omega) b
 refine ⟨a,Nat.le_trans c (by decide),Nat.le_trans b (by decide),?_,fun s' e => ?_,fun e => ?_⟩
 ·show (evBits (mkEv 4 (x.map (·.take 40))).1).length≤2^14
  omega
 ·simp only [dv,wvOf] at e
  split at e
  ·rename_i h
   obtain rfl:=Option.some.inj e
   exact uA h.2
  ·cases e
 ·simp only [dv,wvOf] at e ⊢
  rw [if_neg (by rw [e];simp)]
end Go.Proofs.YtoeblkipfdnnlaaGreatDoor
end

section
namespace Go.Proofs.YtoeblkipfdnnlaaGreatDoor
open Go Go.Sx
set_option maxHeartbeats 4000000
theorem Is.len {L M:List Wv} (h:L.map Wv.bytes=M.map Wv.bytes):L.length=M.length:=by
 have:=congrArg List.length h
 simpa using this
section
variable {V W:List Wv}
end
section
variable {H:Heap} {nx:Nat} {S:PV} {W:List Wv}
end
end Go.Proofs.YtoeblkipfdnnlaaGreatDoor
end

section
namespace Go.Proofs.YtoeblkipfdnnlaaGreatDoor
open Go Go.Sx Go.ChangeShapes Go.WideShapes
end Go.Proofs.YtoeblkipfdnnlaaGreatDoor
end

section
namespace Go.Proofs.YtoeblkipfdnnlaaGreatDoor
open Go Go.Sx Go.ChangeShapes Go.WideShapes
inductive SK where
 | int (k:IntKind)
 | bool
 | str
def SK.of (P:Program) (t:TypeId):Option SK:=match P.underlying t with
 | some (.int k)=>some (.int k)
 | some .bool=>some .bool
 | some .string=>some .str
 | _=>none
def SK.fits:SK→Value→Prop
 | .int k,.int k' n=>k'=k∧(Lit.int k n).wf=true
 | .bool,.bool _=>True
 | .str,.string s=>s.size≤maxLen
 | _,_=>False
inductive Fits:List SK→List Value→Prop
 | nil:Fits [] []
 | cons {k:SK} {v:Value} {ks:List SK} {vs:List Value} : k.fits v→Fits ks vs→Fits (k::ks) (v::vs)
section
variable {H:Type} {enc:TypeId × Value→H} {P:Program} {W:World} {base:Nat} {spare:Nat→Bool} {held:Bool}
theorem xB {t:TypeId} {s:SK} {n:Nat} {v:Value} {x:DataW H × List MemPlace} (hs:SK.of P t=some s) (h:DataW.trod enc P W base spare held n t [v]=some x):s.fits v:=by
 unfold SK.of at hs
 cases n with
 | zero=>simp [DataW.trod] at h
 | succ n=>
  unfold DataW.trod at h
  split at hs
  ·rename_i k hk
   obtain rfl:=Option.some.inj hs
   rw [hk] at h
   cases v<;>simp at h
   exact ⟨h.1.1,h.1.2⟩
  ·rename_i hk
   obtain rfl:=Option.some.inj hs
   rw [hk] at h
   cases v<;>simp at h
   trivial
  ·rename_i hk
   obtain rfl:=Option.some.inj hs
   rw [hk] at h
   cases v<;>simp at h
   exact h.1
  ·cases hs
theorem nH {s:SK} {v:Value} (h:s.fits v):v.oneCell'=true:=by
 cases s<;>cases v<;>simp [SK.fits] at h<;>rfl
theorem Fits.len {ks:List SK} {vs:List Value} (h:Fits ks vs):vs.length=ks.length:=by
 induction h with
 | nil=>rfl
 | cons _ _ ih=>simp [ih]
theorem Fits.one {ks:List SK} {vs:List Value} (h:Fits ks vs) : ∀ v∈vs,v.oneCell'=true:=by
 induction h with
 | nil=>simp
 | cons hk _ ih=>
  intro v hv
  rcases List.mem_cons.1 hv with rfl|hv
  ·exact nH hk
  ·exact ih v hv
end
end Go.Proofs.YtoeblkipfdnnlaaGreatDoor
end

section
namespace Go.Proofs.YtoeblkipfdnnlaaGreatDoor
open Go Go.Sx Go.ChangeShapes Go.WideShapes
inductive CT where
 | k (s:SK)
 | sl (ks:List CT)
def flatFs (g:TypeId→Option (List CT)) (P:Program):Nat→List Field→Option (List CT)
 | _,[]=>some []
 | i,f::r=>match g f.type with
  | some a=>if f.offset=i∧P.cellsOf f.type=a.length then (match flatFs g P (i+a.length) r with
   | some b=>some (a++b)
   | none=>none) else none
  | none=>none
def flatT (P:Program):Nat→TypeId→Option (List CT)
 | 0,_=>none
 | m+1,t=>match P.underlying t with
  | some (.slice e)=>match flatT P m e with
   | some ks=>if P.cellsOf e=ks.length∧0<ks.length then some [.sl ks] else none
   | none=>none
  | some (.struct fs)=>match flatFs (flatT P m) P 0 fs.toList with
   | some ks=>if P.cellsOf t=ks.length then some ks else none
   | none=>none
  | _=>match SK.of P t with
   | some s=>some [.k s]
   | none=>none
inductive RV (W:World):CT→Value→PV→Prop
 | k {s:SK} {v:Value} : s.fits v→RV W (.k s) v (.s v)
 | nil (ks:List CT):RV W (.sl ks) (.slice none 0 0) (.s (.slice none 0 0))
 | sl0 (ks:List CT) (a:Addr) (cap:Nat):RV W (.sl ks) (.slice (some a) 0 cap) (.sl [] 0 ks.length false)
 | sl (ks:List CT) (b off len cap:Nat) (u:Nat→Value) (xs:List PV) (c:Nat→CT) (hx:xs.length=len*ks.length) (hk : ∀ j,j<len*ks.length→ks[j%ks.length]?=some (c j))
   (hu : ∀ j,j<len*ks.length→W.cell? ⟨b,off+j,none⟩=some (u j)) (h : ∀ (j:Nat) (x:PV),xs[j]?=some x→RV W (c j) (u j) x) (hcap:len≤cap) (hb:b<W.heap.size) (hm:len<2^63):
   RV W (.sl ks) (.slice (some ⟨b,off,none⟩) len cap) (.sl xs len ks.length false)
theorem RV.one {W:World} {c:CT} {v:Value} {x:PV} (h:RV W c v x):v.oneCell'=true:=by
 cases h with
 | k h=>exact nH h
 | _=>rfl
theorem RV.pr {W:World} {c:CT} {v:Value} {x:PV} (h:RV W c v x):PR (fun b=>b<W.heap.size) W x v:=by
 induction h with
 | k h=>exact .s _
 | nil ks=>exact .s _
 | sl0 ks a cap=>exact .sl0 _ _ _ _ (fun h=>by cases h)
 | sl ks b off len cap u xs c hx hk hu h hcap hb hm ih=>
  refine .sl _ len ks.length false b off cap u hb (fun j hj=>hu j (by omega)) ?_ ?_ hcap (fun h=>by cases h)
  ·intro j hj
   obtain ⟨x,hx'⟩ : ∃ x,xs[j]?=some x:=⟨xs[j],by simp [hj]⟩
   exact (h j x hx').one
  ·intro j l hj;exact ih j l hj
def AllR (W:World) (ks:List CT) (cs:List Value) (xs:List PV):Prop:=
 cs.length=ks.length∧xs.length=ks.length∧∀ (j:Nat) (c:CT) (v:Value) (x:PV),ks[j]?=some c→cs[j]?=some v→xs[j]?=some x→RV W c v x
theorem AllR.app {W:World} {ks ks':List CT} {cs cs':List Value} {xs xs':List PV} (h:AllR W ks cs xs) (h':AllR W ks' cs' xs'):AllR W (ks++ks') (cs++cs') (xs++xs'):=by
 obtain ⟨a1,a2,a3⟩:=h
 obtain ⟨b1,b2,b3⟩:=h'
 refine ⟨by simp [a1,b1],by simp [a2,b2],?_⟩
 intro j c v x h1 h2 h3
 by_cases hj:j<ks.length
 ·rw [List.getElem?_append_left hj] at h1
  rw [List.getElem?_append_left (by omega)] at h2 h3
  exact a3 j c v x h1 h2 h3
 ·rw [List.getElem?_append_right (by omega)] at h1 h2 h3
  rw [a1] at h2
  rw [a2] at h3
  exact b3 _ c v x h1 h2 h3
theorem dG {α:Type} (rows:Nat→List α) (m:Nat) : ∀ (n:Nat),(∀ i,i<n→(rows i).length=m)→(((List.range n).map rows).flatten).length=n*m∧∀ j,j<n*m→(((List.range n).map rows).flatten)[j]?=(rows (j/m))[j%m]?
 | 0,_=>⟨by simp,fun j hj=>by omega⟩
 | n+1,h=>by
  obtain ⟨l1,l2⟩:=dG rows m n (fun i hi=>h i (by omega))
  rw [List.range_succ,List.map_append,List.flatten_append]
  refine ⟨by rw [List.length_append,l1];simp [h n (by omega),Nat.add_mul],?_⟩
  intro j hj
  have hm:0<m:=by
   rcases Nat.eq_zero_or_pos m with rfl|h'
   ·simp at hj
   ·exact h'
  by_cases hlt:j<n*m
  ·rw [List.getElem?_append_left (by omega),l2 j hlt]
  ·rw [List.getElem?_append_right (by omega),l1]
   have e1:j/m=n:=Nat.div_eq_of_lt_le (by omega) (by rw [Nat.add_mul] at *;omega)
   have e2:j%m=j-n*m:=by
    have:=Nat.div_add_mod j m
    rw [e1,Nat.mul_comm] at this
    omega
   rw [e1,e2];simp
section
variable {H:Type} {enc:TypeId × Value→H} {P:Program} {W:World} {base:Nat} {spare:Nat→Bool} {held:Bool}
theorem vC {t:TypeId} {s:SK} {n:Nat} {cs:List Value} {x:DataW H × List MemPlace} (hs:SK.of P t=some s) (h:DataW.trod enc P W base spare held n t cs=some x) : ∃ v,cs=[v]∧s.fits v:=by
 obtain ⟨v,rfl⟩ : ∃ v,cs=[v]:=by
  unfold SK.of at hs
  cases n with
  | zero=>simp [DataW.trod] at h
  | succ n=>
   unfold DataW.trod at h
   split at hs
   ·rename_i k hk
    rw [hk] at h
    split at h<;>simp_all
   ·rename_i hk
    rw [hk] at h
    split at h<;>simp_all
   ·rename_i hk
    rw [hk] at h
    split at h<;>simp_all
   ·cases hs
 exact ⟨v,rfl,xB hs h⟩
theorem gL {g:TypeId→Option (List CT)} (ih : ∀ t ks n cs y,g t=some ks→DataW.trod enc P W base spare held n t cs=some y→∃ xs,AllR W ks cs xs) : ∀ (fs:List Field) (i:Nat) (ks:List CT) (cs:List Value),flatFs g P i fs=some ks →
  (∀ (j:Nat) (f:Field),fs[j]?=some f→∃ n y,DataW.trod enc P W base spare held n f.type ((cs.drop f.offset).take (P.cellsOf f.type))=some y)→cs.length=i+ks.length→∃ xs,AllR W ks (cs.drop i) xs
 | [],i,ks,cs,h,_,hl=>by
  simp only [flatFs,Option.some.injEq] at h
  subst h
  exact ⟨[],by simp at hl ⊢;omega,rfl,fun j c v x h=>by simp at h⟩
 | f::r,i,ks,cs,h,hf,hl=>by
  simp only [flatFs] at h
  split at h
  case h_2=>cases h
  rename_i a ha
  split at h
  case isFalse=>cases h
  rename_i hc
  obtain ⟨ho,hc⟩:=hc
  split at h
  case h_2=>cases h
  rename_i b hb
  obtain rfl:=Option.some.inj h
  obtain ⟨n,y,hy⟩:=hf 0 f rfl
  obtain ⟨xs,h1⟩:=ih _ _ _ _ _ ha hy
  rw [List.length_append] at hl
  obtain ⟨ys,h2⟩:=gL ih r (i+a.length) b cs hb (fun j g hg=>hf (j+1) g hg) (by omega)
  refine ⟨xs++ys,?_⟩
  have e:cs.drop i=(cs.drop f.offset).take (P.cellsOf f.type)++cs.drop (i+a.length):=by
   rw [ho,hc,←List.drop_drop,List.take_append_drop]
  rw [e]
  exact h1.app h2
theorem rY {W:World} {a:Addr} {v:Value} (h:W.cell? a=some v):a.spot=none∧a.block<W.heap.size:=by
 unfold World.cell? at h
 split at h
 ·rename_i c _ _ hh
  split at h
  ·cases h
  ·rename_i hs
   refine ⟨by cases hq:a.spot with
    | none=>rfl
    | some z=>rw [hq] at hs;simp at hs,(Array.getElem?_eq_some_iff.1 hh).1⟩
 ·cases h
theorem ve : ∀ (m:Nat) (t:TypeId) (ks:List CT) (n:Nat) (cs:List Value) (y:DataW H × List MemPlace),flatT P m t=some ks→DataW.trod enc P W base spare held n t cs=some y→∃ xs,AllR W ks cs xs
 | 0,t,ks,n,cs,y,h,_=>by cases h
 | m+1,t,ks,n,cs,y,h,ht=>by
  rw [flatT] at h
  split at h
  ·rename_i e he
   split at h
   case h_2=>cases h
   rename_i ks' hk
   split at h
   case isFalse=>cases h
   rename_i hc
   obtain ⟨hce,hpos⟩:=hc
   obtain rfl:=Option.some.inj h
   rcases Go.Deep.open_slice he ht with ⟨rfl,hx⟩|⟨a,len,cap,m',n',D,Pl,rfl,_,hl,hm,hmm,hx,hel⟩
   ·refine ⟨[.s (.slice none 0 0)],rfl,rfl,?_⟩
    intro j c v x h1 h2 h3
    match j with
    | 0=>
     obtain rfl:=Option.some.inj h1
     obtain rfl:=Option.some.inj h2
     obtain rfl:=Option.some.inj h3
     exact .nil _
    | j+1=>simp at h1
   ·have hlm:len≤m':=by rw [hmm];split<;>omega
    have fin : ∀ x,RV W (.sl ks') (.slice (some a) len cap) x→∃ xs,AllR W [.sl ks'] [.slice (some a) len cap] xs:=by
     intro x hx
     refine ⟨[x],rfl,rfl,?_⟩
     intro j c v x h1 h2 h3
     match j with
     | 0=>
      obtain rfl:=Option.some.inj h1
      obtain rfl:=Option.some.inj h2
      obtain rfl:=Option.some.inj h3
      exact hx
     | j+1=>simp at h1
    rcases Nat.eq_zero_or_pos len with rfl|hlen
    ·exact fin _ (.sl0 _ _ _)
    have each : ∀ i,∃ r:List Value × List PV,i<m'→W.cells? 0 (a.add (i*P.cellsOf e)) (P.cellsOf e)=some r.1∧AllR W ks' r.1 r.2:=by
     intro i
     by_cases hi:i<m'
     ·obtain ⟨cs',h1,h2⟩:=hel i hi
      obtain ⟨xs,h3⟩:=ve m e ks' n' cs' _ hk h2
      refine ⟨(cs',xs),fun _=>⟨?_,h3⟩⟩
      unfold World.cells? at h1 ⊢
      split at h1
      ·rw [if_pos (Nat.zero_le _)];exact h1
      ·cases h1
     ·exact ⟨([],[]),fun h=>absurd h hi⟩
    obtain ⟨rows,hrows⟩:=Classical.axiomOfChoice each
    have cellE : ∀ i,i<m'→∀ j,j<ks'.length→W.cell? ((a.add (i*ks'.length)).add j)=(rows i).1[j]?:=by
     intro i hi j hj
     obtain ⟨h1,h2⟩:=hrows i hi
     rw [hce] at h1
     exact (World.cells?_some h1).2.2 j hj
    obtain ⟨b,off,spot⟩:=a
    have h0:spot=none∧b<W.heap.size:=by
     have h1:=cellE 0 (by omega) 0 hpos
     have hl0:0<(rows 0).1.length:=by rw [(hrows 0 (by omega)).2.1];exact hpos
     rw [List.getElem?_eq_getElem hl0] at h1
     have:=rY h1
     simpa [Addr.add] using this
    obtain ⟨rfl,hb⟩:=h0
    have rl1 : ∀ i,i<len→(rows i).1.length=ks'.length:=fun i hi=>(hrows i (by omega)).2.1
    have rl2 : ∀ i,i<len→(rows i).2.length=ks'.length:=fun i hi=>(hrows i (by omega)).2.2.1
    obtain ⟨f1,f2⟩:=dG (fun i=>(rows i).1) ks'.length len rl1
    obtain ⟨g1,g2⟩:=dG (fun i=>(rows i).2) ks'.length len rl2
    have dv : ∀ j,j<len*ks'.length→j/ks'.length<len∧j%ks'.length<ks'.length:=fun j hj=>⟨Nat.div_lt_of_lt_mul (by rw [Nat.mul_comm];exact hj),Nat.mod_lt _ hpos⟩
    refine fin (.sl (((List.range len).map fun i=>(rows i).2).flatten) len ks'.length false) (.sl ks' b off len cap (fun j=>(((List.range len).map fun i=>(rows i).1).flatten).getD j default) _ (fun j=>ks'.getD (j%ks'.length) (.sl [])) g1 ?_ ?_ ?_ hl hb (by have hm':cap≤maxLen:=hm;unfold maxLen at hm';omega))
    ·intro j hj
     obtain ⟨d1,d2⟩:=dv j hj
     rw [List.getD_eq_getElem?_getD,List.getElem?_eq_getElem d2];rfl
    ·intro j hj
     obtain ⟨d1,d2⟩:=dv j hj
     have h1:=cellE (j/ks'.length) (by omega) (j%ks'.length) d2
     have hl1:j%ks'.length<(rows (j/ks'.length)).1.length:=by rw [rl1 _ d1];exact d2
     rw [List.getD_eq_getElem?_getD,f2 j hj,List.getElem?_eq_getElem hl1]
     rw [List.getElem?_eq_getElem hl1] at h1
     rw [Option.getD_some,←h1,add_plain,add_plain]
     have:=Nat.div_add_mod j ks'.length
     rw [Nat.mul_comm] at this
     congr 2
     omega
    ·intro j x hj
     have hj':j<len*ks'.length:=by rw [←g1];exact (List.getElem?_eq_some_iff.1 hj).1
     obtain ⟨d1,d2⟩:=dv j hj'
     obtain ⟨_,r1,r2,r3⟩:=hrows (j/ks'.length) (by omega)
     rw [g2 j hj'] at hj
     have hl1:j%ks'.length<(rows (j/ks'.length)).1.length:=by rw [r1];exact d2
     refine r3 (j%ks'.length) _ _ x ?_ ?_ hj
     ·rw [List.getD_eq_getElem?_getD,List.getElem?_eq_getElem d2];rfl
     ·rw [List.getD_eq_getElem?_getD,f2 j hj',List.getElem?_eq_getElem hl1];rfl
  ·rename_i fs he
   split at h
   case h_2=>cases h
   rename_i ks' hk
   split at h
   case isFalse=>cases h
   rename_i hc
   obtain rfl:=Option.some.inj h
   obtain ⟨xs,q,_,_,h3,h4,h5⟩:=DataW.trod_struct he ht
   have:=gL (fun t ks n cs y h1 h2=>ve m t ks n cs y h1 h2) fs.toList 0 ks' cs hk (fun j f hj=>by
    have hj':fs[j]?=some f:=by simpa using hj
    have hlt:j<xs.length:=by rw [h4];exact (Array.getElem?_eq_some_iff.1 hj').1
    exact ⟨q,xs[j],by rw [h5 j f hj',List.getElem?_eq_getElem hlt]⟩) (by rw [h3,hc];simp)
   simpa using this
  ·split at h
   case h_2=>cases h
   rename_i s hs
   obtain rfl:=Option.some.inj h
   obtain ⟨v,rfl,hv⟩:=vC hs ht
   refine ⟨[.s v],rfl,rfl,?_⟩
   intro j c v x h1 h2 h3
   match j with
   | 0=>
    obtain rfl:=Option.some.inj h1
    obtain rfl:=Option.some.inj h2
    obtain rfl:=Option.some.inj h3
    exact .k hv
   | j+1=>simp at h1
theorem wP {α:Type} {f:α→PV} {Q:α→Prop} {c:CT} (hf : ∀ v x,RV W c v x→∃ a,x=f a∧Q a) {v:Value} {x:PV} (h:RV W (.sl [c]) v x):x = .s (.slice none 0 0)∨∃ L:List α,x = .sl (L.map f) L.length 1 false∧(∀ a∈L,Q a)∧L.length<2^63:=by
 generalize hc:CT.sl [c]=t at h
 cases h with
 | k h=>cases hc
 | nil ks=>exact .inl rfl
 | sl0 ks a cap=>
  obtain rfl:=CT.sl.inj hc
  exact .inr ⟨[],rfl,by simp,by simp⟩
 | sl ks b off len cap u xs c' hx hk hu h hcap hb hm=>
  obtain rfl:=CT.sl.inj hc
  right
  have hx':xs.length=len:=by simpa using hx
  have each : ∀ j:Fin xs.length,∃ a,xs[j]=f a∧Q a:=by
   intro j
   have h1:=hk j.1 (by rw [←hx];exact j.2)
   have h2:=h j.1 xs[j] (by simp)
   have:c' j.1=c:=by
    have e:j.1 % [c].length=0:=by simp [Nat.mod_one]
    rw [e] at h1
    exact (Option.some.inj h1).symm
   rw [this] at h2
   exact hf _ _ h2
  obtain ⟨L,hL⟩:=Classical.axiomOfChoice each
  refine ⟨List.ofFn L,?_,?_,by simp [hx',hm]⟩
  ·have e:(List.ofFn L).map f=xs:=by
    apply List.ext_getElem
    ·simp
    ·intro j h1 h2
     simp only [List.getElem_map,List.getElem_ofFn]
     exact (hL ⟨j,h2⟩).1.symm
   rw [e,List.length_ofFn,hx'];rfl
  ·intro a ha
   obtain ⟨j,rfl⟩:=List.mem_ofFn.1 ha
   exact (hL j).2
end
end Go.Proofs.YtoeblkipfdnnlaaGreatDoor
end

section
namespace Go.Proofs.YtoeblkipfdnnlaaGreatDoor
open Go Go.Sx Go.ChangeShapes Go.WideShapes
section
variable {W:World}
theorem zB {k:IntKind} {v:Value} {x:PV} (h:RV W (.k (.int k)) v x) : ∃ n:Int,x = .s (.int k n)∧k.min≤n∧n≤k.max:=by
 cases h with
 | k h=>
  cases v<;>simp only [SK.fits] at h
  obtain ⟨rfl,h⟩:=h
  exact ⟨_,rfl,by simpa [Lit.wf] using h⟩
theorem xv {v:Value} {x:PV} (h:RV W (.k .bool) v x) : ∃ b:Bool,x = .s (.bool b):=by
 cases h with
 | k h=>cases v<;>first|exact ⟨_,rfl⟩|exact absurd h (by simp [SK.fits])
theorem zC {k:IntKind} (h0:k.min=0) {v:Value} {x:PV} (h:RV W (.k (.int k)) v x) : ∃ n:Nat,x = .s (.int k n)∧(n:Int)≤k.max:=by
 obtain ⟨n,rfl,h1,h2⟩:=zB h
 rw [h0] at h1
 exact ⟨n.toNat,by rw [Int.toNat_of_nonneg h1],by omega⟩
theorem xw {v:Value} {x:PV} (h:RV W (.k (.int .u8)) v x) : ∃ b:UInt8,x = .s (.int .u8 b.toNat)∧True:=by
 obtain ⟨n,rfl,h⟩:=zC rfl h
 have:n<256:=by have e:IntKind.u8.max=255:=rfl;omega
 exact ⟨UInt8.ofNat n,by simp [Nat.mod_eq_of_lt this],trivial⟩
theorem vp {v:Value} {x:PV} (h:RV W (.sl [.k (.int .u8)]) v x) : ∃ o:Option (List UInt8),x=obP false o∧∀ l,o=some l→l.length<2^63:=by
 rcases wP (f:=fun b:UInt8=>PV.s (.int .u8 b.toNat)) (Q:=fun _=>True) (fun v x h=>xw h) h with rfl|⟨L,rfl,_,h2⟩
 ·exact ⟨none,rfl,fun l h=>by cases h⟩
 ·exact ⟨some L,rfl,fun l h=>by cases h;exact h2⟩
theorem jd {c:CT} {ks:List CT} {cs:List Value} {xs:List PV} (h:AllR W (c::ks) cs xs) : ∃ v vs x ys,cs=v::vs∧xs=x::ys∧RV W c v x∧AllR W ks vs ys:=by
 obtain ⟨h1,h2,h3⟩:=h
 cases cs with
 | nil=>cases h1
 | cons v vs=>
  cases xs with
  | nil=>cases h2
  | cons x ys=>exact ⟨v,vs,x,ys,rfl,rfl,h3 0 c v x rfl rfl rfl,by simpa using h1,by simpa using h2,fun j c v x a b d=>h3 (j+1) c v x a b d⟩
theorem all_nil {cs:List Value} {xs:List PV} (h:AllR W [] cs xs):cs=[]∧xs=[]:=⟨List.eq_nil_of_length_eq_zero h.1,List.eq_nil_of_length_eq_zero h.2.1⟩
theorem AllR.pr {ks:List CT} {a:Array Value} {xs:List PV} (h:AllR W ks a.toList xs):PR (fun b=>b<W.heap.size) W (.agg xs) (.agg a):=by
 obtain ⟨h1,h2,h3⟩:=h
 refine .agg xs a (by simpa [h2] using h1) ?_ ?_
 ·intro u hu
  obtain ⟨j,hj,rfl⟩:=List.getElem_of_mem hu
  exact (h3 j (ks[j]'(by omega)) a.toList[j] (xs[j]'(by omega)) (by simp [←h1,hj]) (by simp [hj]) (by simp [h2,←h1,hj])).one
 ·intro j l u hl hu
  have hj:j<xs.length:=(List.getElem?_eq_some_iff.1 hl).1
  exact (h3 j (ks[j]'(by omega)) u l (by simp [←h2,hj]) (by simpa using hu) hl).pr
theorem zD {v:Value} {x:PV} (h:RV W (.k .str) v x) : ∃ s:List UInt8,x=strP s∧s.length<2^63:=by
 cases h with
 | k h=>
  cases v with
  | string s=>
   have e:(⟨s.data.toList.toArray⟩:ByteArray)=s:=congrArg ByteArray.mk (Array.toArray_toList)
   refine ⟨s.data.toList,by rw [strP,e],?_⟩
   have h':s.size≤maxLen:=h
   have e:s.data.toList.length=s.size:=Array.length_toList
   have m:maxLen<2^63:=by unfold maxLen;omega
   omega
  | _=>exact absurd h (by intro h;exact h)
def drwK:List CT:=[.sl [.k (.int .u8)],.k .str,.k .bool]
theorem wj {xs:List PV} {vs:List Value} (h:AllR W drwK vs xs) : ∃ d:Dw,xs=d.cells∧d.s.length<2^63:=by
 obtain ⟨_,_,_,_,rfl,rfl,r1,h⟩:=jd h
 obtain ⟨_,_,_,_,rfl,rfl,r2,h⟩:=jd h
 obtain ⟨_,_,_,_,rfl,rfl,r3,h⟩:=jd h
 obtain ⟨rfl,rfl⟩:=all_nil h
 obtain ⟨o,rfl,_⟩:=vp r1
 obtain ⟨s,rfl,hs⟩:=zD r2
 obtain ⟨g,rfl⟩:=xv r3
 exact ⟨⟨o,s,g⟩,rfl,hs⟩
end
section
variable {P:Program} {H:Type} {enc:TypeId × Value→H} {W:World} {base:Nat} {spare:Nat→Bool} {held:Bool} {t:TypeId} {v:Value} {d:DataW H} {p:List MemPlace}
end
end Go.Proofs.YtoeblkipfdnnlaaGreatDoor
end

section
namespace Go.Proofs.YtoeblkipfdnnlaaGreatDoor
open Go Go.Sx Go.ChangeShapes Go.WideShapes
section
variable {W:World}
theorem fc {P:Program} {x:String × DataW Unit} {r:List (String × DataW Unit)} {ps:List MemPlace} (h:DataW.LaidVars P W (x::r) ps) : ∃ q,DataW.LaidVars P W r q:=by
 obtain ⟨g,t,cs,fuel,p,q,_,_,_,_,h,_⟩:=h
 exact ⟨q,h⟩
theorem qk {P:Program} {n:String} {d:DataW Unit} {r:List (String × DataW Unit)} {ps:List MemPlace} (h:DataW.LaidVars P W ((n,d)::r) ps) {g:Nat} {t:TypeId} (hg:P.globalNamed n=some g) (ht:(P.globals[g]?).map (·.type)=some t):
  ∃ cs fuel p,W.var? P n=some cs∧DataW.trod (fun _=>()) P W 0 (fun _=>true) false fuel t cs.toList=some (d,p):=by
 obtain ⟨g',t',cs,fuel,p,q,h1,h2,h3,h4,_,_⟩:=h
 obtain rfl:=Option.some.inj (hg.symm.trans h1)
 obtain rfl:=Option.some.inj (ht.symm.trans h2)
 exact ⟨cs,fuel,p,h3,h4⟩
theorem sj:(Go.Pinned.utf8FirstZ==(List.range 256).map firstN)=true:=by kernel_rfl
theorem m8 {r:List (String × DataW Unit)} {ps:List MemPlace} (h:DataW.LaidVars Tryz.prog W (("unicode/utf8.first",Rows.laid_unicode_utf8_first)::r) ps) (j:Nat) (hj:j<256):W.cell? ⟨1,j,none⟩=some (.int .u8 (firstN j:Nat)):=by
 have hg:Tryz.prog.globalNamed "unicode/utf8.first" = some 1:=by kernel_rfl
 obtain ⟨cs,fuel,p,hv,hd⟩:=qk h hg (show (Tryz.prog.globals[1]?).map (·.type)=some 228 by kernel_rfl)
 obtain ⟨xs,m,_,ex,_,hl,hel⟩:=DataW.trod_array (Tryz.underlying228) hd
 have c5:Tryz.prog.cellsOf 5=1:=by kernel_rfl
 have hE:=hel j hj
 rw [c5,Nat.mul_one,List.getElem?_eq_getElem (by omega)] at hE
 obtain ⟨z,e1,e2,_⟩:=DataW.trod_int (Tryz.underlying5) hE
 have e3:(xs.map (·.1))=Go.Pinned.numbers .u8 Go.Pinned.utf8FirstZ:=(DataW.agg.inj (Prod.mk.inj ex).1).symm
 have hz:(xs.map (·.1))[j]?=some (.lit (.int .u8 (firstN j:Nat))):=by
  rw [e3,eq_of_beq sj]
  simp [Go.Pinned.numbers,hj]
 rw [List.getElem?_map,List.getElem?_eq_getElem (by omega:j<xs.length),e2] at hz
 simp only [Option.map_some,Option.some.injEq,DataW.lit.injEq,Lit.int.injEq,true_and] at hz
 rw [World.var?_cell hg hv j,←hz]
 have h0:((cs.toList.drop j).take 1)[0]?=some (.int .u8 z):=by rw [e1];rfl
 have:cs.toList[j]?=some (.int .u8 z):=by simpa using h0
 simpa using this
def accZ:List Int:=[128,191,160,191,128,159,144,191,128,143,0,0,0,0,0,0,0,0,0,0,0,0,0,0,0,0,0,0,0,0,0,0]
theorem rJ {r:List (String × DataW Unit)} {ps:List MemPlace} (h:DataW.LaidVars Tryz.prog W (("unicode/utf8.acceptRanges",Rows.laid_unicode_utf8_acceptRanges)::r) ps) (j:Nat) (hj:j<32):W.cell? ⟨2,j,none⟩=some (.int .u8 (accZ.getD j 0)):=by
 have hg:Tryz.prog.globalNamed "unicode/utf8.acceptRanges" = some 2:=by kernel_rfl
 obtain ⟨cs,fuel,p,hv,hd⟩:=qk h hg (show (Tryz.prog.globals[2]?).map (·.type)=some 231 by kernel_rfl)
 obtain ⟨xs,m,_,ex,_,hl,hel⟩:=DataW.trod_array (Tryz.underlying231) hd
 have c5:Tryz.prog.cellsOf 5=1:=by kernel_rfl
 have c230:Tryz.prog.cellsOf 230=2:=by kernel_rfl
 have hE:=hel (j/2) (by omega)
 rw [c230,List.getElem?_eq_getElem (by omega)] at hE
 obtain ⟨y0,y1,n',ey,_,t0,t1⟩:=trod_struct2 Tryz.underlying230 hE
 rw [c5] at t0 t1
 obtain ⟨z0,a1,a2,_⟩:=DataW.trod_int (Tryz.underlying5) t0
 obtain ⟨z1,b1,b2,_⟩:=DataW.trod_int (Tryz.underlying5) t1
 have e3:(xs.map (·.1))=(match (Rows.laid_unicode_utf8_acceptRanges:DataW Unit) with
  | .agg l=>l
  | _=>[]):=by rw [(Prod.mk.inj ex).1]
 have hz:(xs.map (·.1))[j/2]?=some (.agg [.lit (.int .u8 z0),.lit (.int .u8 z1)]):=by
  rw [List.getElem?_map,List.getElem?_eq_getElem (by omega:j/2<xs.length),ey,a2,b2];rfl
 rw [e3] at hz
 have key : ∀ i,i<16→(match (Rows.laid_unicode_utf8_acceptRanges:DataW Unit) with
  | .agg l=>l
  | _=>[])[i]?=some (.agg [.lit (.int .u8 (accZ.getD (2*i) 0)),.lit (.int .u8 (accZ.getD (2*i+1) 0))]):=by
  intro i hi
  match i with
  | 0=>rfl
  | 1=>rfl
  | 2=>rfl
  | 3=>rfl
  | 4=>rfl
  | 5=>rfl
  | 6=>rfl
  | 7=>rfl
  | 8=>rfl
  | 9=>rfl
  | 10=>rfl
  | 11=>rfl
  | 12=>rfl
  | 13=>rfl
  | 14=>rfl
  | 15=>rfl
  | n+16=>omega
 rw [key (j/2) (by omega)] at hz
 simp only [Option.some.injEq,DataW.agg.injEq,List.cons.injEq,DataW.lit.injEq,Lit.int.injEq,true_and,and_true] at hz
 rw [World.var?_cell hg hv j]
 have h0:((((cs.toList.drop (j/2*2)).take 2).drop 0).take 1)[0]?=some (.int .u8 z0):=by rw [a1];rfl
 have h1:((((cs.toList.drop (j/2*2)).take 2).drop 1).take 1)[0]?=some (.int .u8 z1):=by rw [b1];rfl
 simp only [List.getElem?_take,List.getElem?_drop] at h0 h1
 simp at h0 h1
 rcases Nat.mod_two_eq_zero_or_one j with hm|hm
 ·rw [show j/2*2=j by omega] at h0
  rw [show 2*(j/2)=j by omega] at hz
  rw [hz.1]
  simpa using h0
 ·rw [show j/2*2+1=j by omega] at h1
  rw [show 2*(j/2)+1=j by omega] at hz
  rw [hz.2]
  simpa using h1
theorem pu {b j:Nat} {v:Value} (h:W.cell? ⟨b,j,none⟩=some v):b<W.heap.size:=by
 unfold World.cell? at h
 simp only at h
 cases hb:W.heap[b]? with
 | none=>rw [hb] at h;cases h
 | some o=>exact (Array.getElem?_eq_some_iff.1 hb).1
theorem m7:firstT.length=256:=by simp [firstT]
theorem kc:accT.length=32:=rfl
theorem yI (h1 : ∀ j,j<256→W.cell? ⟨1,j,none⟩=some (.int .u8 (firstN j:Nat))) (h2 : ∀ j,j<32→W.cell? ⟨2,j,none⟩=some (.int .u8 (accZ.getD j 0))):GOK gG (fun b=>b<W.heap.size) W:=by
 intro n cs hn
 unfold gG at hn
 split at hn
 ·rename_i e
  subst e
  obtain rfl:=Option.some.inj hn
  refine .imm firstT 0 1 0 (fun j=>.int .u8 (firstN j:Nat)) (pu (h1 0 (by decide))) (fun j hj => ?_) (fun j hj=>rfl) fun j l hl => ?_
  ·rw [Nat.zero_add];exact h1 j (by rw [m7] at hj;exact hj)
  ·unfold firstT at hl
   rw [List.getElem?_map] at hl
   rcases Nat.lt_or_ge j 256 with q|q
   ·rw [List.getElem?_range q] at hl
    obtain rfl:=Option.some.inj hl
    exact .s _
   ·rw [List.getElem?_eq_none (by simpa using q)] at hl;cases hl
 ·split at hn
  ·rename_i e
   subst e
   obtain rfl:=Option.some.inj hn
   refine .imm accT 0 2 0 (fun j=>.int .u8 (accZ.getD j 0)) (pu (h2 0 (by decide))) (fun j hj => ?_) (fun j hj=>rfl) fun j l hl => ?_
   ·rw [Nat.zero_add];exact h2 j (by rw [kc] at hj;exact hj)
   ·have hj:j<32:=by
     rcases Nat.lt_or_ge j 32 with q|q
     ·exact q
     ·rw [List.getElem?_eq_none (by rw [kc];exact q)] at hl;cases hl
    have key : ∀ k,k<32→accT[k]?=some (.s (.int .u8 (accZ.getD k 0))):=by
     intro k hk
     match k with
     | 0=>rfl
     | 1=>rfl
     | 2=>rfl
     | 3=>rfl
     | 4=>rfl
     | 5=>rfl
     | 6=>rfl
     | 7=>rfl
     | 8=>rfl
     | 9=>rfl
     | 10=>rfl
     | 11=>rfl
     | 12=>rfl
     | 13=>rfl
     | 14=>rfl
     | 15=>rfl
     | 16=>rfl
     | 17=>rfl
     | 18=>rfl
     | 19=>rfl
     | 20=>rfl
     | 21=>rfl
     | 22=>rfl
     | 23=>rfl
     | 24=>rfl
     | 25=>rfl
     | 26=>rfl
     | 27=>rfl
     | 28=>rfl
     | 29=>rfl
     | 30=>rfl
     | 31=>rfl
     | n+32=>omega
    rw [key j hj] at hl
    obtain rfl:=Option.some.inj hl
    exact .s _
  ·cases hn
abbrev sibsLaid:List (String × DataW Unit):=[("math/bits.deBruijn32tab",Rows.laid_math_bits_deBruijn32tab),("math/bits.deBruijn64tab",Rows.laid_math_bits_deBruijn64tab),("internal/strconv.uint64pow10",Rows.laid_internal_strconv_uint64pow10),("unicode/utf8.acceptRanges",Rows.laid_unicode_utf8_acceptRanges),("strconv.ErrRange",Rows.laid_strconv_ErrRange),("strconv.ErrSyntax",Rows.laid_strconv_ErrSyntax),("unicode/utf8.first",Rows.laid_unicode_utf8_first)]
theorem ue (h:laidMetH Tryz.prog sibsLaid W):GOK gG (fun b=>b<W.heap.size) W:=by
 rw [MakeChecks.laidMetH_plain _ _ _ (by kernel_rfl)] at h
 obtain ⟨ps,h,_⟩:=h
 obtain ⟨_,h⟩:=fc h
 obtain ⟨_,h⟩:=fc h
 obtain ⟨_,h⟩:=fc h
 have ha:=rJ h
 obtain ⟨_,h⟩:=fc h
 obtain ⟨_,h⟩:=fc h
 obtain ⟨_,h⟩:=fc h
 exact yI (fun j hj=>m8 h j hj) fun j hj=>ha j hj
end
theorem vQ:OSound Tryz.prog gG xX:=by
 have h0:OSound Tryz.prog gG (om cls (findF irsX) gG noX):=kT cls fun f args H nx r u n h=>by
  obtain ⟨m,hm⟩:=nG h
  exact eA (an:=an) Tryz.checked.mixed (sw _ _) (fun f ir hf=>wH (f,ir) (g8 hf)) m f args H nx r u n hm
 intro f args H nx r u n h
 unfold xX at h
 split at h
 ·rename_i e
  exact ot h0 f args H nx r u n h
 ·cases h
end Go.Proofs.YtoeblkipfdnnlaaGreatDoor
end

section
namespace Go.Proofs.YtoeblkipfdnnlaaGreatDoor
open Go Go.Sx
set_option maxHeartbeats 1000000
theorem xw0:IntKind.u64.wrap 0=0:=rfl
theorem AZ:IntKind.i64.wrap 1=1:=rfl
theorem xw1:IntKind.u64.wrap 1=1:=rfl
abbrev xzC:Ob:=some (.cells [.p (.s (.slice none 0 0))])
abbrev xfO (s:List UInt8):Ob:=some (.cells ((fldP s).map .p))
theorem rH (c:Ctx) (hO:c.O=Ω) (hnx:c.nx=1) (fl:Bool) (r:List UInt8) (n:Nat) (x:LV) (l:List (Ob)) (s:List UInt8) (hx:x = .p (.s (.slice none 0 0))∧n=0∧l=[xzC]∨x = .arr 2 0 1 3 1 false∧n=1∧l=[xzC,xfO s]):
  run c (.loop ir76_0) ⟨[(0,.ref 0 0),(2,.ref 1 0),(3,.int .u64 n),(4,x)],⟨[(0,wi fl r 0)],l⟩⟩=some (.exit 0,⟨[(0,.ref 0 0),(2,.ref 1 0),(4,x)],⟨[(0,wi fl r 0)],l⟩⟩):=by
 have e:=ct fl r 0
 rw [ay]
 generalize IRC.loop ir76_0=LB at*
 rcases hx with ⟨rfl,rfl,rfl⟩|⟨rfl,rfl,rfl⟩
 all_goals
 simp +contextual (maxSteps:=1000000) [ir76_0,ssL,↓ssM,aa,ssU,Go.Sx.LV.undef,Go.undef,ssR,hO,hnx,e,xw0,xw1]
section
variable (fl:Bool) (r:List UInt8)
theorem sm (hl:(crdW none++r).length<2^31):Φ 76 [.ref 0 0] [wi fl (crdW none++r) 0]=some (.p (.agg [.s (.slice none 0 0)]),[wi fl r 0]):=by
 rw [show crdW none=vnum 0 from rfl] at hl ⊢
 have g1:=uk fl r 0 (by decide) hl
 have lo:=rH ⟨Ω,gG,hpL [wi fl (vnum 0++r) 0],1⟩ rfl rfl fl r 0 _ _ [] (.inl ⟨rfl,rfl,rfl⟩)
 have e:=ct fl r 0
 have mk:=yb
 simp only [Int.natCast_zero] at g1 lo
 generalize vnum 0++r=p0 at*
 refine aP (ir:=ir76) (by kernel_rfl) ?_;simp +contextual (maxSteps:=1000000) [ir76,ssL,↓ssM,aa,ssU,Go.Sx.LV.undef,Go.undef,ssR,g1,lo,e,mk]
theorem sn (s:List UInt8) (hs:Nam s) (hl':(crdW (some s)++r).length<2^31):Φ 76 [.ref 0 0] [wi fl (crdW (some s)++r) 0]=some (.p (.agg [.sl (fldP s) 1 3 false]),[wi fl r 0]):=by
 have e0:crdW (some s)++r=vnum 1++(1::(txt []++(txt s++r))):=by simp [crdW]
 rw [e0] at hl' ⊢
 have l1:(txt []++(txt s++r)).length<2^31:=by rw [List.length_append,List.length_cons] at hl';omega
 have l2:(txt s++r).length<2^31:=by rw [List.length_append] at l1;omega
 have g1:=uk fl (1::(txt []++(txt s++r))) 1 (by decide) hl'
 have g2:=lF fl (txt []++(txt s++r)) 1
 have g3:=iS fl (txt s++r) 12 [] (by decide) (by decide) l1
 have g4:=iS fl r 40 s hs.l (by decide) l2
 have e1:=fun p=>ct fl p 0
 have rt:=jJ s hs
 have mk:=yd s hs false
 have lo:=fun c hO hnx=>rH c hO hnx fl r 1 _ _ s (.inr ⟨rfl,rfl,rfl⟩)
 simp only [Int.natCast_one,Int.cast_ofNat_Int,show (1:UInt8).toNat=1 from rfl] at g1 g2 g3 g4 lo
 clear e0 hl' l1 l2
 generalize vnum 1++(1::(txt []++(txt s++r)))=p0 at*
 generalize 1::(txt []++(txt s++r))=p1 at*
 generalize txt []++(txt s++r)=p2 at*
 generalize txt s++r=p3 at*
 have lo':run ⟨Ω,gG,hpL [wi fl p0 0],1⟩ (.loop ir76_0) ⟨[(0,.ref 0 0),(2,.ref 1 0),(3,.int .u64 1),(4,.p (.s (.slice none 0 0)))],⟨[(0,wi fl p1 0)],[xzC]⟩⟩=some (.exit 0,⟨[(0,.ref 0 0),(2,.ref 1 0),(4,.arr 2 0 1 3 1 false)],⟨[(0,wi fl r 0)],[xzC,xfO s]⟩⟩):=by
  have lo:=lo ⟨Ω,gG,hpL [wi fl p0 0],1⟩ rfl rfl
  rw [ay]
  generalize IRC.loop ir76_0=LB at*
  simp +contextual (maxSteps:=1000000) [ir76_0,ssL,↓ssM,aa,ssU,Go.Sx.LV.undef,Go.undef,ssR,g2,g3,g4,e1,xw0,xw1,AZ,rt]
  exact lo
 refine aP (ir:=ir76) (by kernel_rfl) ?_;simp +contextual (maxSteps:=1000000) [ir76,ssL,↓ssM,aa,ssU,Go.Sx.LV.undef,Go.undef,ssR,g1,lo',e1,mk]
end
theorem ub (nm:Option (List UInt8)) (hs : ∀ s,nm=some s→Nam s) (fl:Bool) (r:List UInt8) (hl:(crdW nm++r).length<2^31):Φ 76 [.ref 0 0] [wi fl (crdW nm++r) 0]=some (.p (.agg [crdP false nm]),[wi fl r 0]):=by
 cases nm with
 | none=>exact sm fl r hl
 | some s=>exact sn fl r s (hs s rfl) hl
theorem sE (l:List Bool):8*(pack l).length≤l.length+7:=by
 obtain ⟨k,hk,e⟩:=jg l
 have:=congrArg List.length e
 rw [eU,List.length_append,List.length_replicate] at this
 omega
theorem lZ (v:Wv) (fl:Bool) (hf:Wp v):Ψ 30 [sB fl v.bytes] []=some (.tuple [.p (v.pv false),.int .i64 0]):=by
 obtain ⟨ev,nm,gone⟩:=v
 have lb0:=hf.ok.len
 obtain ⟨hn,hm,hd,hb,hs,hg⟩:=hf
 simp only [] at hn hm hd hb hs hg
 have hp8:=sE (evBits ev)
 have hp:(pack (evBits ev)).length≤4096:=by omega
 have lb:(Wv.bytes ⟨ev,nm,gone⟩).length<2^31:=by omega
 have g0:=AR fl _ lb
 have g2:=fun fl=>sJ fl (pack (evBits ev)) (by omega)
 rw [zw ev hn hm hd] at g2
 cases gone with
 | true=>
  obtain rfl:=hg rfl
  have e:Wv.bytes ⟨ev,none,true⟩=txt (pack (evBits ev))++[1]:=rfl
  rw [e] at g0 lb ⊢
  have g1:=fun fl=>iS fl [1] 4096 (pack (evBits ev)) hp (by decide) lb
  have g3:=fun fl=>lF fl [] 1
  have e1:=fun fl p=>ct fl p 0
  have e2:=fun fl p=>cw fl p 0 0
  have e3:=fun fl=>xV fl [] 0
  simp only [Int.cast_ofNat_Int,Wv.pv,Wv.cells,bv,Ev.pv,show (1:UInt8).toNat=1 from rfl,ne_eq,not_true_eq_false,and_false,if_false,if_true,Int.natCast_one] at g1 g2 g3 e2 e3 ⊢
  clear e lb
  generalize (txt (pack (evBits ev))++[1]).isEmpty=fl2 at*
  generalize txt (pack (evBits ev))++[1]=p0 at*
  generalize [(1:UInt8)]=p1 at*
  generalize ([]:List UInt8)=p2 at*
  generalize pack (evBits ev)=q at*
  generalize ev.n=n at*
  generalize ev.ptr=x at*
  refine aU (ir:=ir30) (by kernel_rfl) ?_;simp +contextual (maxSteps:=1000000) [ir30,ssL,↓ssM,aa,ssU,Go.Sx.LV.undef,Go.undef,ssR,g0,g1,g2,g3,e1,e2,e3,mB,bsz]
 | false=>
  have e:Wv.bytes ⟨ev,nm,false⟩=txt (pack (evBits ev))++(0::crdW nm):=rfl
  rw [e] at g0 lb ⊢
  have g1:=fun fl=>iS fl (0::crdW nm) 4096 (pack (evBits ev)) hp (by decide) lb
  have g3:=fun fl=>lF fl (crdW nm) 0
  have cl:=jo nm (fun s h=>by have:=(hs s h).l;omega)
  have g4:=fun fl=>ub nm hs fl [] (by rw [List.append_nil];omega)
  have e1:=fun fl p=>ct fl p 0
  have e2:=fun fl p=>cw fl p 0 0
  have e3:=fun fl=>xV fl [] 0
  simp only [Int.cast_ofNat_Int,Wv.pv,Wv.cells,Ev.pv,show (0:UInt8).toNat=0 from rfl,ne_eq,not_true_eq_false,and_false,if_false,if_true,Int.natCast_zero,List.append_nil] at g1 g2 g3 g4 e2 e3 ⊢
  clear e lb cl
  generalize (txt (pack (evBits ev))++(0::crdW nm)).isEmpty=fl2 at*
  generalize txt (pack (evBits ev))++(0::crdW nm)=p0 at*
  generalize 0::crdW nm=p1 at*
  generalize crdW nm=p2 at*
  generalize ([]:List UInt8)=p3 at*
  generalize pack (evBits ev)=q at*
  generalize ev.n=n at*
  generalize ev.ptr=x at*
  have hcc : ∃ cc,crdP false nm=cc:=⟨_,rfl⟩
  generalize crdP false nm=cc at*
  refine aU (ir:=ir30) (by kernel_rfl) ?_;simp +contextual (maxSteps:=1000000) [ir30,ssL,↓ssM,aa,ssU,Go.Sx.LV.undef,Go.undef,ssR,g0,g1,g2,g3,g4,e1,e2,e3,mB,bsz]
end Go.Proofs.YtoeblkipfdnnlaaGreatDoor
end

section
namespace Go.Proofs.YtoeblkipfdnnlaaGreatDoor
open Go Go.Sx
set_option maxHeartbeats 4000000
theorem AG (v:Wv) (hf:Wp v) (H:Heap) (nx:Nat):Ω 30 [.p (.sl (bytP v.bytes) v.bytes.length 1 false)] H nx=some (.tuple [.p (v.pv false),.int .i64 0],[],[]):=by
 have h:=lZ v false hf
 simp only [sB,Wv.pv,Wv.cells] at h ⊢
 generalize v.bytes.length=F at*
 generalize bytP v.bytes=G at*
 generalize crdP false v.nm=K at*
 simp [ssL,↓ssM,aa,ssU,Go.Sx.LV.undef,Go.undef,ssR,h]
set_option maxRecDepth 20000 in
theorem oV (a b:Dw) (ha:a.s.length<2^63) (hb:b.s.length<2^63):Ω 7 [.p (.agg a.cells),.p (.agg b.cells)] noH 0=some (.bool true,[],[]):=by
 have aw:=yw
 have m1:=tH a ha
 have m2:=tH b hb
 have w1:Wp a.v:=xN _ _ _
 have w2:Wp b.v:=xN _ _ _
 generalize a.v=v at*
 generalize b.v=w at*
 have vl:=w1.ok.len
 have wl:=w2.ok.len
 have vb:=xG v w1.ok
 have rv:=AG v w1
 have r1:=qZ v w1.ok
 have r2:=qZ w w2.ok
 have s1:=fun H nx=>vk (H:=H) (nx:=nx) (.sl v.bytes false) (.sl v.bytes false) (by omega)
 have s2:=fun H nx=>vk (H:=H) (nx:=nx) (.sl v.bytes false) (.sl w.bytes false) (by omega)
 have s3:=yk v v w1.ok w1.ok
 have s4:=yk v w w1.ok w2.ok
 have ri:=jS v
 have le:=Al v w w1.ok w2.ok
 have rl:=fun H nx=>zm (F:=v.bytes) (G:=w.bytes) (H:=H) (nx:=nx) (by omega)
 have un:=o9 v w w1.ok w2.ok
 have ru:=fun H nx=>xh v w true true w1.ok w2.ok H nx
 have e4:decide (cmpL v.bytes w.bytes=0)=decide (v.bytes=w.bytes):=decide_eq_decide.2 ⟨iR,fun h=>by rw [h,dE]⟩
 rw [e4] at s4
 rw [dE] at s3
 rw [w1.right] at ri
 simp only [decide_true] at s1 s3
 simp only [Dw.cells,drwP,Wv.pv,Wv.cells,Wv.rcs,Wv.rv] at m1 m2 vb rv r1 r2 s3 s4 ri le un ru ⊢
 generalize decide (v.bytes=w.bytes)=B1 at*
 generalize blt v.bytes w.bytes=B2 at*
 generalize v.und w=B3 at*
 generalize bytP v.bytes=VB at*
 generalize v.bytes.length=vn at*
 generalize bytP w.bytes=WB at*
 generalize w.bytes.length=wn at*
 clear w1 w2 vl wl e4
 refine au (ir:=ir7) (by kernel_rfl) ?_;simp +contextual (maxSteps:=1000000) [ir7,ssL,↓ssM,aa,ssU,Go.Sx.LV.undef,Go.undef,ssR,aw,m1,m2,vb,rv,r1,r2,s1,s2,s3,s4,ri,le,rl,un,ru]
end Go.Proofs.YtoeblkipfdnnlaaGreatDoor
end
