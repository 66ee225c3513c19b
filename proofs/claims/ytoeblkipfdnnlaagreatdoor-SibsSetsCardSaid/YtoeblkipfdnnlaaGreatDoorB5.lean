/- What the proof of the claim leans on, part 5 of 5: the value machine, the functions as it has them, their specifications. No condition. -/
import Derived.Test.YtoeblkipfdnnlaaGreatDoorB4
import Derived.ProofKit
import Derived.OpenShut
import Derived.Below
import Derived.Deep.Slices
import Derived.ChangeArms
import Derived.Test.YtoeblkipfdnnlaaGreatDoorRows
import Derived.MakeChecks
import Derived.FnData
import Derived.ChangeSame
set_option linter.all false
set_option linter.unnecessarySimpa false
set_option linter.unusedSimpArgs false
set_option linter.unusedVariables false
set_option linter.constructorNameAsVariable false
set_option maxHeartbeats 4000000
section
namespace Go.Proofs.YtoeblkipfdnnlaaGreatDoor
open Go Go.Sx
set_option maxHeartbeats 1000000
theorem yj (H:Heap) (nx:Nat) (a b c:UInt8) (r:List UInt8) (ha:128≤a.toNat) (lo hi:Nat) (e:acc a.toNat=some (3,lo,hi)) (hlo:lo≤b.toNat) (hhi:b.toNat≤hi) (hc:cont c=true):
  run ⟨Ω,gG,H,nx⟩ ir156_1 ⟨[(0,.str ⟨(a::b::c::r).toArray⟩)],⟨[],[]⟩⟩=some (.normal,⟨[(0,.str ⟨r.toArray⟩)],⟨[],[]⟩⟩):=by
 have h8:=a.toNat_lt
 have sz:=a7 (a::b::c::r)
 obtain ⟨t1,t2,t3,-,-⟩:=mR (by omega) ha e
 have fl:=ia a.toNat
 have k7:=yQ (firstN a.toNat) fl
 have k4:=zV (firstN a.toNat)
 rw [t1] at k7
 have gt:=fP (show a.toNat<256 by omega)
 have ft:=fQ
 have G1:=gG1
 have G2:=gG2
 have hg0 : ∀ h:0<(a::b::c::r).length,(a::b::c::r)[0]'h=a:=fun _=>rfl
 have f1:(128:Int)≤a.toNat:=by omega
 have h0:0<(a::b::c::r).length:=by simp
 have hI : ¬((a::b::c::r).length:Int)≤0:=by simp;omega
 have h2 : ¬(a::b::c::r).length=0:=by simp
 have w1:IntKind.i64.wrap 3=3:=by decide
 have gg : ∀ h,firstT[a.toNat]'h = .s (.int .u8 (firstN a.toNat:Nat)):=fun h=>(List.getElem?_eq_some_iff.1 gt).2
 clear gt
 have hF:firstN a.toNat/16<16:=by omega
 have aL:accT.length=32:=rfl
 have pf:List.take 2 (List.drop ((((firstN a.toNat:Nat):Int)/16).toNat*2) (List.map LV.p accT))=[.p (.s (.int .u8 (lo:Int))),.p (.s (.int .u8 (hi:Int)))]:=by
  have e1:(((firstN a.toNat:Nat):Int)/16).toNat=firstN a.toNat/16:=by omega
  rw [e1,Nat.mul_comm]
  have hb:2*(firstN a.toNat/16)+1<accL.length:=by rw [show accL.length=32 from rfl];omega
  rw [List.getElem?_eq_getElem (by omega)] at t2 t3
  simp only [Option.some.injEq] at t2 t3
  rw [lg,List.map_map,←List.map_drop,List.drop_eq_getElem_cons (show 2*(firstN a.toNat/16)<accL.length by omega),List.drop_eq_getElem_cons hb,t2,t3]
  rfl
 simp only [Int.cast_ofNat_Int] at k7
 have f2:(3:Int)≤((a::b::c::r).length:Int):=by simp;omega
 have n1:1<(a::b::c::r).length:=by simp
 have n2:3≤(a::b::c::r).length:=by simp
 have hg1 : ∀ h:1<(a::b::c::r).length,(a::b::c::r)[1]'h=b:=fun _=>rfl
 have c1:(lo:Int)≤b.toNat:=by omega
 have c2:(b.toNat:Int)≤hi:=by omega
 have n2':2<(a::b::c::r).length:=by simp
 have hg2 : ∀ h:2<(a::b::c::r).length,(a::b::c::r)[2]'h=c:=fun _=>rfl
 have u2:(128:Int)≤c.toNat:=by have:=bG hc;omega
 have v2:(c.toNat:Int)≤191:=by have:=bG hc;omega
 have x2:=bx (a::b::c::r) 3 (a::b::c::r).length
 rw [List.take_length,show (a::b::c::r).drop 3=r from rfl] at x2
 generalize firstT=FT at*
 generalize accT=AT at*
 generalize a::b::c::r=l at*
 generalize firstN a.toNat=F at*
 clear t1 t2 t3 e
 simp +contextual (maxSteps:=200000) [ir156_1,ssL,↓ssM,ae,ssU,Go.Sx.LV.undef,Go.undef,ssR,sz,hg0,hg1,f1,f2,n1,n2,h0,hI,h2,k7,k4,G1,G2,ft,gg,w1,pf,aL,hF,c1,c2,x2,n2',hg2,u2,v2]
 omega
theorem yk (H:Heap) (nx:Nat) (a b c d:UInt8) (r:List UInt8) (ha:128≤a.toNat) (lo hi:Nat) (e:acc a.toNat=some (4,lo,hi)) (hlo:lo≤b.toNat) (hhi:b.toNat≤hi) (hc:cont c=true) (hd:cont d=true):
  run ⟨Ω,gG,H,nx⟩ ir156_1 ⟨[(0,.str ⟨(a::b::c::d::r).toArray⟩)],⟨[],[]⟩⟩=some (.normal,⟨[(0,.str ⟨r.toArray⟩)],⟨[],[]⟩⟩):=by
 have h8:=a.toNat_lt
 have sz:=a7 (a::b::c::d::r)
 obtain ⟨t1,t2,t3,-,-⟩:=mR (by omega) ha e
 have fl:=ia a.toNat
 have k7:=yQ (firstN a.toNat) fl
 have k4:=zV (firstN a.toNat)
 rw [t1] at k7
 have gt:=fP (show a.toNat<256 by omega)
 have ft:=fQ
 have G1:=gG1
 have G2:=gG2
 have hg0 : ∀ h:0<(a::b::c::d::r).length,(a::b::c::d::r)[0]'h=a:=fun _=>rfl
 have f1:(128:Int)≤a.toNat:=by omega
 have h0:0<(a::b::c::d::r).length:=by simp
 have hI : ¬((a::b::c::d::r).length:Int)≤0:=by simp;omega
 have h2 : ¬(a::b::c::d::r).length=0:=by simp
 have w1:IntKind.i64.wrap 4=4:=by decide
 have gg : ∀ h,firstT[a.toNat]'h = .s (.int .u8 (firstN a.toNat:Nat)):=fun h=>(List.getElem?_eq_some_iff.1 gt).2
 clear gt
 have hF:firstN a.toNat/16<16:=by omega
 have aL:accT.length=32:=rfl
 have pf:List.take 2 (List.drop ((((firstN a.toNat:Nat):Int)/16).toNat*2) (List.map LV.p accT))=[.p (.s (.int .u8 (lo:Int))),.p (.s (.int .u8 (hi:Int)))]:=by
  have e1:(((firstN a.toNat:Nat):Int)/16).toNat=firstN a.toNat/16:=by omega
  rw [e1,Nat.mul_comm]
  have hb:2*(firstN a.toNat/16)+1<accL.length:=by rw [show accL.length=32 from rfl];omega
  rw [List.getElem?_eq_getElem (by omega)] at t2 t3
  simp only [Option.some.injEq] at t2 t3
  rw [lg,List.map_map,←List.map_drop,List.drop_eq_getElem_cons (show 2*(firstN a.toNat/16)<accL.length by omega),List.drop_eq_getElem_cons hb,t2,t3]
  rfl
 simp only [Int.cast_ofNat_Int] at k7
 have f2:(4:Int)≤((a::b::c::d::r).length:Int):=by simp;omega
 have n1:1<(a::b::c::d::r).length:=by simp
 have n2:4≤(a::b::c::d::r).length:=by simp
 have hg1 : ∀ h:1<(a::b::c::d::r).length,(a::b::c::d::r)[1]'h=b:=fun _=>rfl
 have c1:(lo:Int)≤b.toNat:=by omega
 have c2:(b.toNat:Int)≤hi:=by omega
 have n2':2<(a::b::c::d::r).length:=by simp
 have hg2 : ∀ h:2<(a::b::c::d::r).length,(a::b::c::d::r)[2]'h=c:=fun _=>rfl
 have u2:(128:Int)≤c.toNat:=by have:=bG hc;omega
 have v2:(c.toNat:Int)≤191:=by have:=bG hc;omega
 have n3':3<(a::b::c::d::r).length:=by simp
 have hg3 : ∀ h:3<(a::b::c::d::r).length,(a::b::c::d::r)[3]'h=d:=fun _=>rfl
 have u3:(128:Int)≤d.toNat:=by have:=bG hd;omega
 have v3:(d.toNat:Int)≤191:=by have:=bG hd;omega
 have x2:=bx (a::b::c::d::r) 4 (a::b::c::d::r).length
 rw [List.take_length,show (a::b::c::d::r).drop 4=r from rfl] at x2
 generalize firstT=FT at*
 generalize accT=AT at*
 generalize a::b::c::d::r=l at*
 generalize firstN a.toNat=F at*
 clear t1 t2 t3 e
 simp +contextual (maxSteps:=200000) [ir156_1,ssL,↓ssM,ae,ssU,Go.Sx.LV.undef,Go.undef,ssR,sz,hg0,hg1,f1,f2,n1,n2,h0,hI,h2,k7,k4,G1,G2,ft,gg,w1,pf,aL,hF,c1,c2,x2,n2',hg2,u2,v2,n3',hg3,u3,v3]
 omega
end Go.Proofs.YtoeblkipfdnnlaaGreatDoor
end

section
namespace Go.Proofs.YtoeblkipfdnnlaaGreatDoor
open Go Go.Sx
set_option maxHeartbeats 1000000
theorem gR (H:Heap) (nx:Nat) : ∀ (m:Nat) (l:List UInt8),l.length≤m→good l→l.length<2^29 →
  run ⟨Ω,gG,H,nx⟩ (.loop ir156_1) ⟨[(0,.str ⟨l.toArray⟩)],⟨[],[]⟩⟩=some (.exit 0,⟨[],⟨[],[]⟩⟩)
 | m,[],_,_,_=>v9 H nx
 | 0,a::r,hm,_,_=>by simp at hm
 | m+1,a::r,hm,hg,hl=>by
  have hm':r.length≤m:=by simpa using hm
  have hl':r.length<2^29:=by simp at hl;omega
  by_cases ha:a.toNat<128
  ·obtain ⟨j,e,hj⟩:=z9 H nx a r ha hl'
   rw [am,e,aG,aD]
   exact gR H nx m _ (by simp;omega) (kG j r (nO hg ha) hj) (by simp;omega)
  ·obtain ⟨x,k,hs,hk⟩:=nP hg
   have sz:=vT a r ha
   rw [hs] at sz
   simp only [Option.map_some] at sz
   unfold accOk at sz
   cases e:acc a.toNat with
   | none=>rw [e] at sz;cases sz
   | some q=>
    obtain ⟨n,lo,hi⟩:=q
    rw [e] at sz
    simp only at sz
    obtain ⟨-,-,-,n2,n4⟩:=mR a.toNat_lt (by omega) e
    split at sz
    ·rename_i hr
     obtain rfl:k=n:=by simpa using sz
     rcases (by omega:k=2∨k=3∨k=4) with rfl|rfl|rfl
     ·match r,hr with
      | b::r,hr=>
       simp only [restOk,Bool.and_eq_true,decide_eq_true_eq] at hr
       rw [am,Aa H nx a b r (by omega) lo hi e hr.1 hr.2,aG,aD]
       exact gR H nx m r (by simp at hm';omega) hk (by simp at hl';omega)
     ·match r,hr with
      | b::c::r,hr=>
       simp only [restOk,Bool.and_eq_true,decide_eq_true_eq] at hr
       rw [am,yj H nx a b c r (by omega) lo hi e hr.1.1 hr.1.2 hr.2,aG,aD]
       exact gR H nx m r (by simp at hm';omega) hk (by simp at hl';omega)
     ·match r,hr with
      | b::c::d::r,hr=>
       simp only [restOk,Bool.and_eq_true,decide_eq_true_eq] at hr
       rw [am,yk H nx a b c d r (by omega) lo hi e hr.1.1.1 hr.1.1.2 hr.1.2 hr.2,aG,aD]
       exact gR H nx m r (by simp at hm';omega) hk (by simp at hl';omega)
    ·cases sz
theorem z8 (l:List UInt8) (h:good l) (hl:l.length<2^29):Ψ 156 [.str ⟨l.toArray⟩] []=some (.bool true):=by
 have lp:=fun H nx=>gR H nx l.length l (Nat.le_refl _) h hl
 refine bf (ir:=ir156) (by kernel_rfl) ?_;simp +contextual (maxSteps:=1000000) [ir156,ssL,↓ssM,ae,ssU,Go.Sx.LV.undef,Go.undef,ssR,lp]
theorem pj (s:List UInt8) (h:Nam s):Ψ 94 [.p (.agg (fldP s))] []=some (.int .i64 0):=
 xy s h yg (z8 s (nN _ _ h.c) (by have:=h.l;omega))
end Go.Proofs.YtoeblkipfdnnlaaGreatDoor
end

section
namespace Go.Proofs.YtoeblkipfdnnlaaGreatDoor
open Go Go.Sx
set_option maxHeartbeats 1000000
theorem AA (s:List UInt8) (fl:Bool):Ψ 95 [.p (.sl (fldP s) 1 3 fl)] []=some (.p (.agg [.sl (fldP s) 1 3 false])):=by
 cases fl<;>exact kO (n:=40) (by kernel_rfl)
theorem tM (s:List UInt8) (fl:Bool) (H:Heap) (nx:Nat):Ω 86 [.p (.agg [.sl (fldP s) 1 3 fl])] H nx=some (.int .i64 1,[],[]):=by
 have:=nb fl (some s) H nx
 simpa [bW] using this
theorem AD:Ψ 51 [.p (.s (.slice none 0 0))] []=some (.tuple [.p (.agg [.s (.slice none 0 0)]),.int .i64 0]):=kO (n:=40) (by kernel_rfl)
theorem AE (s:List UInt8) (h:Nam s) (fl:Bool):Ψ 51 [.p (.sl (fldP s) 1 3 fl)] []=some (.tuple [.p (.agg [.sl (fldP s) 1 3 false]),.int .i64 0]):=by
 have m:=AA s fl
 have n:=pj s h
 have k:=tM s false
 have w1:IntKind.i64.wrap 1=1:=by decide
 have lp0 : ∀ H nx,run ⟨Ω,gG,H,nx⟩ ir51_0 ⟨[(0,.p (.sl (fldP s) 1 3 fl)),(2,.ref nx 0),(8,.p (.sl (fldP s) 1 3 fl)),(9,.int .i64 1),(10,.int .i64 0)],⟨[],[some (.cells [.p (.s (.slice none 0 0))])]⟩⟩=some (.normal,⟨[(0,.p (.sl (fldP s) 1 3 fl)),(2,.ref nx 0),(8,.p (.sl (fldP s) 1 3 fl)),(9,.int .i64 1),(10,.int .i64 1)],⟨[],[some (.cells [.p (.s (.slice none 0 0))])]⟩⟩):=fun H nx=>by
  simp +contextual (maxSteps:=100000) [ir51_0,ssL,↓ssM,ae,ssU,Go.Sx.LV.undef,Go.undef,ssR,n,w1]
 have lp1 : ∀ H nx,run ⟨Ω,gG,H,nx⟩ ir51_0 ⟨[(0,.p (.sl (fldP s) 1 3 fl)),(2,.ref nx 0),(8,.p (.sl (fldP s) 1 3 fl)),(9,.int .i64 1),(10,.int .i64 1)],⟨[],[some (.cells [.p (.s (.slice none 0 0))])]⟩⟩=some (.exit 0,⟨[(0,.p (.sl (fldP s) 1 3 fl)),(2,.ref nx 0)],⟨[],[some (.cells [.p (.s (.slice none 0 0))])]⟩⟩):=fun H nx=>by
  simp +contextual (maxSteps:=100000) [ir51_0,ssL,↓ssM,ae,ssU,Go.Sx.LV.undef,Go.undef,ssR]
 have lp : ∀ H nx,run ⟨Ω,gG,H,nx⟩ (.loop ir51_0) ⟨[(0,.p (.sl (fldP s) 1 3 fl)),(2,.ref nx 0),(8,.p (.sl (fldP s) 1 3 fl)),(9,.int .i64 1),(10,.int .i64 0)],⟨[],[some (.cells [.p (.s (.slice none 0 0))])]⟩⟩=some (.exit 0,⟨[(0,.p (.sl (fldP s) 1 3 fl)),(2,.ref nx 0)],⟨[],[some (.cells [.p (.s (.slice none 0 0))])]⟩⟩):=fun H nx=>by
  rw [am,lp0,aG,aD,am,lp1];rfl
 refine bf (ir:=ir51) (by kernel_rfl) ?_;simp +contextual (maxSteps:=1000000) [ir51,ssL,↓ssM,ae,ssU,Go.Sx.LV.undef,Go.undef,ssR,lp,m,k]
end Go.Proofs.YtoeblkipfdnnlaaGreatDoor
end

section
namespace Go.Proofs.YtoeblkipfdnnlaaGreatDoor
open Go Go.Sx
theorem vZ : ∀ (e:Ev),e.norm→e.depth≤16→e.max≤2^20→∀ (H:Heap) (nx:Nat),Ω 25 [.p e.rv] H nx=some (.p e.pv,[],[])
 | .leaf n,_,_,hm,H,nx=>by
  refine aA (ir:=ir25) (by kernel_rfl) 0 ?_
  have z:=wL n hm
  rw [Ev.rv_l]
  generalize Ev.leaf n=e at*
  simp [ir25,ssB,ssU,Go.Sx.LV.undef,Go.undef,ssP,appO,z]
 | .node n l r,hn,hd,hm,H,nx=>by
  refine aA (ir:=ir25) (by kernel_rfl) 0 ?_
  have hd':(Ev.node n l r).depth=1+Max.max l.depth r.depth:=rfl
  have d1:=Ev.max_l n l r
  have d2:=Ev.max_r n l r
  have m1:=Ev.n_max l
  have m2:=Ev.n_max r
  have e1:=vZ l hn.1 (by omega) (by omega)
  have e2:=vZ r hn.2.1 (by omega) (by omega)
  have hid:=Ev.mk_id hn
  have her:(Ev.node n l r).err=0:=by
   unfold Ev.err
   rw [if_neg (by omega),if_neg (by omega)]
  have e3:=wN n l r (by have:=Ev.n_max (.node n l r);simp only [Ev.n] at this;omega) (by rw [hid];exact her) (by omega) (by omega) (by rw [hid];omega) (by rw [hid];omega)
  rw [hid] at e3
  obtain ⟨c1,h1⟩:=Ev.rv_imm l
  obtain ⟨c2,h2⟩:=Ev.rv_imm r
  rw [h1] at e1
  rw [h2] at e2
  rw [Ev.rv_n]
  generalize Ev.node n l r=e at*
  simp [ir25,ssB,ssU,Go.Sx.LV.undef,Go.undef,ssP,appO,h1,h2,e1,e2,e3]
end Go.Proofs.YtoeblkipfdnnlaaGreatDoor
end

section
namespace Go.Proofs.YtoeblkipfdnnlaaGreatDoor
open Go Go.Sx
set_option maxHeartbeats 2000000
def wvOf (x:Option (List UInt8)) (s:List UInt8) (gone:Bool):Wv:=⟨(mkEv 4 (x.map (·.take 40))).1,if gone=false∧errR s=0 then some s else none,gone⟩
theorem ou (s:List UInt8) (hs:s.length≤60) (H:Heap) (nx:Nat):Ω 93 [.p (.agg (fldP s))] H nx=some (.int .i64 (errR s),[],[]):=by
 have h:=vw s (by omega)
 simp [ssL,↓ssM,ae,ssU,Go.Sx.LV.undef,Go.undef,ssR,h]
theorem Ba (x:Option (List UInt8)) (fl:Bool) (s:List UInt8) (gone:Bool) (hs:s.length≤60) (H:Heap) (nx:Nat):
  Ω 50 [.p (obP fl x),.str ⟨s.toArray⟩,.bool gone] H nx=some (.p (.agg (wvOf x s gone).rcs),[],[]):=by
 have rr:=ou s hs
 have mk : ∀ fl' H nx,Ω 18 [.p (obP fl' (x.map (·.take 40))),.int .i64 4] H nx=_:=fun fl' H nx=>mB 4 (x.map (·.take 40)) fl' (by decide) (fun l' e=>by
  cases x with
  | none=>cases e
  | some l=>obtain rfl:=Option.some.inj e;simp;omega) H nx
 simp only [wvOf,Wv.rcs]
 obtain ⟨cs,hcs⟩:=Ev.rv_imm (mkEv 4 (x.map (·.take 40))).1
 simp only [hcs] at mk ⊢
 generalize hR:(mkEv 4 (x.map (·.take 40))).2=rest at*
 clear hcs hR
 cases x with
 | none=>
  have mk:=mk fl
  simp only [Option.map_none,AF] at mk ⊢
  generalize obP fl rest=R at*
  cases gone with
  | true=>refine af (ir:=ir50) (by kernel_rfl) ?_;simp +contextual (maxSteps:=1000000) [ir50,ssL,↓ssM,ae,ssU,Go.Sx.LV.undef,Go.undef,ssR,mk,rr,bt]
  | false=>
   by_cases he:errR s=0
   ·rw [he] at rr
    refine af (ir:=ir50) (by kernel_rfl) ?_;simp +contextual (maxSteps:=1000000) [ir50,ssL,↓ssM,ae,ssU,Go.Sx.LV.undef,Go.undef,ssR,mk,rr,bt,bW,he]
   ·have he':=he
    refine af (ir:=ir50) (by kernel_rfl) ?_;simp +contextual (maxSteps:=1000000) [ir50,ssL,↓ssM,ae,ssU,Go.Sx.LV.undef,Go.undef,ssR,mk,rr,bt,he]
 | some l=>
  by_cases h40:l.length≤40
  ·have mk:=mk fl
   have e:l.take 40=l:=List.take_of_length_le h40
   simp only [Option.map_some,kL,e] at mk ⊢
   have k1:(l.length:Int)≤40:=by omega
   generalize obP fl rest=R at*
   generalize bytP l=P at*
   cases gone with
   | true=>refine af (ir:=ir50) (by kernel_rfl) ?_;simp +contextual (maxSteps:=1000000) [ir50,ssL,↓ssM,ae,ssU,Go.Sx.LV.undef,Go.undef,ssR,mk,rr,bt,k1]
   | false=>
    by_cases he:errR s=0
    ·rw [he] at rr
     refine af (ir:=ir50) (by kernel_rfl) ?_;simp +contextual (maxSteps:=1000000) [ir50,ssL,↓ssM,ae,ssU,Go.Sx.LV.undef,Go.undef,ssR,mk,rr,bt,bW,he,k1]
    ·refine af (ir:=ir50) (by kernel_rfl) ?_;simp +contextual (maxSteps:=1000000) [ir50,ssL,↓ssM,ae,ssU,Go.Sx.LV.undef,Go.undef,ssR,mk,rr,bt,he,k1]
  ·have mk:=mk (fl&&40==l.length)
   have l40:(l.take 40).length=40:=by simp;omega
   have tb:List.take 40 (bytP l)=bytP (l.take 40):=by unfold bytP;rw [List.map_take]
   have lb:(bytP l).length=l.length:=ay l
   simp only [Option.map_some,kL,l40] at mk ⊢
   have k1 : ¬(l.length:Int)≤40:=by omega
   have k2:40≤l.length:=by omega
   have k3 : ¬40=l.length:=by omega
   generalize obP (fl&&40==l.length) rest=R at*
   generalize bytP (l.take 40)=Q at*
   generalize bytP l=P at*
   cases gone with
   | true=>refine af (ir:=ir50) (by kernel_rfl) ?_;simp +contextual (maxSteps:=1000000) [ir50,ssL,↓ssM,ae,ssU,Go.Sx.LV.undef,Go.undef,ssR,mk,rr,bt,k1,k2,k3,tb,lb]
   | false=>
    by_cases he:errR s=0
    ·rw [he] at rr
     refine af (ir:=ir50) (by kernel_rfl) ?_;simp +contextual (maxSteps:=1000000) [ir50,ssL,↓ssM,ae,ssU,Go.Sx.LV.undef,Go.undef,ssR,mk,rr,bt,bW,he,k1,k2,k3,tb,lb]
    ·refine af (ir:=ir50) (by kernel_rfl) ?_;simp +contextual (maxSteps:=1000000) [ir50,ssL,↓ssM,ae,ssU,Go.Sx.LV.undef,Go.undef,ssR,mk,rr,bt,he,k1,k2,k3,tb,lb]
end Go.Proofs.YtoeblkipfdnnlaaGreatDoor
end

section
namespace Go.Proofs.YtoeblkipfdnnlaaGreatDoor
open Go Go.Sx
set_option maxHeartbeats 2000000
section
variable {H:Heap} {nx:Nat} {I:List PV}
abbrev z4:Ob:=some (.cells [.p (.s (.int .u64 0)),.p (.s (.pointer none)),.p (.s (.slice none 0 0)),.p (.s (.bool false))])
abbrev z3:Ob:=some (.cells [.p (.s (.pointer none)),.p (.s (.slice none 0 0)),.p (.s (.bool false))])
theorem xh:run ⟨Ω,gG,H,nx⟩ (.loop ir17_0) ⟨[(2,.ref nx 0),(3,.ref (nx+1) 0),(4,.p (.imm I 0)),(5,.p (.s (.slice none 0 0))),(23,.p (.s (.slice none 0 0))),(24,.int .i64 0),(25,.int .i64 0)],⟨[],[z4,z3]⟩⟩=
  some (.exit 0,⟨[(2,.ref nx 0),(3,.ref (nx+1) 0),(4,.p (.imm I 0)),(5,.p (.s (.slice none 0 0))),(23,.p (.s (.slice none 0 0))),(24,.int .i64 0),(25,.int .i64 0),(26,.bool false)],⟨[],[z4,z3]⟩⟩):=by
 rw [am]
 simp +contextual (maxSteps:=1000000) [ir17_0,ssL,↓ssM,ae,ssU,Go.Sx.LV.undef,Go.undef,ssR]
theorem xi (s:List UInt8):run ⟨Ω,gG,H,nx⟩ (.loop ir17_0) ⟨[(2,.ref nx 0),(3,.ref (nx+1) 0),(4,.p (.imm I 0)),(5,.p (.s (.slice none 0 0))),(23,.p (.sl (fldP s) 1 3 true)),(24,.int .i64 1),(25,.int .i64 0)],⟨[],[z4,z3]⟩⟩=
  some (.exit 0,⟨[(2,.ref nx 0),(3,.ref (nx+1) 0),(4,.p (.imm I 0)),(5,.arr (nx+2) 0 1 3 1 false),(23,.p (.sl (fldP s) 1 3 true)),(24,.int .i64 1),(25,.int .i64 1),(26,.bool false)],⟨[],[z4,z3,some (.cells ((fldP s).map .p))]⟩⟩):=by
 have w1:IntKind.i64.wrap 1=1:=by decide
 have e1:run ⟨Ω,gG,H,nx⟩ ir17_0 ⟨[(2,.ref nx 0),(3,.ref (nx+1) 0),(4,.p (.imm I 0)),(5,.p (.s (.slice none 0 0))),(23,.p (.sl (fldP s) 1 3 true)),(24,.int .i64 1),(25,.int .i64 0)],⟨[],[z4,z3]⟩⟩=
   some (.normal,⟨[(2,.ref nx 0),(3,.ref (nx+1) 0),(4,.p (.imm I 0)),(5,.arr (nx+2) 0 1 3 1 false),(23,.p (.sl (fldP s) 1 3 true)),(24,.int .i64 1),(25,.int .i64 1)],⟨[],[z4,z3,some (.cells ((fldP s).map .p))]⟩⟩):=by
  simp +contextual (maxSteps:=1000000) [ir17_0,ssL,↓ssM,ae,ssU,Go.Sx.LV.undef,Go.undef,ssR,w1]
 have e2:run ⟨Ω,gG,H,nx⟩ ir17_0 ⟨[(2,.ref nx 0),(3,.ref (nx+1) 0),(4,.p (.imm I 0)),(5,.arr (nx+2) 0 1 3 1 false),(23,.p (.sl (fldP s) 1 3 true)),(24,.int .i64 1),(25,.int .i64 1)],⟨[],[z4,z3,some (.cells ((fldP s).map .p))]⟩⟩=
   some (.exit 0,⟨[(2,.ref nx 0),(3,.ref (nx+1) 0),(4,.p (.imm I 0)),(5,.arr (nx+2) 0 1 3 1 false),(23,.p (.sl (fldP s) 1 3 true)),(24,.int .i64 1),(25,.int .i64 1),(26,.bool false)],⟨[],[z4,z3,some (.cells ((fldP s).map .p))]⟩⟩):=by
  simp +contextual (maxSteps:=1000000) [ir17_0,ssL,↓ssM,ae,ssU,Go.Sx.LV.undef,Go.undef,ssR,w1]
 rw [am,e1,aG,aD,am,e2];rfl
end
abbrev drwP (fl:Bool) (x:Option (List UInt8)) (s:List UInt8) (g:Bool):List PV:=[obP fl x,strP s,.s (.bool g)]
abbrev dv (x:Option (List UInt8)) (s:List UInt8) (g:Bool):Wv:=wvOf x (s.take 60) g
theorem AB (x:Option (List UInt8)) (fl:Bool) (s:List UInt8) (g:Bool) (hs:s.length<2^63) (H:Heap) (nx:Nat):
  Ω 17 [.p (.agg (drwP fl x s g))] H nx=some (.tuple [.p ((dv x s g).pv false),.p (.agg (dv x s g).rcs)],[],[]):=by
 have mk : ∀ H nx,Ω 50 [.p (obP fl x),.str ⟨(s.take 60).toArray⟩,.bool g] H nx=some (.p (.agg (dv x s g).rcs),[],[]):=Ba x fl (s.take 60) g (by simp;omega)
 obtain ⟨o1,o2,o3⟩:=fh 4 (x.map (·.take 40))
 have tr:=vZ (mkEv 4 (x.map (·.take 40))).1 o1 (by omega) (by omega)
 have m0:=AD
 have l0:=fun H nx I=>xh (H:=H) (nx:=nx) (I:=I)
 have l1:=fun H nx I=>xi (H:=H) (nx:=nx) (I:=I) (s.take 60)
 have hsz:=a7 s
 have hnm : ∀ H nx,(dv x s g).nm=some (s.take 60)→Ω 51 [.p (.sl (fldP (s.take 60)) 1 3 false)] H nx=some (.tuple [.p (.agg [.sl (fldP (s.take 60)) 1 3 false]),.int .i64 0],[],[]):=fun H nx h=>by
  simp only [dv,wvOf] at h
  split at h
  ·rename_i h1
   have m1:=AE (s.take 60) (uK h1.2) false
   simp [ssL,↓ssM,ae,ssU,Go.Sx.LV.undef,Go.undef,ssR,m1]
  ·cases h
 have nms:(dv x s g).nm=none∨(dv x s g).nm=some (s.take 60):=by
  simp only [dv,wvOf];split<;>simp
 have hev:(dv x s g).ev=(mkEv 4 (x.map (·.take 40))).1:=rfl
 have hg:(dv x s g).gone=g:=rfl
 rw [←hev] at tr
 generalize dv x s g=v at*
 clear hev o1 o2 o3
 obtain ⟨ev,nm,gone⟩:=v
 simp only at hg nms hnm tr
 subst hg
 simp only [drwP,Wv.pv,Wv.cells,Wv.rcs,Ev.pv] at mk tr hnm ⊢
 obtain ⟨cs,hcs⟩:=Ev.rv_imm ev
 simp only [hcs] at mk tr ⊢
 generalize ev.ptr=ep at*
 generalize ev.n=en at*
 generalize obP fl x=X at*
 have se:=bx s
 by_cases h60:s.length≤60
 ·have e:s.take 60=s:=List.take_of_length_le h60
  have k1 : ¬(60:Int)<s.length:=by omega
  rw [e] at mk hnm nms l1
  rcases nms with rfl|rfl
  ·simp only [bt] at mk ⊢
   refine af (ir:=ir17) (by kernel_rfl) ?_;simp +contextual (maxSteps:=1000000) [ir17,ssL,↓ssM,ae,ssU,Go.Sx.LV.undef,Go.undef,ssR,mk,tr,m0,l0,hsz,se,k1]
  ·have hnm:=fun H nx=>hnm H nx rfl
   simp only [bW] at mk ⊢
   refine af (ir:=ir17) (by kernel_rfl) ?_;simp +contextual (maxSteps:=1000000) [ir17,ssL,↓ssM,ae,ssU,Go.Sx.LV.undef,Go.undef,ssR,mk,tr,hnm,l1,hsz,se,k1]
 ·have k1:(60:Int)<s.length:=by omega
  have k2:60≤s.length:=by omega
  rcases nms with rfl|rfl
  ·simp only [bt] at mk ⊢
   clear hnm l1
   refine af (ir:=ir17) (by kernel_rfl) ?_;simp +contextual (maxSteps:=1000000) [ir17,ssL,↓ssM,ae,ssU,Go.Sx.LV.undef,Go.undef,ssR,mk,tr,m0,l0,hsz,se,k1,k2]
  ·have hnm:=fun H nx=>hnm H nx rfl
   simp only [bW,fldP,strP] at mk hnm l1 ⊢
   refine af (ir:=ir17) (by kernel_rfl) ?_;simp +contextual (maxSteps:=1000000) [ir17,ssL,↓ssM,ae,ssU,Go.Sx.LV.undef,Go.undef,ssR,mk,tr,hnm,l1,hsz,se,k1,k2]
end Go.Proofs.YtoeblkipfdnnlaaGreatDoor
end

section
namespace Go.Sx
open Go
noncomputable def restL (c:Ctx) (B:IRC) (T:St):Option (Ex × St):=bindK (run c (tlC B) T) fun p=>seqK p fun st'=>run c (.loop B) st'
theorem dm {c:Ctx} {B:IRC} (hB:B = .seq (hdC B) (tlC B)) {s T:St} (h:run c (hdC B) s=some (.normal,T)):run c (.loop B) s=restL c B T:=by
 rw [am]
 conv=>lhs;rw [hB]
 rw [i8,h]
 rw [←hB]
 rfl
theorem fX {c:Ctx} {B:IRC} (hB:B = .seq (hdC B) (tlC B)) {T T':St} (h:run c (.seq (tlC B) (hdC B)) T=some (.normal,T')):restL c B T=restL c B T':=by
 rw [i8] at h
 unfold restL
 cases q:run c (tlC B) T with
 | none=>rw [q] at h;cases h
 | some p=>
  obtain ⟨e,s⟩:=p
  rw [q] at h
  cases e with
  | normal=>
   have h2:run c (hdC B) s=some (.normal,T'):=h
   show run c (.loop B) s=_
   exact dm hB h2
  | exit i=>simp [bindK,seqK] at h
  | ret=>simp [bindK,seqK] at h
  | goto i=>simp [bindK,seqK] at h
theorem sZ {c:Ctx} {B:IRC} {T s:St} {i:Nat} (h:run c (tlC B) T=some (.exit i,s)):restL c B T=some (.exit i,s):=by
 unfold restL
 rw [h];rfl
end Go.Sx
end

section
namespace Go.Proofs.YtoeblkipfdnnlaaGreatDoor
open Go Go.Sx
set_option maxHeartbeats 2000000
structure Dw where
 x:Option (List UInt8)
 s:List UInt8
 g:Bool
abbrev Dw.cells (d:Dw):List PV:=drwP false d.x d.s d.g
abbrev Dw.lv (d:Dw):List LV:=[.p (obP false d.x),.p (strP d.s),.p (.s (.bool d.g))]
abbrev Dw.v (d:Dw):Wv:=dv d.x d.s d.g
def dwP (D:List Dw):List PV:=D.flatMap Dw.cells
def dwL (D:List Dw):List LV:=D.flatMap Dw.lv
theorem pY (d:Dw):d.lv.length=3:=rfl
theorem pW (d:Dw):d.cells.length=3:=rfl
theorem lJ (D:List Dw):(dwP D).map .p=dwL D:=by
 unfold dwP dwL
 rw [List.map_flatMap]
 rfl
theorem lH (D:List Dw):(dwL D).length=D.length*3:=fo pY D
theorem lG {D:List Dw} {i:Nat} {d:Dw} (h:D[i]?=some d):((dwL D).drop (i*3)).take 3=d.lv:=mE pY h
abbrev vsW (D:List Dw):List Wv:=(D.take 14).map Dw.v
section
variable {D:List Dw} {H:Heap} {nx:Nat} {d:Dw}
abbrev alD (D:List Dw):LV:=.p (.sl (dwP D) D.length 3 false)
abbrev al0 (D:List Dw) (i:Nat):St:=⟨[(4,.p (.s (.slice none 0 0))),(5,.p (.s (.slice none 0 0))),(10,alD D),(11,.int .i64 D.length),(12,.int .i64 i)],⟨[],[]⟩⟩
abbrev alS (nx:Nat) (D:List Dw) (V:List Wv) (i:Nat):St:=⟨[(4,.arr nx 0 V.length 4 V.length false),(5,.arr (nx+1) 0 V.length 3 V.length false),(10,alD D),(11,.int .i64 D.length),(12,.int .i64 i)],⟨[],[some (.cells (rowL V)),some (.cells (rrL V))]⟩⟩
abbrev alB:IRC:=ir9_0
theorem yO (i:Nat):run ⟨Ω,gG,H,nx⟩ (hdC alB) (al0 D i)=some (.normal,al0 D i):=by
 simp only [al0,alD]
 generalize dwP D=P at*
 simp +contextual (maxSteps:=1000000) [alB,ir9_0,hdC,ssL,↓ssM,ae,ssU,Go.Sx.LV.undef,Go.undef,ssR]
theorem ts (hd:D[0]?=some d) (hm : ∀ H nx,Ω 17 [.p (.agg d.cells)] H nx=some (.tuple [.p (d.v.pv false),.p (.agg d.v.rcs)],[],[])):
  run ⟨Ω,gG,H,nx⟩ (.seq (tlC alB) (hdC alB)) (al0 D 0)=some (.normal,alS nx D [d.v] 1):=by
 have hl:=lH D
 obtain ⟨h1,_⟩:=List.getElem?_eq_some_iff.1 hd
 have k1 : ¬(D.length:Int)≤0:=by omega
 have k2:0<D.length:=h1
 have w1:IntKind.i64.wrap 1=1:=by decide
 have le:3≤(dwL D).length:=by omega
 have hD : ¬D=[]:=by rintro rfl;simp at h1
 have mp:=lJ D
 have g4:=lG hd
 rw [Nat.zero_mul,List.drop_zero] at g4
 clear hl
 simp only [al0,alS,alD,Wv.pv,Wv.cells,Wv.rcs,Dw.cells,Dw.lv,drwP,cU,rO,Wv.lv,Wv.rlv,List.length_cons,List.length_nil] at hm g4 ⊢
 generalize d.v=v at*
 generalize dwP D=P at*
 generalize dwL D=C at*
 simp +contextual (maxSteps:=1000000) [alB,ir9_0,hdC,tlC,ssL,↓ssM,ae,ssU,Go.Sx.LV.undef,Go.undef,ssR,k1,k2,w1,le,mp,g4,hm,hD]
theorem wi {V:List Wv} {i:Nat} (hV:V.length=i) (h0:0<i) (h14:i<14) (hd:D[i]?=some d) (h62:D.length<2^63) (hm : ∀ H nx,Ω 17 [.p (.agg d.cells)] H nx=some (.tuple [.p (d.v.pv false),.p (.agg d.v.rcs)],[],[])):
  run ⟨Ω,gG,H,nx⟩ (.seq (tlC alB) (hdC alB)) (alS nx D V i)=some (.normal,alS nx D (V++[d.v]) (i+1)):=by
 have hl:=lH D
 obtain ⟨h1,_⟩:=List.getElem?_eq_some_iff.1 hd
 have k1 : ¬(D.length:Int)≤i:=by omega
 have k2:i<D.length:=h1
 have k3 : ¬(14:Int)≤i:=by omega
 have k4 : ¬1099511627776<(i+1)*48:=by omega
 have k5 : ¬1099511627776<(i+1)*40:=by omega
 have w1:IntKind.i64.wrap ((i:Int)+1)=(i:Int)+1:=wrap_i64 _ (by omega) (by omega)
 have le:i*3+3≤(dwL D).length:=by omega
 have mp:=lJ D
 have g4:=lG hd
 have lA:=aF V
 have lB:=bH V
 have iA:=aZ (V++[d.v])
 have rA:=fun a s=>a8 a s (V++[d.v])
 have iB:=dX (V++[d.v])
 have rB:=fun a s=>i7 a s (V++[d.v])
 have iA':=aZ V
 have iB':=dX V
 have rA':=fun a s=>a8 a s V
 have rB':=fun a s=>i7 a s V
 rw [hV] at lA lB
 clear hl
 simp only [alS,alD,Wv.pv,Wv.cells,Wv.rcs,Dw.cells,Dw.lv,drwP,bm,mF,cU,rO,Wv.lv,Wv.rlv,List.length_append,List.length_cons,List.length_nil,hV,Nat.zero_add] at hm g4 iA rA iB rB ⊢
 generalize d.v=v at*
 generalize rowL V=A at*
 generalize rrL V=B at*
 generalize dwP D=P at*
 generalize dwL D=C at*
 clear hV
 simp +contextual (maxSteps:=1000000) [alB,ir9_0,hdC,tlC,ssL,↓ssM,ae,ssU,Go.Sx.LV.undef,Go.undef,ssR,k1,k2,k3,k4,k5,w1,le,mp,g4,hm,lA,lB,iA,rA,iB,rB,iA',iB',rA',rB']
theorem wj {V:List Wv} {i:Nat} (h14 : ¬i<14) (h1:i<D.length) (h62:D.length<2^63):
  run ⟨Ω,gG,H,nx⟩ (.seq (tlC alB) (hdC alB)) (alS nx D V i)=some (.normal,alS nx D V (i+1)):=by
 have hl:=lH D
 have hd:=List.getElem?_eq_getElem h1
 have k1 : ¬(D.length:Int)≤i:=by omega
 have k3:(14:Int)≤i:=by omega
 have w1:IntKind.i64.wrap ((i:Int)+1)=(i:Int)+1:=wrap_i64 _ (by omega) (by omega)
 have le:i*3+3≤(dwL D).length:=by omega
 have mp:=lJ D
 have g4:=lG hd
 have iA:=aZ V
 have rA:=fun a s=>a8 a s V
 have iB:=dX V
 have rB:=fun a s=>i7 a s V
 clear hl
 simp only [alS,alD,Dw.lv] at g4 ⊢
 generalize rowL V=A at*
 generalize rrL V=B at*
 generalize dwP D=P at*
 generalize dwL D=C at*
 simp +contextual (maxSteps:=1000000) [alB,ir9_0,hdC,tlC,ssL,↓ssM,ae,ssU,Go.Sx.LV.undef,Go.undef,ssR,k1,h1,k3,w1,le,mp,g4,iA,rA,iB,rB]
theorem yP {V:List Wv} : run ⟨Ω,gG,H,nx⟩ (tlC alB) (alS nx D V D.length)=some (.exit 0,⟨(alS nx D V D.length).env++[(13,.bool false)],(alS nx D V D.length).h⟩):=by
 simp only [alS,alD]
 generalize rowL V=A at*
 generalize rrL V=B at*
 generalize dwP D=P at*
 simp +contextual (maxSteps:=1000000) [alB,ir9_0,tlC,ssL,↓ssM,ae,ssU,Go.Sx.LV.undef,Go.undef,ssR]
end
end Go.Proofs.YtoeblkipfdnnlaaGreatDoor
end

section
namespace Go.Proofs.YtoeblkipfdnnlaaGreatDoor
open Go Go.Sx
set_option maxHeartbeats 2000000
structure DwOk (D:List Dw):Prop where
 s : ∀ d∈D,d.s.length<2^63
 l:D.length<2^63
theorem t8 (d:Dw) (h:d.s.length<2^63) (H:Heap) (nx:Nat):Ω 17 [.p (.agg d.cells)] H nx=some (.tuple [.p (d.v.pv false),.p (.agg d.v.rcs)],[],[]):=AB d.x false d.s d.g h H nx
section
variable {D:List Dw} {H:Heap} {nx:Nat}
theorem eS:alB = .seq (hdC alB) (tlC alB):=rfl
theorem lj (hD:DwOk D) : ∀ (m i:Nat),i+m=D.length→0<i →
  restL ⟨Ω,gG,H,nx⟩ alB (alS nx D (((D.take i).take 14).map Dw.v) i)=some (.exit 0,⟨(alS nx D (vsW D) D.length).env++[(13,.bool false)],(alS nx D (vsW D) D.length).h⟩)
 | 0,i,hi,h0=>by
  obtain rfl:i=D.length:=by omega
  rw [List.take_length]
  exact sZ yP
 | m+1,i,hi,h0=>by
  have h1:i<D.length:=by omega
  have hd:=List.getElem?_eq_getElem h1
  have hl:=hD.l
  by_cases h14:i<14
  ·have e1:(D.take i).take 14=D.take i:=by rw [List.take_take,Nat.min_eq_right (by omega)]
   have e2:(D.take (i+1)).take 14=D.take i++[D[i]]:=by
    rw [List.take_take,Nat.min_eq_right (by omega),List.take_add_one,hd];rfl
   have st:=wi (H:=H) (nx:=nx) (V:=(D.take i).map Dw.v) (by rw [List.length_map,List.length_take];omega) h0 h14 hd (by omega) (t8 _ (hD.s _ (List.getElem_mem h1)))
   have ih:=lj hD m (i+1) (by omega) (by omega)
   rw [e2,List.map_append] at ih
   rw [e1,fX eS st]
   exact ih
  ·have e1:(D.take (i+1)).take 14=(D.take i).take 14:=by rw [List.take_take,List.take_take,Nat.min_eq_left (by omega),Nat.min_eq_left (by omega)]
   have st:=wj (H:=H) (nx:=nx) (V:=((D.take i).take 14).map Dw.v) h14 h1 hl
   have ih:=lj hD m (i+1) (by omega) (by omega)
   rw [e1] at ih
   rw [fX eS st]
   exact ih
def dsP (D:List Dw):PV→Prop:=fun x=>x = .s (.slice none 0 0)∧D=[]∨x = .sl (dwP D) D.length 3 false
theorem tt {x:PV} (hx:dsP [] x):Ω 9 [.p x] H nx=some (.tuple [.p (.s (.slice none 0 0)),.p (.s (.slice none 0 0))],[],[]):=by
 have h0:run ⟨Ω,gG,H,nx⟩ (.loop alB) ⟨[(4,.p (.s (.slice none 0 0))),(5,.p (.s (.slice none 0 0))),(10,.p x),(11,.int .i64 0),(12,.int .i64 0)],⟨[],[]⟩⟩=
   some (.exit 0,⟨[(4,.p (.s (.slice none 0 0))),(5,.p (.s (.slice none 0 0))),(10,.p x),(11,.int .i64 0),(12,.int .i64 0),(13,.bool false)],⟨[],[]⟩⟩):=by
  rw [am]
  simp +contextual (maxSteps:=1000000) [alB,ir9_0,ssL,↓ssM,ae,ssU,Go.Sx.LV.undef,Go.undef,ssR]
 simp only [alB] at h0
 rcases hx with ⟨rfl,_⟩|rfl
 ·refine af (ir:=ir9) (by kernel_rfl) ?_;simp +contextual (maxSteps:=1000000) [ir9,ssL,↓ssM,ae,ssU,Go.Sx.LV.undef,Go.undef,ssR,h0]
 ·simp only [dwP,List.flatMap_nil,List.length_nil] at h0 ⊢
  refine af (ir:=ir9) (by kernel_rfl) ?_;simp +contextual (maxSteps:=1000000) [ir9,ssL,↓ssM,ae,ssU,Go.Sx.LV.undef,Go.undef,ssR,h0]
theorem A3 {x:PV} (hx:dsP D x) (h:D≠[]) (hD:DwOk D):Ω 9 [.p x] H nx=
  some (.tuple [.arr nx 0 (vsW D).length 4 (vsW D).length false,.arr (nx+1) 0 (vsW D).length 3 (vsW D).length false],[],[some (.cells (rowL (vsW D))),some (.cells (rrL (vsW D)))]):=by
 obtain rfl:x = .sl (dwP D) D.length 3 false:=by
  rcases hx with ⟨_,e⟩|e
  ·exact absurd e h
  ·exact e
 have hpos:0<D.length:=List.length_pos_iff.2 h
 have hd:=List.getElem?_eq_getElem hpos
 have lp:=lj (H:=H) (nx:=nx) hD (D.length-1) 1 (by omega) (by decide)
 have e1:((D.take 1).take 14).map Dw.v=[(D[0]).v]:=by
  cases D with
  | nil=>exact absurd rfl h
  | cons d D=>rfl
 rw [e1] at lp
 have st:=ts (H:=H) (nx:=nx) hd (t8 _ (hD.s _ (List.getElem_mem hpos)))
 have l2:run ⟨Ω,gG,H,nx⟩ (.loop alB) (al0 D 0)=_:=(dm eS (yO 0)).trans ((fX eS st).trans lp)
 clear lp st
 have iA:=aZ (vsW D)
 have rA:=fun a s=>a8 a s (vsW D)
 have iB:=dX (vsW D)
 have rB:=fun a s=>i7 a s (vsW D)
 simp only [al0,alS,alD,alB,Int.natCast_zero,List.cons_append,List.nil_append] at l2
 generalize vsW D=V at*
 generalize rowL V=A at*
 generalize rrL V=B at*
 generalize dwP D=P at*
 refine af (ir:=ir9) (by kernel_rfl) ?_;simp +contextual (maxSteps:=1000000) [ir9,ssL,↓ssM,ae,ssU,Go.Sx.LV.undef,Go.undef,ssR,l2,iA,rA,iB,rB]
end
end Go.Proofs.YtoeblkipfdnnlaaGreatDoor
end

section
namespace Go.Proofs.YtoeblkipfdnnlaaGreatDoor
open Go Go.Sx
set_option maxHeartbeats 2000000
theorem yh (v:Wv) (hv:v.Ok) (H:Heap) (nx:Nat):Ω 32 [.p (.agg (v.cells false))] H nx=some (.p (.sl (bytP v.bytes) v.bytes.length 1 false),[],[]):=j4 v false hv H nx
section
variable {L M:List Wv} {H:Heap} {nx:Nat} {x:LV} {fl:Bool}
abbrev slG (fl:Bool) (M:List Wv):LV:=.p (.sl (rrP M) M.length 3 fl)
abbrev lkS (x:LV) (fl:Bool) (M:List Wv) (n i:Nat):St:=⟨[(1,slG fl M),(12,x),(13,.int .i64 n),(14,.int .i64 i)],⟨[],[]⟩⟩
theorem xe (hx:Rw H nx x L) {i:Nat} {v w:Wv} (hv:L[i]?=some v) (hw:M[i]?=some w) (h30:L.length<2^30) (hvo:v.Ok) (hwo:w.Ok) (b:Bool) (hb:decide (v.bytes=w.bytes)=b):
  run ⟨Ω,gG,H,nx⟩ ir12_0 (lkS x fl M L.length i)=if b=true then some (.normal,lkS x fl M L.length (i+1)) else some (.ret,⟨[(4,.bool false)],⟨[],[]⟩⟩):=by
 have hl:=aF L
 have hm:=bH M
 obtain ⟨h1,_⟩:=List.getElem?_eq_some_iff.1 hv
 obtain ⟨h2,_⟩:=List.getElem?_eq_some_iff.1 hw
 have k1 : ¬(L.length:Int)≤i:=by omega
 have w1:IntKind.i64.wrap ((i:Int)+1)=(i:Int)+1:=wrap_i64 _ (by omega) (by omega)
 have le2:i*3+3≤(rrL M).length:=by omega
 have mp:=bn L
 have mq:=cz M
 have g4:=bc hv
 have g5:=d7 hw []
 rw [List.append_nil] at g5
 have b1:=yh v hvo
 have b2:=dh w hwo
 have vl:=hvo.len
 have sm:=fun H nx=>pD (H:=H) (nx:=nx) (.sl v.bytes false) (.sl w.bytes false) (by omega)
 rw [hb] at sm
 clear hb vl hm
 simp only [lkS,slG,Wv.cells,Wv.rcs,Wv.lv,Wv.rlv] at b1 b2 g4 g5 ⊢
 generalize bytP v.bytes=V at*
 generalize v.bytes.length=vn at*
 generalize bytP w.bytes=W at*
 generalize w.bytes.length=wn at*
 generalize rrP M=Q at*
 generalize rrL M=E at*
 cases hx with
 | nil=>cases hv
 | sl _ fl'=>
  have g4:=g4 []
  rw [List.append_nil] at g4
  have le:i*4+4≤(rowL L).length:=by omega
  clear hl
  generalize rowP L=P at*
  generalize rowL L=C at*
  cases b
  all_goals (simp +contextual (maxSteps:=1000000) [ir12_0,ssL,↓ssM,ae,ssU,Go.Sx.LV.undef,Go.undef,ssR,k1,h1,h2,w1,mp,mq,g4,g5,le,le2,b1,b2,sm])
 | arr _ R id cp ex a1 a2=>
  have g4:=g4 R
  have le:i*4+4≤(rowL L++R).length:=by rw [List.length_append];omega
  clear hl
  generalize rowL L++R=C at*
  cases b
  all_goals (simp +contextual (maxSteps:=1000000) [ir12_0,ssL,↓ssM,ae,ssU,Go.Sx.LV.undef,Go.undef,ssR,k1,h1,h2,w1,mq,g4,g5,le,le2,b1,b2,sm,a1,a2])
def lkR (x:LV) (fl:Bool) (M:List Wv) (n:Nat) (b:Bool):Ex × St:=if b then (.exit 0,⟨(lkS x fl M n n).env++[(15,.bool false)],⟨[],[]⟩⟩) else (.ret,⟨[(4,.bool false)],⟨[],[]⟩⟩)
theorem zt (hx:Rw H nx x L):run ⟨Ω,gG,H,nx⟩ ir12_0 (lkS x fl M L.length L.length)=some (lkR x fl M L.length true):=by
 simp only [lkS,slG,lkR]
 generalize rrP M=Q at*
 cases hx with
 | nil=>simp +contextual (maxSteps:=1000000) [ir12_0,ssL,↓ssM,ae,ssU,Go.Sx.LV.undef,Go.undef,ssR]
 | sl _ fl'=>
  generalize rowP L=P at*
  simp +contextual (maxSteps:=1000000) [ir12_0,ssL,↓ssM,ae,ssU,Go.Sx.LV.undef,Go.undef,ssR]
 | arr _ R id cp ex a1 a2=>simp +contextual (maxSteps:=1000000) [ir12_0,ssL,↓ssM,ae,ssU,Go.Sx.LV.undef,Go.undef,ssR,a2]
theorem qK (hx:Rw H nx x L) (h30:L.length<2^30) (hn:L.length=M.length) (hL : ∀ v∈L,v.Ok) (hM : ∀ v∈M,v.Ok) : ∀ (m i:Nat),i+m=L.length →
  run ⟨Ω,gG,H,nx⟩ (.loop ir12_0) (lkS x fl M L.length i)=some (lkR x fl M L.length (decide ((L.drop i).map Wv.bytes=(M.drop i).map Wv.bytes)))
 | 0,i,hi=>by
  obtain rfl:i=L.length:=by omega
  rw [am,zt hx,List.drop_length,List.drop_of_length_le (by omega)];rfl
 | m+1,i,hi=>by
  have h1:i<L.length:=by omega
  have h2:i<M.length:=by omega
  have hv:=List.getElem?_eq_getElem h1
  have hw:=List.getElem?_eq_getElem h2
  rw [List.drop_eq_getElem_cons h1,List.drop_eq_getElem_cons h2,am,xe hx hv hw h30 (hL _ (List.getElem_mem h1)) (hM _ (List.getElem_mem h2)) _ rfl]
  simp only [List.map_cons,List.cons.injEq]
  by_cases hq:(L[i]).bytes=(M[i]).bytes
  ·simp only [hq,decide_true,if_true,aG,aD,true_and]
   exact qK hx h30 hn hL hM m (i+1) (by omega)
  ·simp [hq,lkR,bindK,seqK]
theorem yy (hx:Rw H nx x L) (h30:L.length<2^30) (hL : ∀ v∈L,v.Ok) (hM : ∀ v∈M,v.Ok) {y:PV} (hy:y = .s (.slice none 0 0)∧M=[]∨y = .sl (rrP M) M.length 3 fl):
  Ω 12 [x,.p y] H nx=some (.bool (decide (L.map Wv.bytes=M.map Wv.bytes)),[],[]):=by
 by_cases hn:L.length=M.length
 ·by_cases h0:L=[]
  ·subst h0
   obtain rfl:M=[]:=List.eq_nil_of_length_eq_zero hn.symm
   have lo : ∀ H,(∀ id,id<nx→True)→run ⟨Ω,gG,H,nx⟩ (.loop ir12_0) ⟨[(1,.p y),(12,x),(13,.int .i64 0),(14,.int .i64 0)],⟨[],[]⟩⟩=some (.exit 0,⟨[(1,.p y),(12,x),(13,.int .i64 0),(14,.int .i64 0),(15,.bool false)],⟨[],[]⟩⟩):=fun H _=>by
    rw [am]
    cases hx with
    | nil=>simp +contextual (maxSteps:=1000000) [ir12_0,ssL,↓ssM,ae,ssU,Go.Sx.LV.undef,Go.undef,ssR]
    | sl _ fl'=>simp +contextual (maxSteps:=1000000) [ir12_0,ssL,↓ssM,ae,ssU,Go.Sx.LV.undef,Go.undef,ssR]
    | arr _ R id cp ex a1 a2=>simp +contextual (maxSteps:=1000000) [ir12_0,ssL,↓ssM,ae,ssU,Go.Sx.LV.undef,Go.undef,ssR,a2]
   have lo:=lo H fun _ _=>trivial
   simp only [List.map_nil,decide_true]
   rcases hy with ⟨rfl,_⟩|rfl
   ·cases hx
    all_goals (try simp only [List.length_nil] at lo)
    all_goals (refine af (ir:=ir12) (by kernel_rfl) ?_;simp +contextual (maxSteps:=1000000) [ir12,ssL,↓ssM,ae,ssU,Go.Sx.LV.undef,Go.undef,ssR,lo])
   ·simp only [xQ,List.length_nil] at lo ⊢
    cases hx
    all_goals (try simp only [List.length_nil] at lo)
    all_goals (refine af (ir:=ir12) (by kernel_rfl) ?_;simp +contextual (maxSteps:=1000000) [ir12,ssL,↓ssM,ae,ssU,Go.Sx.LV.undef,Go.undef,ssR,lo])
  ·have hy':y = .sl (rrP M) M.length 3 fl:=by
    rcases hy with ⟨_,e⟩|e
    ·exact absurd (List.eq_nil_of_length_eq_zero (by rw [hn,e];rfl)) h0
    ·exact e
   subst hy'
   have lp:=qK (fl:=fl) hx h30 hn hL hM L.length 0 (by omega)
   simp only [List.drop_zero,lkS,slG,Int.natCast_zero] at lp
   generalize decide (L.map Wv.bytes=M.map Wv.bytes)=D at*
   rw [←hn] at*
   generalize rrP M=Q at*
   cases D
   all_goals
    simp only [lkR,lkS,slG,if_true,Bool.false_eq_true,if_false,←hn,List.cons_append,List.nil_append] at lp
    cases hx with
    | nil=>exact absurd rfl h0
    | sl _ fl'=>refine af (ir:=ir12) (by kernel_rfl) ?_;simp +contextual (maxSteps:=1000000) [ir12,ssL,↓ssM,ae,ssU,Go.Sx.LV.undef,Go.undef,ssR,lp]
    | arr _ R id cp ex a1 a2=>refine af (ir:=ir12) (by kernel_rfl) ?_;simp +contextual (maxSteps:=1000000) [ir12,ssL,↓ssM,ae,ssU,Go.Sx.LV.undef,Go.undef,ssR,lp]
 ·have hd:decide (L.map Wv.bytes=M.map Wv.bytes)=false:=decide_eq_false fun h=>hn (by have:=congrArg List.length h;simpa using this)
  rw [hd]
  have hn' : ¬(L.length:Int)=M.length:=by omega
  rcases hy with ⟨rfl,rfl⟩|rfl
  ·simp only [List.length_nil,Int.natCast_zero] at hn hn'
   cases hx with
   | nil=>exact absurd rfl hn
   | sl _ fl'=>
    have h0 : ¬L=[]:=by rintro rfl;exact hn rfl
    refine af (ir:=ir12) (by kernel_rfl) ?_;simp +contextual (maxSteps:=1000000) [ir12,ssL,↓ssM,ae,ssU,Go.Sx.LV.undef,Go.undef,ssR,hn',hn,h0]
   | arr _ R id cp ex a1 a2=>
    have h0 : ¬L=[]:=by rintro rfl;exact hn rfl
    refine af (ir:=ir12) (by kernel_rfl) ?_;simp +contextual (maxSteps:=1000000) [ir12,ssL,↓ssM,ae,ssU,Go.Sx.LV.undef,Go.undef,ssR,hn',hn,h0]
  ·generalize rrP M=Q at*
   cases hx with
   | nil=>
    simp only [List.length_nil,Int.natCast_zero] at hn hn'
    have hn2 : ¬M.length=0:=fun e=>hn e.symm
    have h0 : ¬M=[]:=by rintro rfl;exact hn2 rfl
    refine af (ir:=ir12) (by kernel_rfl) ?_;simp +contextual (maxSteps:=1000000) [ir12,ssL,↓ssM,ae,ssU,Go.Sx.LV.undef,Go.undef,ssR,hn',hn,hn2,h0]
   | sl _ fl'=>refine af (ir:=ir12) (by kernel_rfl) ?_;simp +contextual (maxSteps:=1000000) [ir12,ssL,↓ssM,ae,ssU,Go.Sx.LV.undef,Go.undef,ssR,hn',hn]
   | arr _ R id cp ex a1 a2=>refine af (ir:=ir12) (by kernel_rfl) ?_;simp +contextual (maxSteps:=1000000) [ir12,ssL,↓ssM,ae,ssU,Go.Sx.LV.undef,Go.undef,ssR,hn',hn]
end
end Go.Proofs.YtoeblkipfdnnlaaGreatDoor
end

section
namespace Go.Proofs.YtoeblkipfdnnlaaGreatDoor
open Go Go.Sx
set_option maxHeartbeats 2000000
def sws (o:List UInt8):Nat→Nat→List Wv→List Wv
 | 0,_,W=>W
 | m+1,i,W=>sws o m (i+1) (match o[i]? with
  | some b=>swp W i (i+b.toNat%(W.length-i))
  | none=>W)
theorem r7 (o:List UInt8) : ∀ (m i:Nat) (W:List Wv),(sws o m i W).length=W.length
 | 0,_,_=>rfl
 | m+1,i,W=>by
  rw [sws,r7 o m]
  split
  ·exact r6 _ _ _
  ·rfl
theorem q7 (o:List UInt8) (v:Wv) : ∀ (m i:Nat) (W:List Wv),v∈sws o m i W↔v∈W
 | 0,_,_=>Iff.rfl
 | m+1,i,W=>by
  rw [sws,q7 o v m]
  split
  ·exact xj _ _ _ _
  ·exact Iff.rfl
section
variable {o:List UInt8} {H:Heap} {nx:Nat} {O S:PV} {c:Int}
def obB (o:List UInt8) (O:PV):Prop:=O = .s (.slice none 0 0)∧o=[]∨O = .sl (bytP o) o.length 1 false
abbrev swB:IRC:=ir3_1
abbrev swS (O S:PV) (c:Int) (nx n i:Nat) (W:List Wv):St:=⟨[(1,.p O),(2,.int .u8 c),(7,.arr nx 0 n 4 n false),(9,.p S),(28,.int .i64 n),(29,.int .i64 i)],⟨[],[some (.cells (rowL W))]⟩⟩
theorem yb {W:List Wv} {n i:Nat} (hn:W.length=n) (hi:i<n) (h30:n<2^30) {b:UInt8} (hb:o[i]?=some b) (hO:O = .sl (bytP o) o.length 1 false):
  run ⟨Ω,gG,H,nx⟩ swB (swS O S c nx n i W)=some (.normal,swS O S c nx n (i+1) (swp W i (i+b.toNat%(n-i)))):=by
 subst hO
 obtain ⟨h1,_⟩:=List.getElem?_eq_some_iff.1 hb
 have hl:=aF W
 have hj:i+b.toNat%(n-i)<n:=by have:=Nat.mod_lt b.toNat (show 0<n-i by omega);omega
 have b1:=bB hb
 have mp:=aU o
 have r1:binI .rem .i64 (b.toNat:Int) ((n:Int)-i)=some (.int .i64 (b.toNat%(n-i):Nat)):=by
  have:=i6 .i64 b.toNat (n-i) (by omega)
  rwa [show ((n-i:Nat):Int)=(n:Int)-i by omega] at this
 have w0:IntKind.i64.wrap (b.toNat:Int)=b.toNat:=wrap_i64 _ (by omega) (by have:=b.toNat_lt;omega)
 have w1:IntKind.i64.wrap ((i:Int)+1)=(i:Int)+1:=wrap_i64 _ (by omega) (by omega)
 have w2:IntKind.i64.wrap ((n:Int)-i)=(n:Int)-i:=wrap_i64 _ (by omega) (by omega)
 have w3:IntKind.i64.wrap ((i:Int)+(b.toNat%(n-i):Nat))=((i+b.toNat%(n-i):Nat):Int):=by rw [wrap_i64 _ (by omega) (by omega)];omega
 have k1 : ¬(n:Int)≤i:=by omega
 have k2 : ¬(o.length:Int)≤i:=by omega
 have hvi:=List.getElem?_eq_getElem (show i<W.length by omega)
 generalize i+b.toNat%(n-i)=j at*
 generalize b.toNat%(n-i)=t at*
 have hvj:=List.getElem?_eq_getElem (show j<W.length by omega)
 have e:swp W i j=(W.set i W[j]).set j W[i]:=by
  unfold swp;rw [hvi,hvj]
 have gi:=bc hvi []
 have gj:=bc hvj []
 rw [List.append_nil] at gi gj
 rw [e]
 have s1:=gk cv W[j] (show i<W.length by omega)
 have s2:=gk cv W[i] (show j<(W.set i W[j]).length by rw [List.length_set];omega)
 have l1:i*4+4≤(rowL W).length:=by omega
 have l2:j*4+4≤(rowL W).length:=by omega
 have l3:j*4+4≤(rowL (W.set i W[j])).length:=by rw [aF,List.length_set];omega
 have iW:=aZ W
 have rW:=fun a s=>a8 a s W
 clear hl e
 change splice (rowL W) (i*4) _=rowL (W.set i W[j]) at s1
 change splice (rowL (W.set i W[j])) (j*4) _=rowL ((W.set i W[j]).set j W[i]) at s2
 simp only [swS]
 generalize rowL ((W.set i W[j]).set j W[i])=C2 at*
 generalize rowL (W.set i W[j])=C1 at*
 generalize W[i]=vi at*
 generalize W[j]=vj at*
 generalize rowL W=C at*
 generalize bytP o=P at*
 generalize byt o=Q at*
 simp only [Wv.lv] at s1 s2 gi gj
 simp +contextual (maxSteps:=1000000) [swB,ir3_1,ssL,↓ssM,ae,ssU,Go.Sx.LV.undef,Go.undef,Go.Sx.push,Go.Sx.setObj,Go.Sx.setU,Go.Sx.setAll,Go.Sx.leI_eq,ltF,b1,mp,r1,w0,w1,w2,w3,k1,k2,h1,hi,hj,gi,gj,s1,s2,l1,l2,l3,iW,rW]
theorem yd {W:List Wv} {n i:Nat} (hi:i<n) (h30:n<2^30) (hb:o.length≤i) (hO:obB o O):
  run ⟨Ω,gG,H,nx⟩ swB (swS O S c nx n i W)=some (.normal,swS O S c nx n (i+1) W):=by
 have w1:IntKind.i64.wrap ((i:Int)+1)=(i:Int)+1:=wrap_i64 _ (by omega) (by omega)
 have k1 : ¬(n:Int)≤i:=by omega
 have k2:(o.length:Int)≤i:=by omega
 have k3:(0:Int)≤i:=by omega
 have iW:=aZ W
 have rW:=fun a s=>a8 a s W
 simp only [swS]
 generalize rowL W=C at*
 rcases hO with ⟨rfl,_⟩|rfl
 ·simp +contextual (maxSteps:=1000000) [swB,ir3_1,ssL,↓ssM,ae,ssU,Go.Sx.LV.undef,Go.undef,ssR,w1,k1,k3,iW,rW]
 ·generalize bytP o=P at*
  simp +contextual (maxSteps:=1000000) [swB,ir3_1,ssL,↓ssM,ae,ssU,Go.Sx.LV.undef,Go.undef,ssR,w1,k1,k2,iW,rW]
theorem zZ {W:List Wv} {n:Nat} (hO:obB o O):
  run ⟨Ω,gG,H,nx⟩ swB (swS O S c nx n n W)=some (.exit 0,⟨(swS O S c nx n n W).env++[(30,.bool false)],(swS O S c nx n n W).h⟩):=by
 have iW:=aZ W
 have rW:=fun a s=>a8 a s W
 simp only [swS]
 generalize rowL W=C at*
 rcases hO with ⟨rfl,_⟩|rfl
 ·simp +contextual (maxSteps:=1000000) [swB,ir3_1,ssL,↓ssM,ae,ssU,Go.Sx.LV.undef,Go.undef,ssR,iW,rW]
 ·generalize bytP o=P at*
  simp +contextual (maxSteps:=1000000) [swB,ir3_1,ssL,↓ssM,ae,ssU,Go.Sx.LV.undef,Go.undef,ssR,iW,rW]
theorem mP (hO:obB o O) {n:Nat} (h30:n<2^30) : ∀ (m i:Nat) (W:List Wv),i+m=n→W.length=n →
  run ⟨Ω,gG,H,nx⟩ (.loop swB) (swS O S c nx n i W)=some (.exit 0,⟨(swS O S c nx n n (sws o m i W)).env++[(30,.bool false)],(swS O S c nx n n (sws o m i W)).h⟩)
 | 0,i,W,hi,hW=>by
  obtain rfl:i=n:=by omega
  rw [am,zZ hO];rfl
 | m+1,i,W,hi,hW=>by
  rw [am,sws]
  rcases Nat.lt_or_ge i o.length with hb|hb
  ·have hO':O = .sl (bytP o) o.length 1 false:=by
    rcases hO with ⟨_,rfl⟩|e
    ·simp at hb
    ·exact e
   have hb':=List.getElem?_eq_getElem hb
   rw [yb hW (by omega) h30 hb' hO',aG,aD,hb',hW]
   exact mP hO h30 m (i+1) _ (by omega) (by rw [r6];exact hW)
  ·rw [yd (by omega) h30 hb hO,aG,aD,List.getElem?_eq_none hb]
   exact mP hO h30 m (i+1) _ (by omega) hW
end
section
variable {H:Heap} {nx:Nat} {S:PV} {W:List Wv}
abbrev stB:IRC:=ir3_0
abbrev stS (S:PV) (k:Nat) (nx:Nat) (W:List Wv) (i:Nat) (s a b:List Wv):St:=⟨[(9,.p S),(12,.int .i64 k),(13,.ref nx 0),(14,.ref (nx+1) 0),(15,.ref (nx+2) 0),(69,slF W),(70,.int .i64 W.length),(71,.int .i64 i)],
 ⟨[],[some (.cells [.p (slP s)]),some (.cells [.p (slP a)]),some (.cells [.p (slP b)])]⟩⟩
theorem Bc {i k:Nat} {v:Wv} (hv:W[i]?=some v) (h30:W.length<2^30) (hk:i<k) (s a b:List Wv) (hs : ∀ H nx,Ω 11 [.p (setP s),.p (v.pv false)] H nx=some (.p (setP (addW s v)),[],[])) (ha : ∀ H nx,Ω 11 [.p (setP a),.p (v.pv false)] H nx=some (.p (setP (addW a v)),[],[])):
  run ⟨Ω,gG,H,nx⟩ stB (stS S k nx W i s a b)=some (.normal,stS S k nx W (i+1) (addW s v) (addW a v) b):=by
 have hl:=aF W
 obtain ⟨h1,_⟩:=List.getElem?_eq_some_iff.1 hv
 have k1 : ¬(W.length:Int)≤i:=by omega
 have k2 : ¬(k:Int)≤i:=by omega
 have w1:IntKind.i64.wrap ((i:Int)+1)=(i:Int)+1:=wrap_i64 _ (by omega) (by omega)
 have le:i*4+4≤(rowL W).length:=by omega
 have mp:=bn W
 have g4:=bc hv []
 rw [List.append_nil] at g4
 clear hl
 simp only [Wv.pv,Wv.cells,Wv.lv,setP] at hs ha g4
 simp only [stS,slF]
 generalize rowP W=P at*
 generalize rowL W=C at*
 generalize slP (addW s v)=s' at*
 generalize slP (addW a v)=a' at*
 generalize slP s=s0 at*
 generalize slP a=a0 at*
 generalize slP b=b0 at*
 simp +contextual (maxSteps:=1000000) [stB,ir3_0,ssL,↓ssM,ae,ssU,Go.Sx.LV.undef,Go.undef,ssR,k1,k2,h1,w1,mp,g4,le,hs,ha]
theorem Bd {i k:Nat} {v:Wv} (hv:W[i]?=some v) (h30:W.length<2^30) (hk : ¬i<k) (s a b:List Wv) (hs : ∀ H nx,Ω 11 [.p (setP s),.p (v.pv false)] H nx=some (.p (setP (addW s v)),[],[])) (hb : ∀ H nx,Ω 11 [.p (setP b),.p (v.pv false)] H nx=some (.p (setP (addW b v)),[],[])):
  run ⟨Ω,gG,H,nx⟩ stB (stS S k nx W i s a b)=some (.normal,stS S k nx W (i+1) (addW s v) a (addW b v)):=by
 have hl:=aF W
 obtain ⟨h1,_⟩:=List.getElem?_eq_some_iff.1 hv
 have k1 : ¬(W.length:Int)≤i:=by omega
 have k2:(k:Int)≤i:=by omega
 have w1:IntKind.i64.wrap ((i:Int)+1)=(i:Int)+1:=wrap_i64 _ (by omega) (by omega)
 have le:i*4+4≤(rowL W).length:=by omega
 have mp:=bn W
 have g4:=bc hv []
 rw [List.append_nil] at g4
 clear hl
 simp only [Wv.pv,Wv.cells,Wv.lv,setP] at hs hb g4
 simp only [stS,slF]
 generalize rowP W=P at*
 generalize rowL W=C at*
 generalize slP (addW s v)=s' at*
 generalize slP (addW b v)=b' at*
 generalize slP s=s0 at*
 generalize slP a=a0 at*
 generalize slP b=b0 at*
 simp +contextual (maxSteps:=1000000) [stB,ir3_0,ssL,↓ssM,ae,ssU,Go.Sx.LV.undef,Go.undef,ssR,k1,k2,h1,w1,mp,g4,le,hs,hb]
theorem zY {k:Nat} (s a b:List Wv):run ⟨Ω,gG,H,nx⟩ stB (stS S k nx W W.length s a b)=some (.exit 2,⟨(stS S k nx W W.length s a b).env++[(72,.bool false)],(stS S k nx W W.length s a b).h⟩):=by
 simp only [stS,slF]
 generalize rowP W=P at*
 generalize slP s=s0 at*
 generalize slP a=a0 at*
 generalize slP b=b0 at*
 simp +contextual (maxSteps:=1000000) [stB,ir3_0,ssL,↓ssM,ae,ssU,Go.Sx.LV.undef,Go.undef,ssR]
theorem mN (h30:W.length<2^20) (hW : ∀ v∈W,v.Ok∧v.right=true) {k:Nat} : ∀ (m i:Nat) (s a b:List Wv),i+m=W.length→Ws s→Ws a→Ws b→s.length+m<2^29→a.length+m<2^29→b.length+m<2^29 →
  run ⟨Ω,gG,H,nx⟩ (.loop stB) (stS S k nx W i s a b)=some (.exit 2,⟨(stS S k nx W W.length (addsW s (W.drop i)) (addsW a ((W.take k).drop i)) (addsW b (W.drop (max i k)))).env++[(72,.bool false)],
   (stS S k nx W W.length (addsW s (W.drop i)) (addsW a ((W.take k).drop i)) (addsW b (W.drop (max i k)))).h⟩)
 | 0,i,s,a,b,hi,_,_,_,_,_,_=>by
  obtain rfl:i=W.length:=by omega
  rw [am,zY,List.drop_length,List.drop_of_length_le (by rw [List.length_take];omega),List.drop_of_length_le (by omega)];rfl
 | m+1,i,s,a,b,hi,hs,ha,hb,ls,la,lb=>by
  have h1:i<W.length:=by omega
  have hv:=List.getElem?_eq_getElem h1
  have hm:=hW _ (List.getElem_mem h1)
  have az:=oS s W[i] (by omega) hs hm.1 hm.2
  have ls':=dw s W[i]
  rw [am]
  by_cases hk:i<k
  ·have aa:=oS a W[i] (by omega) ha hm.1 hm.2
   have la':=dw a W[i]
   rw [Bc hv (by omega) hk s a b az aa,aG,aD,mN h30 hW m (i+1) _ _ _ (by omega) (hs.add hm.1 hm.2) (ha.add hm.1 hm.2) hb (by omega) (by omega) (by omega)]
   have e1:addsW s (W.drop i)=addsW (addW s W[i]) (W.drop (i+1)):=by rw [List.drop_eq_getElem_cons h1];rfl
   have e2:addsW a ((W.take k).drop i)=addsW (addW a W[i]) ((W.take k).drop (i+1)):=by
    rw [List.drop_eq_getElem_cons (show i<(W.take k).length by rw [List.length_take];omega),List.getElem_take];rfl
   rw [e1,e2,show max (i+1) k=k by omega,show max i k=k by omega]
  ·have ab:=oS b W[i] (by omega) hb hm.1 hm.2
   have lb':=dw b W[i]
   rw [Bd hv (by omega) hk s a b az ab,aG,aD,mN h30 hW m (i+1) _ _ _ (by omega) (hs.add hm.1 hm.2) ha (hb.add hm.1 hm.2) (by omega) (by omega) (by omega)]
   have e1:addsW s (W.drop i)=addsW (addW s W[i]) (W.drop (i+1)):=by rw [List.drop_eq_getElem_cons h1];rfl
   have e2:(W.take k).drop i=[]:=List.drop_of_length_le (by rw [List.length_take];omega)
   have e3:(W.take k).drop (i+1)=[]:=List.drop_of_length_le (by rw [List.length_take];omega)
   have e4:addsW b (W.drop (max i k))=addsW (addW b W[i]) (W.drop (max (i+1) k)):=by
    rw [show max i k=i by omega,show max (i+1) k=i+1 by omega,List.drop_eq_getElem_cons h1];rfl
   rw [e1,e2,e3,e4]
end
end Go.Proofs.YtoeblkipfdnnlaaGreatDoor
end

section
namespace Go.Proofs.YtoeblkipfdnnlaaGreatDoor
open Go Go.Sx
def wNum (p:List UInt8) (e:Int):Nat × List UInt8 × Int:=if e=0 then (match rnum 0 0 p with
 | none=>(0,p,6)
 | some (v,r)=>(v,r,0)) else (0,p,e)
def wText (most:Nat) (p:List UInt8) (e:Int):List UInt8 × List UInt8 × Int:=if e=0 then (if (wNum p 0).2.2=0 then (if most<(wNum p 0).1 then ([],p,9) else if (wNum p 0).2.1.length<(wNum p 0).1 then ([],p,6) else ((wNum p 0).2.1.take (wNum p 0).1,(wNum p 0).2.1.drop (wNum p 0).1,0)) else ([],p,(wNum p 0).2.2)) else ([],p,e)
end Go.Proofs.YtoeblkipfdnnlaaGreatDoor
end

section
namespace Go.Proofs.YtoeblkipfdnnlaaGreatDoor
open Go Go.Sx
section number
variable {c:Ctx}
end number
end Go.Proofs.YtoeblkipfdnnlaaGreatDoor
end

section
namespace Go.Proofs.YtoeblkipfdnnlaaGreatDoor
open Go Go.Sx
theorem pu {n x i:Nat} (hn:n<2^i) (hx:x*2^i<2^64):n ||| x*2^i%2^64=n+x*2^i:=by
 rw [Nat.mod_eq_of_lt hx,Nat.or_comm,Nat.mul_comm x,←Nat.two_pow_add_eq_or_of_lt hn,Nat.add_comm]
section
variable {P p:List UInt8}
end
end Go.Proofs.YtoeblkipfdnnlaaGreatDoor
end

section
namespace Go.Proofs.YtoeblkipfdnnlaaGreatDoor
open Go Go.Sx
def bitN (p:List UInt8) (i:Nat):Nat:=(p.getD (i/8) 0).toNat/2^(7-i%8)%2
def bvA (v:Nat):List Bool→Nat
 | []=>v
 | b::r=>bvA (2*v+b.toNat) r
def bitsB (p:List UInt8):List Bool:=(List.range (8*p.length)).map fun i=>bitN p i==1
abbrev brn (fl:Bool) (P:List UInt8) (n:Nat) (e:Int):Ob:=some (.cells [sB fl P,.int .i64 n,.int .i64 e])
abbrev br (fl:Bool) (P:List UInt8) (b:List Bool) (e:Int):Ob:=brn fl P (8*P.length-b.length) e
end Go.Proofs.YtoeblkipfdnnlaaGreatDoor
end

section
namespace Go.Proofs.YtoeblkipfdnnlaaGreatDoor
open Go Go.Sx
def boP (l:List Bool):List PV:=l.map fun b=>.s (.bool b)
abbrev bS (fl:Bool) (l:List Bool):LV:=.p (.sl (boP l) l.length 1 fl)
abbrev rr (fl:Bool) (l:List Bool) (e:Int):Ob:=some (.cells [bS fl l,.int .i64 e])
def wEnd (b:List Bool) (e:Int):Int:=if e=0 then (if 8≤b.length∨b.any id=true then 6 else 0) else e
end Go.Proofs.YtoeblkipfdnnlaaGreatDoor
end

section
namespace Go.Proofs.YtoeblkipfdnnlaaGreatDoor
open Go Go.Sx
def numF (w base:Nat) (r:List Bool):Option (Nat × List Bool):=if r.length<w then none else if 2^64≤base+bvA 0 (r.take w) then none else some (base+bvA 0 (r.take w),r.drop w)
def numR:Nat→Nat→Nat→List Bool→Option (Nat × List Bool)
 | _,_,_,[]=>none
 | _,w,base,false::r=>numF w base r
 | 0,_,_,true::_=>none
 | m+1,w,base,true::r=>numR m (w+1) (base+2^w) r
end Go.Proofs.YtoeblkipfdnnlaaGreatDoor
end

section
namespace Go.Proofs.YtoeblkipfdnnlaaGreatDoor
open Go Go.Sx
end Go.Proofs.YtoeblkipfdnnlaaGreatDoor
end

section
namespace Go.Proofs.YtoeblkipfdnnlaaGreatDoor
open Go Go.Sx
end Go.Proofs.YtoeblkipfdnnlaaGreatDoor
end

section
namespace Go.Proofs.YtoeblkipfdnnlaaGreatDoor
open Go Go.Sx
inductive Rd (α:Type) where
 | ok (x:α) (r:List Bool)
 | bad (c:Int)
def Rd.then {α β:Type} (x:Rd α) (f:α→List Bool→Rd β):Rd β:=match x with
 | .ok a r=>f a r
 | .bad c=>.bad c
def getN20 (b:List Bool):Rd Nat:=match numR 62 2 0 b with
 | none=>.bad 6
 | some (v,r)=>if v≤2^20 then .ok v r else .bad 4
def hdE:List Bool→Rd (Bool × Bool × Nat)
 | true::true::true::r=>(getN20 r).then fun v r=>if v=0 then .bad 6 else .ok (true,true,v) r
 | true::true::false::w::r=>(getN20 r).then fun v r=>if v=0 then .bad 6 else .ok (w,!w,v) r
 | true::true::_=>.bad 6
 | y::z::r=>.ok (y||z,y||!z,0) r
 | _=>.bad 6
def okE (le ri:Bool) (l r:Ev):Bool:=(decide (l = .leaf 0)==!le)&&(decide (r = .leaf 0)==!ri)&&decide (Min.min l.n r.n=0)&&!(l.isLeaf&&r.isLeaf&&decide (l.n=r.n))
def getE:Nat→List Bool→Rd Ev
 | _,[]=>.bad 6
 | _,true::r=>(getN20 r).then fun v r=>.ok (.leaf v) r
 | 0,false::_=>.bad 3
 | k+1,false::r=>(hdE r).then fun h r=>(if h.1=true then getE k r else .ok (.leaf 0) r).then fun x r=>(if h.2.1=true then getE k r else .ok (.leaf 0) r).then fun y r=>
   if okE h.1 h.2.1 x y=true then (if (Ev.node h.2.2 x y).max≤2^20 then .ok (.node h.2.2 x y) r else .bad 4) else .bad 6
end Go.Proofs.YtoeblkipfdnnlaaGreatDoor
end

section
namespace Go.Proofs.YtoeblkipfdnnlaaGreatDoor
open Go Go.Sx
section
variable (fl:Bool) (P:List UInt8) (x1:Ob) (d:Int) (base N:Nat) (hw:IntKind.i64.wrap (d+1)=d+1)
include hw
end
end Go.Proofs.YtoeblkipfdnnlaaGreatDoor
end

section
namespace Go.Proofs.YtoeblkipfdnnlaaGreatDoor
open Go Go.Sx
section
variable (fl:Bool) (P:List UInt8) (d:Int)
end
section
variable {fl:Bool} {P:List UInt8} {d:Int} {b:List Bool} (h28:P.length<2^28) (hb:b <:+ bitsB P)
include h28 hb
end
end Go.Proofs.YtoeblkipfdnnlaaGreatDoor
end

section
namespace Go.Proofs.YtoeblkipfdnnlaaGreatDoor
open Go Go.Sx
abbrev cI (i:Id):Ob:=some (.cells [.bool i.all,.p i.ptr])
section
variable (fl:Bool) (P:List UInt8) (x1:Ob) (d:Int) (N:Nat) (hw:IntKind.i64.wrap (d+1)=d+1)
include hw
end
end Go.Proofs.YtoeblkipfdnnlaaGreatDoor
end

section
namespace Go.Proofs.YtoeblkipfdnnlaaGreatDoor
open Go Go.Sx
def bits8 (b:UInt8):List Bool:=(List.range 8).map fun i=>b.toNat/2^(7-i)%2==1
theorem oT (b:UInt8) (p:List UInt8):bitsB (b::p)=bits8 b++bitsB p:=by
 unfold bitsB bits8
 rw [List.length_cons,show 8*(p.length+1)=8+8*p.length by omega,List.range_add,List.map_append,List.map_map]
 congr 1
 apply List.map_congr_left
 intro i hi
 simp only [Function.comp,bitN]
 rw [show (8+i)/8=i/8+1 by omega,show (8+i)%8=i%8 by omega,List.getD_cons_succ]
set_option maxRecDepth 100000 in
theorem tG : ∀ l:List Bool,l.length≤8→bits8 (UInt8.ofNat (valL 0 l*2^(8-l.length)))=l++List.replicate (8-l.length) false
 | [],_=>by decide
 | [a],_=>by revert a;decide
 | [a,b],_=>by revert a b;decide
 | [a,b,c],_=>by revert a b c;decide
 | [a,b,c,d],_=>by revert a b c d;decide
 | [a,b,c,d,e],_=>by revert a b c d e;decide
 | [a,b,c,d,e,f],_=>by revert a b c d e f;decide
 | [a,b,c,d,e,f,g],_=>by revert a b c d e f g;decide
 | [a,b,c,d,e,f,g,h],_=>by revert a b c d e f g h;decide
 | _::_::_::_::_::_::_::_::_::_,h=>by simp at h
theorem kP : ∀ f,packL f []=[]
 | 0=>rfl
 | f+1=>by rw [packL,if_pos rfl]
theorem ip : ∀ (f:Nat) (l:List Bool),l.length≤8*f→∃ k,k<8∧bitsB (packL f l)=l++List.replicate k false
 | 0,l,h=>by
  obtain rfl:l=[]:=List.eq_nil_of_length_eq_zero (by omega)
  exact ⟨0,by decide,rfl⟩
 | f+1,l,h=>by
  by_cases hl:l=[]
  ·subst hl
   exact ⟨0,by decide,by rw [kP];rfl⟩
  have hpos:0<l.length:=List.length_pos_iff.2 hl
  rw [packL,if_neg hl]
  have hb:=tG (l.take 8) (by rw [List.length_take];omega)
  rw [oT,hb]
  by_cases h8:l.length<8
  ·rw [List.drop_of_length_le (by omega),kP,List.take_of_length_le (by omega)]
   exact ⟨8-l.length,by omega,by rw [show bitsB []=[] from rfl,List.append_nil]⟩
  ·obtain ⟨k,hk,e⟩:=ip f (l.drop 8) (by rw [List.length_drop];omega)
   refine ⟨k,hk,?_⟩
   have e8:8-(l.take 8).length=0:=by rw [List.length_take];omega
   rw [e,e8,List.replicate_zero,List.append_nil,←List.append_assoc,List.take_append_drop]
theorem oU (l:List Bool) : ∃ k,k<8∧bitsB (pack l)=l++List.replicate k false:=by
 have h:=dN (l.length+1) [] l (by omega)
 have e:pack l=packL (l.length+1) l:=by simpa [pack] using h
 rw [e]
 exact ip _ _ (by omega)
theorem jr : ∀ (k x v:Nat),bvA v (bitsOf x k)=v*2^k+x%2^k
 | 0,x,v=>by simp [bitsOf,bvA,Nat.mod_one]
 | k+1,x,v=>by
  rw [bitsOf,bvA,jr k x,Nat.mod_pow_succ,Nat.pow_succ,Nat.testBit_eq_decide_div_mod_eq]
  have hb:x/2^k%2<2:=Nat.mod_lt _ (by decide)
  generalize x/2^k%2=b at*
  generalize x%2^k=r
  generalize 2^k=P
  rcases (by omega:b=0∨b=1) with rfl|rfl
  ·simp [Nat.mul_comm,Nat.mul_left_comm,Nat.mul_assoc]
  ·have e:(2*v+1)*P=v*(P*2)+P:=by rw [Nat.add_mul,Nat.one_mul,Nat.mul_comm 2 v,Nat.mul_assoc,Nat.mul_comm 2 P]
   simp;omega
theorem rb (w base v:Nat) (r:List Bool) (h:v<2^w) (h2:base+v<2^64):numF w base (bitsOf v w++r)=some (base+v,r):=by
 unfold numF
 have e1:(bitsOf v w++r).take w=bitsOf v w:=by rw [List.take_append_of_le_length (by rw [aq];exact Nat.le_refl _),List.take_of_length_le (by rw [aq];exact Nat.le_refl _)]
 have e2:(bitsOf v w++r).drop w=r:=by rw [List.drop_append_of_le_length (by rw [aq];exact Nat.le_refl _),List.drop_of_length_le (by rw [aq];exact Nat.le_refl _)];rfl
 rw [e1,e2,jr,Nat.zero_mul,Nat.zero_add,Nat.mod_eq_of_lt h,if_neg (by rw [List.length_append,aq];omega),if_neg (by omega)]
theorem re : ∀ (m w base v:Nat) (r:List Bool),m+w=64→base+v<2^64→2^w≤base+4→numR m w base (numBits v w m++r)=some (base+v,r)
 | 0,w,base,v,r,hm,hv,hb=>by
  rw [numBits,List.cons_append,numR]
  exact rb w base v r (by have hw:w=64:=(by omega);subst hw;omega) hv
 | m+1,w,base,v,r,hm,hv,hb=>by
  rw [numBits]
  have hp:0<2^w:=Nat.two_pow_pos w
  have hs:0<v >>> w↔2^w≤v:=by
   rw [Nat.shiftRight_eq_div_pow]
   exact Nat.div_pos_iff.trans ⟨fun h=>h.2,fun h=>⟨hp,h⟩⟩
  by_cases h:0<v >>> w
  ·have h':=hs.1 h
   rw [if_pos h,List.cons_append,numR,re m (w+1) (base+2^w) (v-2^w) r (by omega) (by omega) (by rw [Nat.pow_succ];omega)]
   congr 2
   omega
  ·have h':v<2^w:=by
    have:=mt hs.2 h
    omega
   rw [if_neg h,List.cons_append,numR]
   exact rb w base v r h' hv
theorem kF (v:Nat) (h:v≤2^20) (r:List Bool):getN20 (numBits v 2 62++r) = .ok v r:=by
 unfold getN20
 rw [re 62 2 0 v r rfl (by omega) (by decide),Nat.zero_add]
 exact if_pos h
theorem lU : ∀ (e:Ev) (k:Nat) (r:List Bool),e.norm→e.max≤2^20→e.depth≤k→getE k (evBits e++r) = .ok e r
 | .leaf n,k,r,hn,hm,hd=>by
  have e:evBits (.leaf n)++r=true::(numBits n 2 62++r):=by rw [evBits,List.append_assoc];rfl
  have e2:getE k (true::(numBits n 2 62++r))=(getN20 (numBits n 2 62++r)).then fun v r=>.ok (.leaf v) r:=by cases k<;>rfl
  rw [e,e2,kF n hm]
  rfl
 | .node n x y,0,r,hn,hm,hd=>by simp only [Ev.depth] at hd;omega
 | .node n x y,k+1,r,hn,hm,hd=>by
  have dx:x.depth≤k:=by simp only [Ev.depth] at hd;omega
  have dy:y.depth≤k:=by simp only [Ev.depth] at hd;omega
  have mx:x.max≤2^20:=by have:=Ev.max_l n x y;omega
  have my:y.max≤2^20:=by have:=Ev.max_r n x y;omega
  have mn:n≤2^20:=by simp only [Ev.max] at hm;omega
  obtain ⟨nx,ny,h0,hs⟩:=hn
  have ix:=fun r=>lU x k r nx mx dx
  have iy:=fun r=>lU y k r ny my dy
  have hxy : ¬(x = .leaf 0∧y = .leaf 0):=by
   rintro ⟨rfl,rfl⟩
   exact hs ⟨rfl,rfl,rfl⟩
  have hh : ∀ s,hdE (evKind n (decide (x = .leaf 0)) (decide (y = .leaf 0))++((if n=0 then [] else numBits n 2 62)++s)) = .ok (!decide (x = .leaf 0),!decide (y = .leaf 0),n) s:=by
   intro s
   unfold evKind
   by_cases hn0:n=0
   ·subst hn0
    by_cases h1:x = .leaf 0
    ·have h2 : ¬y = .leaf 0:=fun h=>hxy ⟨h1,h⟩
     simp [h1,h2,bitsOf,hdE]
    ·by_cases h2:y = .leaf 0<;>simp [h1,h2,bitsOf,hdE,Nat.testBit]
   ·have g:=kF n mn s
    by_cases h1:x = .leaf 0
    ·have h2 : ¬y = .leaf 0:=fun h=>hxy ⟨h1,h⟩
     simp [h1,h2,bitsOf,hdE,hn0,Nat.testBit,g,Rd.then]
    ·by_cases h2:y = .leaf 0<;>simp [h1,h2,bitsOf,hdE,hn0,Nat.testBit,g,Rd.then]
  have eb:evBits (.node n x y)++r=false::(evKind n (decide (x = .leaf 0)) (decide (y = .leaf 0))++((if n=0 then [] else numBits n 2 62)++((if x = .leaf 0 then [] else evBits x)++((if y = .leaf 0 then [] else evBits y)++r)))):=by
   rw [evBits]
   simp only [List.append_assoc]
   rfl
  have ok:okE (!decide (x = .leaf 0)) (!decide (y = .leaf 0)) x y=true:=by
   unfold okE
   simp only [Bool.and_eq_true,Bool.not_not,beq_self_eq_true,true_and,Bool.not_eq_true',decide_eq_true_eq]
   refine ⟨by omega,?_⟩
   simpa using fun h1 h2 h3=>hs ⟨h1,h2,h3⟩
  rw [eb,getE,hh]
  simp only [Rd.then]
  by_cases h1:x = .leaf 0
  ·have h2 : ¬y = .leaf 0:=fun h=>hxy ⟨h1,h⟩
   simp only [h1,h2,decide_true,decide_false,Bool.not_true,Bool.not_false,Bool.false_eq_true,if_false,if_true,List.nil_append] at ok ⊢
   rw [iy]
   simp only [ok,if_true]
   rw [if_pos (by rw [←h1];exact hm)]
  ·simp only [h1,decide_false,Bool.not_false,if_true,if_false] at ok ⊢
   rw [ix]
   simp only []
   by_cases h2:y = .leaf 0
   ·simp only [h2,decide_true,Bool.not_true,Bool.false_eq_true,if_false,if_true,List.nil_append] at ok ⊢
    simp only [ok,if_true]
    rw [if_pos (by rw [←h2];exact hm)]
   ·simp only [h2,decide_false,Bool.not_false,if_true,if_false] at ok ⊢
    rw [iy]
    simp only [ok,if_true]
    rw [if_pos hm]
theorem Ad (k:Nat) (h:k<8):wEnd (List.replicate k false) 0=0:=by
 unfold wEnd
 rw [if_pos rfl,if_neg]
 simp
 omega
end Go.Proofs.YtoeblkipfdnnlaaGreatDoor
end

section
namespace Go.Proofs.YtoeblkipfdnnlaaGreatDoor
open Go Go.Sx
section
variable {fl:Bool} {P:List UInt8} (h28:P.length<2^28) {b:List Bool} (hb:b <:+ bitsB P)
include h28 hb
end
def rdE (p:List UInt8):Ev × Int:=match getE 16 (bitsB p) with
 | .ok x r=>if wEnd r 0=0 then (x,0) else (.leaf 0,wEnd r 0)
 | .bad c=>(.leaf 0,c)
end Go.Proofs.YtoeblkipfdnnlaaGreatDoor
end

section
namespace Go.Proofs.YtoeblkipfdnnlaaGreatDoor
open Go Go.Sx
theorem vA (e:Ev) (hn:e.norm) (hm:e.max≤2^20) (hd:e.depth≤16):rdE (pack (evBits e))=(e,0):=by
 obtain ⟨k,hk,h⟩:=oU (evBits e)
 unfold rdE
 rw [h,lU e 16 _ hn hm hd]
 simp only [Ad k hk,if_true]
theorem mT (n:Nat) (h:n<2^64) (r:List UInt8):wNum (vnum n++r) 0=(n,r,0):=by
 unfold wNum
 rw [if_pos rfl,xO n h]
theorem oQ (most:Nat) (s r:List UInt8) (h:s.length≤most) (hm:most<2^31):wText most (txt s++r) 0=(s,r,0):=by
 unfold wText txt
 rw [if_pos rfl,List.append_assoc,mT _ (by omega)]
 simp only [if_true]
 rw [if_neg (by omega),if_neg (by rw [List.length_append];omega),List.take_append_of_le_length (Nat.le_refl _),List.take_length,List.drop_append_of_le_length (Nat.le_refl _),List.drop_length]
 rfl
section
variable (fl:Bool) (r:List UInt8)
end
end Go.Proofs.YtoeblkipfdnnlaaGreatDoor
end

section
namespace Go.Proofs.YtoeblkipfdnnlaaGreatDoor
open Go Go.Sx
structure Wp (v:Wv):Prop where
 n:v.ev.norm
 m:v.ev.max≤2^20
 d:v.ev.depth≤16
 b:(evBits v.ev).length≤2^14
 s : ∀ s,v.nm=some s→Nam s
 g:v.gone=true→v.nm=none
theorem Wp.ok {v:Wv} (h:Wp v):v.Ok:=⟨h.n,by have:=h.m;omega,by have:=h.b;omega,fun s e=>by have:=(h.s s e).l;omega⟩
theorem Wp.right {v:Wv} (h:Wp v):v.right=true:=by
 unfold Wv.right
 cases hg:v.gone with
 | false=>rfl
 | true=>simp [h.g hg]
theorem r9 {most:Nat} {s s' r r':List UInt8} (hm:most<2^31) (h:s.length≤most) (h':s'.length≤most) (e:txt s++r=txt s'++r'):s=s'∧r=r':=by
 have a:=oQ most s r h hm
 have b:=oQ most s' r' h' hm
 rw [e,b] at a
 simp only [Prod.mk.injEq] at a
 exact ⟨a.1.symm,a.2.1.symm⟩
theorem tN {a b:Option (List UInt8)} (ha : ∀ s,a=some s→s.length≤40) (hb : ∀ s,b=some s→s.length≤40) (h:crdW a=crdW b):a=b:=by
 have num : ∀ s,crdW none≠crdW (some s):=fun s e=>by
  have h1:=mT 0 (by decide) []
  have h2:=mT 1 (by decide) ([1]++txt []++txt s)
  rw [List.append_nil] at h1
  simp only [crdW,List.append_assoc] at e
  rw [e] at h1
  simp only [List.append_assoc] at h2
  rw [h2] at h1
  simp at h1
 cases a with
 | none=>
  cases b with
  | none=>rfl
  | some s=>exact absurd h (num s)
 | some s=>
  cases b with
  | none=>exact absurd h.symm (num s)
  | some s'=>
   simp only [crdW] at h
   have h2:=List.append_cancel_left h
   have:=r9 (most:=40) (r:=[]) (r':=[]) (by decide) (ha s rfl) (hb s' rfl) (by simpa using h2)
   rw [this.1]
theorem Af {v w:Wv} (hv:Wp v) (hw:Wp w) (h:v.bytes=w.bytes):v=w:=by
 obtain ⟨ev,nm,gone⟩:=v
 obtain ⟨ev',nm',gone'⟩:=w
 unfold Wv.bytes at h
 simp only at h
 have p1:=eJ (evBits ev)
 have p2:=eJ (evBits ev')
 have b1:=hv.b
 have b2:=hw.b
 simp only at b1 b2
 obtain ⟨e1,e2⟩:=r9 (most:=2^15) (by decide) (by omega) (by omega) h
 have r1:=vA ev hv.n hv.m hv.d
 have r2:=vA ev' hw.n hw.m hw.d
 rw [e1,r2] at r1
 obtain rfl:ev'=ev:=(Prod.mk.inj r1).1
 have hg:gone=gone':=by
  cases gone<;>cases gone'<;>first|rfl|(simp at e2)
 subst hg
 cases gone with
 | true=>
  have a:=hv.g rfl
  have b:=hw.g rfl
  simp only at a b
  rw [a,b]
 | false=>
  simp only [Bool.false_eq_true,if_false,List.cons.injEq,true_and] at e2
  have:=tN (fun s e=>(hv.s s e).l) (fun s e=>(hw.s s e).l) e2
  simp only at this
  rw [this]
theorem yf (v:Wv):v.und v=false:=by simp [Wv.und]
theorem tm {u v w:Wv} (hu:u.ev.norm) (hv:v.ev.norm) (hw:w.ev.norm) (h1:u.und v=true) (h2:v.und w=true):u.und w=true:=by
 simp only [Wv.und,Bool.and_eq_true,Bool.not_eq_true'] at h1 h2 ⊢
 refine ⟨Ev.leqb_trans hv hw h1.1 h2.1,?_⟩
 cases q:Ev.leqb w.ev u.ev with
 | false=>rfl
 | true=>
  have:=Ev.leqb_trans hu hv q h1.1
  rw [this] at h2
  exact absurd h2.2 (by decide)
theorem mU:Ord Wv.bytes Wv.und Wp where
 irr v _:=yf v
 trans u v w hu hv hw h1 h2:=tm hu.n hv.n hw.n h1 h2
 inj u v hu hv h:=Af hu hv h
theorem eA : ∀ (e:Ev),(evBits e).length+140≤280*2^e.depth
 | .leaf n=>by
  have:=iz 62 n 2
  simp [evBits,aq,Ev.depth];omega
 | .node n l r=>by
  have h1:=eA l
  have h2:=eA r
  have h3:=iz 62 n 2
  have h4:=(o9 n (decide (l = .leaf 0)) (decide (r = .leaf 0))).2
  have hd:(Ev.node n l r).depth=1+Max.max l.depth r.depth:=rfl
  have p1:2^l.depth≤2^Max.max l.depth r.depth:=Nat.pow_le_pow_right (by omega) (Nat.le_max_left _ _)
  have p2:2^r.depth≤2^Max.max l.depth r.depth:=Nat.pow_le_pow_right (by omega) (Nat.le_max_right _ _)
  have p3:2^(1+Max.max l.depth r.depth)=2*2^Max.max l.depth r.depth:=by rw [Nat.add_comm,Nat.pow_succ,Nat.mul_comm]
  rw [hd,p3]
  unfold evBits
  simp only [List.length_append,aq]
  have q1:(if n=0 then [] else numBits n 2 62).length≤127:=by
   by_cases q:n=0
   ·rw [if_pos q];exact Nat.zero_le _
   ·rw [if_neg q];omega
  have q2:(if l = .leaf 0 then [] else evBits l).length≤(evBits l).length:=by split<;>simp
  have q3:(if r = .leaf 0 then [] else evBits r).length≤(evBits r).length:=by split<;>simp
  omega
theorem Ar (x:Option (List UInt8)) (s:List UInt8) (g:Bool):Wp (dv x s g):=by
 obtain ⟨a,b,c⟩:=fh 4 (x.map (·.take 40))
 have h1:=eA (mkEv 4 (x.map (·.take 40))).1
 have h2:2^(mkEv 4 (x.map (·.take 40))).1.depth≤2^4:=Nat.pow_le_pow_right (by omega) b
 refine ⟨a,Nat.le_trans c (by decide),Nat.le_trans b (by decide),?_,fun s' e => ?_,fun e => ?_⟩
 ·show (evBits (mkEv 4 (x.map (·.take 40))).1).length≤2^14
  omega
 ·simp only [dv,wvOf] at e
  split at e
  ·rename_i h
   obtain rfl:=Option.some.inj e
   exact uK h.2
  ·cases e
 ·simp only [dv,wvOf] at e ⊢
  rw [if_neg (by rw [e];simp)]
theorem A1 {D:List Dw} {v:Wv} (h:v∈vsW D):Wp v:=by
 obtain ⟨d,_,rfl⟩:=List.mem_map.1 h
 exact Ar _ _ _
theorem Ab (D:List Dw):(vsW D).length≤14:=by
 rw [List.length_map,List.length_take];omega
end Go.Proofs.YtoeblkipfdnnlaaGreatDoor
end

section
namespace Go.Proofs.YtoeblkipfdnnlaaGreatDoor
open Go Go.Sx
set_option maxHeartbeats 4000000
theorem Is.len {L M:List Wv} (h:L.map Wv.bytes=M.map Wv.bytes):L.length=M.length:=by
 have:=congrArg List.length h
 simpa using this
section
variable {V W:List Wv}
theorem sf (hV : ∀ v∈V,Wp v):Is Wv.bytes Wv.und (setsW V V []) V:=xW mU V hV
theorem iT (hW : ∀ v∈W,Wp v):Is Wv.bytes Wv.und (addsW [] W) W:=by
 have:=Is.adds mU W (L:=[]) (l:=[]) Is.nil (by simp) hW
 simpa using this
theorem vR (hV : ∀ v∈V,Wp v) (hm : ∀ v,v∈W↔v∈V):(addsW [] W).map Wv.bytes=(setsW V V []).map Wv.bytes:=
 Is.same (iT fun v hv=>hV v ((hm v).1 hv)) (sf hV) (ld hm)
theorem fS {A B:List Wv} (hA : ∀ v∈A,Wp v) (hB : ∀ v∈B,Wp v) (hW : ∀ v∈W,Wp v) (hm : ∀ v,v∈A++B↔v∈W):(addsW (addsW [] A) (addsW [] B)).map Wv.bytes=(addsW [] W).map Wv.bytes:=by
 have b:=iT hB
 have hb : ∀ v∈addsW [] B,Wp v:=fun v hv=>hB v ((b.mem v).1 hv).1
 have a:=Is.adds mU (addsW [] B) (iT hA) hA hb
 refine Is.same a (iT hW) fun v => ?_
 rw [vY mU hA hB b.mem v]
 exact ld hm v
theorem vS (hV : ∀ v∈V,Wp v) {v:Wv} (h:v∈setsW V V []):v∈V:=(((sf hV).mem v).1 h).1
theorem we (L:List Wv) (w:Wv):addW L w≠[]:=by
 unfold addW addK
 split
 ·rename_i h;rintro rfl;simp at h
 ·rw [iZ];simp
theorem mV : ∀ (W:List Wv) {L:List Wv},L≠[]∨W≠[]→addsW L W≠[]
 | [],L,h=>by simpa using h
 | w::W,L,h=>mV W (.inl (we L w))
end
theorem mJ {x O:PV} {o:List UInt8} (hx:dsP [] x) (hO:obB o O) (cut:Nat) (hc:cut<256):Ω 3 [.p x,.p O,.int .u8 cut] noH 0=some (.bool true,[],[]):=by
 have aw:=tC
 have al:=fun H nx=>tt (H:=H) (nx:=nx) hx
 have rs:=fun H nx=>yG (H:=H) (nx:=nx) (L:=[]) .nil (by decide) (by simp)
 have e0:setsW [] [] []=[]:=rfl
 rw [e0,rZ] at rs
 have l1:run ⟨Ω,gG,noH,0⟩ (.loop swB) ⟨[(1,.p O),(2,.int .u8 cut),(7,.p (.s (.slice none 0 0))),(9,.p (.s (.slice none 0 0))),(28,.int .i64 0),(29,.int .i64 0)],⟨[],[]⟩⟩=
   some (.exit 0,⟨[(1,.p O),(2,.int .u8 cut),(7,.p (.s (.slice none 0 0))),(9,.p (.s (.slice none 0 0))),(28,.int .i64 0),(29,.int .i64 0),(30,.bool false)],⟨[],[]⟩⟩):=by
  rw [am]
  simp +contextual (maxSteps:=1000000) [swB,ir3_1,ssL,↓ssM,ae,ssU,Go.Sx.LV.undef,Go.undef,ssR]
 have l2:run ⟨Ω,gG,noH,0⟩ (.loop stB) ⟨[(9,.p (.s (.slice none 0 0))),(12,.int .i64 0),(13,.ref 0 0),(14,.ref 1 0),(15,.ref 2 0),(70,.int .i64 0),(71,.int .i64 0),(69,.p (.s (.slice none 0 0)))],⟨[],[some (.cells [.p (.s (.slice none 0 0))]),some (.cells [.p (.s (.slice none 0 0))]),some (.cells [.p (.s (.slice none 0 0))])]⟩⟩=
   some (.exit 2,⟨[(9,.p (.s (.slice none 0 0))),(12,.int .i64 0),(13,.ref 0 0),(14,.ref 1 0),(15,.ref 2 0),(69,.p (.s (.slice none 0 0))),(70,.int .i64 0),(71,.int .i64 0),(72,.bool false)],⟨[],[some (.cells [.p (.s (.slice none 0 0))]),some (.cells [.p (.s (.slice none 0 0))]),some (.cells [.p (.s (.slice none 0 0))])]⟩⟩):=by
  rw [am]
  simp +contextual (maxSteps:=1000000) [stB,ir3_0,ssL,↓ssM,ae,ssU,Go.Sx.LV.undef,Go.undef,ssR]
 have ls:=nZ
 have ln:=len_ []
 have lk:=fun H nx=>yy (H:=H) (nx:=nx) (L:=[]) (M:=[]) (fl:=false) .nil (by decide) (by simp) (by simp) (.inl ⟨rfl,rfl⟩)
 have mg:=fun H nx=>kJ (H:=H) (nx:=nx) []
 have ak:=ll [] [] (by decide) (by simp) (by simp)
 simp only [setP,bP,List.length_nil,Int.natCast_zero,List.map_nil,decide_true] at ls ln lk mg ak
 have r1:binI .rem .i64 (cut:Int) 1=some (.int .i64 0):=by
  have:=i6 .i64 cut 1 (by decide)
  rwa [Nat.mod_one] at this
 have w1:IntKind.i64.wrap (cut:Int)=cut:=wrap_i64 _ (by omega) (by omega)
 have w2:IntKind.i64.wrap 1=1:=by decide
 simp only [swB,stB] at l1 l2
 refine af (ir:=ir3) (by kernel_rfl) ?_;simp +contextual (maxSteps:=1000000) [ir3,ssL,↓ssM,ae,ssU,Go.Sx.LV.undef,Go.undef,ssR,aw,al,rs,l1,l2,ls,ln,lk,mg,ak,r1,w1,w2]
section
variable {H:Heap} {nx:Nat} {S:PV} {W:List Wv}
theorem AX (k i:Nat) (s a b:List Wv):run ⟨Ω,gG,H,nx⟩ (.loop stB) ⟨[(9,.p S),(12,.int .i64 k),(13,.ref nx 0),(14,.ref (nx+1) 0),(15,.ref (nx+2) 0),(70,.int .i64 W.length),(71,.int .i64 i),(69,slF W)],(stS S k nx W i s a b).h⟩=run ⟨Ω,gG,H,nx⟩ (.loop stB) (stS S k nx W i s a b):=by
 have hB:stB = .seq (hdC stB) (tlC stB):=rfl
 have h1:run ⟨Ω,gG,H,nx⟩ (hdC stB) ⟨[(9,.p S),(12,.int .i64 k),(13,.ref nx 0),(14,.ref (nx+1) 0),(15,.ref (nx+2) 0),(70,.int .i64 W.length),(71,.int .i64 i),(69,slF W)],(stS S k nx W i s a b).h⟩=some (.normal,stS S k nx W i s a b):=by
  simp only [stS,slF]
  generalize rowP W=P at*
  generalize slP s=s0 at*
  generalize slP a=a0 at*
  generalize slP b=b0 at*
  simp +contextual (maxSteps:=1000000) [stB,ir3_0,hdC,ssL,↓ssM,ae,ssU,Go.Sx.LV.undef,Go.undef,ssR]
 have h2:run ⟨Ω,gG,H,nx⟩ (hdC stB) (stS S k nx W i s a b)=some (.normal,stS S k nx W i s a b):=by
  simp only [stS,slF]
  generalize rowP W=P at*
  generalize slP s=s0 at*
  generalize slP a=a0 at*
  generalize slP b=b0 at*
  simp +contextual (maxSteps:=1000000) [stB,ir3_0,hdC,ssL,↓ssM,ae,ssU,Go.Sx.LV.undef,Go.undef,ssR]
 rw [dm hB h1,dm hB h2]
end
theorem tf {D:List Dw} {x O:PV} {o:List UInt8} (hx:dsP D x) (h0:D≠[]) (hD:DwOk D) (hO:obB o O) (cut:Nat) (hc:cut<256):Ω 3 [.p x,.p O,.int .u8 cut] noH 0=some (.bool true,[],[]):=by
 have aw:=tC
 have al:=fun H nx=>A3 (H:=H) (nx:=nx) hx h0 hD
 have hV : ∀ v∈vsW D,Wp v:=fun v h=>A1 h
 have hV0:vsW D≠[]:=by
  cases D with
  | nil=>exact absurd rfl h0
  | cons d D=>simp
 have hVl:=Ab D
 have iV:=aZ (vsW D)
 have rV:=fun a s=>a8 a s (vsW D)
 have aP:=dA (vsW D)
 have iR:=dX (vsW D)
 have aR:=jn (vsW D)
 have lV:=aF (vsW D)
 have lR:=bH (vsW D)
 generalize hVe:vsW D=V at*
 have rs:=fun H nx=>yG (H:=H) (nx:=nx) (.sl V false) (by omega) (fun w hw=>⟨(hV w hw).ok,(hV w hw).right⟩)
 have sw:=fun S=>mP (H:=noH) (nx:=0) (S:=S) (c:=cut) hO (n:=V.length) (by omega) V.length 0 V (by omega) rfl
 have hWm : ∀ v,v∈sws o V.length 0 V↔v∈V:=fun v=>q7 o v _ _ _
 have hWl:=r7 o V.length 0 V
 have iW:=aZ (sws o V.length 0 V)
 have aW:=dA (sws o V.length 0 V)
 have lW:=aF (sws o V.length 0 V)
 generalize sws o V.length 0 V=W at*
 have hW : ∀ v∈W,Wp v:=fun v hv=>hV v ((hWm v).1 hv)
 have hW0:W≠[]:=by
  intro e;rw [e] at hWl;exact hV0 (List.eq_nil_of_length_eq_zero hWl.symm)
 have hk:cut%(V.length+1)≤V.length:=by have:=Nat.mod_lt cut (show 0<V.length+1 by omega);omega
 have r1:binI .rem .i64 (cut:Int) ((V.length:Int)+1)=some (.int .i64 (cut%(V.length+1):Nat)):=by
  have:=i6 .i64 cut (V.length+1) (by omega)
  simpa using this
 have w1:IntKind.i64.wrap (cut:Int)=cut:=wrap_i64 _ (by omega) (by omega)
 have w2:IntKind.i64.wrap ((V.length:Int)+1)=(V.length:Int)+1:=wrap_i64 _ (by omega) (by omega)
 generalize cut%(V.length+1)=k at*
 have st:=fun S=>(AX (H:=noH) (nx:=0) (S:=S) (W:=W) k 0 [] [] []).trans (mN (H:=noH) (nx:=0) (S:=S) (W:=W) (by omega) (fun v hv=>⟨(hW v hv).ok,(hW v hv).right⟩) (k:=k) W.length 0 [] [] [] (by omega) Ws.nil Ws.nil Ws.nil (by simp;omega) (by simp;omega) (by simp;omega))
 simp only [List.drop_zero,Nat.zero_max] at st
 have okW : ∀ v∈W,v.Ok∧v.right=true:=fun v hv=>⟨(hW v hv).ok,(hW v hv).right⟩
 have okA : ∀ v∈W.take k,v.Ok∧v.right=true:=fun v hv=>okW v (List.mem_of_mem_take hv)
 have okB : ∀ v∈W.drop k,v.Ok∧v.right=true:=fun v hv=>okW v (List.mem_of_mem_drop hv)
 have wsS:Ws (addsW [] W):=Ws.adds okW Ws.nil
 have wsA:Ws (addsW [] (W.take k)):=Ws.adds okA Ws.nil
 have wsB:Ws (addsW [] (W.drop k)):=Ws.adds okB Ws.nil
 have lS:=cO W []
 have lA:=cO (W.take k) []
 have lB:=cO (W.drop k) []
 simp only [List.length_nil,List.length_take,List.length_drop] at lS lA lB
 have both : ∀ {L:List Wv},Ws L→∀ v∈L,v.Ok∧v.right=true:=fun h v hv=>⟨h.o v hv,h.r v hv⟩
 have mab:=fun H nx=>pi (H:=H) (nx:=nx) (M:=addsW [] (W.drop k)) (addsW [] (W.take k)) (by omega) (both wsB) wsA (by omega)
 have mba:=fun H nx=>pi (H:=H) (nx:=nx) (M:=addsW [] (W.take k)) (addsW [] (W.drop k)) (by omega) (both wsA) wsB (by omega)
 have mss:=fun H nx=>pi (H:=H) (nx:=nx) (M:=addsW [] W) (addsW [] W) (by omega) (both wsS) wsS (by omega)
 have wab:=Ws.adds (both wsB) wsA
 have wba:=Ws.adds (both wsA) wsB
 have wss:=Ws.adds (both wsS) wsS
 have lab:=cO (addsW [] (W.drop k)) (addsW [] (W.take k))
 have lba:=cO (addsW [] (W.take k)) (addsW [] (W.drop k))
 have lss:=cO (addsW [] W) (addsW [] W)
 have kab:=ll (addsW (addsW [] (W.take k)) (addsW [] (W.drop k))) (addsW [] W) (by omega) wab.o wsS.o
 have kba:=ll (addsW (addsW [] (W.drop k)) (addsW [] (W.take k))) (addsW [] W) (by omega) wba.o wsS.o
 have kss:=ll (addsW (addsW [] W) (addsW [] W)) (addsW [] W) (by omega) wss.o wsS.o
 have wpA : ∀ v∈W.take k,Wp v:=fun v hv=>hW v (List.mem_of_mem_take hv)
 have wpB : ∀ v∈W.drop k,Wp v:=fun v hv=>hW v (List.mem_of_mem_drop hv)
 rw [decide_eq_true (fS wpA wpB hW (fun v=>by rw [List.take_append_drop]))] at kab
 rw [decide_eq_true (fS wpB wpA hW (fun v=>by rw [List.mem_append,or_comm,←List.mem_append,List.take_append_drop]))] at kba
 rw [decide_eq_true (fS hW hW hW (fun v=>by simp))] at kss
 have wo : ∀ v∈setsW V V [],v.Ok:=fun v hv=>(hV v (vS hV hv)).ok
 have eqw:=vR hV hWm
 have hsl:(addsW [] W).length=(setsW V V []).length:=Is.len eqw
 have s0:addsW [] W≠[]:=mV W (.inr hW0)
 have w0:setsW V V []≠[]:=by intro e;rw [e] at hsl;exact s0 (List.eq_nil_of_length_eq_zero hsl)
 have li:=yz (addsW [] W) s0 (by omega)
 have ln:=len_ (addsW [] W)
 have lk:=fun (H:Heap) nx id cp ex (h1:H id=some (.cells (rowL (addsW [] W)))) (h2:id<nx)=>yy (H:=H) (nx:=nx) (L:=addsW [] W) (M:=setsW V V []) (fl:=false) (.arr _ [] id cp ex (by rw [List.append_nil];exact h1) h2) (by omega) wsS.o wo (.inr rfl)
 rw [decide_eq_true eqw] at lk
 have iS:=aZ (addsW [] W)
 rw [mK w0] at rs
 rw [←hsl] at rs lk
 rw [hWl] at st
 have tR:(rrL V).take (V.length*3)=rrL V:=List.take_of_length_le (by omega)
 have leR:V.length*3≤(rrL V).length:=by omega
 have tW:(rowL W).take (V.length*4)=rowL W:=List.take_of_length_le (by omega)
 have leW:V.length*4≤(rowL W).length:=by omega
 simp only [swB,swS,Int.natCast_zero,List.cons_append,List.nil_append] at sw
 simp only [stB,stS,slF,hWl,bP,Int.natCast_zero,Nat.zero_add,List.cons_append,List.nil_append] at st
 simp only [setP] at mab mba mss kab kba kss li ln
 clear hx h0 hD hO hV hV0 hVl lV lR hWm lW hW hW0 hk okW okA okB wsS wsA wsB lS lA lB both wab wba wss lab lba lss wpA wpB wo eqw hsl s0 w0 hVe hWl
 generalize slP (addsW (addsW [] (W.take k)) (addsW [] (W.drop k)))=Sab at*
 generalize slP (addsW (addsW [] (W.drop k)) (addsW [] (W.take k)))=Sba at*
 generalize slP (addsW (addsW [] W) (addsW [] W))=Sss at*
 generalize slP (addsW [] (W.take k))=Sa at*
 generalize slP (addsW [] (W.drop k))=Sb at*
 generalize slP (addsW [] W)=Ss at*
 generalize rowL (addsW [] W)=RS at*
 generalize (addsW [] W).length=m at*
 generalize rrP (setsW V V [])=RW at*
 generalize rowP W=PW at*
 generalize rowL W=LW at*
 generalize rowP V=PV' at*
 generalize rowL V=LV' at*
 generalize rrP V=PR at*
 generalize rrL V=LR at*
 generalize V.length=n at*
 refine af (ir:=ir3) (by kernel_rfl) ?_;simp +contextual (maxSteps:=1000000) [ir3,ssL,↓ssM,ae,ssU,Go.Sx.LV.undef,Go.undef,ssR,aw,al,rs,sw,st,li,ln,lk,mab,mba,mss,kab,kba,kss,r1,w1,w2,iV,rV,aP,iR,aR,iW,aW,iS,tR,leR,tW,leW]
end Go.Proofs.YtoeblkipfdnnlaaGreatDoor
end

section
namespace Go.Proofs.YtoeblkipfdnnlaaGreatDoor
open Go Go.Sx Go.ChangeShapes Go.WideShapes
end Go.Proofs.YtoeblkipfdnnlaaGreatDoor
end

section
namespace Go.Proofs.YtoeblkipfdnnlaaGreatDoor
open Go Go.Sx Go.ChangeShapes Go.WideShapes
inductive SK where
 | int (k:IntKind)
 | bool
 | str
def SK.of (P:Program) (t:TypeId):Option SK:=match P.underlying t with
 | some (.int k)=>some (.int k)
 | some .bool=>some .bool
 | some .string=>some .str
 | _=>none
def SK.fits:SK→Value→Prop
 | .int k,.int k' n=>k'=k∧(Lit.int k n).wf=true
 | .bool,.bool _=>True
 | .str,.string s=>s.size≤maxLen
 | _,_=>False
inductive Fits:List SK→List Value→Prop
 | nil:Fits [] []
 | cons {k:SK} {v:Value} {ks:List SK} {vs:List Value} : k.fits v→Fits ks vs→Fits (k::ks) (v::vs)
section
variable {H:Type} {enc:TypeId × Value→H} {P:Program} {W:World} {base:Nat} {spare:Nat→Bool} {held:Bool}
theorem x9 {t:TypeId} {s:SK} {n:Nat} {v:Value} {x:DataW H × List MemPlace} (hs:SK.of P t=some s) (h:DataW.trod enc P W base spare held n t [v]=some x):s.fits v:=by
 unfold SK.of at hs
 cases n with
 | zero=>simp [DataW.trod] at h
 | succ n=>
  unfold DataW.trod at h
  split at hs
  ·rename_i k hk
   obtain rfl:=Option.some.inj hs
   rw [hk] at h
   cases v<;>simp at h
   exact ⟨h.1.1,h.1.2⟩
  ·rename_i hk
   obtain rfl:=Option.some.inj hs
   rw [hk] at h
   cases v<;>simp at h
   trivial
  ·rename_i hk
   obtain rfl:=Option.some.inj hs
   rw [hk] at h
   cases v<;>simp at h
   exact h.1
  ·cases hs
theorem od {s:SK} {v:Value} (h:s.fits v):v.oneCell'=true:=by
 cases s<;>cases v<;>simp [SK.fits] at h<;>rfl
theorem Fits.len {ks:List SK} {vs:List Value} (h:Fits ks vs):vs.length=ks.length:=by
 induction h with
 | nil=>rfl
 | cons _ _ ih=>simp [ih]
theorem Fits.one {ks:List SK} {vs:List Value} (h:Fits ks vs) : ∀ v∈vs,v.oneCell'=true:=by
 induction h with
 | nil=>simp
 | cons hk _ ih=>
  intro v hv
  rcases List.mem_cons.1 hv with rfl|hv
  ·exact od hk
  ·exact ih v hv
end
end Go.Proofs.YtoeblkipfdnnlaaGreatDoor
end

section
namespace Go.Proofs.YtoeblkipfdnnlaaGreatDoor
open Go Go.Sx Go.ChangeShapes Go.WideShapes
inductive CT where
 | k (s:SK)
 | sl (ks:List CT)
def flatFs (g:TypeId→Option (List CT)) (P:Program):Nat→List Field→Option (List CT)
 | _,[]=>some []
 | i,f::r=>match g f.type with
  | some a=>if f.offset=i∧P.cellsOf f.type=a.length then (match flatFs g P (i+a.length) r with
   | some b=>some (a++b)
   | none=>none) else none
  | none=>none
def flatT (P:Program):Nat→TypeId→Option (List CT)
 | 0,_=>none
 | m+1,t=>match P.underlying t with
  | some (.slice e)=>match flatT P m e with
   | some ks=>if P.cellsOf e=ks.length∧0<ks.length then some [.sl ks] else none
   | none=>none
  | some (.struct fs)=>match flatFs (flatT P m) P 0 fs.toList with
   | some ks=>if P.cellsOf t=ks.length then some ks else none
   | none=>none
  | _=>match SK.of P t with
   | some s=>some [.k s]
   | none=>none
inductive RV (W:World):CT→Value→PV→Prop
 | k {s:SK} {v:Value} : s.fits v→RV W (.k s) v (.s v)
 | nil (ks:List CT):RV W (.sl ks) (.slice none 0 0) (.s (.slice none 0 0))
 | sl0 (ks:List CT) (a:Addr) (cap:Nat):RV W (.sl ks) (.slice (some a) 0 cap) (.sl [] 0 ks.length false)
 | sl (ks:List CT) (b off len cap:Nat) (u:Nat→Value) (xs:List PV) (c:Nat→CT) (hx:xs.length=len*ks.length) (hk : ∀ j,j<len*ks.length→ks[j%ks.length]?=some (c j))
   (hu : ∀ j,j<len*ks.length→W.cell? ⟨b,off+j,none⟩=some (u j)) (h : ∀ (j:Nat) (x:PV),xs[j]?=some x→RV W (c j) (u j) x) (hcap:len≤cap) (hb:b<W.heap.size) (hm:len<2^63):
   RV W (.sl ks) (.slice (some ⟨b,off,none⟩) len cap) (.sl xs len ks.length false)
theorem RV.one {W:World} {c:CT} {v:Value} {x:PV} (h:RV W c v x):v.oneCell'=true:=by
 cases h with
 | k h=>exact od h
 | _=>rfl
theorem RV.pr {W:World} {c:CT} {v:Value} {x:PV} (h:RV W c v x):PR (fun b=>b<W.heap.size) W x v:=by
 induction h with
 | k h=>exact .s _
 | nil ks=>exact .s _
 | sl0 ks a cap=>exact .sl0 _ _ _ _ (fun h=>by cases h)
 | sl ks b off len cap u xs c hx hk hu h hcap hb hm ih=>
  refine .sl _ len ks.length false b off cap u hb (fun j hj=>hu j (by omega)) ?_ ?_ hcap (fun h=>by cases h)
  ·intro j hj
   obtain ⟨x,hx'⟩ : ∃ x,xs[j]?=some x:=⟨xs[j],by simp [hj]⟩
   exact (h j x hx').one
  ·intro j l hj;exact ih j l hj
def AllR (W:World) (ks:List CT) (cs:List Value) (xs:List PV):Prop:=
 cs.length=ks.length∧xs.length=ks.length∧∀ (j:Nat) (c:CT) (v:Value) (x:PV),ks[j]?=some c→cs[j]?=some v→xs[j]?=some x→RV W c v x
theorem AllR.app {W:World} {ks ks':List CT} {cs cs':List Value} {xs xs':List PV} (h:AllR W ks cs xs) (h':AllR W ks' cs' xs'):AllR W (ks++ks') (cs++cs') (xs++xs'):=by
 obtain ⟨a1,a2,a3⟩:=h
 obtain ⟨b1,b2,b3⟩:=h'
 refine ⟨by simp [a1,b1],by simp [a2,b2],?_⟩
 intro j c v x h1 h2 h3
 by_cases hj:j<ks.length
 ·rw [List.getElem?_append_left hj] at h1
  rw [List.getElem?_append_left (by omega)] at h2 h3
  exact a3 j c v x h1 h2 h3
 ·rw [List.getElem?_append_right (by omega)] at h1 h2 h3
  rw [a1] at h2
  rw [a2] at h3
  exact b3 _ c v x h1 h2 h3
theorem dK {α:Type} (rows:Nat→List α) (m:Nat) : ∀ (n:Nat),(∀ i,i<n→(rows i).length=m)→(((List.range n).map rows).flatten).length=n*m∧∀ j,j<n*m→(((List.range n).map rows).flatten)[j]?=(rows (j/m))[j%m]?
 | 0,_=>⟨by simp,fun j hj=>by omega⟩
 | n+1,h=>by
  obtain ⟨l1,l2⟩:=dK rows m n (fun i hi=>h i (by omega))
  rw [List.range_succ,List.map_append,List.flatten_append]
  refine ⟨by rw [List.length_append,l1];simp [h n (by omega),Nat.add_mul],?_⟩
  intro j hj
  have hm:0<m:=by
   rcases Nat.eq_zero_or_pos m with rfl|h'
   ·simp at hj
   ·exact h'
  by_cases hlt:j<n*m
  ·rw [List.getElem?_append_left (by omega),l2 j hlt]
  ·rw [List.getElem?_append_right (by omega),l1]
   have e1:j/m=n:=Nat.div_eq_of_lt_le (by omega) (by rw [Nat.add_mul] at *;omega)
   have e2:j%m=j-n*m:=by
    have:=Nat.div_add_mod j m
    rw [e1,Nat.mul_comm] at this
    omega
   rw [e1,e2];simp
section
variable {H:Type} {enc:TypeId × Value→H} {P:Program} {W:World} {base:Nat} {spare:Nat→Bool} {held:Bool}
theorem vW {t:TypeId} {s:SK} {n:Nat} {cs:List Value} {x:DataW H × List MemPlace} (hs:SK.of P t=some s) (h:DataW.trod enc P W base spare held n t cs=some x) : ∃ v,cs=[v]∧s.fits v:=by
 obtain ⟨v,rfl⟩ : ∃ v,cs=[v]:=by
  unfold SK.of at hs
  cases n with
  | zero=>simp [DataW.trod] at h
  | succ n=>
   unfold DataW.trod at h
   split at hs
   ·rename_i k hk
    rw [hk] at h
    split at h<;>simp_all
   ·rename_i hk
    rw [hk] at h
    split at h<;>simp_all
   ·rename_i hk
    rw [hk] at h
    split at h<;>simp_all
   ·cases hs
 exact ⟨v,rfl,x9 hs h⟩
theorem gN {g:TypeId→Option (List CT)} (ih : ∀ t ks n cs y,g t=some ks→DataW.trod enc P W base spare held n t cs=some y→∃ xs,AllR W ks cs xs) : ∀ (fs:List Field) (i:Nat) (ks:List CT) (cs:List Value),flatFs g P i fs=some ks →
  (∀ (j:Nat) (f:Field),fs[j]?=some f→∃ n y,DataW.trod enc P W base spare held n f.type ((cs.drop f.offset).take (P.cellsOf f.type))=some y)→cs.length=i+ks.length→∃ xs,AllR W ks (cs.drop i) xs
 | [],i,ks,cs,h,_,hl=>by
  simp only [flatFs,Option.some.injEq] at h
  subst h
  exact ⟨[],by simp at hl ⊢;omega,rfl,fun j c v x h=>by simp at h⟩
 | f::r,i,ks,cs,h,hf,hl=>by
  simp only [flatFs] at h
  split at h
  case h_2=>cases h
  rename_i a ha
  split at h
  case isFalse=>cases h
  rename_i hc
  obtain ⟨ho,hc⟩:=hc
  split at h
  case h_2=>cases h
  rename_i b hb
  obtain rfl:=Option.some.inj h
  obtain ⟨n,y,hy⟩:=hf 0 f rfl
  obtain ⟨xs,h1⟩:=ih _ _ _ _ _ ha hy
  rw [List.length_append] at hl
  obtain ⟨ys,h2⟩:=gN ih r (i+a.length) b cs hb (fun j g hg=>hf (j+1) g hg) (by omega)
  refine ⟨xs++ys,?_⟩
  have e:cs.drop i=(cs.drop f.offset).take (P.cellsOf f.type)++cs.drop (i+a.length):=by
   rw [ho,hc,←List.drop_drop,List.take_append_drop]
  rw [e]
  exact h1.app h2
theorem su {W:World} {a:Addr} {v:Value} (h:W.cell? a=some v):a.spot=none∧a.block<W.heap.size:=by
 unfold World.cell? at h
 split at h
 ·rename_i c _ _ hh
  split at h
  ·cases h
  ·rename_i hs
   refine ⟨by cases hq:a.spot with
    | none=>rfl
    | some z=>rw [hq] at hs;simp at hs,(Array.getElem?_eq_some_iff.1 hh).1⟩
 ·cases h
theorem vB : ∀ (m:Nat) (t:TypeId) (ks:List CT) (n:Nat) (cs:List Value) (y:DataW H × List MemPlace),flatT P m t=some ks→DataW.trod enc P W base spare held n t cs=some y→∃ xs,AllR W ks cs xs
 | 0,t,ks,n,cs,y,h,_=>by cases h
 | m+1,t,ks,n,cs,y,h,ht=>by
  rw [flatT] at h
  split at h
  ·rename_i e he
   split at h
   case h_2=>cases h
   rename_i ks' hk
   split at h
   case isFalse=>cases h
   rename_i hc
   obtain ⟨hce,hpos⟩:=hc
   obtain rfl:=Option.some.inj h
   rcases Go.Deep.open_slice he ht with ⟨rfl,hx⟩|⟨a,len,cap,m',n',D,Pl,rfl,_,hl,hm,hmm,hx,hel⟩
   ·refine ⟨[.s (.slice none 0 0)],rfl,rfl,?_⟩
    intro j c v x h1 h2 h3
    match j with
    | 0=>
     obtain rfl:=Option.some.inj h1
     obtain rfl:=Option.some.inj h2
     obtain rfl:=Option.some.inj h3
     exact .nil _
    | j+1=>simp at h1
   ·have hlm:len≤m':=by rw [hmm];split<;>omega
    have fin : ∀ x,RV W (.sl ks') (.slice (some a) len cap) x→∃ xs,AllR W [.sl ks'] [.slice (some a) len cap] xs:=by
     intro x hx
     refine ⟨[x],rfl,rfl,?_⟩
     intro j c v x h1 h2 h3
     match j with
     | 0=>
      obtain rfl:=Option.some.inj h1
      obtain rfl:=Option.some.inj h2
      obtain rfl:=Option.some.inj h3
      exact hx
     | j+1=>simp at h1
    rcases Nat.eq_zero_or_pos len with rfl|hlen
    ·exact fin _ (.sl0 _ _ _)
    have each : ∀ i,∃ r:List Value × List PV,i<m'→W.cells? 0 (a.add (i*P.cellsOf e)) (P.cellsOf e)=some r.1∧AllR W ks' r.1 r.2:=by
     intro i
     by_cases hi:i<m'
     ·obtain ⟨cs',h1,h2⟩:=hel i hi
      obtain ⟨xs,h3⟩:=vB m e ks' n' cs' _ hk h2
      refine ⟨(cs',xs),fun _=>⟨?_,h3⟩⟩
      unfold World.cells? at h1 ⊢
      split at h1
      ·rw [if_pos (Nat.zero_le _)];exact h1
      ·cases h1
     ·exact ⟨([],[]),fun h=>absurd h hi⟩
    obtain ⟨rows,hrows⟩:=Classical.axiomOfChoice each
    have cellE : ∀ i,i<m'→∀ j,j<ks'.length→W.cell? ((a.add (i*ks'.length)).add j)=(rows i).1[j]?:=by
     intro i hi j hj
     obtain ⟨h1,h2⟩:=hrows i hi
     rw [hce] at h1
     exact (World.cells?_some h1).2.2 j hj
    obtain ⟨b,off,spot⟩:=a
    have h0:spot=none∧b<W.heap.size:=by
     have h1:=cellE 0 (by omega) 0 hpos
     have hl0:0<(rows 0).1.length:=by rw [(hrows 0 (by omega)).2.1];exact hpos
     rw [List.getElem?_eq_getElem hl0] at h1
     have:=su h1
     simpa [Addr.add] using this
    obtain ⟨rfl,hb⟩:=h0
    have rl1 : ∀ i,i<len→(rows i).1.length=ks'.length:=fun i hi=>(hrows i (by omega)).2.1
    have rl2 : ∀ i,i<len→(rows i).2.length=ks'.length:=fun i hi=>(hrows i (by omega)).2.2.1
    obtain ⟨f1,f2⟩:=dK (fun i=>(rows i).1) ks'.length len rl1
    obtain ⟨g1,g2⟩:=dK (fun i=>(rows i).2) ks'.length len rl2
    have dv : ∀ j,j<len*ks'.length→j/ks'.length<len∧j%ks'.length<ks'.length:=fun j hj=>⟨Nat.div_lt_of_lt_mul (by rw [Nat.mul_comm];exact hj),Nat.mod_lt _ hpos⟩
    refine fin (.sl (((List.range len).map fun i=>(rows i).2).flatten) len ks'.length false) (.sl ks' b off len cap (fun j=>(((List.range len).map fun i=>(rows i).1).flatten).getD j default) _ (fun j=>ks'.getD (j%ks'.length) (.sl [])) g1 ?_ ?_ ?_ hl hb (by have hm':cap≤maxLen:=hm;unfold maxLen at hm';omega))
    ·intro j hj
     obtain ⟨d1,d2⟩:=dv j hj
     rw [List.getD_eq_getElem?_getD,List.getElem?_eq_getElem d2];rfl
    ·intro j hj
     obtain ⟨d1,d2⟩:=dv j hj
     have h1:=cellE (j/ks'.length) (by omega) (j%ks'.length) d2
     have hl1:j%ks'.length<(rows (j/ks'.length)).1.length:=by rw [rl1 _ d1];exact d2
     rw [List.getD_eq_getElem?_getD,f2 j hj,List.getElem?_eq_getElem hl1]
     rw [List.getElem?_eq_getElem hl1] at h1
     rw [Option.getD_some,←h1,add_plain,add_plain]
     have:=Nat.div_add_mod j ks'.length
     rw [Nat.mul_comm] at this
     congr 2
     omega
    ·intro j x hj
     have hj':j<len*ks'.length:=by rw [←g1];exact (List.getElem?_eq_some_iff.1 hj).1
     obtain ⟨d1,d2⟩:=dv j hj'
     obtain ⟨_,r1,r2,r3⟩:=hrows (j/ks'.length) (by omega)
     rw [g2 j hj'] at hj
     have hl1:j%ks'.length<(rows (j/ks'.length)).1.length:=by rw [r1];exact d2
     refine r3 (j%ks'.length) _ _ x ?_ ?_ hj
     ·rw [List.getD_eq_getElem?_getD,List.getElem?_eq_getElem d2];rfl
     ·rw [List.getD_eq_getElem?_getD,f2 j hj',List.getElem?_eq_getElem hl1];rfl
  ·rename_i fs he
   split at h
   case h_2=>cases h
   rename_i ks' hk
   split at h
   case isFalse=>cases h
   rename_i hc
   obtain rfl:=Option.some.inj h
   obtain ⟨xs,q,_,_,h3,h4,h5⟩:=DataW.trod_struct he ht
   have:=gN (fun t ks n cs y h1 h2=>vB m t ks n cs y h1 h2) fs.toList 0 ks' cs hk (fun j f hj=>by
    have hj':fs[j]?=some f:=by simpa using hj
    have hlt:j<xs.length:=by rw [h4];exact (Array.getElem?_eq_some_iff.1 hj').1
    exact ⟨q,xs[j],by rw [h5 j f hj',List.getElem?_eq_getElem hlt]⟩) (by rw [h3,hc];simp)
   simpa using this
  ·split at h
   case h_2=>cases h
   rename_i s hs
   obtain rfl:=Option.some.inj h
   obtain ⟨v,rfl,hv⟩:=vW hs ht
   refine ⟨[.s v],rfl,rfl,?_⟩
   intro j c v x h1 h2 h3
   match j with
   | 0=>
    obtain rfl:=Option.some.inj h1
    obtain rfl:=Option.some.inj h2
    obtain rfl:=Option.some.inj h3
    exact .k hv
   | j+1=>simp at h1
theorem xd {α:Type} {f:α→PV} {Q:α→Prop} {c:CT} (hf : ∀ v x,RV W c v x→∃ a,x=f a∧Q a) {v:Value} {x:PV} (h:RV W (.sl [c]) v x):x = .s (.slice none 0 0)∨∃ L:List α,x = .sl (L.map f) L.length 1 false∧(∀ a∈L,Q a)∧L.length<2^63:=by
 generalize hc:CT.sl [c]=t at h
 cases h with
 | k h=>cases hc
 | nil ks=>exact .inl rfl
 | sl0 ks a cap=>
  obtain rfl:=CT.sl.inj hc
  exact .inr ⟨[],rfl,by simp,by simp⟩
 | sl ks b off len cap u xs c' hx hk hu h hcap hb hm=>
  obtain rfl:=CT.sl.inj hc
  right
  have hx':xs.length=len:=by simpa using hx
  have each : ∀ j:Fin xs.length,∃ a,xs[j]=f a∧Q a:=by
   intro j
   have h1:=hk j.1 (by rw [←hx];exact j.2)
   have h2:=h j.1 xs[j] (by simp)
   have:c' j.1=c:=by
    have e:j.1 % [c].length=0:=by simp [Nat.mod_one]
    rw [e] at h1
    exact (Option.some.inj h1).symm
   rw [this] at h2
   exact hf _ _ h2
  obtain ⟨L,hL⟩:=Classical.axiomOfChoice each
  refine ⟨List.ofFn L,?_,?_,by simp [hx',hm]⟩
  ·have e:(List.ofFn L).map f=xs:=by
    apply List.ext_getElem
    ·simp
    ·intro j h1 h2
     simp only [List.getElem_map,List.getElem_ofFn]
     exact (hL ⟨j,h2⟩).1.symm
   rw [e,List.length_ofFn,hx'];rfl
  ·intro a ha
   obtain ⟨j,rfl⟩:=List.mem_ofFn.1 ha
   exact (hL j).2
end
end Go.Proofs.YtoeblkipfdnnlaaGreatDoor
end

section
namespace Go.Proofs.YtoeblkipfdnnlaaGreatDoor
open Go Go.Sx Go.ChangeShapes Go.WideShapes
section
variable {W:World}
theorem zR {k:IntKind} {v:Value} {x:PV} (h:RV W (.k (.int k)) v x) : ∃ n:Int,x = .s (.int k n)∧k.min≤n∧n≤k.max:=by
 cases h with
 | k h=>
  cases v<;>simp only [SK.fits] at h
  obtain ⟨rfl,h⟩:=h
  exact ⟨_,rfl,by simpa [Lit.wf] using h⟩
theorem xS {v:Value} {x:PV} (h:RV W (.k .bool) v x) : ∃ b:Bool,x = .s (.bool b):=by
 cases h with
 | k h=>cases v<;>first|exact ⟨_,rfl⟩|exact absurd h (by simp [SK.fits])
theorem zS {k:IntKind} (h0:k.min=0) {v:Value} {x:PV} (h:RV W (.k (.int k)) v x) : ∃ n:Nat,x = .s (.int k n)∧(n:Int)≤k.max:=by
 obtain ⟨n,rfl,h1,h2⟩:=zR h
 rw [h0] at h1
 exact ⟨n.toNat,by rw [Int.toNat_of_nonneg h1],by omega⟩
theorem xT {v:Value} {x:PV} (h:RV W (.k (.int .u8)) v x) : ∃ b:UInt8,x = .s (.int .u8 b.toNat)∧True:=by
 obtain ⟨n,rfl,h⟩:=zS rfl h
 have:n<256:=by have e:IntKind.u8.max=255:=rfl;omega
 exact ⟨UInt8.ofNat n,by simp [Nat.mod_eq_of_lt this],trivial⟩
theorem oG {v:Value} {x:PV} (h:RV W (.sl [.k (.int .u8)]) v x) : ∃ o:Option (List UInt8),x=obP false o∧∀ l,o=some l→l.length<2^63:=by
 rcases xd (f:=fun b:UInt8=>PV.s (.int .u8 b.toNat)) (Q:=fun _=>True) (fun v x h=>xT h) h with rfl|⟨L,rfl,_,h2⟩
 ·exact ⟨none,rfl,fun l h=>by cases h⟩
 ·exact ⟨some L,rfl,fun l h=>by cases h;exact h2⟩
theorem all_cons {c:CT} {ks:List CT} {cs:List Value} {xs:List PV} (h:AllR W (c::ks) cs xs) : ∃ v vs x ys,cs=v::vs∧xs=x::ys∧RV W c v x∧AllR W ks vs ys:=by
 obtain ⟨h1,h2,h3⟩:=h
 cases cs with
 | nil=>cases h1
 | cons v vs=>
  cases xs with
  | nil=>cases h2
  | cons x ys=>exact ⟨v,vs,x,ys,rfl,rfl,h3 0 c v x rfl rfl rfl,by simpa using h1,by simpa using h2,fun j c v x a b d=>h3 (j+1) c v x a b d⟩
theorem all_nil {cs:List Value} {xs:List PV} (h:AllR W [] cs xs):cs=[]∧xs=[]:=⟨List.eq_nil_of_length_eq_zero h.1,List.eq_nil_of_length_eq_zero h.2.1⟩
theorem AllR.pr {ks:List CT} {a:Array Value} {xs:List PV} (h:AllR W ks a.toList xs):PR (fun b=>b<W.heap.size) W (.agg xs) (.agg a):=by
 obtain ⟨h1,h2,h3⟩:=h
 refine .agg xs a (by simpa [h2] using h1) ?_ ?_
 ·intro u hu
  obtain ⟨j,hj,rfl⟩:=List.getElem_of_mem hu
  exact (h3 j (ks[j]'(by omega)) a.toList[j] (xs[j]'(by omega)) (by simp [←h1,hj]) (by simp [hj]) (by simp [h2,←h1,hj])).one
 ·intro j l u hl hu
  have hj:j<xs.length:=(List.getElem?_eq_some_iff.1 hl).1
  exact (h3 j (ks[j]'(by omega)) u l (by simp [←h2,hj]) (by simpa using hu) hl).pr
theorem zT {v:Value} {x:PV} (h:RV W (.k .str) v x) : ∃ s:List UInt8,x=strP s∧s.length<2^63:=by
 cases h with
 | k h=>
  cases v with
  | string s=>
   have e:(⟨s.data.toList.toArray⟩:ByteArray)=s:=congrArg ByteArray.mk (Array.toArray_toList)
   refine ⟨s.data.toList,by rw [strP,e],?_⟩
   have h':s.size≤maxLen:=h
   have e:s.data.toList.length=s.size:=Array.length_toList
   have m:maxLen<2^63:=by unfold maxLen;omega
   omega
  | _=>exact absurd h (by intro h;exact h)
def drwK:List CT:=[.sl [.k (.int .u8)],.k .str,.k .bool]
theorem wH {xs:List PV} {vs:List Value} (h:AllR W drwK vs xs) : ∃ d:Dw,xs=d.cells∧d.s.length<2^63:=by
 obtain ⟨_,_,_,_,rfl,rfl,r1,h⟩:=all_cons h
 obtain ⟨_,_,_,_,rfl,rfl,r2,h⟩:=all_cons h
 obtain ⟨_,_,_,_,rfl,rfl,r3,h⟩:=all_cons h
 obtain ⟨rfl,rfl⟩:=all_nil h
 obtain ⟨o,rfl,_⟩:=oG r1
 obtain ⟨s,rfl,hs⟩:=zT r2
 obtain ⟨g,rfl⟩:=xS r3
 exact ⟨⟨o,s,g⟩,rfl,hs⟩
theorem ua {v:Value} {x:PV} (h:RV W (.sl drwK) v x) : ∃ D:List Dw,dsP D x∧(∀ d∈D,d.s.length<2^63)∧D.length<2^63:=by
 generalize hc:CT.sl drwK=t at h
 cases h with
 | k h=>cases hc
 | nil ks=>exact ⟨[],.inl ⟨rfl,rfl⟩,by simp,by decide⟩
 | sl0 ks a cap=>
  obtain rfl:=CT.sl.inj hc
  exact ⟨[],.inr rfl,by simp,by decide⟩
 | sl ks b off len cap u xs c' hx hk hu h hcap hb hm=>
  obtain rfl:=CT.sl.inj hc
  have l3:drwK.length=3:=rfl
  rw [l3] at hx
  have each : ∀ i:Fin len,∃ d:Dw,(xs.drop (i.1*3)).take 3=d.cells∧d.s.length<2^63:=fun i=>by
   have hi:=i.2
   refine wH (W:=W) (vs:=[u (i.1*3),u (i.1*3+1),u (i.1*3+2)]) ⟨rfl,by rw [List.length_take,List.length_drop];show min 3 _=3;omega,fun j c v x hj hv hxj => ?_⟩
   have hj3:j<3:=by
    rcases Nat.lt_or_ge j 3 with q|q
    ·exact q
    ·rw [List.getElem?_eq_none (by rw [l3];exact q)] at hj;cases hj
   rw [List.getElem?_take,if_pos hj3,List.getElem?_drop] at hxj
   have hk':=hk (i.1*3+j) (by rw [l3];omega)
   rw [l3,show (i.1*3+j)%3=j by omega,hj] at hk'
   obtain rfl:=Option.some.inj hk'
   have hv':v=u (i.1*3+j):=by
    match j,hj3,hv with
    | 0,_,hv=>exact (Option.some.inj hv).symm
    | 1,_,hv=>exact (Option.some.inj hv).symm
    | 2,_,hv=>exact (Option.some.inj hv).symm
   rw [hv']
   exact h _ _ hxj
  refine ⟨List.ofFn fun i=>(each i).choose,.inr ?_,fun d hd => ?_,by rw [List.length_ofFn];exact hm⟩
  ·rw [List.length_ofFn]
   have e:xs=dwP (List.ofFn fun i=>(each i).choose):=by
    refine List.ext_getElem? fun k => ?_
    rcases Nat.lt_or_ge k xs.length with q|q
    ·have hi:k/3<len:=by omega
     have hd:(List.ofFn fun i=>(each i).choose)[k/3]?=some (each ⟨k/3,hi⟩).choose:=by
      rw [List.getElem?_ofFn,dif_pos hi]
     have r:=vG pW hd (show k%3<3 by omega)
     rw [show k/3*3+k%3=k by omega] at r
     have r':(dwP (List.ofFn fun i=>(each i).choose))[k]?=((each ⟨k/3,hi⟩).choose.cells)[k%3]?:=r
     rw [r',←(each ⟨k/3,hi⟩).choose_spec.1,List.getElem?_take,if_pos (by omega),List.getElem?_drop]
     show xs[k]?=xs[k/3*3+k%3]?
     rw [show k/3*3+k%3=k by omega]
    ·rw [List.getElem?_eq_none q,List.getElem?_eq_none]
     have:=fo pW (List.ofFn fun i=>(each i).choose)
     rw [List.length_ofFn] at this
     show (dwP _).length≤k
     unfold dwP
     omega
   rw [←e,l3]
  ·rw [List.mem_ofFn] at hd
   obtain ⟨i,rfl⟩:=hd
   exact (each i).choose_spec.2
end
section
variable {P:Program} {H:Type} {enc:TypeId × Value→H} {W:World} {base:Nat} {spare:Nat→Bool} {held:Bool} {t:TypeId} {v:Value} {d:DataW H} {p:List MemPlace}
theorem uR {e:TypeId} {k:CT} (hf:flatT P 4 t=some [k]) (ht:P.underlying t=some (.slice e)) (hval:Value.okWide P W .any base t v) (h:DataW.Trod enc P W 0 spare held t v d p) : ∃ x,RV W k v x:=by
 obtain ⟨a0,len,cap,rfl⟩:=okWide_slice ht hval
 obtain ⟨n,hn⟩:=h
 obtain ⟨xs,hx⟩:=vB 4 t [k] n _ _ hf hn
 have e:(Value.slice a0 len cap).cells.toList=[.slice a0 len cap]:=rfl
 rw [e] at hx
 obtain ⟨_,_,_,_,e1,rfl,r,h⟩:=all_cons hx
 obtain ⟨rfl,_⟩:=List.cons.inj e1
 exact ⟨_,r⟩
theorem AV {e:TypeId} (hf:flatT P 4 t=some [.sl drwK]) (ht:P.underlying t=some (.slice e)) (hval:Value.okWide P W .any base t v) (h:DataW.Trod enc P W 0 spare held t v d p):
  ∃ (D:List Dw) (x:Go.Sx.PV),dsP D x∧DwOk D∧Go.Sx.PR (fun b=>b<W.heap.size) W x v:=by
 obtain ⟨x,r⟩:=uR hf ht hval h
 obtain ⟨D,h1,h2,h3⟩:=ua r
 exact ⟨D,x,h1,⟨h2,h3⟩,r.pr⟩
theorem Al {e:TypeId} (hf:flatT P 4 t=some [.sl [.k (.int .u8)]]) (ht:P.underlying t=some (.slice e)) (hval:Value.okWide P W .any base t v) (h:DataW.Trod enc P W 0 spare held t v d p):
  ∃ (o:List UInt8) (O:Go.Sx.PV),obB o O∧Go.Sx.PR (fun b=>b<W.heap.size) W O v:=by
 obtain ⟨x,r⟩:=uR hf ht hval h
 obtain ⟨o,rfl,_⟩:=oG r
 cases o with
 | none=>exact ⟨[],_,.inl ⟨rfl,rfl⟩,r.pr⟩
 | some l=>exact ⟨l,_,.inr rfl,r.pr⟩
end
end Go.Proofs.YtoeblkipfdnnlaaGreatDoor
end

section
namespace Go.Proofs.YtoeblkipfdnnlaaGreatDoor
open Go Go.Sx Go.ChangeShapes Go.WideShapes
section
variable {W:World}
theorem fg {P:Program} {x:String × DataW Unit} {r:List (String × DataW Unit)} {ps:List MemPlace} (h:DataW.LaidVars P W (x::r) ps) : ∃ q,DataW.LaidVars P W r q:=by
 obtain ⟨g,t,cs,fuel,p,q,_,_,_,_,h,_⟩:=h
 exact ⟨q,h⟩
theorem qZ {P:Program} {n:String} {d:DataW Unit} {r:List (String × DataW Unit)} {ps:List MemPlace} (h:DataW.LaidVars P W ((n,d)::r) ps) {g:Nat} {t:TypeId} (hg:P.globalNamed n=some g) (ht:(P.globals[g]?).map (·.type)=some t):
  ∃ cs fuel p,W.var? P n=some cs∧DataW.trod (fun _=>()) P W 0 (fun _=>true) false fuel t cs.toList=some (d,p):=by
 obtain ⟨g',t',cs,fuel,p,q,h1,h2,h3,h4,_,_⟩:=h
 obtain rfl:=Option.some.inj (hg.symm.trans h1)
 obtain rfl:=Option.some.inj (ht.symm.trans h2)
 exact ⟨cs,fuel,p,h3,h4⟩
theorem sH:(Go.Pinned.utf8FirstZ==(List.range 256).map firstN)=true:=by kernel_rfl
theorem nI {r:List (String × DataW Unit)} {ps:List MemPlace} (h:DataW.LaidVars Tryz.prog W (("unicode/utf8.first",Rows.laid_unicode_utf8_first)::r) ps) (j:Nat) (hj:j<256):W.cell? ⟨1,j,none⟩=some (.int .u8 (firstN j:Nat)):=by
 have hg:Tryz.prog.globalNamed "unicode/utf8.first" = some 1:=by kernel_rfl
 obtain ⟨cs,fuel,p,hv,hd⟩:=qZ h hg (show (Tryz.prog.globals[1]?).map (·.type)=some 228 by kernel_rfl)
 obtain ⟨xs,m,_,ex,_,hl,hel⟩:=DataW.trod_array (Tryz.underlying228) hd
 have c5:Tryz.prog.cellsOf 5=1:=by kernel_rfl
 have hE:=hel j hj
 rw [c5,Nat.mul_one,List.getElem?_eq_getElem (by omega)] at hE
 obtain ⟨z,e1,e2,_⟩:=DataW.trod_int (Tryz.underlying5) hE
 have e3:(xs.map (·.1))=Go.Pinned.numbers .u8 Go.Pinned.utf8FirstZ:=(DataW.agg.inj (Prod.mk.inj ex).1).symm
 have hz:(xs.map (·.1))[j]?=some (.lit (.int .u8 (firstN j:Nat))):=by
  rw [e3,eq_of_beq sH]
  simp [Go.Pinned.numbers,hj]
 rw [List.getElem?_map,List.getElem?_eq_getElem (by omega:j<xs.length),e2] at hz
 simp only [Option.map_some,Option.some.injEq,DataW.lit.injEq,Lit.int.injEq,true_and] at hz
 rw [World.var?_cell hg hv j,←hz]
 have h0:((cs.toList.drop j).take 1)[0]?=some (.int .u8 z):=by rw [e1];rfl
 have:cs.toList[j]?=some (.int .u8 z):=by simpa using h0
 simpa using this
def accZ:List Int:=[128,191,160,191,128,159,144,191,128,143,0,0,0,0,0,0,0,0,0,0,0,0,0,0,0,0,0,0,0,0,0,0]
theorem si {r:List (String × DataW Unit)} {ps:List MemPlace} (h:DataW.LaidVars Tryz.prog W (("unicode/utf8.acceptRanges",Rows.laid_unicode_utf8_acceptRanges)::r) ps) (j:Nat) (hj:j<32):W.cell? ⟨2,j,none⟩=some (.int .u8 (accZ.getD j 0)):=by
 have hg:Tryz.prog.globalNamed "unicode/utf8.acceptRanges" = some 2:=by kernel_rfl
 obtain ⟨cs,fuel,p,hv,hd⟩:=qZ h hg (show (Tryz.prog.globals[2]?).map (·.type)=some 231 by kernel_rfl)
 obtain ⟨xs,m,_,ex,_,hl,hel⟩:=DataW.trod_array (Tryz.underlying231) hd
 have c5:Tryz.prog.cellsOf 5=1:=by kernel_rfl
 have c230:Tryz.prog.cellsOf 230=2:=by kernel_rfl
 have hE:=hel (j/2) (by omega)
 rw [c230,List.getElem?_eq_getElem (by omega)] at hE
 obtain ⟨y0,y1,n',ey,_,t0,t1⟩:=trod_struct2 Tryz.underlying230 hE
 rw [c5] at t0 t1
 obtain ⟨z0,a1,a2,_⟩:=DataW.trod_int (Tryz.underlying5) t0
 obtain ⟨z1,b1,b2,_⟩:=DataW.trod_int (Tryz.underlying5) t1
 have e3:(xs.map (·.1))=(match (Rows.laid_unicode_utf8_acceptRanges:DataW Unit) with
  | .agg l=>l
  | _=>[]):=by rw [(Prod.mk.inj ex).1]
 have hz:(xs.map (·.1))[j/2]?=some (.agg [.lit (.int .u8 z0),.lit (.int .u8 z1)]):=by
  rw [List.getElem?_map,List.getElem?_eq_getElem (by omega:j/2<xs.length),ey,a2,b2];rfl
 rw [e3] at hz
 have key : ∀ i,i<16→(match (Rows.laid_unicode_utf8_acceptRanges:DataW Unit) with
  | .agg l=>l
  | _=>[])[i]?=some (.agg [.lit (.int .u8 (accZ.getD (2*i) 0)),.lit (.int .u8 (accZ.getD (2*i+1) 0))]):=by
  intro i hi
  match i with
  | 0=>rfl
  | 1=>rfl
  | 2=>rfl
  | 3=>rfl
  | 4=>rfl
  | 5=>rfl
  | 6=>rfl
  | 7=>rfl
  | 8=>rfl
  | 9=>rfl
  | 10=>rfl
  | 11=>rfl
  | 12=>rfl
  | 13=>rfl
  | 14=>rfl
  | 15=>rfl
  | n+16=>omega
 rw [key (j/2) (by omega)] at hz
 simp only [Option.some.injEq,DataW.agg.injEq,List.cons.injEq,DataW.lit.injEq,Lit.int.injEq,true_and,and_true] at hz
 rw [World.var?_cell hg hv j]
 have h0:((((cs.toList.drop (j/2*2)).take 2).drop 0).take 1)[0]?=some (.int .u8 z0):=by rw [a1];rfl
 have h1:((((cs.toList.drop (j/2*2)).take 2).drop 1).take 1)[0]?=some (.int .u8 z1):=by rw [b1];rfl
 simp only [List.getElem?_take,List.getElem?_drop] at h0 h1
 simp at h0 h1
 rcases Nat.mod_two_eq_zero_or_one j with hm|hm
 ·rw [show j/2*2=j by omega] at h0
  rw [show 2*(j/2)=j by omega] at hz
  rw [hz.1]
  simpa using h0
 ·rw [show j/2*2+1=j by omega] at h1
  rw [show 2*(j/2)+1=j by omega] at hz
  rw [hz.2]
  simpa using h1
theorem pT {b j:Nat} {v:Value} (h:W.cell? ⟨b,j,none⟩=some v):b<W.heap.size:=by
 unfold World.cell? at h
 simp only at h
 cases hb:W.heap[b]? with
 | none=>rw [hb] at h;cases h
 | some o=>exact (Array.getElem?_eq_some_iff.1 hb).1
theorem nH:firstT.length=256:=by simp [firstT]
theorem kb:accT.length=32:=rfl
theorem ze (h1 : ∀ j,j<256→W.cell? ⟨1,j,none⟩=some (.int .u8 (firstN j:Nat))) (h2 : ∀ j,j<32→W.cell? ⟨2,j,none⟩=some (.int .u8 (accZ.getD j 0))):GOK gG (fun b=>b<W.heap.size) W:=by
 intro n cs hn
 unfold gG at hn
 split at hn
 ·rename_i e
  subst e
  obtain rfl:=Option.some.inj hn
  refine .imm firstT 0 1 0 (fun j=>.int .u8 (firstN j:Nat)) (pT (h1 0 (by decide))) (fun j hj => ?_) (fun j hj=>rfl) fun j l hl => ?_
  ·rw [Nat.zero_add];exact h1 j (by rw [nH] at hj;exact hj)
  ·unfold firstT at hl
   rw [List.getElem?_map] at hl
   rcases Nat.lt_or_ge j 256 with q|q
   ·rw [List.getElem?_range q] at hl
    obtain rfl:=Option.some.inj hl
    exact .s _
   ·rw [List.getElem?_eq_none (by simpa using q)] at hl;cases hl
 ·split at hn
  ·rename_i e
   subst e
   obtain rfl:=Option.some.inj hn
   refine .imm accT 0 2 0 (fun j=>.int .u8 (accZ.getD j 0)) (pT (h2 0 (by decide))) (fun j hj => ?_) (fun j hj=>rfl) fun j l hl => ?_
   ·rw [Nat.zero_add];exact h2 j (by rw [kb] at hj;exact hj)
   ·have hj:j<32:=by
     rcases Nat.lt_or_ge j 32 with q|q
     ·exact q
     ·rw [List.getElem?_eq_none (by rw [kb];exact q)] at hl;cases hl
    have key : ∀ k,k<32→accT[k]?=some (.s (.int .u8 (accZ.getD k 0))):=by
     intro k hk
     match k with
     | 0=>rfl
     | 1=>rfl
     | 2=>rfl
     | 3=>rfl
     | 4=>rfl
     | 5=>rfl
     | 6=>rfl
     | 7=>rfl
     | 8=>rfl
     | 9=>rfl
     | 10=>rfl
     | 11=>rfl
     | 12=>rfl
     | 13=>rfl
     | 14=>rfl
     | 15=>rfl
     | 16=>rfl
     | 17=>rfl
     | 18=>rfl
     | 19=>rfl
     | 20=>rfl
     | 21=>rfl
     | 22=>rfl
     | 23=>rfl
     | 24=>rfl
     | 25=>rfl
     | 26=>rfl
     | 27=>rfl
     | 28=>rfl
     | 29=>rfl
     | 30=>rfl
     | 31=>rfl
     | n+32=>omega
    rw [key j hj] at hl
    obtain rfl:=Option.some.inj hl
    exact .s _
  ·cases hn
abbrev sibsLaid:List (String × DataW Unit):=[("math/bits.deBruijn32tab",Rows.laid_math_bits_deBruijn32tab),("math/bits.deBruijn64tab",Rows.laid_math_bits_deBruijn64tab),("internal/strconv.uint64pow10",Rows.laid_internal_strconv_uint64pow10),("unicode/utf8.acceptRanges",Rows.laid_unicode_utf8_acceptRanges),("strconv.ErrRange",Rows.laid_strconv_ErrRange),("strconv.ErrSyntax",Rows.laid_strconv_ErrSyntax),("unicode/utf8.first",Rows.laid_unicode_utf8_first)]
theorem ux (h:laidMetH Tryz.prog sibsLaid W):GOK gG (fun b=>b<W.heap.size) W:=by
 rw [MakeChecks.laidMetH_plain _ _ _ (by kernel_rfl)] at h
 obtain ⟨ps,h,_⟩:=h
 obtain ⟨_,h⟩:=fg h
 obtain ⟨_,h⟩:=fg h
 obtain ⟨_,h⟩:=fg h
 have ha:=si h
 obtain ⟨_,h⟩:=fg h
 obtain ⟨_,h⟩:=fg h
 obtain ⟨_,h⟩:=fg h
 exact ze (fun j hj=>nI h j hj) fun j hj=>ha j hj
end
theorem wb:OSound Tryz.prog gG xX:=by
 have h0:OSound Tryz.prog gG (om cls (findF irsX) gG noX):=kV cls fun f args H nx r u n h=>by
  obtain ⟨m,hm⟩:=oa h
  exact eB (an:=an) Tryz.checked.mixed (sO _ _) (fun f ir hf=>wX (f,ir) (g9 hf)) m f args H nx r u n hm
 intro f args H nx r u n h
 unfold xX at h
 split at h
 ·rename_i e
  exact oV h0 f args H nx r u n h
 ·cases h
end Go.Proofs.YtoeblkipfdnnlaaGreatDoor
end
