/- What the proof of the claim leans on, part 2 of 5: the value machine, the functions as it has them, their specifications. No condition. -/
import Derived.Test.YtoeblkipfdnnlaaGreatDoorD1
import Derived.Orders
import Derived.LoopN
set_option linter.all false
set_option linter.unnecessarySimpa false
set_option linter.unusedSimpArgs false
set_option linter.unusedVariables false
set_option linter.constructorNameAsVariable false
set_option maxHeartbeats 4000000
section
namespace Go.Sx
open Go
def StepT (c:Ctx) (o:IROper) (e:Env) (h:Hp) (r:LV) (t:Tr) (e':Env) (h':Hp):Prop:=
 (∃ x,wants e o.guard=some true∧evOp c true e h o.op=some x∧r=x.v∧t=⟨x.tch,x.md,c.nx+h.new.length,c.nx+x.h.new.length,o.op.slots++gslot o.guard,o.dst⟩∧e'=putD e o.dst x.v∧h'=x.h) ∨
 (wants e o.guard=some false∧r = .undef∧t=⟨[],false,c.nx+h.new.length,c.nx+h.new.length,gslot o.guard,o.dst⟩∧e'=putD e o.dst .undef∧h'=h)
theorem pg {c:Ctx} : ∀ (irs:List IROper) (env:Env) (h:Hp) (tr:List Tr) (env':Env) (h':Hp),runOpsT c irs env h=some (tr,env',h') →
  ∃ (E:Nat→Env) (Hs:Nat→Hp) (R:Nat→LV),E 0=env∧Hs 0=h∧E irs.length=env'∧Hs irs.length=h'∧tr.length=irs.length ∧
   ∀ i (hi:i<irs.length),StepT c irs[i] (E i) (Hs i) (R i) (tr.getD i default) (E (i+1)) (Hs (i+1))
 | [],env,h,tr,env',h',hr=>by
  simp only [runOpsT,Option.some.injEq,Prod.mk.injEq] at hr
  obtain ⟨rfl,rfl,rfl⟩:=hr
  exact ⟨fun _=>env,fun _=>h,fun _=>.junk,rfl,rfl,rfl,rfl,rfl,fun i hi=>absurd hi (by simp)⟩
 | o::irs,env,h,tr,env',h',hr=>by
  have key : ∀ (e1:Env) (h1:Hp) (tr1:List Tr) (t:Tr) (r:LV),runOpsT c irs e1 h1=some (tr1,env',h')→tr=t::tr1→StepT c o env h r t e1 h1 →
    ∃ (E:Nat→Env) (Hs:Nat→Hp) (R:Nat→LV),E 0=env∧Hs 0=h∧E (o::irs).length=env'∧Hs (o::irs).length=h'∧tr.length=(o::irs).length ∧
     ∀ i (hi:i<(o::irs).length),StepT c (o::irs)[i] (E i) (Hs i) (R i) (tr.getD i default) (E (i+1)) (Hs (i+1)):=by
   intro e1 h1 tr1 t r hrun htr hst
   obtain ⟨E,Hs,R,a1,a2,a3,a4,a5,a6⟩:=pg irs e1 h1 tr1 env' h' hrun
   refine ⟨fun i=>match i with
    | 0=>env
    | i+1=>E i,fun i=>match i with
    | 0=>h
    | i+1=>Hs i,fun i=>match i with
    | 0=>r
    | i+1=>R i,rfl,rfl,a3,a4,by rw [htr];simp [a5],fun i hi => ?_⟩
   subst htr
   cases i with
   | zero=>simp only [List.getElem_cons_zero,List.getD_cons_zero,a1,a2];exact hst
   | succ i=>simpa using a6 i (by simpa using hi)
  simp only [runOpsT] at hr
  split at hr
  ·rename_i hw
   split at hr
   case h_2=>cases hr
   rename_i x hx
   split at hr
   case h_2=>cases hr
   rename_i tr1 e2 h2 hrun
   simp only [Option.some.injEq,Prod.mk.injEq] at hr
   obtain ⟨rfl,rfl,rfl⟩:=hr
   exact key _ _ tr1 _ x.v hrun rfl (.inl ⟨x,hw,hx,rfl,rfl,rfl,rfl⟩)
  ·rename_i hw
   split at hr
   case h_2=>cases hr
   rename_i tr1 e2 h2 hrun
   simp only [Option.some.injEq,Prod.mk.injEq] at hr
   obtain ⟨rfl,rfl,rfl⟩:=hr
   exact key _ _ tr1 _ .undef hrun rfl (.inr ⟨hw,rfl,rfl,rfl,rfl⟩)
  ·cases hr
def eD (E0:Env) (R:Nat→LV) (tr:List Tr) (D:Nat→Bool):Nat→Nat→LV
 | 0,t=>get E0 t
 | k+1,t=>if D k=true∧(tr.getD k default).wr=some t then R k else eD E0 R tr D k t
def lD (H:Heap) (nx:Nat) (Hs:Nat→Hp) (tr:List Tr) (D:Nat→Bool):Nat→Nat→Option Obj
 | 0,id=>look H nx (Hs 0) id
 | k+1,id=>if D k=true∧(((tr.getD k default).md=true∧id∈(tr.getD k default).tch)∨((tr.getD k default).lo≤id∧id<(tr.getD k default).hi)) then look H nx (Hs (k+1)) id else lD H nx Hs tr D k id
section
variable {P:Program} {imT:An} {c:Ctx} {I0:Nat→Prop} {μ0:Mu} {w0:World} {nt:Nat} {ops:Array Oper}
structure Reg (P:Program) (imT:An) (c:Ctx) (nt:Nat) (ops:Array Oper) (E:Nat→Env) (Hs:Nat→Hp) (R:Nat→LV) (tr:List Tr):Prop where
 sound:OSound P c.G c.O
 step : ∀ i o,ops[i]?=some o→StepT c (coper P imT nt ops o) (E i) (Hs i) (R i) (tr.getD i default) (E (i+1)) (Hs (i+1))
 edges : ∀ i o e,ops[i]?=some o→e∈o.after→Region.binds .any e=true→e.on<i
 apart : ∀ i j,i<j→j<ops.size→((Region.before ops).getD j 0).testBit i=false→apartT (tr.getD i default) (tr.getD j default)=true
variable {E:Nat→Env} {Hs:Nat→Hp} {R:Nat→LV} {tr:List Tr}
structure DInv (c:Ctx) (I0:Nat→Prop) (μ0:Mu) (w0:World) (nt:Nat) (ops:Array Oper) (E:Nat→Env) (Hs:Nat→Hp) (R:Nat→LV) (tr:List Tr) (D:Nat→Bool) (a:Act) (w:World) (I:Nat→Prop) (μ:Mu):Prop where
 env : ∀ t,VR I μ w (eD (E 0) R tr D ops.size t) (a.tmps.getD t undef)
 size:nt≤a.tmps.size
 defers:a.defers=[]
 goes:Goes I0 I μ0 μ w0 w c.H (lD c.H c.nx Hs tr D ops.size) (fun _=>True) (fun id=>(c.nx≤id∧id<c.nx+(Hs 0).new.length)∨∃ k,k<ops.size∧D k=true∧(tr.getD k default).lo≤id∧id<(tr.getD k default).hi)
 none : ∀ id,c.nx+(Hs 0).new.length≤id→(∀ k,k<ops.size→D k=true→¬((tr.getD k default).lo≤id∧id<(tr.getD k default).hi))→μ id=none
 glob:GOK c.G I w
 closed : ∀ j o e,D j=true→ops[j]?=some o→e∈o.after→Region.binds .any e=true→D e.on=true
theorem i8 (ops:Array Oper) : ∀ j i,j<ops.size→((Region.before ops).getD j 0).testBit i=true →
  ∃ o e,ops[j]?=some o∧e∈o.after∧Region.binds .any e=true∧(e.on=i∨(e.on<j∧((Region.before ops).getD e.on 0).testBit i=true)):=by
 intro j i hj hb
 have hgen : ∀ (l:List Oper) (acc:Array Nat),(∀ k,acc.size≤k→k<acc.size+l.length→∃ (pre:Array Nat),pre.size=k∧(∀ q,q<k→pre.getD q 0=(l.foldl (fun acc o=>acc.push (o.after.foldl (fun s e=>if Region.binds .any e then s ||| 2^e.on ||| acc.getD e.on 0 else s) 0)) acc).getD q 0) ∧
   ∃ o,l[k-acc.size]?=some o∧(l.foldl (fun acc o=>acc.push (o.after.foldl (fun s e=>if Region.binds .any e then s ||| 2^e.on ||| acc.getD e.on 0 else s) 0)) acc).getD k 0=o.after.foldl (fun s e=>if Region.binds .any e then s ||| 2^e.on ||| pre.getD e.on 0 else s) 0) ∧
   (∀ q,q<acc.size→(l.foldl (fun acc o=>acc.push (o.after.foldl (fun s e=>if Region.binds .any e then s ||| 2^e.on ||| acc.getD e.on 0 else s) 0)) acc).getD q 0=acc.getD q 0):=by
  intro l
  induction l with
  | nil=>intro acc;exact ⟨fun k h1 h2=>absurd h2 (by simp;omega),fun q _=>rfl⟩
  | cons x r ih=>
   intro acc
   obtain ⟨g1,g2⟩:=ih (acc.push (x.after.foldl (fun s e=>if Region.binds .any e then s ||| 2^e.on ||| acc.getD e.on 0 else s) 0))
   simp only [List.foldl_cons]
   refine ⟨fun k h1 h2 => ?_,fun q hq => ?_⟩
   ·by_cases hk:k=acc.size
    ·subst hk
     refine ⟨acc,rfl,fun q hq => ?_,x,by simp,?_⟩
     ·rw [g2 q (by simp;omega)]
      simp [Array.getD_eq_getD_getElem?,Array.getElem?_push,Nat.ne_of_lt hq]
     ·rw [g2 acc.size (by simp)]
      simp [Array.getD_eq_getD_getElem?]
    ·obtain ⟨pre,p1,p2,o,p3,p4⟩:=g1 k (by simp;omega) (by simp at h2 ⊢;omega)
     refine ⟨pre,p1,p2,o,?_,p4⟩
     rw [←p3]
     simp only [Array.size_push]
     rw [show k-acc.size=(k-(acc.size+1))+1 by omega]
     rfl
   ·rw [g2 q (by simp;omega)]
    simp [Array.getD_eq_getD_getElem?,Array.getElem?_push,Nat.ne_of_lt hq]
 have hfold:Region.before ops=ops.toList.foldl (fun acc o=>acc.push (o.after.foldl (fun s e=>if Region.binds .any e then s ||| 2^e.on ||| acc.getD e.on 0 else s) 0)) #[]:=by
  unfold Region.before
  rw [←Array.foldl_toList]
 obtain ⟨g1,_⟩:=hgen ops.toList #[]
 obtain ⟨pre,p1,p2,o,p3,p4⟩:=g1 j (by simp) (by simpa using hj)
 rw [←hfold] at p2 p4
 rw [p4] at hb
 have hsc : ∀ (l:List Edge) (s:Nat),(l.foldl (fun s e=>if Region.binds .any e then s ||| 2^e.on ||| pre.getD e.on 0 else s) s).testBit i=true →
   s.testBit i=true∨∃ e∈l,Region.binds .any e=true∧(e.on=i∨(pre.getD e.on 0).testBit i=true):=by
  intro l
  induction l with
  | nil=>intro s h;exact .inl h
  | cons e r ih=>
   intro s h
   rw [List.foldl_cons] at h
   rcases ih _ h with h' | ⟨e',he',hb',hh⟩
   ·split at h'
    ·rename_i hbind
     simp only [Nat.testBit_or,Bool.or_eq_true] at h'
     rcases h' with (h' | h')|h'
     ·exact .inl h'
     ·refine .inr ⟨e,List.mem_cons_self,hbind,.inl ?_⟩
      rw [Nat.testBit_two_pow] at h'
      simpa using h'
     ·exact .inr ⟨e,List.mem_cons_self,hbind,.inr h'⟩
    ·exact .inl h'
   ·exact .inr ⟨e',List.mem_cons_of_mem _ he',hb',hh⟩
 rw [←Array.foldl_toList] at hb
 rcases hsc o.after.toList 0 hb with h' | ⟨e,he,hbind,hh⟩
 ·simp at h'
 ·refine ⟨o,e,by simpa using p3,Array.mem_toList_iff.1 he,hbind,?_⟩
  rcases hh with hh|hh
  ·exact .inl hh
  ·have hlt:e.on<j:=by
    rcases Nat.lt_or_ge e.on j with h1|h1
    ·exact h1
    ·rw [Array.getD_eq_getD_getElem?,Array.getElem?_eq_none (by omega)] at hh
     simp at hh
   exact .inr ⟨hlt,by rw [←p2 e.on hlt];exact hh⟩
theorem bU {D:Nat→Bool} (hcl : ∀ j o e,D j=true→ops[j]?=some o→e∈o.after→Region.binds .any e=true→D e.on=true):
  ∀ j,j<ops.size→D j=true→∀ i,((Region.before ops).getD j 0).testBit i=true→D i=true:=by
 intro j
 induction j using Nat.strongRecOn with
 | _ j ih=>
  intro hj hD i hb
  obtain ⟨o,e,ho,he,hbind,hh⟩:=i8 ops j i hj hb
  have hDe:=hcl j o e hD ho he hbind
  rcases hh with rfl|⟨hlt,hb'⟩
  ·exact hDe
  ·exact ih e.on hlt (by omega) hDe i hb'
theorem g8 {D:Nat→Bool} (hcl : ∀ j o e,D j=true→ops[j]?=some o→e∈o.after→Region.binds .any e=true→D e.on=true) {j:Nat} {o:Oper} (ho:ops[j]?=some o)
  (hr : ∀ e,e∈o.after→Region.binds .any e=true→D e.on=true) : ∀ i,((Region.before ops).getD j 0).testBit i=true→D i=true:=by
 intro i hb
 have hj:j<ops.size:=(Array.getElem?_eq_some_iff.1 ho).1
 obtain ⟨o',e,ho',he,hbind,hh⟩:=i8 ops j i hj hb
 obtain rfl:o=o':=Option.some.inj (ho.symm.trans ho')
 have hDe:=hr e he hbind
 rcases hh with rfl|⟨hlt,hb'⟩
 ·exact hDe
 ·exact bU hcl e.on (by omega) hDe i hb'
structure Facts (c:Ctx) (E:Nat→Env) (Hs:Nat→Hp) (R:Nat→LV) (tr:List Tr) (k:Nat):Prop where
 lo:(tr.getD k default).lo=c.nx+(Hs k).new.length
 hi:(tr.getD k default).hi=c.nx+(Hs (k+1)).new.length
 le:(Hs k).new.length≤(Hs (k+1)).new.length
 frame : ∀ id,id<c.nx+(Hs k).new.length→¬((tr.getD k default).md=true∧id∈(tr.getD k default).tch)→look c.H c.nx (Hs (k+1)) id=look c.H c.nx (Hs k) id
 alive : ∀ id∈(tr.getD k default).tch,(look c.H c.nx (Hs k) id).isSome=true
 env : ∀ t,get (E (k+1)) t=if (tr.getD k default).wr=some t then R k else get (E k) t
 keys:Keys c.H (Hs k)→Keys c.H (Hs (k+1))
theorem Reg.facts (g:Reg P imT c nt ops E Hs R tr) (k:Nat) (hk:k<ops.size):Facts c E Hs R tr k:=by
 have ho:ops[k]?=some ops[k]:=by simp [hk]
 rcases g.step k _ ho with ⟨x,hw,hx,hr,ht,he,hh⟩|⟨hw,hr,ht,he,hh⟩
 ·obtain ⟨s1,s2⟩:=fC hx
  refine ⟨by rw [ht],by rw [ht,hh],by rw [hh];exact s1.len,fun id hid hn => ?_,fun id hid => ?_,fun t => ?_,fun hkk => ?_⟩
  ·rw [hh];exact s1.frame g.sound hid (by rw [ht] at hn;exact hn)
  ·exact s2 rfl id (by rw [ht] at hid;exact hid)
  ·rw [he,mP,hr,ht]
  ·rw [hh];exact s1.keys g.sound hkk
 ·refine ⟨by rw [ht],by rw [ht,hh],by rw [hh];exact Nat.le_refl _,fun id hid hn=>by rw [hh],fun id hid => ?_,fun t => ?_,fun hkk=>by rw [hh];exact hkk⟩
  ·rw [ht] at hid;cases hid
  ·rw [he,mP,hr,ht]
theorem Facts.lt {k:Nat} (f:Facts c E Hs R tr k) {id:Nat} (hid:id∈(tr.getD k default).tch):id<c.nx+(Hs k).new.length:=by
 rcases Nat.lt_or_ge id (c.nx+(Hs k).new.length) with h|h
 ·exact h
 ·have:=f.alive id hid;rw [bm h] at this;cases this
theorem Reg.len_mono (g:Reg P imT c nt ops E Hs R tr) : ∀ k j,k≤j→j≤ops.size→(Hs k).new.length≤(Hs j).new.length:=by
 intro k j hkj
 induction j with
 | zero=>intro _;obtain rfl:k=0:=(by omega);exact Nat.le_refl _
 | succ j ih=>
  intro hj
  by_cases e:k=j+1
  ·rw [e];exact Nat.le_refl _
  ·exact Nat.le_trans (ih (by omega) (by omega)) (g.facts j (by omega)).le
theorem cd {a b:Tr} (h:apartT a b=true):(∀ d,a.wr=some d→d∉b.rds∧b.wr≠some d)∧(∀ d,b.wr=some d→d∉a.rds) ∧
  (∀ x∈a.tch,(a.md=true∨b.md=true)→x∉b.tch)∧∀ x∈b.tch,¬(a.lo≤x∧x<a.hi):=by
 unfold apartT at h
 simp only [Bool.and_eq_true] at h
 obtain ⟨⟨⟨h1,h2⟩,h3⟩,h4⟩:=h
 refine ⟨fun d hd => ?_,fun d hd => ?_,fun x hx hm hb => ?_,fun x hx hr => ?_⟩
 ·rw [hd] at h1;simpa using h1
 ·rw [hd] at h2;simpa using h2
 ·have:=List.all_eq_true.1 h3 x hx
  have hm':(a.md||b.md)=true:=by simpa using hm
  have hb':b.tch.contains x=true:=by simpa using hb
  rw [hm',hb'] at this
  cases this
 ·have:=List.all_eq_true.1 h4 x hx
  simp [hr.1,hr.2] at this
theorem ue (g:Reg P imT c nt ops E Hs R tr) {D:Nat→Bool} (hcl : ∀ j o e,D j=true→ops[j]?=some o→e∈o.after→Region.binds .any e=true→D e.on=true) {i:Nat} {o:Oper} (ho:ops[i]?=some o)
  (hr : ∀ e,e∈o.after→Region.binds .any e=true→D e.on=true) (hD:D i=false) (t:Nat) (ht:t∈(tr.getD i default).rds):eD (E 0) R tr D ops.size t=get (E i) t:=by
 have hi:i<ops.size:=(Array.getElem?_eq_some_iff.1 ho).1
 have h1 : ∀ k,k≤i→eD (E 0) R tr D k t=get (E k) t:=by
  intro k
  induction k with
  | zero=>intro _;rfl
  | succ k ih=>
   intro hk
   rw [(g.facts k (by omega)).env t,eD]
   by_cases hw:(tr.getD k default).wr=some t
   ·have hDk:D k=true:=by
     cases hb:((Region.before ops).getD i 0).testBit k with
     | true=>exact g8 hcl ho hr k hb
     | false=>exact absurd ht ((cd (g.apart k i (by omega) hi hb)).1 t hw).1
    rw [if_pos ⟨hDk,hw⟩,if_pos hw]
   ·rw [if_neg (fun e=>hw e.2),if_neg hw]
    exact ih (by omega)
 have h2 : ∀ k,i≤k→k≤ops.size→eD (E 0) R tr D k t=get (E i) t:=by
  intro k
  induction k with
  | zero=>intro hk _;obtain rfl:i=0:=(by omega);rfl
  | succ k ih=>
   intro hk hks
   by_cases e:i=k+1
   ·rw [←e];exact h1 i (Nat.le_refl _)
   ·rw [eD,if_neg,ih (by omega) (by omega)]
    rintro ⟨hDk,hw⟩
    by_cases e2:k=i
    ·subst e2;rw [hD] at hDk;cases hDk
    ·cases hb:((Region.before ops).getD k 0).testBit i with
     | true=>rw [bU hcl k (by omega) hDk i hb] at hD;cases hD
     | false=>exact (cd (g.apart i k (by omega) (by omega) hb)).2.1 t hw ht
 exact h2 ops.size (by omega) (Nat.le_refl _)
theorem gv (g:Reg P imT c nt ops E Hs R tr) {D:Nat→Bool} (hcl : ∀ j o e,D j=true→ops[j]?=some o→e∈o.after→Region.binds .any e=true→D e.on=true) {i:Nat} {o:Oper} (ho:ops[i]?=some o)
  (hr : ∀ e,e∈o.after→Region.binds .any e=true→D e.on=true) (hD:D i=false) (id:Nat) (hid:id∈(tr.getD i default).tch):lD c.H c.nx Hs tr D ops.size id=look c.H c.nx (Hs i) id:=by
 have hi:i<ops.size:=(Array.getElem?_eq_some_iff.1 ho).1
 have hidlt:=(g.facts i hi).lt hid
 have h1 : ∀ k,k≤i→lD c.H c.nx Hs tr D k id=look c.H c.nx (Hs k) id:=by
  intro k
  induction k with
  | zero=>intro _;rfl
  | succ k ih=>
   intro hk
   have f:=g.facts k (by omega)
   have hDk:(((tr.getD k default).md=true∧id∈(tr.getD k default).tch)∨((tr.getD k default).lo≤id∧id<(tr.getD k default).hi))→D k=true:=fun hc=>by
    cases hb:((Region.before ops).getD i 0).testBit k with
    | true=>exact g8 hcl ho hr k hb
    | false=>
     have ha:=cd (g.apart k i (by omega) hi hb)
     rcases hc with ⟨hm,ht⟩|hc
     ·exact absurd hid (ha.2.2.1 id ht (.inl hm))
     ·exact absurd hc (ha.2.2.2 id hid)
   rw [lD]
   by_cases hc:((tr.getD k default).md=true∧id∈(tr.getD k default).tch)∨((tr.getD k default).lo≤id∧id<(tr.getD k default).hi)
   ·rw [if_pos ⟨hDk hc,hc⟩]
   ·rw [if_neg (fun e=>hc e.2),ih (by omega)]
    rcases Nat.lt_or_ge id (c.nx+(Hs k).new.length) with h3|h3
    ·exact (f.frame id h3 fun e=>hc (.inl e)).symm
    ·rw [bm h3,bm]
     rw [f.lo,f.hi] at hc
     rcases Nat.lt_or_ge id (c.nx+(Hs (k+1)).new.length) with h4|h4
     ·exact absurd (.inr ⟨h3,h4⟩) hc
     ·exact h4
 have h2 : ∀ k,i≤k→k≤ops.size→lD c.H c.nx Hs tr D k id=look c.H c.nx (Hs i) id:=by
  intro k
  induction k with
  | zero=>intro hk _;obtain rfl:i=0:=(by omega);rfl
  | succ k ih=>
   intro hk hks
   by_cases e:i=k+1
   ·rw [←e];exact h1 i (Nat.le_refl _)
   ·rw [lD,if_neg,ih (by omega) (by omega)]
    rintro ⟨hDk,hc⟩
    by_cases e2:k=i
    ·subst e2;rw [hD] at hDk;cases hDk
    ·cases hb:((Region.before ops).getD k 0).testBit i with
     | true=>rw [bU hcl k (by omega) hDk i hb] at hD;cases hD
     | false=>
      have ha:=cd (g.apart i k (by omega) (by omega) hb)
      rcases hc with ⟨hm,ht⟩|hc
      ·exact ha.2.2.1 id hid (.inr hm) ht
      ·rw [(g.facts k (by omega)).lo] at hc
       have:=g.len_mono i k (by omega) (by omega)
       omega
 exact h2 ops.size (by omega) (Nat.le_refl _)
theorem vH (g:Reg P imT c nt ops E Hs R tr) {D D':Nat→Bool} (hcl : ∀ j o e,D j=true→ops[j]?=some o→e∈o.after→Region.binds .any e=true→D e.on=true) {i:Nat} (hi:i<ops.size) (hD:D i=false) (hD' : ∀ k,D' k=if k=i then true else D k) (t:Nat):
  eD (E 0) R tr D' ops.size t=if (tr.getD i default).wr=some t then R i else eD (E 0) R tr D ops.size t:=by
 have h1 : ∀ k,k≤i→eD (E 0) R tr D' k t=eD (E 0) R tr D k t:=by
  intro k
  induction k with
  | zero=>intro _;rfl
  | succ k ih=>intro hk;rw [eD,eD,ih (by omega),hD' k,if_neg (by omega : ¬k=i)]
 have h2 : ∀ k,i<k→k≤ops.size→eD (E 0) R tr D' k t=if (tr.getD i default).wr=some t then R i else eD (E 0) R tr D k t:=by
  intro k
  induction k with
  | zero=>intro hk _;omega
  | succ k ih=>
   intro hk hks
   by_cases e:k=i
   ·subst e
    rw [eD,h1 k (Nat.le_refl _),hD' k,if_pos rfl]
    by_cases hw:(tr.getD k default).wr=some t
    ·rw [if_pos ⟨rfl,hw⟩,if_pos hw]
    ·rw [if_neg (fun e=>hw e.2),if_neg hw,eD,if_neg (fun e=>hw e.2)]
   ·rw [eD,hD' k,if_neg e,ih (by omega) (by omega),eD]
    by_cases hc:D k=true∧(tr.getD k default).wr=some t
    ·rw [if_pos hc,if_pos hc,if_neg]
     intro hw
     cases hb:((Region.before ops).getD k 0).testBit i with
     | true=>rw [bU hcl k (by omega) hc.1 i hb] at hD;cases hD
     | false=>exact ((cd (g.apart i k (by omega) (by omega) hb)).1 t hw).2 hc.2
    ·rw [if_neg hc,if_neg hc]
 exact h2 ops.size hi (Nat.le_refl _)
theorem iS (g:Reg P imT c nt ops E Hs R tr) {D D':Nat→Bool} (hcl : ∀ j o e,D j=true→ops[j]?=some o→e∈o.after→Region.binds .any e=true→D e.on=true) {i:Nat} (hi:i<ops.size) (hD:D i=false) (hD' : ∀ k,D' k=if k=i then true else D k) (id:Nat):
  lD c.H c.nx Hs tr D' ops.size id=if ((tr.getD i default).md=true∧id∈(tr.getD i default).tch)∨((tr.getD i default).lo≤id∧id<(tr.getD i default).hi) then look c.H c.nx (Hs (i+1)) id else lD c.H c.nx Hs tr D ops.size id:=by
 have h1 : ∀ k,k≤i→lD c.H c.nx Hs tr D' k id=lD c.H c.nx Hs tr D k id:=by
  intro k
  induction k with
  | zero=>intro _;rfl
  | succ k ih=>intro hk;rw [lD,lD,ih (by omega),hD' k,if_neg (by omega : ¬k=i)]
 have h2 : ∀ k,i<k→k≤ops.size→lD c.H c.nx Hs tr D' k id=if ((tr.getD i default).md=true∧id∈(tr.getD i default).tch)∨((tr.getD i default).lo≤id∧id<(tr.getD i default).hi) then look c.H c.nx (Hs (i+1)) id else lD c.H c.nx Hs tr D k id:=by
  intro k
  induction k with
  | zero=>intro hk _;omega
  | succ k ih=>
   intro hk hks
   by_cases e:k=i
   ·subst e
    rw [lD,h1 k (Nat.le_refl _),hD' k,if_pos rfl]
    by_cases hw:((tr.getD k default).md=true∧id∈(tr.getD k default).tch)∨((tr.getD k default).lo≤id∧id<(tr.getD k default).hi)
    ·rw [if_pos ⟨rfl,hw⟩,if_pos hw]
    ·rw [if_neg (fun e=>hw e.2),if_neg hw,lD,if_neg (fun e=>hw e.2)]
   ·rw [lD,hD' k,if_neg e,ih (by omega) (by omega),lD]
    by_cases hc:D k=true∧(((tr.getD k default).md=true∧id∈(tr.getD k default).tch)∨((tr.getD k default).lo≤id∧id<(tr.getD k default).hi))
    ·rw [if_pos hc,if_pos hc,if_neg]
     intro hw
     cases hb:((Region.before ops).getD k 0).testBit i with
     | true=>rw [bU hcl k (by omega) hc.1 i hb] at hD;cases hD
     | false=>
      have ha:=cd (g.apart i k (by omega) (by omega) hb)
      have fi:=g.facts i hi
      have fk:=g.facts k (by omega)
      have hmono:=g.len_mono (i+1) k (by omega) (by omega)
      rcases hw with ⟨hm,ht⟩|hw<;>rcases hc.2 with ⟨hm2,ht2⟩|hc2
      ·exact ha.2.2.1 id ht (.inl hm) ht2
      ·have:=fi.lt ht
       rw [fk.lo] at hc2
       have:=g.len_mono i k (by omega) (by omega)
       omega
      ·exact ha.2.2.2 id ht2 hw
      ·rw [fi.hi] at hw;rw [fk.lo] at hc2;omega
    ·rw [if_neg hc,if_neg hc]
 exact h2 ops.size hi (Nat.le_refl _)
end
end Go.Sx
end

section
namespace Go.Sx
open Go
theorem gV {live:List Nat} {env:Env} {t:Nat} : get (keep live env) t=if t∈live then get env t else .junk:=by
 unfold keep
 induction live with
 | nil=>rfl
 | cons x r ih=>
  simp only [List.map_cons,get,List.mem_cons]
  by_cases e:t=x
  ·rw [if_pos e,if_pos (.inl e),e]
  ·rw [if_neg e,ih]
   by_cases h:t∈r
   ·rw [if_pos h,if_pos (.inr h)]
   ·rw [if_neg h,if_neg (fun h'=>h'.elim e h)]
section
variable {P:Program} {imT:An} {c:Ctx} {I0:Nat→Prop} {μ0:Mu} {w0:World} {nt:Nat} {ops:Array Oper}
variable {E:Nat→Env} {Hs:Nat→Hp} {R:Nat→LV} {tr:List Tr}
theorem DInv.hr {D:Nat→Bool} {a:Act} {w:World} {I:Nat→Prop} {μ:Mu} (d:DInv c I0 μ0 w0 nt ops E Hs R tr D a w I μ):HR I μ w (fun _=>True) (lD c.H c.nx Hs tr D ops.size):=d.goes.hr.sub fun _ _=>⟨.inl trivial,rfl⟩
theorem tE (g:Reg P imT c nt ops E Hs R tr) {Q:Exit→Act→World→Prop} {D D':Nat→Bool} {a:Act} {w:World} {I:Nat→Prop} {μ:Mu} (d:DInv c I0 μ0 w0 nt ops E Hs R tr D a w I μ) {i:Nat} {o:Oper} (ho:ops[i]?=some o)
  (hr : ∀ e,e∈o.after→Region.binds .any e=true→D e.on=true) (hD:D i=false) (hD' : ∀ k,D' k=if k=i then true else D k) {K:Act→World→Prop} (hK : ∀ a' w' I' μ',DInv c I0 μ0 w0 nt ops E Hs R tr D' a' w' I' μ'→K a' w'):
  wpOp P ops Q i K a w:=by
 have hi:i<ops.size:=(Array.getElem?_eq_some_iff.1 ho).1
 have f:=g.facts i hi
 have hst:=g.step i o ho
 have hclosed' : ∀ j o e,D' j=true→ops[j]?=some o→e∈o.after→Region.binds .any e=true→D' e.on=true:=by
  intro j oj e hj hoj he hb
  rw [hD'] at hj ⊢
  by_cases e1:e.on=i
  ·rw [if_pos e1]
  ·rw [if_neg e1]
   by_cases e2:j=i
   ·subst e2
    obtain rfl:o=oj:=Option.some.inj (ho.symm.trans hoj)
    exact hr e he hb
   ·rw [if_neg e2] at hj
    exact d.closed j oj e hj hoj he hb
 have hfree : ∀ id,c.nx+(Hs i).new.length≤id→id<c.nx+(Hs (i+1)).new.length→μ id=none:=fun id h1 h2=>by
  refine d.none id (Nat.le_trans (Nat.add_le_add_left (g.len_mono 0 i (by omega) (by omega)) _) h1) fun k hk hDk => ?_
  have fk:=g.facts k hk
  rw [fk.lo,fk.hi]
  by_cases e:k=i
  ·subst e;rw [hD] at hDk;cases hDk
  ·rcases Nat.lt_or_ge k i with h3|h3
   ·have:=g.len_mono (k+1) i (by omega) (by omega);omega
   ·have:=g.len_mono (i+1) k (by omega) (by omega);omega
 have hrd : ∀ t∈(tr.getD i default).rds,VR I μ w (get (E i) t) (a.tmps.getD t undef):=fun t ht=>by
  rw [←ue g d.closed ho hr hD t ht];exact d.env t
 have hkeep:EnvR I μ w (keep (tr.getD i default).rds (E i)) a:=fun t=>by
  rw [gV]
  split
  ·rename_i ht;exact hrd t ht
  ·exact .junk _
 have fin : ∀ (I':Nat→Prop) (μ':Mu) (w':World) (v:Value),(∀ t,o.dst=some t→t<nt)→(tr.getD i default).wr=o.dst→VR I' μ' w' (R i) v →
   Goes I I' μ μ' w w' (lD c.H c.nx Hs tr D ops.size) (lD c.H c.nx Hs tr D' ops.size) (fun _=>True) (fun id=>c.nx+(Hs i).new.length≤id∧id<c.nx+(Hs (i+1)).new.length)→K (a.put o.dst v) w':=by
  intro I' μ' w' v hdst hwr hv hg
  refine hK _ _ I' μ' ⟨fun t => ?_,?_,?_,d.goes.trans hg fun id => ?_,fun id h1 h2 => ?_,d.glob.mono hg.up (hg.imm_block d.hr),hclosed'⟩
  ·rw [vH g d.closed hi hD hD' t,hwr]
   cases hdo:o.dst with
   | none=>simp only [Act.put,reduceCtorEq,if_false];exact hg.vr d.hr (d.env t)
   | some q=>
    simp only [Act.put,Option.some.injEq]
    by_cases e:q=t
    ·subst e
     rw [if_pos rfl,Array.getD_eq_getD_getElem?,Array.getElem?_setIfInBounds_self_of_lt (Nat.lt_of_lt_of_le (hdst q hdo) d.size)]
     exact hv
    ·rw [if_neg e,Array.getD_eq_getD_getElem?,Array.getElem?_setIfInBounds_ne e,←Array.getD_eq_getD_getElem?]
     exact hg.vr d.hr (d.env t)
  ·cases o.dst<;>simp [Act.put,d.size]
  ·cases o.dst<;>simp [Act.put,d.defers]
  ·constructor
   ·rintro (h|⟨k,hk,hDk,h⟩)
    ·exact .inl (.inl h)
    ·rw [hD'] at hDk
     by_cases e:k=i
     ·subst e;rw [f.lo,f.hi] at h;exact .inr h
     ·rw [if_neg e] at hDk;exact .inl (.inr ⟨k,hk,hDk,h⟩)
   ·rintro ((h|⟨k,hk,hDk,h⟩)|h)
    ·exact .inl h
    ·refine .inr ⟨k,hk,?_,h⟩
     rw [hD'];split
     ·rfl
     ·exact hDk
    ·exact .inr ⟨i,hi,by rw [hD',if_pos rfl],by rw [f.lo,f.hi];exact h⟩
  ·rw [hg.mu id fun h=>h2 i hi (by rw [hD',if_pos rfl]) (by rw [f.lo,f.hi];exact h)]
   refine d.none id h1 fun k hk hDk=>h2 k hk ?_
   rw [hD'];split
   ·rfl
   ·exact hDk
 unfold wpOp
 rw [ho]
 simp only []
 rcases jc (P:=P) (imT:=imT) (nt:=nt) (ops:=ops) (o:=o) with ⟨gd,hgd,hd,hc⟩|hc
 ·rw [hc] at hst
  rcases hst with ⟨x,hw,hx,hR,ht,he,hh⟩|⟨hw,hR,ht,he,hh⟩
  ·simp only at hw hx ht
   have hrds:(tr.getD i default).rds=(cop P (imT.imT o.dst) o.op).slots++gslot gd:=by rw [ht]
   have hw':wants (keep (tr.getD i default).rds (E i)) gd=some true:=by
    rw [←hw]
    cases gd with
    | none=>rfl
    | some q=>obtain ⟨t,b⟩:=q;simp only [wants];rw [gV,if_pos (by rw [hrds];simp [gslot])]
   have hx':evOp c true (keep (tr.getD i default).rds (E i)) (Hs i) (cop P (imT.imT o.dst) o.op)=some x:=by
    rw [←hx]
    exact pM fun t ht'=>by rw [gV,if_pos (by rw [hrds];exact List.mem_append_left _ ht')]
   rw [cU hkeep hgd hw',if_pos rfl]
   have htch : ∀ id,id∈x.tch↔id∈(tr.getD i default).tch:=fun id=>by rw [ht]
   have hmd:x.md=(tr.getD i default).md:=by rw [ht]
   have hHT:HR I μ w (fun id=>true=false∨id∈x.tch) (look c.H c.nx (Hs i)):=d.hr.sub fun id hid=>⟨trivial,by
    rcases hid with h|h
    ·cases h
    ·exact (gv g d.closed ho hr hD id ((htch id).1 h)).symm⟩
   refine .inl (jT (dr:=true) g.sound hx' hHT (fun id h1 h2=>hfree id h1 (by rw [hh];exact h2.resolve_left (by simp))) d.glob hkeep fun I' μ' w' v hgo hv => ?_)
   refine fin I' μ' w' v hd (by rw [ht]) (by rw [hR];exact hv) ?_
   have hgo':Goes I I' μ μ' w w' (look c.H c.nx (Hs i)) (look c.H c.nx (Hs (i+1))) (fun id=>true=false∨id∈x.tch) (fun id=>c.nx+(Hs i).new.length≤id∧id<c.nx+(Hs (i+1)).new.length):=by rw [hh];exact hgo
   refine hgo'.lift d.hr (fun id hid => ?_) (fun id hid => ?_) fun id h1 h2 => ?_
   ·rcases hid with h|h
    ·cases h
    ·exact gv g d.closed ho hr hD id ((htch id).1 h)
   ·rw [iS g d.closed hi hD hD' id]
    rcases hid with (h|h)|h
    ·cases h
    ·by_cases hc2:((tr.getD i default).md=true∧id∈(tr.getD i default).tch)∨((tr.getD i default).lo≤id∧id<(tr.getD i default).hi)
     ·rw [if_pos hc2]
     ·rw [if_neg hc2,gv g d.closed ho hr hD id ((htch id).1 h)]
      exact (f.frame id (f.lt ((htch id).1 h)) fun e=>hc2 (.inl e)).symm
    ·rw [if_pos (.inr (by rw [f.lo,f.hi];exact h))]
   ·rw [iS g d.closed hi hD hD' id,if_neg]
    rintro (h|h)
    ·exact h1 (.inr ((htch id).2 h.2))
    ·rw [f.lo,f.hi] at h;exact h2 h
  ·simp only at hw ht
   have hrds:(tr.getD i default).rds=gslot gd:=by rw [ht]
   have hw':wants (keep (tr.getD i default).rds (E i)) gd=some false:=by
    rw [←hw]
    cases gd with
    | none=>rfl
    | some q=>obtain ⟨t,b⟩:=q;simp only [wants];rw [gV,if_pos (by rw [hrds];simp [gslot])]
   rw [cU hkeep hgd hw',if_neg (by simp)]
   refine fin I μ w undef hd (by rw [ht]) (by rw [hR];exact .p (.s _)) ?_
   have hself:Goes I I μ μ w w (lD c.H c.nx Hs tr D ops.size) (lD c.H c.nx Hs tr D ops.size) (fun _=>False) (fun _=>False):=Goes.refl d.hr.lt
   have hsame:lD c.H c.nx Hs tr D' ops.size=lD c.H c.nx Hs tr D ops.size:=funext fun id=>by
    rw [iS g d.closed hi hD hD' id,if_neg]
    rw [ht]
    rintro (h|h)
    ·exact absurd h.1 (by simp)
    ·have h1:c.nx+(Hs i).new.length≤id∧id<c.nx+(Hs i).new.length:=h
     omega
   rw [hsame]
   exact (hself.widen d.hr fun _ h=>h.elim).congrN fun id=>by rw [hh];exact ⟨fun h=>by omega,fun h=>h.elim⟩
 ·rw [hc] at hst
  rcases hst with ⟨x,hw,hx,_⟩|⟨hw,_⟩
  ·simp [evOp] at hx
  ·simp [wants] at hw
theorem lC {p q:Nat→Bool} : ∀ (l:List Nat),(∀ k,q k=true→p k=true)→(∃ k∈l,p k=true∧q k=false)→(l.filter q).length<(l.filter p).length
 | [],_,h=>by obtain ⟨k,hk,_⟩:=h;cases hk
 | x::r,hpq,h=>by
  have hle : ∀ (l:List Nat),(l.filter q).length≤(l.filter p).length:=by
   intro l
   induction l with
   | nil=>exact Nat.le_refl _
   | cons y l ih=>
    by_cases hq:q y=true
    ·rw [List.filter_cons_of_pos hq,List.filter_cons_of_pos (hpq y hq)];simpa using ih
    ·rw [List.filter_cons_of_neg hq]
     by_cases hp:p y=true
     ·rw [List.filter_cons_of_pos hp];simp;omega
     ·rw [List.filter_cons_of_neg hp];exact ih
  obtain ⟨k,hk,hp,hq⟩:=h
  rcases List.mem_cons.1 hk with rfl|hk
  ·rw [List.filter_cons_of_neg (by rw [hq];simp),List.filter_cons_of_pos hp]
   have:=hle r
   simp;omega
  ·have:=lC r hpq ⟨k,hk,hp,hq⟩
   by_cases hqx:q x=true
   ·rw [List.filter_cons_of_pos hqx,List.filter_cons_of_pos (hpq x hqx)];simp;omega
   ·rw [List.filter_cons_of_neg hqx]
    by_cases hpx:p x=true
    ·rw [List.filter_cons_of_pos hpx];simp;omega
    ·rw [List.filter_cons_of_neg hpx];exact this
theorem uW (g:Reg P imT c nt ops E Hs R tr) (hk0:Keys c.H (Hs 0)) (hb0:HR I0 μ0 w0 (fun _=>True) c.H) {Q:Exit→Act→World→Prop} (hQ : ∀ a' w' I' μ',Inv c I0 μ0 w0 nt (E ops.size) (Hs ops.size) a' w' I' μ'→Q .normal a' w'):
  ∀ (fuel:Nat) (listed:Array Bool) (a:Act) (w:World) (I:Nat→Prop) (μ:Mu),listed.size=ops.size→((List.range ops.size).filter fun k => !listed.getD k false).length≤fuel →
   DInv c I0 μ0 w0 nt ops E Hs R tr (fun k=>listed.getD k false) a w I μ→wpAny P .any ops Q fuel listed a w:=by
 have hdone : ∀ (listed:Array Bool) (a:Act) (w:World) (I:Nat→Prop) (μ:Mu),(∀ k,k<ops.size→listed.getD k false=true)→DInv c I0 μ0 w0 nt ops E Hs R tr (fun k=>listed.getD k false) a w I μ→Q .normal a w:=by
  intro listed a w I μ hall d
  have he : ∀ k,k≤ops.size→∀ t,eD (E 0) R tr (fun k=>listed.getD k false) k t=get (E k) t:=by
   intro k
   induction k with
   | zero=>intro _ t;rfl
   | succ k ih=>
    intro hk t
    rw [eD,(g.facts k (by omega)).env t,ih (by omega)]
    have:=hall k (by omega)
    by_cases hw:(tr.getD k default).wr=some t
    ·rw [if_pos ⟨this,hw⟩,if_pos hw]
    ·rw [if_neg (fun e=>hw e.2),if_neg hw]
  have hl : ∀ k,k≤ops.size→∀ id,lD c.H c.nx Hs tr (fun k=>listed.getD k false) k id=look c.H c.nx (Hs k) id:=by
   intro k
   induction k with
   | zero=>intro _ id;rfl
   | succ k ih=>
    intro hk id
    have f:=g.facts k (by omega)
    have:=hall k (by omega)
    rw [lD]
    by_cases hc:((tr.getD k default).md=true∧id∈(tr.getD k default).tch)∨((tr.getD k default).lo≤id∧id<(tr.getD k default).hi)
    ·rw [if_pos ⟨this,hc⟩]
    ·rw [if_neg (fun e=>hc e.2),ih (by omega)]
     rcases Nat.lt_or_ge id (c.nx+(Hs k).new.length) with h3|h3
     ·exact (f.frame id h3 fun e=>hc (.inl e)).symm
     ·rw [bm h3,bm]
      rw [f.lo,f.hi] at hc
      rcases Nat.lt_or_ge id (c.nx+(Hs (k+1)).new.length) with h4|h4
      ·exact absurd (.inr ⟨h3,h4⟩) hc
      ·exact h4
  have hkeys : ∀ k,k≤ops.size→Keys c.H (Hs k):=by
   intro k
   induction k with
   | zero=>intro _;exact hk0
   | succ k ih=>intro hk;exact (g.facts k (by omega)).keys (ih (by omega))
  have hlk:lD c.H c.nx Hs tr (fun k=>listed.getD k false) ops.size=look c.H c.nx (Hs ops.size):=funext fun id=>hl ops.size (Nat.le_refl _) id
  have hrange : ∀ n,n≤ops.size→∀ id,c.nx+(Hs 0).new.length≤id→id<c.nx+(Hs n).new.length→∃ k,k<n∧c.nx+(Hs k).new.length≤id∧id<c.nx+(Hs (k+1)).new.length:=by
   intro n
   induction n with
   | zero=>intro _ id h1 h2;omega
   | succ n ih=>
    intro hn id h1 h2
    rcases Nat.lt_or_ge id (c.nx+(Hs n).new.length) with h3|h3
    ·obtain ⟨k,hk,hh⟩:=ih (by omega) id h1 h3
     exact ⟨k,by omega,hh⟩
    ·exact ⟨n,by omega,h3,h2⟩
  have hmono0:=g.len_mono 0 ops.size (by omega) (Nat.le_refl _)
  have hNiff : ∀ id,(c.nx≤id∧id<c.nx+(Hs ops.size).new.length)↔((c.nx≤id∧id<c.nx+(Hs 0).new.length)∨∃ k,k<ops.size∧listed.getD k false=true∧(tr.getD k default).lo≤id∧id<(tr.getD k default).hi):=by
   intro id
   constructor
   ·rintro ⟨h1,h2⟩
    rcases Nat.lt_or_ge id (c.nx+(Hs 0).new.length) with h3|h3
    ·exact .inl ⟨h1,h3⟩
    ·obtain ⟨k,hk,hh⟩:=hrange ops.size (Nat.le_refl _) id h3 h2
     exact .inr ⟨k,hk,hall k hk,by rw [(g.facts k hk).lo,(g.facts k hk).hi];exact hh⟩
   ·rintro (h|⟨k,hk,_,h⟩)
    ·exact ⟨h.1,by omega⟩
    ·rw [(g.facts k hk).lo,(g.facts k hk).hi] at h
     have:=g.len_mono (k+1) ops.size (by omega) (Nat.le_refl _)
     exact ⟨by omega,by omega⟩
  refine hQ a w I μ ⟨fun t => ?_,d.size,d.defers,?_,fun id hid => ?_,d.glob,hkeys ops.size (Nat.le_refl _),hb0⟩
  ·rw [←he ops.size (Nat.le_refl _) t];exact d.env t
  ·have:=d.goes
   rw [hlk] at this
   exact this.congrN hNiff
  ·refine d.none id (by omega) fun k hk hDk h => ?_
   rw [(g.facts k hk).lo,(g.facts k hk).hi] at h
   have:=g.len_mono (k+1) ops.size (by omega) (Nat.le_refl _)
   omega
 have hready : ∀ (listed:Array Bool),listed.size=ops.size→∀ i∈Region.ready .any ops listed,∃ o,ops[i]?=some o∧listed.getD i false=false∧∀ e,e∈o.after→Region.binds .any e=true→listed.getD e.on false=true:=by
  intro listed hs i hi
  unfold Region.ready at hi
  rw [List.mem_filter,List.mem_range] at hi
  obtain ⟨hlt,h⟩:=hi
  rw [Bool.and_eq_true] at h
  have ho:ops[i]?=some ops[i]:=by simp [hlt]
  rw [ho] at h
  simp only [Option.map_some,Option.getD_some] at h
  refine ⟨ops[i],ho,?_,fun e he hb => ?_⟩
  ·have h1:=h.1
   simp [hs,hlt] at h1 ⊢
   exact h1
  ·have:=Array.all_eq_true'.1 h.2 e he
   rw [hb] at this
   simpa using this
 have hnone : ∀ (listed:Array Bool),listed.size=ops.size→Region.ready .any ops listed=[]→∀ k,k<ops.size→listed.getD k false=true:=by
  intro listed hs hemp k
  induction k using Nat.strongRecOn with
  | _ k ih=>
   intro hk
   cases hl:listed.getD k false with
   | true=>rfl
   | false=>
    exfalso
    have ho:ops[k]?=some ops[k]:=by simp [hk]
    have hmem:k∈Region.ready .any ops listed:=by
     unfold Region.ready
     rw [List.mem_filter,List.mem_range]
     refine ⟨hk,?_⟩
     rw [ho,Bool.and_eq_true]
     simp only [Option.map_some,Option.getD_some]
     refine ⟨?_,?_⟩
     ·simp [hs,hk] at hl ⊢;exact hl
     ·rw [Array.all_eq_true']
      intro e he
      cases hb:Region.binds .any e with
      | false=>rfl
      | true=>
       have hlt:=g.edges k _ e ho he hb
       simp only [Bool.not_true,Bool.false_or]
       exact ih e.on hlt (by omega)
    rw [hemp] at hmem
    cases hmem
 intro fuel
 induction fuel with
 | zero=>
  intro listed a w I μ hs hf d
  have hall : ∀ k,k<ops.size→listed.getD k false=true:=fun k hk=>by
   cases hl:listed.getD k false with
   | true=>rfl
   | false=>
    have hmem:k∈(List.range ops.size).filter fun k => !listed.getD k false:=by
     rw [List.mem_filter,List.mem_range];exact ⟨hk,by simp [hl]⟩
    have:=List.length_pos_of_mem hmem
    omega
  refine ⟨?_,hdone listed a w I μ hall d⟩
  cases hr:Region.ready .any ops listed with
  | nil=>rfl
  | cons x r=>
   obtain ⟨o,ho,hl,_⟩:=hready listed hs x (by rw [hr];exact List.mem_cons_self)
   have:=hall x (Array.getElem?_eq_some_iff.1 ho).1
   rw [hl] at this;cases this
 | succ fuel ih=>
  intro listed a w I μ hs hf d
  refine ⟨fun h=>hdone listed a w I μ (hnone listed hs h) d,fun i hi => ?_⟩
  obtain ⟨o,ho,hl,hr⟩:=hready listed hs i hi
  have hlt:i<ops.size:=(Array.getElem?_eq_some_iff.1 ho).1
  have hset : ∀ k,(listed.setIfInBounds i true).getD k false=if k=i then true else listed.getD k false:=fun k=>by
   simp only [Array.getD_eq_getD_getElem?,Array.getElem?_setIfInBounds]
   by_cases e:k=i
   ·subst e;rw [if_pos rfl,if_pos rfl,if_pos (by omega)];rfl
   ·rw [if_neg (fun h=>e h.symm),if_neg e]
  refine tE g d ho hr hl hset fun a' w' I' μ' d'=>ih _ a' w' I' μ' (by simpa using hs) ?_ d'
  have:=lC (p:=fun k => !listed.getD k false) (q:=fun k => !(listed.setIfInBounds i true).getD k false) (List.range ops.size) (fun k hk=>by
    rw [hset] at hk
    split at hk
    ·cases hk
    ·exact hk) ⟨i,List.mem_range.2 hlt,by rw [hl];rfl,by rw [hset,if_pos rfl];rfl⟩
  omega
end
end Go.Sx
end

section
namespace Go.Sx
open Go
theorem ki (t:Tr) (m:Nat) : ∀ (l:List Tr) (k:Nat),pairsD t m k l=true ↔ ∀ i,i<l.length→(m.testBit (k+i)||apartD (l.getD i default) t)=true
 | [],k=>by simp [pairsD]
 | s::l,k=>by
  simp only [pairsD,Bool.and_eq_true,ki t m l (k+1)]
  constructor
  ·rintro ⟨h1,h2⟩ i hi
   match i with
   | 0=>simpa using h1
   | i+1=>
    have:=h2 i (by simp at hi;omega)
    rw [show k+1+i=k+(i+1) by omega] at this
    simpa using this
  ·intro h
   refine ⟨by simpa using h 0 (by simp),fun i hi => ?_⟩
   have:=h (i+1) (by simp;omega)
   rw [show k+(i+1)=k+1+i by omega] at this
   simpa using this
theorem ou (l r:List Tr) (i:Nat) (h:i<l.length):(l++r).getD i default=l.getD i default:=by
 simp [List.getD_eq_getElem?_getD,List.getElem?_append_left h]
theorem gq : ∀ (r seen:List Tr) (bs:List Nat),indepR seen r bs=true ↔ ∀ j,j<r.length→∀ i,i<seen.length+j→((bs.getD j 0).testBit i||apartD ((seen++r).getD i default) (r.getD j default))=true
 | [],seen,bs=>by simp [indepR]
 | t::r,seen,bs=>by
  have key:indepR seen (t::r) bs=(pairsD t (bs.getD 0 0) 0 seen&&indepR (seen++[t]) r bs.tail):=by cases bs<;>rfl
  rw [key,Bool.and_eq_true,ki,gq r (seen++[t]) bs.tail]
  constructor
  ·rintro ⟨h1,h2⟩ j hj i hi
   match j with
   | 0=>
    have:=h1 i (by simpa using hi)
    rw [Nat.zero_add] at this
    rw [ou _ _ _ (by simpa using hi)]
    exact this
   | j+1=>
    have:=h2 j (by simp at hj;omega) i (by simp;omega)
    rw [List.append_assoc] at this
    have e:bs.tail.getD j 0=bs.getD (j+1) 0:=by cases bs<;>simp
    rw [e] at this
    exact this
  ·intro h
   refine ⟨fun i hi => ?_,fun j hj i hi => ?_⟩
   ·have:=h 0 (by simp) i (by simpa using hi)
    rw [ou _ _ _ hi] at this
    rw [Nat.zero_add]
    exact this
   ·have:=h (j+1) (by simp;omega) i (by simp at hi;omega)
    have e:bs.tail.getD j 0=bs.getD (j+1) 0:=by cases bs<;>simp
    rw [e,List.append_assoc]
    exact this
theorem ko : ∀ {tr:List Tr},quickD tr=true→∀ t∈tr,(t.md=true→t.tch=[])∧t.lo=t.hi
 | [],_,_,h=>by cases h
 | a::r,h,t,ht=>by
  simp only [quickD,Bool.and_eq_true] at h
  obtain ⟨⟨h1,h2⟩,h3⟩:=h
  rcases List.mem_cons.1 ht with rfl|ht
  ·refine ⟨fun hm => ?_,by simpa using h2⟩
   rw [hm] at h1
   simpa using h1
  ·exact ko h3 t ht
theorem gM {a b:Tr} (ha:(a.md=true→a.tch=[])∧a.lo=a.hi) (hb:(b.md=true→b.tch=[])∧b.lo=b.hi):apartD a b=true:=by
 unfold apartD
 rw [Bool.and_eq_true,List.all_eq_true,List.all_eq_true]
 refine ⟨fun x hx => ?_,fun x _ => ?_⟩
 ·cases h1:a.md with
  | true=>rw [ha.1 h1] at hx;cases hx
  | false=>
   cases h2:b.md with
   | true=>rw [hb.1 h2];simp
   | false=>simp
 ·simp only [Bool.not_eq_true',Bool.and_eq_false_iff,decide_eq_false_iff_not]
  have:=ha.2
  omega
theorem mS {tr:List Tr} {bs:List Nat} (h:indepD tr bs=true) (i j:Nat) (hij:i<j) (hj:j<tr.length) (hb:(bs.getD j 0).testBit i=false):apartD (tr.getD i default) (tr.getD j default)=true:=by
 unfold indepD at h
 split at h
 ·rename_i hq
  have hm:=ko hq
  have e : ∀ k,k<tr.length→tr.getD k default∈tr:=fun k hk=>by
   rw [List.getD_eq_getElem?_getD,List.getElem?_eq_getElem hk];exact List.getElem_mem hk
  exact gM (hm _ (e i (by omega))) (hm _ (e j hj))
 ·have:=(gq tr [] bs).1 h j hj i (by simpa using hij)
  rw [hb] at this
  simpa using this
theorem ik {c:Ctx} : ∀ {l:List IROper} {env:Env} {h:Hp} {tr:List Tr} {r:Env × Hp},runOpsT c l env h=some (tr,r)→∀ i,i<l.length →
  (∀ x∈(tr.getD i default).rds,x∈(l.getD i default).op.slots++gslot (l.getD i default).guard)∧(tr.getD i default).wr=(l.getD i default).dst
 | [],_,_,_,_,_,i,hi=>by cases hi
 | o::l,env,h,tr,r,hr,i,hi=>by
  simp only [runOpsT] at hr
  split at hr
  ·split at hr
   ·split at hr
    ·rename_i tr' e h' ht
     obtain ⟨rfl,rfl⟩:=by simpa using hr
     match i with
     | 0=>exact ⟨fun x hx=>hx,rfl⟩
     | i+1=>exact ik ht i (by simp at hi;omega)
    ·cases hr
   ·cases hr
  ·split at hr
   ·rename_i tr' e h' ht
    obtain ⟨rfl,rfl⟩:=by simpa using hr
    match i with
    | 0=>exact ⟨fun x hx=>List.mem_append.2 (.inr hx),rfl⟩
    | i+1=>exact ik ht i (by simp at hi;omega)
   ·cases hr
  ·cases hr
theorem mT {ops:List IROper} {bs:List Nat} (h:indepS ops bs=true) (i j:Nat) (hij:i<j) (hj:j<ops.length) (hb:(bs.getD j 0).testBit i=false):apartS (ops.getD i default) (ops.getD j default)=true:=by
 unfold indepS at h
 have h1:=List.all_eq_true.1 h j (List.mem_range.2 hj)
 have h2:=List.all_eq_true.1 h1 i (List.mem_range.2 hij)
 rw [hb] at h2
 simpa using h2
theorem tn {a b:Tr} {p q:IROper} (h:apartS p q=true) (hd:apartD a b=true) (ha:(∀ x∈a.rds,x∈p.op.slots++gslot p.guard)∧a.wr=p.dst) (hb:(∀ x∈b.rds,x∈q.op.slots++gslot q.guard)∧b.wr=q.dst):apartT a b=true:=by
 unfold apartS at h
 unfold apartD at hd
 rw [Bool.and_eq_true] at h hd
 obtain ⟨h1,h2⟩:=h
 unfold apartT
 rw [Bool.and_eq_true,Bool.and_eq_true,Bool.and_eq_true]
 refine ⟨⟨⟨?_,?_⟩,hd.1⟩,hd.2⟩
 ·rw [ha.2]
  cases e:p.dst with
  | none=>rfl
  | some d=>
   rw [e] at h1
   simp only [Bool.and_eq_true,Bool.not_eq_true'] at h1 ⊢
   refine ⟨?_,by rw [hb.2];exact h1.2⟩
   cases hc:b.rds.contains d with
   | false=>rfl
   | true=>
    have hm:d∈q.op.slots++gslot q.guard:=hb.1 d (by simpa using hc)
    have h11:=h1.1
    rw [List.contains_eq_mem] at h11
    simp only [decide_eq_false_iff_not] at h11
    exact absurd hm h11
 ·rw [hb.2]
  cases e:q.dst with
  | none=>rfl
  | some d=>
   rw [e] at h2
   simp only [Bool.not_eq_true'] at h2 ⊢
   cases hc:a.rds.contains d with
   | false=>rfl
   | true=>
    have hm:d∈p.op.slots++gslot p.guard:=ha.1 d (by simpa using hc)
    rw [List.contains_eq_mem] at h2
    simp only [decide_eq_false_iff_not] at h2
    exact absurd hm h2
end Go.Sx
end

section
namespace Go.Sx
open Go
theorem VR.agree {I:Nat→Prop} {μ μ2:Mu} {w:World} {l:LV} {v:Value} (h:VR I μ w l v):(∀ id∈ids l,μ2 id=μ id)→VR I μ2 w l v:=by
 induction h with
 | junk v=>exact fun _=>.junk v
 | p h=>exact fun _=>.p h
 | ref id off b o s h=>exact fun hid=>.ref id off b o s (by rw [hid id (by simp [ids]),h])
 | arr id off len sz cp ex b o s o' cap h ho hlen hcp hf hs=>exact fun hid=>.arr id off len sz cp ex b o s o' cap (by rw [hid id (by simp [ids]),h]) ho hlen hcp hf hs
 | agg cs a hl h1 _ ih=>exact fun hid=>.agg cs a hl h1 fun j l u hj hu=>ih j l u hj hu fun id h=>hid id (by simp only [ids];exact cG hj id h)
 | tuple cs a hl _ ih=>exact fun hid=>.tuple cs a hl fun j l u hj hu=>ih j l u hj hu fun id h=>hid id (by simp only [ids];exact cG hj id h)
 | fn f fs cs fa ca hl hl' _ _ ih ih'=>
  exact fun hid=>.fn f fs cs fa ca hl hl' (fun j l u hj hu=>ih j l u hj hu fun id h=>hid id (by simp only [ids,List.mem_append];exact .inl (cG hj id h)))
   (fun j l u hj hu=>ih' j l u hj hu fun id h=>hid id (by simp only [ids,List.mem_append];exact .inr (cG hj id h)))
theorem eR : ∀ {cs:List LV} {id:Nat},id∈ids.idsL cs→∃ (j:Nat) (l:LV),cs[j]?=some l∧id∈ids l
 | [],id,h=>by simp [ids.idsL] at h
 | x::r,id,h=>by
  simp only [ids.idsL,List.mem_append] at h
  rcases h with h|h
  ·exact ⟨0,x,rfl,h⟩
  ·obtain ⟨j,l,h1,h2⟩:=eR h
   exact ⟨j+1,l,h1,h2⟩
theorem VR.mapped {I:Nat→Prop} {μ:Mu} {w:World} {l:LV} {v:Value} (h:VR I μ w l v) : ∀ id∈ids l,(μ id).isSome=true:=by
 induction h with
 | junk v=>intro id hid;simp [ids] at hid
 | p h=>intro id hid;simp [ids] at hid
 | ref id off b o s h=>intro i hid;simp [ids] at hid;subst hid;rw [h];rfl
 | arr id off len sz cp ex b o s o' cap h ho hlen hcp hf hs=>intro i hid;simp [ids] at hid;subst hid;rw [h];rfl
 | agg cs a hl h1 _ ih=>
  intro id hid
  simp only [ids] at hid
  obtain ⟨j,l,hj,hl'⟩:=eR hid
  have hlt:j<a.size:=by rw [hl];exact (List.getElem?_eq_some_iff.1 hj).1
  exact ih j l a[j] hj (by simp [hlt]) id hl'
 | tuple cs a hl _ ih=>
  intro id hid
  simp only [ids] at hid
  obtain ⟨j,l,hj,hl'⟩:=eR hid
  have hlt:j<a.size:=by rw [hl];exact (List.getElem?_eq_some_iff.1 hj).1
  exact ih j l a[j] hj (by simp [hlt]) id hl'
 | fn f fs cs fa ca hl hl' _ _ ih ih'=>
  intro id hid
  simp only [ids,List.mem_append] at hid
  rcases hid with hid|hid
  ·obtain ⟨j,l,hj,hm⟩:=eR hid
   have hlt:j<fa.size:=by rw [hl];exact (List.getElem?_eq_some_iff.1 hj).1
   exact ih j l fa[j] hj (by simp [hlt]) id hm
  ·obtain ⟨j,l,hj,hm⟩:=eR hid
   have hlt:j<ca.size:=by rw [hl'];exact (List.getElem?_eq_some_iff.1 hj).1
   exact ih' j l ca[j] hj (by simp [hlt]) id hm
section rename
variable {I:Nat→Prop} {μ:Mu} {w:World} {nx:Nat} {seen:List Nat}
def renMu (μ:Mu) (nx:Nat) (seen:List Nat):Mu:=fun id=>if id<nx then μ id else match seen[id-nx]? with
 | some j=>μ j
 | none=>none
theorem o9 {id j:Nat} (h:renId nx seen id=some j):renMu μ nx seen j=μ id:=by
 unfold renId at h
 split at h
 ·rename_i hlt
  obtain rfl:=Option.some.inj h
  simp [renMu,hlt]
 ·split at h
  ·rename_i k hk
   obtain rfl:=Option.some.inj h
   have hget:seen[k]?=some id:=by
    obtain ⟨hlt,he,_⟩:=List.idxOf?_eq_some_iff.1 hk
    rw [List.getElem?_eq_getElem hlt]
    simpa using he
   simp [renMu,show ¬(nx+k<nx) by omega,hget]
  ·cases h
theorem gw : ∀ {cs cs':List LV},ren.go nx seen cs=some cs'→cs'.length=cs.length∧∀ (j:Nat) l',cs'[j]?=some l'→∃ l,cs[j]?=some l∧ren nx seen l=some l'
 | [],cs',h=>by simp only [ren.go,Option.some.injEq] at h;subst h;exact ⟨rfl,by simp⟩
 | x::r,cs',h=>by
  simp only [ren.go] at h
  split at h
  ·rename_i y l h1 h2
   obtain rfl:=Option.some.inj h
   obtain ⟨g1,g2⟩:=gw h2
   refine ⟨by simp [g1],fun j l' hj => ?_⟩
   cases j with
   | zero=>simp at hj;subst hj;exact ⟨x,rfl,h1⟩
   | succ j=>exact g2 j l' hj
  ·cases h
theorem VR.ren {l:LV} {v:Value} (h:VR I μ w l v) : ∀ {l':LV},Sx.ren nx seen l=some l'→VR I (renMu μ nx seen) w l' v:=by
 induction h with
 | junk v=>intro l' h;simp only [Sx.ren,Option.some.injEq] at h;subst h;exact .junk v
 | p h=>intro l' h';simp only [Sx.ren,Option.some.injEq] at h';subst h';exact .p h
 | ref id off b o s h=>
  intro l' h'
  simp only [Sx.ren] at h'
  split at h'
  ·rename_i j hj
   obtain rfl:=Option.some.inj h'
   exact .ref j off b o s (by rw [o9 hj,h])
  ·cases h'
 | arr id off len sz cp ex b o s o' cap h ho hlen hcp hf hs=>
  intro l' h'
  simp only [Sx.ren] at h'
  split at h'
  ·rename_i j hj
   obtain rfl:=Option.some.inj h'
   exact .arr j off len sz cp ex b o s o' cap (by rw [o9 hj,h]) ho hlen hcp hf hs
  ·cases h'
 | agg cs a hl h1 _ ih=>
  intro l' h'
  simp only [Sx.ren] at h'
  split at h'
  ·rename_i cs' hcs
   obtain rfl:=Option.some.inj h'
   obtain ⟨g1,g2⟩:=gw hcs
   refine .agg cs' a (by rw [g1];exact hl) h1 fun j l u hj hu => ?_
   obtain ⟨l0,hl0,hr⟩:=g2 j l hj
   exact ih j l0 u hl0 hu hr
  ·cases h'
 | tuple cs a hl _ ih=>
  intro l' h'
  simp only [Sx.ren] at h'
  split at h'
  ·rename_i cs' hcs
   obtain rfl:=Option.some.inj h'
   obtain ⟨g1,g2⟩:=gw hcs
   refine .tuple cs' a (by rw [g1];exact hl) fun j l u hj hu => ?_
   obtain ⟨l0,hl0,hr⟩:=g2 j l hj
   exact ih j l0 u hl0 hu hr
  ·cases h'
 | fn f fs cs fa ca hl hl' _ _ ih ih'=>
  intro l' h'
  simp only [Sx.ren] at h'
  split at h'
  ·rename_i x y hx hy
   obtain rfl:=Option.some.inj h'
   obtain ⟨g1,g2⟩:=gw hx
   obtain ⟨g3,g4⟩:=gw hy
   refine .fn f x y fa ca (by rw [g1];exact hl) (by rw [g3];exact hl') (fun j l u hj hu => ?_) fun j l u hj hu => ?_
   ·obtain ⟨l0,hl0,hr⟩:=g2 j l hj
    exact ih j l0 u hl0 hu hr
   ·obtain ⟨l0,hl0,hr⟩:=g4 j l hj
    exact ih' j l0 u hl0 hu hr
  ·cases h'
theorem OR.ren {id id':Nat} {o:Obj} {o':Option Obj} (h:OR I μ w id o) (hid:renMu μ nx seen id'=μ id) (hr:renO nx seen (some o)=some o') : ∃ p,o'=some p∧OR I (renMu μ nx seen) w id' p:=by
 cases o with
 | cells cs=>
  simp only [renO] at hr
  split at hr
  ·rename_i l hl
   obtain rfl:=Option.some.inj hr
   obtain ⟨b,o,s,e,hm,hs,hle,hf,hc⟩:=h
   obtain ⟨g1,g2⟩:=gw hl
   refine ⟨_,rfl,b,o,s,e,by rw [hid,hm],hs,by rw [g1];exact hle,hf,fun j l' hj => ?_⟩
   obtain ⟨l0,hl0,hr⟩:=g2 j l' hj
   obtain ⟨u,h1,h2,h3⟩:=hc j l0 hl0
   exact ⟨u,h1,h2,h3.ren hr⟩
  ·cases hr
 | iter s q=>
  simp only [renO,Option.some.injEq] at hr
  subst hr
  obtain ⟨b,hm,hb⟩:=h
  exact ⟨_,rfl,b,by rw [hid,hm],hb⟩
theorem cW : ∀ {u u':Upd},renU nx seen u=some u'→∀ id,(findU u' id=none↔findU u id=none)∧∀ o',findU u' id=some o'→∃ o,findU u id=some o∧renO nx seen o=some o'
 | [],u',h,id=>by simp only [renU,Option.some.injEq] at h;subst h;exact ⟨Iff.rfl,by simp [findU]⟩
 | (k,o)::r,u',h,id=>by
  simp only [renU] at h
  split at h
  ·rename_i p l h1 h2
   obtain rfl:=Option.some.inj h
   have ih:=cW h2 id
   simp only [findU]
   by_cases e:id=k
   ·rw [if_pos e,if_pos e]
    exact ⟨by simp,fun o' ho=>⟨o,rfl,by rw [←Option.some.inj ho];exact h1⟩⟩
   ·rw [if_neg e,if_neg e];exact ih
  ·cases h
theorem pd {H:Heap} {h:Hp} : ∀ {l:List Nat} {n:List (Option Obj)},renN H nx h seen l=some n→n.length=l.length∧∀ (k:Nat) id,l[k]?=some id→∃ p,n[k]?=some p∧renO nx seen (look H nx h id)=some p
 | [],n,h=>by simp only [renN,Option.some.injEq] at h;subst h;exact ⟨rfl,by simp⟩
 | x::r,n,h=>by
  simp only [renN] at h
  split at h
  ·rename_i p l h1 h2
   obtain rfl:=Option.some.inj h
   obtain ⟨g1,g2⟩:=pd h2
   refine ⟨by simp [g1],fun k id hk => ?_⟩
   cases k with
   | zero=>simp at hk;subst hk;exact ⟨p,rfl,h1⟩
   | succ k=>exact g2 k id hk
  ·cases h
theorem bL {lk:Nat→Option Obj} : ∀ (n:Nat) (todo seen S:List Nat),reach lk n todo seen=some S→seen.Nodup→S.Nodup
 | 0,[],seen,S,h,hs=>by simp only [reach,Option.some.injEq] at h;subst h;exact hs
 | 0,_::_,seen,S,h,hs=>by simp [reach] at h
 | n+1,[],seen,S,h,hs=>by simp only [reach,Option.some.injEq] at h;subst h;exact hs
 | n+1,id::todo,seen,S,h,hs=>by
  simp only [reach] at h
  split at h
  ·exact bL n todo seen S h hs
  ·rename_i hc
   have hc':id∉seen:=by simpa using hc
   split at h
   ·exact bL n _ _ S h (by
     rw [List.nodup_append]
     refine ⟨hs,by simp,fun a ha b hb => ?_⟩
     simp at hb;subst hb
     exact fun e=>hc' (e▸ha))
   ·exact bL n todo seen S h hs
end rename
theorem mN {I I':Nat→Prop} {μ:Mu} {w:World} {H:Heap} {nx:Nat} {h:Hp} (hI : ∀ b,I b→I' b) (hobj : ∀ id o,look H nx h id=some o→OR I μ w id o):
  ∀ (n:Nat) (l:LV) (x:PV) (v:Value),frzL nx h n l=some x→VR I μ w l v→(∀ id∈ids l,∀ b,blk μ id=some b→I' b)→PR I' w x v
 | 0,l,x,v,hf,_,_=>by simp [frzL] at hf
 | n+1,.p y,x,v,hf,hv,_=>by
  simp only [frzL,Option.some.injEq] at hf
  subst hf
  exact hv.pp.mono hI fun _ _=>rfl
 | n+1,.arr id off len sz cp ex,x,v,hf,hv,hb=>by
  simp only [frzL] at hf
  split at hf
  ·cases hf
  ·rename_i hlt
   split at hf
   ·rename_i cs hcs
    split at hf
    ·rename_i hle
     split at hf
     ·rename_i l hl
      obtain rfl:=Option.some.inj hf
      have hlook:look H nx h id=some (.cells cs):=by unfold look;rw [if_neg hlt,hcs]
      obtain ⟨b,o,s,e,hm,_,_,_,hat⟩:=hobj id _ hlook
      obtain ⟨b',o',s',o2,cap,hm',rfl,hoo,hlc,hex,hroom,hcp,hlcp⟩:=bF hv
      rw [hm] at hm'
      obtain ⟨rfl,rfl,rfl⟩:b=b'∧o=o'∧s=s':=by simpa using hm'
      have hIb:I' b:=hb id (by simp [ids]) b (by simp [blk,hm])
      have hps:=dH hl
      have hat2:At I μ w b (o+off) (l.map .p):=by rw [←hps];exact (At.drop (I:=I) (μ:=μ) (w:=w) (b:=b) (o:=o) (cs:=cs) hat off).take (len*sz)
      refine oJ (μ:=μ) hIb ?_ len sz cap _ hlc (fun hfl=>by
       simp only [Bool.and_eq_true,beq_iff_eq] at hfl
       rw [hex hfl.1,hfl.2])
      rcases hoo with h0|h0
      ·have hl0:l=[]:=by
        have:l.length=0:=by
         have:=congrArg List.length hps
         simp at this
         have hz:len=0:=by omega
         rw [hz] at this;simp at this;omega
        exact List.eq_nil_of_length_eq_zero this
       rw [hl0];intro j q hj;simp at hj
      ·rw [h0]
       intro j q hj
       obtain ⟨u,h1,h2,h3⟩:=hat2 j q hj
       exact ⟨u,h1,h2,h3.mono hI (fun _ _ h=>h) fun _ _=>rfl⟩
     ·cases hf
    ·cases hf
   ·cases hf
 | n+1,.agg cs,x,v,hf,hv,hb=>by
  simp only [frzL] at hf
  split at hf
  ·rename_i l hl
   obtain rfl:=Option.some.inj hf
   obtain ⟨ar,rfl,hsz,h1,hc⟩:=wU hv
   have hgo : ∀ (cs:List LV) (l:List PV),frzL.go nx h n cs=some l→l.length=cs.length∧∀ (j:Nat) y,l[j]?=some y→∃ q,cs[j]?=some q∧frzL nx h n q=some y:=by
    intro cs
    induction cs with
    | nil=>intro l hl;simp only [frzL.go,Option.some.injEq] at hl;subst hl;exact ⟨rfl,by simp⟩
    | cons q r ih=>
     intro l hl
     simp only [frzL.go] at hl
     split at hl
     ·rename_i y l' h1 h2
      obtain rfl:=Option.some.inj hl
      obtain ⟨g1,g2⟩:=ih l' h2
      refine ⟨by simp [g1],fun j z hz => ?_⟩
      cases j with
      | zero=>simp at hz;subst hz;exact ⟨q,rfl,h1⟩
      | succ j=>exact g2 j z hz
     ·cases hl
   obtain ⟨g1,g2⟩:=hgo cs l hl
   refine .agg l ar (by rw [g1];exact hsz) h1 fun j y u hj hu => ?_
   obtain ⟨q,hq,hfq⟩:=g2 j y hj
   exact mN hI hobj n q y u hfq (hc j q u hq hu) fun id hid b hbb=>hb id (by simp only [ids];exact cG hq id hid) b hbb
  ·cases hf
 | n+1,.junk,x,v,hf,_,_=>by simp [frzL] at hf
 | n+1,.ref id off,x,v,hf,hv,hb=>by
  simp only [frzL] at hf
  split at hf
  ·cases hf
  ·rename_i hlt
   split at hf
   ·rename_i cs hcs
    split at hf
    ·rename_i l hl
     obtain rfl:=Option.some.inj hf
     have hlook:look H nx h id=some (.cells cs):=by unfold look;rw [if_neg hlt,hcs]
     obtain ⟨b,o,s,e,hm,_,_,_,hat⟩:=hobj id _ hlook
     obtain ⟨b',o',s',hm',rfl⟩:=dh hv
     rw [hm] at hm'
     obtain ⟨rfl,rfl,rfl⟩:b=b'∧o=o'∧s=s':=by simpa using hm'
     refine kf (μ:=μ) (hb id (by simp [ids]) b (by simp [blk,hm])) (fun j q hj => ?_) off
     rw [←dH hl] at hj
     obtain ⟨u,h1,h2,h3⟩:=hat j q hj
     exact ⟨u,h1,h2,h3.mono hI (fun _ _ h=>h) fun _ _=>rfl⟩
    ·cases hf
   ·cases hf
 | n+1,.tuple ..,x,v,hf,_,_=>by simp [frzL] at hf
 | n+1,.fn ..,x,v,hf,_,_=>by simp [frzL] at hf
end Go.Sx
end

section
namespace Go.Sx
open Go
section
variable {P:Program} {I0 I:Nat→Prop} {μ0 μ:Mu} {w0 w:World} {H:Heap} {nx:Nat}
theorem vp {I I':Nat→Prop} {h:Hp} (hI : ∀ b,I b→I' b) (hobj : ∀ id o,look H nx h id=some o→OR I μ w id o) {r r':LV} {v:Value} (hf:frz nx h r=some r') (hv:VR I μ w r v) (hb : ∀ id∈ids r,∀ b,blk μ id=some b→I' b) (μ':Mu):
  VR I' μ' w r' v∧ids r'=[]:=by
 have hgo : ∀ (cs l:List LV),frz.go nx h cs=some l→l.length=cs.length∧ids.idsL l=[]∧∀ (j:Nat) y,l[j]?=some y→∃ q x,cs[j]?=some q∧y = .p x∧frzL nx h 8 q=some x:=by
  intro cs
  induction cs with
  | nil=>intro l hl;simp only [frz.go,Option.some.injEq] at hl;subst hl;exact ⟨rfl,rfl,by simp⟩
  | cons q r ih=>
   intro l hl
   simp only [frz.go] at hl
   split at hl
   ·rename_i y l' h1 h2
    obtain rfl:=Option.some.inj hl
    obtain ⟨g1,g3,g2⟩:=ih l' h2
    refine ⟨by simp [g1],by simp [ids.idsL,ids,g3],fun j z hz => ?_⟩
    cases j with
    | zero=>simp at hz;subst hz;exact ⟨q,y,rfl,rfl,h1⟩
    | succ j=>exact g2 j z hz
   ·cases hl
 unfold frz at hf
 split at hf
 ·rename_i vs
  split at hf
  ·rename_i l hl
   obtain rfl:=Option.some.inj hf
   obtain ⟨ar,rfl,hsz,hc⟩:=kF hv
   obtain ⟨g1,g3,g2⟩:=hgo vs l hl
   refine ⟨.tuple l ar (by rw [g1];exact hsz) fun j y u hj hu => ?_,by simp [ids,g3]⟩
   obtain ⟨q,x,hq,rfl,hfq⟩:=g2 j y hj
   exact .p (mN hI hobj 8 q x u hfq (hc j q u hq hu) fun id hid b hbb=>hb id (by simp only [ids];exact cG hq id hid) b hbb)
  ·cases hf
 ·split at hf
  ·rename_i x hx
   obtain rfl:=Option.some.inj hf
   exact ⟨.p (mN hI hobj 8 r x v hx hv hb),rfl⟩
  ·cases hf
theorem j6 {h:Hp} : ∀ (m:Nat) (l:LV) (x:PV),frzL nx h m l=some x→∀ id∈ids l,nx≤id∧∃ o,look H nx h id=some o
 | 0,l,x,hx,id,hid=>by simp [frzL] at hx
 | m+1,.p y,x,hx,id,hid=>by simp [ids] at hid
 | m+1,.arr i off len sz cp ex,x,hx,id,hid=>by
  simp [ids] at hid
  subst hid
  simp only [frzL] at hx
  split at hx
  ·cases hx
  ·rename_i hlt'
   split at hx
   ·rename_i cs hcs
    exact ⟨by omega,.cells cs,by unfold look;rw [if_neg hlt',hcs]⟩
   ·cases hx
 | m+1,.agg cs,x,hx,id,hid=>by
  simp only [ids] at hid
  simp only [frzL] at hx
  split at hx
  ·rename_i l hl
   have hgo : ∀ (cs:List LV) (l:List PV),frzL.go nx h m cs=some l→∀ id∈ids.idsL cs,nx≤id∧∃ o,look H nx h id=some o:=by
    intro cs
    induction cs with
    | nil=>intro l _ id hid;simp [ids.idsL] at hid
    | cons q rr ihc=>
     intro l hl id hid
     simp only [frzL.go] at hl
     split at hl
     ·rename_i y l' h1 h2
      simp only [ids.idsL,List.mem_append] at hid
      rcases hid with hid|hid
      ·exact j6 m q y h1 id hid
      ·exact ihc l' h2 id hid
     ·cases hl
   exact hgo cs l hl id hid
  ·cases hx
 | m+1,.junk,x,hx,id,hid=>by simp [frzL] at hx
 | m+1,.ref i off,x,hx,id,hid=>by
  simp [ids] at hid
  subst hid
  simp only [frzL] at hx
  split at hx
  ·cases hx
  ·rename_i hlt'
   split at hx
   ·rename_i cs hcs
    exact ⟨by omega,.cells cs,by unfold look;rw [if_neg hlt',hcs]⟩
   ·cases hx
 | m+1,.tuple ..,x,hx,id,hid=>by simp [frzL] at hx
 | m+1,.fn ..,x,hx,id,hid=>by simp [frzL] at hx
theorem xJ {h:Hp} {r r':LV} (hf:frz nx h r=some r') : ∀ id∈ids r,nx≤id∧∃ o,look H nx h id=some o:=by
 intro id hid
 have hgo : ∀ (cs l:List LV),frz.go nx h cs=some l→∀ id∈ids.idsL cs,nx≤id∧∃ o,look H nx h id=some o:=by
  intro cs
  induction cs with
  | nil=>intro l _ id hid;simp [ids.idsL] at hid
  | cons q rr ihc=>
   intro l hl id hid
   simp only [frz.go] at hl
   split at hl
   ·rename_i y l' h1 h2
    simp only [ids.idsL,List.mem_append] at hid
    rcases hid with hid|hid
    ·exact j6 8 q y h1 id hid
    ·exact ihc l' h2 id hid
   ·cases hl
 unfold frz at hf
 split at hf
 ·rename_i vs
  split at hf
  ·rename_i l hl
   exact hgo vs l hl id (by simpa only [ids] using hid)
  ·cases hf
 ·split at hf
  ·rename_i x hx;exact j6 8 r x hx id hid
  ·cases hf
theorem gJ {k k' r0 r:LV} {h:Hp} {u:Upd} {n:List (Option Obj)} (hf:tidyR H nx k r0 h=some (k',r,u,n)) (h0 : ∀ id,nx≤id→μ0 id=none)
  (hH0:HR I0 μ0 w0 (fun _=>True) H) (g:Goes I0 I μ0 μ w0 w H (look H nx h) (fun _=>True) (fun id=>nx≤id∧id<nx+h.new.length)) (hk:Keys H h):
  (∀ id o,findU u id=some o→(H id).isSome=true) ∧
  ∃ I' μ',Goes I0 I' μ0 μ' w0 w H (look H nx ⟨u,n⟩) (fun _=>True) (fun id=>nx≤id∧id<nx+n.length)∧(∀ b,I b→I' b)∧(∀ v,VR I μ w k v→VR I' μ' w k' v)∧(∀ v,VR I μ w r0 v→VR I' μ' w r v):=by
 unfold tidyR at hf
 split at hf
 ·cases hf
 rename_i r1 hr1
 split at hf
 ·cases hf
 rename_i seen hseen
 split at hf
 case isFalse=>cases hf
 rename_i hown
 split at hf
 case h_2=>cases hf
 rename_i r2 u2 n2 hr2 hu2 hn2
 simp only [Option.some.injEq,Prod.mk.injEq] at hf
 obtain ⟨rfl,rfl,rfl,rfl⟩:=hf
 have hr:HR I μ w (fun _=>True) (look H nx h):=g.hr.sub fun _ _=>⟨.inl trivial,rfl⟩
 have hnd:seen.Nodup:=bL 1000 _ _ seen hseen (by simp)
 have hal : ∀ id∈seen,nx≤id∧∃ o,look H nx h id=some o:=fun id hid=>by
  have:=ce 1000 _ _ seen hseen (by simp) id hid
  by_cases hc:id<nx
  ·rw [if_pos hc] at this;cases this
  ·rw [if_neg hc] at this;exact ⟨by omega,Option.isSome_iff_exists.1 this⟩
 obtain ⟨hnl,hng⟩:=pd hn2
 have hkeys : ∀ id o,findU u2 id=some o→(H id).isSome=true:=fun id o ho=>by
  obtain ⟨o',ho',_⟩:=(cW hu2 id).2 o ho
  exact hk id o' ho'
 obtain ⟨I',hI'⟩ : ∃ I':Nat→Prop,I'=fun b=>I b∨(∃ id∈ids r0,nx≤id∧(∃ o,look H nx h id=some o)∧blk μ id=some b):=⟨_,rfl⟩
 have hII : ∀ b,I b→I' b:=fun b hb=>by rw [hI'];exact .inl hb
 have hval : ∀ v,VR I μ w k v→VR I' (renMu μ nx seen) w r2 v:=fun v hv=>(hv.ren hr2).mono hII (fun _ _ h=>h) fun _ _=>rfl
 have hval2 : ∀ v,VR I μ w r0 v→VR I' (renMu μ nx seen) w r1 v:=fun v hv=>by
  have hfz:=xJ (H:=H) hr1
  exact (vp (I':=I') hII (fun id o ho=>hr.obj id o trivial ho) hr1 hv (fun id hid b hb=>by
   rw [hI'];exact .inr ⟨id,hid,(hfz id hid).1,(hfz id hid).2,hb⟩) _).1
 have hfrom : ∀ id o,look H nx ⟨u2,n2⟩ id=some o→∃ j p,look H nx h j=some p∧renMu μ nx seen id=μ j∧OR I (renMu μ nx seen) w id o∧(id<nx→j=id)∧(nx≤id→seen[id-nx]?=some j):=by
  intro id o ho
  by_cases hid:id<nx
  ·have ho':=ho
   unfold look at ho'
   rw [if_pos hid] at ho'
   simp only [] at ho'
   have hmu:renMu μ nx seen id=μ id:=by simp [renMu,hid]
   cases hfu:findU u2 id with
   | some q=>
    rw [hfu] at ho'
    simp only at ho'
    subst ho'
    obtain ⟨q',hq',hren⟩:=(cW hu2 id).2 _ hfu
    cases q' with
    | none=>simp [renO] at hren
    | some p=>
     have hl:look H nx h id=some p:=by unfold look;rw [if_pos hid,hq']
     obtain ⟨p',hp',hor⟩:=(hr.obj id p trivial hl).ren hmu hren
     obtain rfl:=Option.some.inj hp'
     exact ⟨id,p,hl,hmu,hor,fun _=>rfl,fun h=>absurd h (by omega)⟩
   | none=>
    rw [hfu] at ho'
    simp only at ho'
    have hnone:=((cW hu2 id).1).1 hfu
    have hl:look H nx h id=some o:=by unfold look;rw [if_pos hid,hnone];exact ho'
    refine ⟨id,o,hl,hmu,?_,fun _=>rfl,fun h=>absurd h (by omega)⟩
    have hor:=hr.obj id o trivial hl
    have hor0:=hH0.obj id o trivial ho'
    cases o with
    | cells cs=>
     obtain ⟨b,oo,s,e,hm,hs,hle,hfz,hc⟩:=hor
     obtain ⟨_,_,_,_,_,_,_,_,hc0⟩:=hor0
     refine ⟨b,oo,s,e,by rw [hmu,hm],hs,hle,hfz,fun j l hj => ?_⟩
     obtain ⟨q,h1,h2,h3⟩:=hc j l hj
     obtain ⟨q0,_,_,h30⟩:=hc0 j l hj
     refine ⟨q,h1,h2,h3.agree fun i hi => ?_⟩
     have:i<nx:=by
      rcases Nat.lt_or_ge i nx with h4|h4
      ·exact h4
      ·have:=h30.mapped i hi
       rw [h0 i h4] at this;cases this
     simp [renMu,this]
    | iter s q=>
     obtain ⟨b,hm,hb⟩:=hor
     exact ⟨b,by rw [hmu,hm],hb⟩
  ·have ho':=ho
   unfold look at ho'
   rw [if_neg hid] at ho'
   simp only [] at ho'
   cases hs:seen[id-nx]? with
   | none=>
    have hlt':seen.length≤id-nx:=by
     rcases Nat.lt_or_ge (id-nx) seen.length with h1|h1
     ·rw [List.getElem?_eq_getElem h1] at hs;cases hs
     ·exact h1
    rw [List.getElem?_eq_none (by omega)] at ho'
    cases ho'
   | some j=>
    obtain ⟨p,hp1,hp2⟩:=hng _ j hs
    rw [hp1] at ho'
    simp only at ho'
    subst ho'
    obtain ⟨_,q,hq⟩:=hal j (List.mem_of_getElem? hs)
    rw [hq] at hp2
    have hmu:renMu μ nx seen id=μ j:=by simp [renMu,hid,hs]
    obtain ⟨p',hp',hor⟩:=(hr.obj j q trivial hq).ren hmu hp2
    obtain rfl:=Option.some.inj hp'
    exact ⟨j,q,hq,hmu,hor,fun h=>absurd h hid,fun _=>rfl⟩
 have hlen : ∀ id,nx+n2.length≤id→look H nx ⟨u2,n2⟩ id=none:=fun id hid=>bm hid
 refine ⟨hkeys,I',renMu μ nx seen,⟨fun id hn => ?_,fun id hn=>h0 id hn.1,fun b hb=>hII b (g.up b hb),fun b hb => ?_,g.stp,⟨fun id o _ ho => ?_,fun id id' o o' _ _ ho ho' hne => ?_,fun id o b _ ho hb => ?_,fun b hb => ?_⟩,fun id b hn he hb => ?_,
  fun id ht=>absurd trivial ht,fun id hn hl => ?_⟩,hII,hval,hval2⟩
 ·by_cases hid:id<nx
  ·simp only [renMu,if_pos hid]
   exact g.mu id (by omega)
  ·have hge:seen.length≤id-nx:=by omega
   simp only [renMu,if_neg hid,List.getElem?_eq_none hge]
   exact (h0 id (by omega)).symm
 ·rw [hI'] at hb
  rcases hb with hb|⟨id,hid,hge,⟨o,ho⟩,hbk⟩
  ·exact g.back b hb
  ·refine .inr (g.new id b ⟨hge,?_⟩ ⟨o,ho⟩ hbk)
   rcases a7 ho with h1|h1<;>omega
 ·obtain ⟨j,p,_,_,hor,_⟩:=hfrom id o ho
  exact hor.mono hII (fun _ _ h=>h) (fun _ _=>rfl) fun _ _=>rfl
 ·obtain ⟨j,p,hj,hmu,_,hlt1,hge1⟩:=hfrom id o ho
  obtain ⟨j',p',hj',hmu',_,hlt2,hge2⟩:=hfrom id' o' ho'
  simp only [blk,hmu,hmu']
  refine hr.inj j j' p p' trivial trivial hj hj' fun e=>hne ?_
  subst e
  by_cases c1:id<nx<;>by_cases c2:id'<nx
  ·exact (hlt1 c1).symm.trans (hlt2 c2)
  ·have:=(hal j (List.mem_of_getElem? (hge2 (by omega)))).1
   have:=hlt1 c1;omega
  ·have:=(hal j (List.mem_of_getElem? (hge1 (by omega)))).1
   have:=hlt2 c2;omega
  ·have e1:=hge1 (by omega)
   have e2:=hge2 (by omega)
   have:=(List.getElem?_inj (List.getElem?_eq_some_iff.1 e1).1 hnd).1 (e1.trans e2.symm)
   omega
 ·obtain ⟨j,p,hj,hmu,_,hlt1,hge1⟩:=hfrom id o ho
  simp only [blk,hmu]
  rw [hI'] at hb
  rcases hb with hb|⟨i,hi,hge,⟨q,hq⟩,hbk⟩
  ·exact hr.imm j p b trivial hj hb
  ·intro e
   have hne:j≠i:=by
    intro e2
    subst e2
    by_cases c1:id<nx
    ·have:=hlt1 c1;omega
    ·have hm:=List.mem_of_getElem? (hge1 (by omega))
     have:=List.all_eq_true.1 hown j hi
     simp [hm] at this
   exact hr.inj j i p q trivial trivial hj hq hne (e.trans hbk.symm)
 ·rw [hI'] at hb
  rcases hb with hb|⟨id,hid,hge,⟨o,ho⟩,hbk⟩
  ·exact hr.lt b hb
  ·obtain ⟨b',hb',hlt'⟩:=(hr.obj id o trivial ho).lt
   rw [hbk] at hb'
   obtain rfl:=Option.some.inj hb'
   exact hlt'
 ·obtain ⟨o,ho⟩:=he
  obtain ⟨j,p,hj,hmu,_,hlt1,hge1⟩:=hfrom id o ho
  simp only [blk,hmu] at hb
  have hjn:=(hal j (List.mem_of_getElem? (hge1 hn.1))).1
  refine g.new j b ⟨hjn,?_⟩ ⟨p,hj⟩ hb
  rcases a7 hj with h1|h1<;>omega
 ·by_cases hid:id<nx
  ·unfold look
   rw [if_pos hid]
   simp only []
   cases hfu:findU u2 id with
   | none=>exact hl
   | some q=>have:=hkeys id q hfu;rw [hl] at this;cases this
  ·exact hlen id (by omega)
theorem mM {own:Bool} {r0 r:LV} {h:Hp} {u:Upd} {n:List (Option Obj)} {v:Value} (hf:finish own H nx r0 h=some (r,u,n)) (h0 : ∀ id,nx≤id→μ0 id=none)
  (hH0:HR I0 μ0 w0 (fun _=>True) H) (g:Goes I0 I μ0 μ w0 w H (look H nx h) (fun _=>True) (fun id=>nx≤id∧id<nx+h.new.length)) (hk:Keys H h) (hv:VR I μ w r0 v):
  (∀ id o,findU u id=some o→(H id).isSome=true) ∧
  ∃ I' μ',Goes I0 I' μ0 μ' w0 w H (look H nx ⟨u,n⟩) (fun _=>True) (fun id=>nx≤id∧id<nx+n.length)∧VR I' μ' w r v:=by
 cases own with
 | true=>
  have hf':tidyR H nx r0 (.tuple []) h=some (r,.tuple [],u,n):=by
   simp only [finish,if_true,Bool.true_or] at hf
   simp only [tidyR,frz,frz.go,ids,ids.idsL,List.all_nil,if_true]
   split at hf
   ·cases hf
   ·rename_i seen hs
    split at hf
    ·rename_i a b c h1 h2 h3
     simp only [Option.some.injEq,Prod.mk.injEq] at hf
     obtain ⟨rfl,rfl,rfl⟩:=hf
     simp only [h1,h2,h3]
    ·cases hf
  obtain ⟨a,I',μ',b,_,c,_⟩:=gJ hf' h0 hH0 g hk
  exact ⟨a,I',μ',b,c v hv⟩
 | false=>
  obtain ⟨r1,hr1⟩ : ∃ r1,frz nx h r0=some r1:=by
   cases e:frz nx h r0 with
   | none=>simp [finish,e] at hf
   | some r1=>exact ⟨r1,rfl⟩
  have hids:ids r1=[]:=(vp (I:=I) (I':=fun _=>True) (μ:=μ) (w:=w) (fun _ _=>trivial) (fun id o ho=>(g.hr.sub (D':=fun _=>True) (lk':=look H nx h) fun _ _=>⟨.inl trivial,rfl⟩).obj id o trivial ho) hr1 hv (fun _ _ _ _=>trivial) μ).2
  have hren : ∀ seen,ren nx seen r1=some r1:=fun seen=>by
   unfold frz at hr1
   split at hr1
   ·split at hr1
    ·rename_i l hl
     obtain rfl:=Option.some.inj hr1
     have : ∀ (cs l:List LV),frz.go nx h cs=some l→ren.go nx seen l=some l:=by
      intro cs
      induction cs with
      | nil=>intro l hl;simp only [frz.go,Option.some.injEq] at hl;subst hl;rfl
      | cons q rr ih=>
       intro l hl
       simp only [frz.go] at hl
       split at hl
       ·rename_i y l' h1 h2
        obtain rfl:=Option.some.inj hl
        simp only [ren.go,ren,ih l' h2]
       ·cases hl
     simp only [ren,this _ l hl]
    ·cases hr1
   ·split at hr1
    ·obtain rfl:=Option.some.inj hr1;rfl
    ·cases hr1
  have hf':tidyR H nx (.tuple []) r0 h=some (.tuple [],r,u,n):=by
   simp only [finish,Bool.false_eq_true,if_false,hr1,Bool.false_or,hids,List.nil_append] at hf
   simp only [tidyR,hr1,ids,ids.idsL,List.nil_append]
   split at hf
   ·cases hf
   ·rename_i seen hs
    split at hf
    ·rename_i hall
     rw [if_pos hall]
     rw [hren] at hf
     split at hf
     ·rename_i a b c h1 h2 h3
      simp only [Option.some.injEq,Prod.mk.injEq] at hf
      obtain ⟨rfl,rfl,rfl⟩:=hf
      obtain rfl:=Option.some.inj h1
      simp only [ren,ren.go,h2,h3]
     ·cases hf
    ·cases hf
  obtain ⟨a,I',μ',b,_,_,c⟩:=gJ hf' h0 hH0 g hk
  exact ⟨a,I',μ',b,c v hv⟩
end
theorem Inv.tidy {c:Ctx} {I0:Nat→Prop} {μ0:Mu} {w0:World} {nt:Nat} {env:Env} {h:Hp} {a:Act} {w:World} {I:Nat→Prop} {μ:Mu} (i:Inv c I0 μ0 w0 nt env h a w I μ)
  {keep fz:List Nat} {ks fs:List LV} {u:Upd} {n:List (Option Obj)}
  (hr:tidyR c.H c.nx (.tuple (keep.map (get env))) (.tuple (fz.map (get env))) h=some (.tuple ks,.tuple fs,u,n)):
  ∃ I' μ',Inv c I0 μ0 w0 nt (keep.zip ks++fz.zip fs) ⟨u,n⟩ a w I' μ':=by
 have h0 : ∀ id,c.nx≤id→μ0 id=Option.none:=fun id hid=>by
  by_cases e:id<c.nx+h.new.length
  ·exact i.goes.fresh id ⟨hid,e⟩
  ·rw [←i.goes.mu id (by omega)];exact i.none id (by omega)
 obtain ⟨hk,I',μ',g,hII,v1,v2⟩:=gJ hr h0 i.base i.goes i.keys
 have hvs : ∀ (l:List Nat),VR I μ w (.tuple (l.map (get env))) (.tuple (l.map fun t=>a.tmps.getD t undef).toArray):=fun l=>
  .tuple _ _ (by simp) fun j x v hj hv=>by
   simp only [List.getElem?_map,Option.map_eq_some_iff,List.getElem?_toArray] at hj hv
   obtain ⟨t,ht,rfl⟩:=hj
   obtain ⟨t',ht',rfl⟩:=hv
   obtain rfl:=Option.some.inj (ht.symm.trans ht')
   exact i.env t
 have hz : ∀ (l:List Nat) (xs:List LV),VR I' μ' w (.tuple xs) (.tuple (l.map fun t=>a.tmps.getD t undef).toArray)→∀ t x,(t,x)∈l.zip xs→VR I' μ' w x (a.tmps.getD t undef):=fun l xs hx t x hm=>by
  obtain ⟨ar,e,_,hc⟩:=kF hx
  obtain rfl:=Value.tuple.inj e
  obtain ⟨j,hj,e⟩:=List.mem_iff_getElem.1 hm
  rw [List.getElem_zip] at e
  obtain ⟨e1,e2⟩:=Prod.mk.inj e
  have h1:j<l.length:=by rw [List.length_zip] at hj;omega
  have h2:j<xs.length:=by rw [List.length_zip] at hj;omega
  exact hc j x _ (by rw [List.getElem?_eq_getElem h2,e2]) (by simp [h1,e1])
 have hg : ∀ (l:Env) t,get l t = .junk∨(t,get l t)∈l:=by
  intro l t
  induction l with
  | nil=>exact .inl rfl
  | cons p r ih=>
   obtain ⟨s,x⟩:=p
   simp only [get]
   by_cases e:t=s
   ·subst e;rw [if_pos rfl];exact .inr List.mem_cons_self
   ·rw [if_neg e];exact ih.imp (fun h=>h) fun h=>List.mem_cons_of_mem _ h
 refine ⟨I',μ',⟨fun t => ?_,i.size,i.defers,g,fun id hid => ?_,i.glob.mono hII fun _ _=>rfl,hk,i.base⟩⟩
 ·rcases hg (keep.zip ks++fz.zip fs) t with e|e
  ·rw [e];exact .junk _
  ·rcases List.mem_append.1 e with e|e
   ·exact hz keep ks (v1 _ (hvs keep)) _ _ e
   ·exact hz fz fs (v2 _ (hvs fz)) _ _ e
 ·have hid':c.nx+n.length≤id:=hid
  rw [g.mu id (by omega)];exact h0 id (by omega)
end Go.Sx
end

section
namespace Go.Sx
open Go
def Ex.out:Ex→Exit
 | .goto l=>.goto l
 | .normal=>.normal
 | .exit id=>.exit id
 | .ret=>.ret
section
variable {P:Program} {imT:An} {c:Ctx} {I0:Nat→Prop} {μ0:Mu} {w0:World} {nt:Nat} {res:List Nat}
theorem Inv.drew {env:Env} {h:Hp} {a:Act} {w:World} {I:Nat→Prop} {μ:Mu} (i:Inv c I0 μ0 w0 nt env h a w I μ):Inv c I0 μ0 w0 nt env h a { w with drawn:=w.drawn+1 } I μ:=by
 have g:Goes I I μ μ w { w with drawn:=w.drawn+1 } (look c.H c.nx h) (look c.H c.nx h) (fun _=>True) (fun _=>False):=(Goes.drew i.hr.lt).widen i.hr fun _ h=>h.elim
 exact ⟨i.env.mono fun l v hl=>g.vr i.hr hl,i.size,i.defers,i.goes.trans g fun id=>by simp,i.none,i.glob.mono g.up (g.imm_block i.hr),i.keys,i.base⟩
theorem pw {n:Nat} {k f:List Nat} {st st':St} {e:Ex} (h:runC c n (.tidy k f) st=some (e,st')):e = .normal∧∀ (a:Act) (w:World) (I:Nat→Prop) (μ:Mu),Inv c I0 μ0 w0 nt st.env st.h a w I μ→∃ I' μ',Inv c I0 μ0 w0 nt st'.env st'.h a w I' μ':=by
 simp only [runC] at h
 split at h
 case h_2=>cases h
 rename_i ks fs u m hr
 simp only [Option.some.injEq,Prod.mk.injEq] at h
 obtain ⟨rfl,rfl⟩:=h
 exact ⟨rfl,fun a w I μ i=>i.tidy hr⟩
theorem mg {n:Nat} {b:IRC} {l:List (Nat × List Nat)} {id:Nat} {a0:List Nat} {st st':St} {e:Ex} (h:runC c n (thenT b (tidyOf l id a0)) st=some (e,st')):
  ∃ st1,runC c n b st=some (e,st1)∧∀ (a:Act) (w:World) (I:Nat→Prop) (μ:Mu),Inv c I0 μ0 w0 nt st1.env st1.h a w I μ→∃ I' μ',Inv c I0 μ0 w0 nt st'.env st'.h a w I' μ':=by
 unfold tidyOf at h
 split at h
 ·simp only [thenT,runC] at h
  cases hb:runC c n b st with
  | none=>rw [hb] at h;cases h
  | some y=>
   obtain ⟨e1,st1⟩:=y
   rw [hb] at h
   cases e1 with
   | normal=>
    obtain ⟨rfl,hi⟩:=pw (c:=c) (I0:=I0) (μ0:=μ0) (w0:=w0) (nt:=nt) (n:=n) (k:=a0.filter fun x => !(List.contains _ x)) (f:=a0.filter fun x=>List.contains _ x) (st:=st1) (e:=e) (st':=st') h
    exact ⟨st1,rfl,hi⟩
   | exit j=>simp only [Option.some.injEq,Prod.mk.injEq] at h;obtain ⟨rfl,rfl⟩:=h;exact ⟨st1,rfl,fun a w I μ i=>⟨I,μ,i⟩⟩
   | ret=>simp only [Option.some.injEq,Prod.mk.injEq] at h;obtain ⟨rfl,rfl⟩:=h;exact ⟨st1,rfl,fun a w I μ i=>⟨I,μ,i⟩⟩
   | goto j=>simp only [Option.some.injEq,Prod.mk.injEq] at h;obtain ⟨rfl,rfl⟩:=h;exact ⟨st1,rfl,fun a w I μ i=>⟨I,μ,i⟩⟩
 ·exact ⟨st',h,fun a w I μ i=>⟨I,μ,i⟩⟩
theorem lH {n:Nat} {b:Bool} {l:List Nat} {d:IRC} {st st':St} {e:Ex} (h:runC c n (if b then .seq (.tidy l []) d else d) st=some (e,st')):
  ∃ st0,runC c n d st0=some (e,st')∧∀ (a:Act) (w:World) (I:Nat→Prop) (μ:Mu),Inv c I0 μ0 w0 nt st.env st.h a w I μ→∃ I' μ',Inv c I0 μ0 w0 nt st0.env st0.h a w I' μ':=by
 cases b with
 | false=>exact ⟨st,h,fun a w I μ i=>⟨I,μ,i⟩⟩
 | true=>
  simp only [if_true] at h
  rw [runC] at h
  cases hb:runC c n (.tidy l []) st with
  | none=>rw [hb] at h;cases h
  | some y=>
   obtain ⟨e1,st1⟩:=y
   rw [hb] at h
   obtain ⟨rfl,hi⟩:=pw (I0:=I0) (μ0:=μ0) (w0:=w0) (nt:=nt) hb
   exact ⟨st1,h,hi⟩
def Qk (t:Tr):Prop:=(t.md=true→t.tch=[])∧t.lo=t.hi
theorem fN {c:Ctx} {fin:Bool} : ∀ {l:List IROper} {env env':Env} {h h':Hp},runOpsQ c fin l env h=some (env',h')→∃ tr,runOpsT c l env h=some (tr,env',h')∧tr.length=l.length∧∀ i,i<l.length→(i+1<l.length∨fin=false)→Qk (tr.getD i default)
 | [],env,env',h,h',hr=>by
  simp only [runOpsQ,Option.some.injEq,Prod.mk.injEq] at hr
  obtain ⟨rfl,rfl⟩:=hr
  exact ⟨[],rfl,rfl,fun i hi=>by cases hi⟩
 | o::r,env,env',h,h',hr=>by
  simp only [runOpsQ] at hr
  split at hr
  ·rename_i hw
   split at hr
   ·rename_i x hx
    split at hr
    ·rename_i hq
     obtain ⟨tr,h1,h2,h3⟩:=fN hr
     refine ⟨_,by simp only [runOpsT,hw,hx,h1];rfl,by simp [h2],fun i hi hc => ?_⟩
     cases i with
     | zero=>
      have hq':quickR h x=true:=by
       rcases Bool.or_eq_true_iff.1 hq with hq|hq
       ·rw [Bool.and_eq_true] at hq
        rcases hc with hc|hc
        ·have:r=[]:=by simpa using hq.2
         subst this;simp at hc
        ·rw [hc] at hq;cases hq.1
       ·exact hq
      simp only [quickR,Bool.and_eq_true,beq_iff_eq] at hq'
      refine ⟨fun hm => ?_,by simp [hq'.2]⟩
      have hm':x.md=true:=by simpa using hm
      rw [hm'] at hq'
      simpa using hq'.1
     | succ i=>simpa using h3 i (by simpa using hi) (hc.imp (fun h=>by simpa using h) id)
    ·cases hr
   ·cases hr
  ·rename_i hw
   obtain ⟨tr,h1,h2,h3⟩:=fN hr
   refine ⟨_,by simp only [runOpsT,hw,h1];rfl,by simp [h2],fun i hi hc => ?_⟩
   cases i with
   | zero=>exact ⟨fun hm=>by simp at hm,by simp⟩
   | succ i=>simpa using h3 i (by simpa using hi) (hc.imp (fun h=>by simpa using h) id)
  ·cases hr
theorem qg {c:Ctx} {bs:List Nat} {l:List IROper} {env env':Env} {h h':Hp} (hr:runOpsQ c (lastFull bs l.length) l env h=some (env',h')) : ∃ tr,runOpsT c l env h=some (tr,env',h')∧indepD tr bs=true:=by
 obtain ⟨tr,h1,h2,h3⟩:=fN hr
 refine ⟨tr,h1,?_⟩
 unfold indepD
 split
 ·rfl
 ·refine (gq tr [] bs).2 fun j hj i hi => ?_
  have hi':i<j:=by simpa using hi
  rw [List.nil_append,Bool.or_eq_true]
  by_cases hc:j+1<l.length∨lastFull bs l.length=false
  ·exact .inr (gM (h3 i (by omega) (.inl (by omega))) (h3 j (by omega) hc))
  ·left
   simp only [not_or,Bool.not_eq_false] at hc
   have:=List.all_eq_true.1 hc.2 i (List.mem_range.2 (by omega))
   rwa [show l.length-1=j by omega] at this
theorem ng (hO:OSound P c.G c.O) (hm:P.follows .mixedOrders=true) {id:Nat} {ops:Array Oper} {draw:Bool} {x:LCtx} {after:List Nat} {n:Nat} {st st':St} {e:Ex} {a:Act} {w:World} {I:Nat→Prop} {μ:Mu} {Q:Exit→Act→World→Prop}
  (hr:runC c n (cc P imT nt res x (.region id ops draw) after).1 st=some (e,st')) (hi:Inv c I0 μ0 w0 nt st.env st.h a w I μ) (hQ : ∀ a' w' I' μ',Inv c I0 μ0 w0 nt st'.env st'.h a' w' I' μ'→Q e.out a' w'):
  (Code.region id ops draw).wp P Q a w:=by
 simp only [cc] at hr
 obtain ⟨st1,hr,hti⟩:=mg (I0:=I0) (μ0:=μ0) (w0:=w0) (nt:=nt) hr
 have hQ : ∀ a' w' I' μ',Inv c I0 μ0 w0 nt st1.env st1.h a' w' I' μ'→Q e.out a' w':=fun a' w' I' μ' i=>by
  obtain ⟨I'',μ'',i'⟩:=hti a' w' I' μ' i
  exact hQ a' w' I'' μ'' i'
 clear hti
 split at hr
 case isTrue=>simp [runC] at hr
 rename_i hedge
 cases draw with
 | false=>
  simp only [Bool.false_and,Bool.false_eq_true,if_false,runC] at hr
  split at hr
  case h_2=>cases hr
  rename_i env h hrun
  simp only [Option.some.injEq,Prod.mk.injEq] at hr
  obtain ⟨rfl,rfl⟩:=hr
  refine wp_region ?_
  rw [List.range_eq_range']
  exact nn (imT:=imT) hO (fun a' w' I' μ' hi'=>hQ a' w' I' μ' (hi'.keep after)) ops.size 0 _ _ a w I μ (by omega) (by simpa using hrun) hi
 | true=>
  have hdr : ∃ tr env h,runOpsT c (ops.toList.map (coper P imT nt ops)) st.env st.h=some (tr,env,h)∧indepD tr (Region.before ops).toList=true∧e = .normal∧st1=⟨keep after env,h⟩:=by
   split at hr
   ·simp only [runC] at hr
    split at hr
    case h_2=>cases hr
    rename_i env h hrun
    obtain ⟨tr,h1,h2⟩:=qg hrun
    simp only [Option.some.injEq,Prod.mk.injEq] at hr
    exact ⟨tr,env,h,h1,h2,hr.1.symm,hr.2.symm⟩
   ·simp only [if_true,runC] at hr
    split at hr
    case h_2=>cases hr
    rename_i tr env h hrun
    split at hr
    case isFalse=>cases hr
    rename_i hind
    simp only [Option.some.injEq,Prod.mk.injEq] at hr
    exact ⟨tr,env,h,hrun,hind,hr.1.symm,hr.2.symm⟩
  clear hr
  obtain ⟨tr,env,h,hrun,hind,rfl,rfl⟩:=hdr
  obtain ⟨E,Hs,R,a1,a2,a3,a4,a5,a6⟩:=pg _ _ _ _ _ _ hrun
  simp only [List.length_map,Array.length_toList] at a3 a4 a5 a6
  have hreg:Reg P imT c nt ops E Hs R tr:=by
   refine ⟨hO,fun i o ho => ?_,fun i o e ho he hb => ?_,fun i j hij hj hb => ?_⟩
   ·have hlt:=(Array.getElem?_eq_some_iff.1 ho).1
    have:=a6 i hlt
    simp only [List.getElem_map,Array.getElem_toList] at this
    rw [(Array.getElem?_eq_some_iff.1 ho).2] at this
    exact this
   ·simp only [Bool.true_and,Bool.not_eq_true',Bool.not_eq_false,Bool.and_eq_true] at hedge
    have h1:=Array.all_eq_true'.1 hedge.1 (o,i) (by
     rw [Array.mem_zipIdx_iff_getElem?];exact ho)
    have h2:=Array.all_eq_true'.1 h1 e he
    rw [hb] at h2
    simpa using h2
   ·simp only [Bool.true_and,Bool.not_eq_true',Bool.not_eq_false,Bool.and_eq_true] at hedge
    have hget:(Region.before ops).toList.getD j 0=(Region.before ops).getD j 0:=by
     simp [List.getD_eq_getElem?_getD,Array.getD_eq_getD_getElem?]
    have hb':((Region.before ops).toList.getD j 0).testBit i=false:=by rw [hget];exact hb
    have hl1:i<(ops.toList.map (coper P imT nt ops)).length:=by simp;omega
    have hl2:j<(ops.toList.map (coper P imT nt ops)).length:=by simp;omega
    exact tn (mT hedge.2 i j hij hl2 hb') (mS hind i j hij (by omega) hb') (ik hrun i hl1) (ik hrun j hl2)
  refine wp_region_any hm ?_
  have hi':=hi.drew
  rw [←a1,←a2] at hi'
  refine uW (I0:=I0) (μ0:=μ0) (w0:=w0) hreg hi'.keys hi.base (fun a' w' I' μ' hi2=>hQ a' w' I' μ' ?_) ops.size _ a _ I μ (by simp) (by
    refine Nat.le_trans (List.length_filter_le _ _) ?_
    simp) ?_
  ·rw [a3,a4] at hi2
   exact hi2.keep after
  ·have hfalse:(fun k=>(Array.replicate ops.size false).getD k false)=fun _=>false:=funext fun k=>by
    simp only [Array.getD_eq_getD_getElem?,Array.getElem?_replicate]
    split<;>rfl
   rw [hfalse]
   have he : ∀ k t,eD (E 0) R tr (fun _=>false) k t=get (E 0) t:=by
    intro k
    induction k with
    | zero=>intro t;rfl
    | succ k ih=>intro t;rw [eD,if_neg (by simp)];exact ih t
   have hl : ∀ k id,lD c.H c.nx Hs tr (fun _=>false) k id=look c.H c.nx (Hs 0) id:=by
    intro k
    induction k with
    | zero=>intro t;rfl
    | succ k ih=>intro t;rw [lD,if_neg (by simp)];exact ih t
   refine ⟨fun t=>by rw [he];exact hi'.env t,hi'.size,hi'.defers,?_,fun id h1 _=>hi'.none id h1,hi'.glob,fun j o e hj=>by cases hj⟩
   have:lD c.H c.nx Hs tr (fun _=>false) ops.size=look c.H c.nx (Hs 0):=funext fun id=>hl _ id
   rw [this]
   exact hi'.goes.congrN fun id=>by simp
theorem jn {b:IRC} (hb:splitI b=none) (l:List (Nat × List Nat)) (id:Nat) (a:List Nat):splitI (thenT b (tidyOf l id a))=none:=by
 unfold tidyOf
 split
 ·simp [thenT,splitI,hb]
 ·simpa [thenT] using hb
theorem cK {P:Program} {imT:An} {nt:Nat} {res:List Nat} : ∀ (c:Code) (x:LCtx) (a:List Nat),splitI (cc P imT nt res x c a).1=none→∀ j,findLabel c j=none
 | .label l,x,a,h,j=>by simp [cc,splitI] at h
 | .seq p q,x,a,h,j=>by
  simp only [cc,splitI] at h
  split at h
  ·cases h
  ·rename_i h1
   split at h
   ·cases h
   ·rename_i h2
    simp only [findLabel,cK p _ _ h1 j,cK q _ _ h2 j]
 | .skip,x,a,h,j=>rfl
 | .region ..,x,a,h,j=>rfl
 | .cond ..,x,a,h,j=>rfl
 | .block ..,x,a,h,j=>rfl
 | .loop ..,x,a,h,j=>rfl
 | .exit ..,x,a,h,j=>rfl
 | .ret,x,a,h,j=>rfl
 | .rangeFunc ..,x,a,h,j=>rfl
 | .scope ..,x,a,h,j=>rfl
 | .goto ..,x,a,h,j=>rfl
 | .refuse ..,x,a,h,j=>rfl
theorem fm {P:Program} {imT:An} {nt:Nat} {res:List Nat} : ∀ (c:Code) (x:LCtx) (a:List Nat) (X:IRC) (l:Nat) (lv:List Nat) (Y:IRC),splitI (cc P imT nt res x c a).1=some (X,l,lv,Y) →
  (∃ rest,findLabel c l=some rest∧(cc P imT nt res x rest a).1=Y)∧(splitI Y=none→∀ j,j≠l→findLabel c j=none)
 | .label k,x,a,X,l,lv,Y,h=>by
  simp only [cc,splitI,Option.some.injEq,Prod.mk.injEq] at h
  obtain ⟨rfl,rfl,rfl,rfl⟩:=h
  refine ⟨⟨.skip,by simp [findLabel],rfl⟩,fun _ j hj => ?_⟩
  have : ¬(k==j)=true:=by simp;exact fun e=>hj e.symm
  simp [findLabel,this]
 | .seq p q,x,a,X,l,lv,Y,h=>by
  simp only [cc,splitI] at h
  split at h
  ·rename_i X1 l1 lv1 Y1 h1
   simp only [Option.some.injEq,Prod.mk.injEq] at h
   obtain ⟨rfl,rfl,rfl,rfl⟩:=h
   obtain ⟨⟨rest,h2,h3⟩,h4⟩:=fm p _ _ _ _ _ _ h1
   refine ⟨⟨.seq rest q,by simp [findLabel,h2],by simp only [cc,h3]⟩,fun hn j hj => ?_⟩
   simp only [splitI] at hn
   split at hn
   ·cases hn
   ·rename_i h5
    split at hn
    ·cases hn
    ·rename_i h6
     simp only [findLabel,h4 h5 j hj,cK q _ _ h6 j]
  ·rename_i h1
   split at h
   ·rename_i X1 l1 lv1 Y1 h2
    simp only [Option.some.injEq,Prod.mk.injEq] at h
    obtain ⟨rfl,rfl,rfl,rfl⟩:=h
    obtain ⟨⟨rest,h3,h4⟩,h5⟩:=fm q _ _ _ _ _ _ h2
    refine ⟨⟨rest,by simp only [findLabel,cK p _ _ h1,h3],h4⟩,fun hn j hj => ?_⟩
    simp only [findLabel,cK p _ _ h1,h5 hn j hj]
   ·cases h
 | .skip,x,a,X,l,lv,Y,h=>by simp [cc,splitI] at h
 | .region id ops draw,x,a,X,l,lv,Y,h=>by
  simp only [cc] at h
  rw [jn (by split<;>(try split)<;>rfl)] at h
  cases h
 | .cond ..,x,a,X,l,lv,Y,h=>by
  simp only [cc,kpI] at h
  split at h<;>simp [splitI] at h
 | .block ..,x,a,X,l,lv,Y,h=>by
  simp only [cc] at h
  rw [jn rfl] at h
  cases h
 | .loop ..,x,a,X,l,lv,Y,h=>by simp [cc,splitI] at h
 | .exit ..,x,a,X,l,lv,Y,h=>by
  simp only [cc,kpX] at h
  split at h<;>simp [splitI] at h
 | .ret,x,a,X,l,lv,Y,h=>by simp [cc,splitI] at h
 | .rangeFunc ..,x,a,X,l,lv,Y,h=>by simp [cc,splitI] at h
 | .scope c,x,a,X,l,lv,Y,h=>by
  simp only [cc] at h
  split at h
  ·split at h<;>simp [splitI] at h
  ·simp [splitI] at h
 | .goto ..,x,a,X,l,lv,Y,h=>by
  simp only [cc,kpG] at h
  split at h<;>simp [splitI] at h
 | .refuse ..,x,a,X,l,lv,Y,h=>by simp [cc,splitI] at h
theorem gI (c:Ctx) (n:Nat) : ∀ (i X:IRC) (l:Nat) (lv:List Nat) (Y:IRC) (st:St),splitI i=some (X,l,lv,Y)→runC c n i st=match runC c n X st with
  | some (.normal,st')=>runC c n Y st'
  | r=>r
 | .label k lv',X,l,lv,Y,st,h=>by
  simp only [splitI,Option.some.injEq,Prod.mk.injEq] at h
  obtain ⟨rfl,rfl,rfl,rfl⟩:=h
  rfl
 | .seq p q,X,l,lv,Y,st,h=>by
  simp only [splitI] at h
  split at h
  ·rename_i X1 l1 lv1 Y1 h1
   simp only [Option.some.injEq,Prod.mk.injEq] at h
   obtain ⟨rfl,rfl,rfl,rfl⟩:=h
   simp only [runC,gI c n p _ _ _ _ st h1]
   cases runC c n X1 st with
   | none=>rfl
   | some r=>
    obtain ⟨e,s⟩:=r
    cases e<;>rfl
  ·split at h
   ·rename_i X1 l1 lv1 Y1 h2
    simp only [Option.some.injEq,Prod.mk.injEq] at h
    obtain ⟨rfl,rfl,rfl,rfl⟩:=h
    simp only [runC]
    cases runC c n p st with
    | none=>rfl
    | some r=>
     obtain ⟨e,s⟩:=r
     cases e with
     | normal=>exact gI c n q _ _ _ _ s h2
     | _=>rfl
   ·cases h
 | .skip,_,_,_,_,_,h=>by simp [splitI] at h
 | .region ..,_,_,_,_,_,h=>by simp [splitI] at h
 | .cond ..,_,_,_,_,_,h=>by simp [splitI] at h
 | .block ..,_,_,_,_,_,h=>by simp [splitI] at h
 | .loop ..,_,_,_,_,_,h=>by simp [splitI] at h
 | .exit ..,_,_,_,_,_,h=>by simp [splitI] at h
 | .ret,_,_,_,_,_,h=>by simp [splitI] at h
 | .bad,_,_,_,_,_,h=>by simp [splitI] at h
 | .goto ..,_,_,_,_,_,h=>by simp [splitI] at h
 | .scope ..,_,_,_,_,_,h=>by simp [splitI] at h
 | .tidy ..,_,_,_,_,_,h=>by simp [splitI] at h
 | .regq ..,_,_,_,_,_,h=>by simp [splitI] at h
def jumps (P:Program) (p:Code) (Q:Exit→Act→World→Prop):Nat→Code→Act→World→Prop
 | 0,_,_,_=>False
 | n+1,c,a,w=>c.wp P (fun e a w=>match e with
  | .goto l=>(match findLabel p l with
   | some rest=>jumps P p Q n rest a w
   | none=>Q (.goto l) a w)
  | e=>Q e a w) a w
theorem nr {P:Program} {b:Frame} {a:Act} {k:List Item} {cs:List Frame} {w:World} {c:Code} : step P (lone (b.at a (.inScope c::k)) cs w) = .next (lone (b.at a k) cs w):=
 step_lone_go (by simp [stepG,stepG.exec,Frame.at])
theorem qk {P:Program} {b:Frame} {a:Act} {k:List Item} {cs:List Frame} {w:World} {c:Code} : step P (lone (b.at a (.code (.scope c)::k)) cs w) = .next (lone (b.at a (.code c :: .inScope c::k)) cs w):=
 step_lone_go (by simp [stepG,stepG.exec,Frame.at])
theorem iq {P:Program} {p:Code} {Q:Exit→Act→World→Prop} {a:Act} {w:World} (n:Nat) (h:jumps P p Q n p a w):(Code.scope p).wp P Q a w:=by
 intro b k cs
 have key : ∀ n c a w,jumps P p Q n c a w→∃ e a' w',Q e a' w'∧Arrives P (lone (b.at a (.code c :: .inScope p::k)) cs w) b k cs e a' w':=by
  intro n
  induction n with
  | zero=>intro c a w h;exact h.elim
  | succ n ih=>
   intro c a w h
   obtain ⟨e,a₁,w₁,hq,harr⟩:=h b (.inScope p::k) cs
   cases e with
   | normal=>exact ⟨.normal,a₁,w₁,hq,Steps.trans harr (.one nr)⟩
   | exit id=>exact ⟨.exit id,a₁,w₁,hq,fun k' hk=>harr k' (by simp [exitTo,hk])⟩
   | goto l=>
    simp only at hq
    split at hq
    ·rename_i rest hl
     obtain ⟨e₂,a₂,w₂,hq₂,harr₂⟩:=ih rest a₁ w₁ hq
     exact ⟨e₂,a₂,w₂,hq₂,.of_steps (harr _ (by simp [gotoIn,hl])) harr₂⟩
    ·rename_i hl
     exact ⟨.goto l,a₁,w₁,hq,fun k' hk=>harr k' (by simp [gotoIn,hl,hk])⟩
   | ret=>exact ⟨_,a₁,w₁,hq,harr⟩
   | panic ch=>exact ⟨_,a₁,w₁,hq,harr⟩
   | outgrown=>exact ⟨_,a₁,w₁,hq,harr⟩
 obtain ⟨e,a',w',hq,harr⟩:=key n p a w h
 exact ⟨e,a',w',hq,.of_steps (.one qk) harr⟩
def CS (P:Program) (imT:An) (c:Ctx) (I0:Nat→Prop) (μ0:Mu) (w0:World) (nt:Nat) (res:List Nat) (n:Nat) (code:Code):Prop:=
 ∀ (x:LCtx) (after:List Nat) (st st':St) (e:Ex) (a:Act) (w:World) (I:Nat→Prop) (μ:Mu) (Q:Exit→Act→World→Prop),
  runC c n (cc P imT nt res x code after).1 st=some (e,st')→Inv c I0 μ0 w0 nt st.env st.h a w I μ→(∀ a' w' I' μ',Inv c I0 μ0 w0 nt st'.env st'.h a' w' I' μ'→Q e.out a' w')→code.wp P Q a w
theorem qW {n:Nat} : CS P imT c I0 μ0 w0 nt res n .skip:=by
 intro x after st st' e a w I μ Q hr hi hQ
 simp only [cc,runC,Option.some.injEq,Prod.mk.injEq] at hr
 obtain ⟨rfl,rfl⟩:=hr
 exact wp_skip (hQ a w I μ hi)
theorem uR {n:Nat} {p q:Code} (hp:CS P imT c I0 μ0 w0 nt res n p) (hq:CS P imT c I0 μ0 w0 nt res n q):CS P imT c I0 μ0 w0 nt res n (.seq p q):=by
 intro x after st st' e a w I μ Q hr hi hQ
 simp only [cc,runC] at hr
 refine wp_seq ?_
 split at hr
 ·rename_i st1 h1
  refine hp _ _ st st1 .normal a w I μ _ h1 hi fun a' w' I' μ' hi' => ?_
  exact hq _ _ st1 st' e a' w' I' μ' _ hr hi' hQ
 ·rename_i hne
  cases hrun:runC c n (cc P imT nt res x p (cc P imT nt res x q after).2).1 st with
  | none=>rw [hrun] at hr;cases hr
  | some y=>
   obtain ⟨e1,st1⟩:=y
   rw [hrun] at hr
   simp only [Option.some.injEq,Prod.mk.injEq] at hr
   obtain ⟨rfl,rfl⟩:=hr
   refine hp _ _ st st1 e1 a w I μ _ hrun hi fun a' w' I' μ' hi' => ?_
   have hn:e1 ≠ .normal:=fun h=>by subst h;exact hne st1 hrun
   cases e1 with
   | normal=>exact absurd rfl hn
   | exit id=>exact hQ a' w' I' μ' hi'
   | ret=>exact hQ a' w' I' μ' hi'
   | goto l=>exact hQ a' w' I' μ' hi'
theorem xU {n:Nat} {k:Bool} {b:IRC} {l:List Nat} {st st':St} {e:Ex} {Q:Exit→Act→World→Prop} (h:runC c n (kpI k b l) st=some (e,st')) (hQ : ∀ a' w' I' μ',Inv c I0 μ0 w0 nt st'.env st'.h a' w' I' μ'→Q e.out a' w'):
  ∃ st1,runC c n b st=some (e,st1)∧∀ a' w' I' μ',Inv c I0 μ0 w0 nt st1.env st1.h a' w' I' μ'→Q e.out a' w':=by
 cases k with
 | false=>exact ⟨st',h,hQ⟩
 | true=>
  simp only [kpI,if_true,runC] at h
  split at h
  ·rename_i st1 h1
   simp only [runOps,Option.some.injEq,Prod.mk.injEq] at h
   obtain ⟨rfl,rfl⟩:=h
   exact ⟨st1,h1,fun a' w' I' μ' i=>hQ a' w' I' μ' (i.keep l)⟩
  ·exact ⟨st',h,hQ⟩
theorem xr {n:Nat} {o:Operand} {p q:Code} (hp:CS P imT c I0 μ0 w0 nt res n p) (hq:CS P imT c I0 μ0 w0 nt res n q):CS P imT c I0 μ0 w0 nt res n (.cond o p q):=by
 intro x after st st' e a w I μ Q hr hi hQ
 simp only [cc] at hr
 obtain ⟨st1,hr,hQ⟩:=xU hr hQ
 simp only [runC] at hr
 split at hr
 case h_2=>cases hr
 rename_i t ht
 have hv:=hi.env.opds hi.glob o
 rw [ht] at hv
 refine wp_cond (t:=t) (bh hv) ?_
 cases t with
 | true=>simp only [if_true] at hr ⊢;exact hp _ _ st st1 e a w I μ Q hr hi hQ
 | false=>simp only [Bool.false_eq_true,if_false] at hr ⊢;exact hq _ _ st st1 e a w I μ Q hr hi hQ
theorem uO {n:Nat} {id:Nat} {p:Code} (hp:CS P imT c I0 μ0 w0 nt res n p):CS P imT c I0 μ0 w0 nt res n (.block id p):=by
 intro x after st st' e a w I μ Q hr hi hQ
 simp only [cc] at hr
 obtain ⟨stt,hr,hti⟩:=mg (I0:=I0) (μ0:=μ0) (w0:=w0) (nt:=nt) hr
 have hQ : ∀ a' w' I' μ',Inv c I0 μ0 w0 nt stt.env stt.h a' w' I' μ'→Q e.out a' w':=fun a' w' I' μ' i=>by
  obtain ⟨I'',μ'',i'⟩:=hti a' w' I' μ' i
  exact hQ a' w' I'' μ'' i'
 clear hti
 simp only [runC] at hr
 refine wp_block ?_
 split at hr
 ·rename_i j st1 h1
  refine hp _ _ st st1 (.exit j) a w I μ _ h1 hi fun a' w' I' μ' hi' => ?_
  simp only [Ex.out,Exit.inBlock]
  split at hr
  ·rename_i hj
   simp only [Option.some.injEq,Prod.mk.injEq] at hr
   obtain ⟨rfl,rfl⟩:=hr
   rw [if_pos hj]
   exact hQ a' w' I' μ' hi'
  ·rename_i hj
   simp only [Option.some.injEq,Prod.mk.injEq] at hr
   obtain ⟨rfl,rfl⟩:=hr
   rw [if_neg hj]
   exact hQ a' w' I' μ' hi'
 ·rename_i hne
  cases hrun:runC c n (cc P imT nt res ((id,after)::x) p after).1 st with
  | none=>rw [hrun] at hr;cases hr
  | some y=>
   obtain ⟨e1,st1⟩:=y
   rw [hrun] at hr
   simp only [Option.some.injEq,Prod.mk.injEq] at hr
   obtain ⟨rfl,rfl⟩:=hr
   refine hp _ _ st st1 e1 a w I μ _ hrun hi fun a' w' I' μ' hi' => ?_
   cases e1 with
   | normal=>exact hQ a' w' I' μ' hi'
   | exit j=>exact absurd hrun (hne j st1)
   | ret=>exact hQ a' w' I' μ' hi'
   | goto l=>exact hQ a' w' I' μ' hi'
theorem xv {n:Nat} {p:Code} (hp:CS P imT c I0 μ0 w0 nt res n p):CS P imT c I0 μ0 w0 nt res n (.loop p):=by
 intro x after st st' e a w I μ Q hr hi hQ
 simp only [cc,runC] at hr
 obtain ⟨l,hl⟩ : ∃ l,l=(cc P imT nt res x p (cc P imT nt res x p []).2).2:=⟨_,rfl⟩
 obtain ⟨l2,hl2⟩ : ∃ l2,l2=(cc P imT nt res x p l).2:=⟨_,rfl⟩
 rw [←hl,←hl2] at hr
 have key : ∀ (k:Nat) (st:St) (a:Act) (w:World) (I:Nat→Prop) (μ:Mu),iter (runC c n (if imT.lp then .seq (.tidy l2 []) (cc P imT nt res x p l).1 else (cc P imT nt res x p l).1)) k st=some (e,st')→Inv c I0 μ0 w0 nt st.env st.h a w I μ→Code.rounds P p Q k a w:=by
  intro k
  induction k with
  | zero=>intro st a w I μ hk;simp [iter] at hk
  | succ k ih=>
   intro st a w I μ hk hi
   simp only [iter] at hk
   rw [rounds_succ]
   split at hk
   ·rename_i st1 h1
    obtain ⟨st0,h1,hti⟩:=lH (I0:=I0) (μ0:=μ0) (w0:=w0) (nt:=nt) h1
    obtain ⟨I2,μ2,hi2⟩:=hti a w I μ hi
    exact hp _ _ st0 st1 .normal a w I2 μ2 _ h1 hi2 fun a' w' I' μ' hi'=>ih st1 a' w' I' μ' hk hi'
   ·rename_i hne
    cases hrun:runC c n (if imT.lp then .seq (.tidy l2 []) (cc P imT nt res x p l).1 else (cc P imT nt res x p l).1) st with
    | none=>rw [hrun] at hk;cases hk
    | some y=>
     obtain ⟨e1,st1⟩:=y
     rw [hrun] at hk
     simp only [Option.some.injEq,Prod.mk.injEq] at hk
     obtain ⟨rfl,rfl⟩:=hk
     obtain ⟨st0,hrun0,hti⟩:=lH (I0:=I0) (μ0:=μ0) (w0:=w0) (nt:=nt) hrun
     obtain ⟨I2,μ2,hi2⟩:=hti a w I μ hi
     refine hp _ _ st0 st1 e1 a w I2 μ2 _ hrun0 hi2 fun a' w' I' μ' hi' => ?_
     cases e1 with
     | normal=>exact absurd hrun (hne st1)
     | exit j=>exact hQ a' w' I' μ' hi'
     | ret=>exact hQ a' w' I' μ' hi'
     | goto l=>exact hQ a' w' I' μ' hi'
 exact wp_loop_rounds n (key n st a w I μ hr hi)
theorem xt {n id:Nat} : CS P imT c I0 μ0 w0 nt res n (.exit id):=by
 intro x after st st' e a w I μ Q hr hi hQ
 simp only [cc,kpX] at hr
 split at hr
 ·simp only [runC,runOps,Option.some.injEq,Prod.mk.injEq] at hr
  obtain ⟨rfl,rfl⟩:=hr
  exact wp_exit (hQ a w I μ (hi.keep _))
 ·simp only [runC,Option.some.injEq,Prod.mk.injEq] at hr
  obtain ⟨rfl,rfl⟩:=hr
  exact wp_exit (hQ a w I μ hi)
theorem zP {n:Nat} : CS P imT c I0 μ0 w0 nt res n .ret:=by
 intro x after st st' e a w I μ Q hr hi hQ
 simp only [cc,runC,Option.some.injEq,Prod.mk.injEq] at hr
 obtain ⟨rfl,rfl⟩:=hr
 exact wp_ret (hQ a w I μ hi)
theorem uP {n l:Nat} : CS P imT c I0 μ0 w0 nt res n (.label l):=by
 intro x after st st' e a w I μ Q hr hi hQ
 simp only [cc,runC,Option.some.injEq,Prod.mk.injEq] at hr
 obtain ⟨rfl,rfl⟩:=hr
 exact wp_label (hQ a w I μ hi)
theorem xu {n l:Nat} : CS P imT c I0 μ0 w0 nt res n (.goto l):=by
 intro x after st st' e a w I μ Q hr hi hQ
 simp only [cc,kpG] at hr
 split at hr
 ·simp only [runC,runOps,Option.some.injEq,Prod.mk.injEq] at hr
  obtain ⟨rfl,rfl⟩:=hr
  exact wp_goto (hQ a w I μ (hi.keep _))
 ·simp only [runC,Option.some.injEq,Prod.mk.injEq] at hr
  obtain ⟨rfl,rfl⟩:=hr
  exact wp_goto (hQ a w I μ hi)
theorem uQ {n:Nat} {p:Code} (hp:CS P imT c I0 μ0 w0 nt res n p) (hr' : ∀ l rest,findLabel p l=some rest→CS P imT c I0 μ0 w0 nt res n rest):CS P imT c I0 μ0 w0 nt res n (.scope p):=by
 intro x after st st' e a w I μ Q hr hi hQ
 simp only [cc] at hr
 split at hr
 case h_2=>simp [runC] at hr
 rename_i X l lv Y hs
 split at hr
 case isFalse=>simp [runC] at hr
 rename_i hn
 have hn':splitI Y=none:=by simpa using hn
 obtain ⟨x',hx'⟩ : ∃ x',x'=labelOf (cc P imT nt res (labelOf (cc P imT nt res x p after).1++x) p after).1++x:=⟨_,rfl⟩
 rw [←hx'] at hs
 obtain ⟨⟨rest,hl,hY⟩,hne⟩:=fm p x' after X l lv Y hs
 have hne:=hne hn'
 have hrun:=gI c n _ _ _ _ _ st hs
 have key : ∀ (k:Nat) (s:St) (a:Act) (w:World) (I:Nat→Prop) (μ:Mu),iterG (runC c n Y) l k s=some (e,st')→Inv c I0 μ0 w0 nt s.env s.h a w I μ→jumps P p Q k rest a w:=by
  intro k
  induction k with
  | zero=>intro s a w I μ hk;simp [iterG] at hk
  | succ k ih=>
   intro s a w I μ hk hi
   simp only [iterG] at hk
   cases hY':runC c n Y s with
   | none=>rw [hY'] at hk;cases hk
   | some r=>
    obtain ⟨e1,s1⟩:=r
    rw [hY'] at hk
    refine hr' l rest hl x' after s s1 e1 a w I μ _ (by rw [hY];exact hY') hi fun a' w' I' μ' hi' => ?_
    cases e1 with
    | goto j=>
     simp only at hk
     split at hk
     ·rename_i e2
      subst e2
      simp only [Ex.out,hl]
      exact ih s1 a' w' I' μ' hk hi'
     ·rename_i e2
      simp only [Option.some.injEq,Prod.mk.injEq] at hk
      obtain ⟨rfl,rfl⟩:=hk
      simp only [Ex.out,hne j e2]
      exact hQ a' w' I' μ' hi'
    | normal=>
     simp only [Option.some.injEq,Prod.mk.injEq] at hk
     obtain ⟨rfl,rfl⟩:=hk
     exact hQ a' w' I' μ' hi'
    | exit id=>
     simp only [Option.some.injEq,Prod.mk.injEq] at hk
     obtain ⟨rfl,rfl⟩:=hk
     exact hQ a' w' I' μ' hi'
    | ret=>
     simp only [Option.some.injEq,Prod.mk.injEq] at hk
     obtain ⟨rfl,rfl⟩:=hk
     exact hQ a' w' I' μ' hi'
 simp only [runC] at hr
 cases hX:runC c n X st with
 | none=>rw [hX] at hr;cases hr
 | some r=>
  obtain ⟨e1,s1⟩:=r
  rw [hX] at hr hrun
  cases e1 with
  | normal=>
   simp only at hr hrun
   obtain ⟨m,hm'⟩ : ∃ m,m=n:=⟨_,rfl⟩
   have hr0:iterG (runC c n Y) l m s1=some (e,st'):=by rw [hm'];exact hr
   cases m with
   | zero=>simp [iterG] at hr0
   | succ m=>
    simp only [iterG] at hr0
    cases hY':runC c n Y s1 with
    | none=>rw [hY'] at hr0;cases hr0
    | some r=>
     obtain ⟨e2,s2⟩:=r
     rw [hY'] at hr0
     refine iq (m+1) (hp x' after st s2 e2 a w I μ _ (by rw [hrun];exact hY') hi fun a' w' I' μ' hi' => ?_)
     cases e2 with
     | goto j=>
      simp only at hr0
      split at hr0
      ·rename_i e3
       subst e3
       simp only [Ex.out,hl]
       exact key m s2 a' w' I' μ' hr0 hi'
      ·rename_i e3
       simp only [Option.some.injEq,Prod.mk.injEq] at hr0
       obtain ⟨rfl,rfl⟩:=hr0
       simp only [Ex.out,hne j e3]
       exact hQ a' w' I' μ' hi'
     | normal=>
      simp only [Option.some.injEq,Prod.mk.injEq] at hr0
      obtain ⟨rfl,rfl⟩:=hr0
      exact hQ a' w' I' μ' hi'
     | exit id=>
      simp only [Option.some.injEq,Prod.mk.injEq] at hr0
      obtain ⟨rfl,rfl⟩:=hr0
      exact hQ a' w' I' μ' hi'
     | ret=>
      simp only [Option.some.injEq,Prod.mk.injEq] at hr0
      obtain ⟨rfl,rfl⟩:=hr0
      exact hQ a' w' I' μ' hi'
  | goto j=>
   simp only at hr hrun
   refine iq (n+1) (hp x' after st s1 (.goto j) a w I μ _ hrun hi fun a' w' I' μ' hi' => ?_)
   split at hr
   ·rename_i e3
    subst e3
    simp only [Ex.out,hl]
    exact key n s1 a' w' I' μ' hr hi'
   ·rename_i e3
    simp only [Option.some.injEq,Prod.mk.injEq] at hr
    obtain ⟨rfl,rfl⟩:=hr
    simp only [Ex.out,hne j e3]
    exact hQ a' w' I' μ' hi'
  | exit id=>
   simp only [Option.some.injEq,Prod.mk.injEq] at hr
   obtain ⟨rfl,rfl⟩:=hr
   exact iq 1 (hp x' after st s1 (.exit id) a w I μ _ hrun hi fun a' w' I' μ' hi'=>hQ a' w' I' μ' hi')
  | ret=>
   simp only [Option.some.injEq,Prod.mk.injEq] at hr
   obtain ⟨rfl,rfl⟩:=hr
   exact iq 1 (hp x' after st s1 .ret a w I μ _ hrun hi fun a' w' I' μ' hi'=>hQ a' w' I' μ' hi')
theorem zO (hO:OSound P c.G c.O) (hm:P.follows .mixedOrders=true) (n:Nat) : ∀ code:Code,CS P imT c I0 μ0 w0 nt res n code∧∀ l rest,findLabel code l=some rest→CS P imT c I0 μ0 w0 nt res n rest:=by
 intro code
 induction code with
 | skip=>exact ⟨qW,fun l rest h=>by cases h⟩
 | region id ops draw=>exact ⟨fun x after st st' e a w I μ Q hr hi hQ=>ng hO hm hr hi hQ,fun l rest h=>by cases h⟩
 | seq p q hp hq=>
  refine ⟨uR hp.1 hq.1,fun l rest h => ?_⟩
  simp only [findLabel] at h
  split at h
  ·rename_i r hr
   obtain rfl:=Option.some.inj h
   exact uR (hp.2 l r hr) hq.1
  ·exact hq.2 l rest h
 | cond o p q hp hq=>exact ⟨xr hp.1 hq.1,fun l rest h=>by cases h⟩
 | block id p hp=>exact ⟨uO hp.1,fun l rest h=>by cases h⟩
 | loop p hp=>exact ⟨xv hp.1,fun l rest h=>by cases h⟩
 | rangeFunc f ps as p=>exact ⟨fun x after st st' e a w I μ Q hr hi hQ=>by simp [cc,runC] at hr,fun l rest h=>by cases h⟩
 | exit id=>exact ⟨xt,fun l rest h=>by cases h⟩
 | scope p hp=>exact ⟨uQ hp.1 hp.2,fun l rest h=>by cases h⟩
 | label k=>
  refine ⟨uP,fun l rest h => ?_⟩
  simp only [findLabel] at h
  split at h
  ·obtain rfl:=Option.some.inj h
   exact qW
  ·cases h
 | goto l=>exact ⟨xu,fun l rest h=>by cases h⟩
 | ret=>exact ⟨zP,fun l rest h=>by cases h⟩
 | refuse why=>exact ⟨fun x after st st' e a w I μ Q hr hi hQ=>by simp [cc,runC] at hr,fun l rest h=>by cases h⟩
theorem pH (hO:OSound P c.G c.O) (hm:P.follows .mixedOrders=true) (n:Nat) : ∀ (code:Code) (x:LCtx) (after:List Nat) (st st':St) (e:Ex) (a:Act) (w:World) (I:Nat→Prop) (μ:Mu) (Q:Exit→Act→World→Prop),
  runC c n (cc P imT nt res x code after).1 st=some (e,st')→Inv c I0 μ0 w0 nt st.env st.h a w I μ→(∀ a' w' I' μ',Inv c I0 μ0 w0 nt st'.env st'.h a' w' I' μ'→Q e.out a' w')→code.wp P Q a w:=fun code=>(zO hO hm n code).1
end
end Go.Sx
end

section
namespace Go.Sx
open Go
theorem iH (seen:List Nat) (nx:Nat) : ∀ cs:List LV,(bk.go seen nx cs).length=cs.length
 | []=>rfl
 | x::r=>by simp only [bk.go,List.length_cons,iH seen nx r]
theorem iG (seen:List Nat) (nx:Nat) : ∀ (cs:List LV) (j:Nat),(bk.go seen nx cs)[j]?=(cs[j]?).map (bk seen nx)
 | [],j=>by simp [bk.go]
 | x::r,0=>by simp [bk.go]
 | x::r,j+1=>by simp [bk.go,iG seen nx r j]
theorem zL {seen:List Nat} {nx:Nat} : ∀ (l l':LV),ren 0 seen l=some l'→bk seen nx l'=l:=by
 have hid : ∀ i j,renId 0 seen i=some j→bkId seen nx j=i:=fun i j h=>by
  simp only [renId,Nat.not_lt_zero,if_false] at h
  split at h
  ·rename_i k hk
   obtain rfl:=Option.some.inj h
   obtain ⟨hlt,he,_⟩:=List.idxOf?_eq_some_iff.1 hk
   simp only [bkId,Nat.zero_add,List.getElem?_eq_getElem hlt]
   simpa using he
  ·cases h
 intro l
 refine LV.rec (motive_1:=fun l=>∀ l',ren 0 seen l=some l'→bk seen nx l'=l) (motive_2:=fun cs=>∀ cs',ren.go 0 seen cs=some cs'→bk.go seen nx cs'=cs) ?_ ?_ ?_ ?_ ?_ ?_ ?_ ?_ ?_ l
 ·intro l' h;simp only [ren,Option.some.injEq] at h;subst h;rfl
 ·intro x l' h;simp only [ren,Option.some.injEq] at h;subst h;rfl
 ·intro i off l' h
  simp only [ren] at h
  split at h
  ·rename_i j hj;obtain rfl:=Option.some.inj h;simp only [bk,hid i j hj]
  ·cases h
 ·intro i off len sz cp ex l' h
  simp only [ren] at h
  split at h
  ·rename_i j hj;obtain rfl:=Option.some.inj h;simp only [bk,hid i j hj]
  ·cases h
 ·intro cs ih l' h
  simp only [ren] at h
  split at h
  ·rename_i x hx;obtain rfl:=Option.some.inj h;simp only [bk,ih x hx]
  ·cases h
 ·intro cs ih l' h
  simp only [ren] at h
  split at h
  ·rename_i x hx;obtain rfl:=Option.some.inj h;simp only [bk,ih x hx]
  ·cases h
 ·intro f a b iha ihb l' h
  simp only [ren] at h
  split at h
  ·rename_i x y hx hy;obtain rfl:=Option.some.inj h;simp only [bk,iha x hx,ihb y hy]
  ·cases h
 ·intro cs' h;simp only [ren.go,Option.some.injEq] at h;subst h;rfl
 ·intro x r ihx ihr cs' h
  simp only [ren.go] at h
  split at h
  ·rename_i y l h1 h2;obtain rfl:=Option.some.inj h;simp only [bk.go,ihx y h1,ihr l h2]
  ·cases h
theorem xf {seen:List Nat} {nx:Nat} {o o':Option Obj} (h:renO 0 seen o=some o'):bkO seen nx o'=o:=by
 cases o with
 | none=>simp only [renO,Option.some.injEq] at h;subst h;rfl
 | some o=>
  cases o with
  | cells cs=>
   simp only [renO] at h
   split at h
   ·rename_i l hl
    obtain rfl:=Option.some.inj h
    have:=zL (seen:=seen) (nx:=nx) (.agg cs) (.agg l) (by simp only [ren,hl])
    simp only [bk,LV.agg.injEq] at this
    simp only [bkO,this]
   ·cases h
  | iter s q=>simp only [renO,Option.some.injEq] at h;subst h;rfl
theorem VR.bk {I:Nat→Prop} {μ μ':Mu} {w:World} {seen:List Nat} {nx:Nat} (hμ : ∀ id x,μ id=some x→μ' (bkId seen nx id)=some x) {l:LV} {v:Value} (h:VR I μ w l v):VR I μ' w (bk seen nx l) v:=by
 induction h with
 | junk v=>exact .junk v
 | p h=>exact .p h
 | ref id off b o s h=>exact .ref _ off b o s (hμ _ _ h)
 | arr id off len sz cp ex b o s o' cap h ho hlen hcp hf hs=>exact .arr _ off len sz cp ex b o s o' cap (hμ _ _ h) ho hlen hcp hf hs
 | agg cs a hl h1 _ ih=>
  refine .agg _ a (by rw [iH];exact hl) h1 fun j l u hj hu => ?_
  rw [iG] at hj
  obtain ⟨l0,h0,rfl⟩:=Option.map_eq_some_iff.1 hj
  exact ih j l0 u h0 hu
 | tuple cs a hl _ ih=>
  refine .tuple _ a (by rw [iH];exact hl) fun j l u hj hu => ?_
  rw [iG] at hj
  obtain ⟨l0,h0,rfl⟩:=Option.map_eq_some_iff.1 hj
  exact ih j l0 u h0 hu
 | fn f fs cs fa ca hl hl' _ _ ih ih'=>
  refine .fn f _ _ fa ca (by rw [iH];exact hl) (by rw [iH];exact hl') (fun j l u hj hu => ?_) fun j l u hj hu => ?_
  ·rw [iG] at hj
   obtain ⟨l0,h0,rfl⟩:=Option.map_eq_some_iff.1 hj
   exact ih j l0 u h0 hu
  ·rw [iG] at hj
   obtain ⟨l0,h0,rfl⟩:=Option.map_eq_some_iff.1 hj
   exact ih' j l0 u h0 hu
theorem OR.bk {I:Nat→Prop} {μ μ':Mu} {w:World} {seen:List Nat} {nx id:Nat} (hμ : ∀ id x,μ id=some x→μ' (bkId seen nx id)=some x) {o:Obj} (h:OR I μ w id o) : ∃ p,bkO seen nx (some o)=some p∧OR I μ' w (bkId seen nx id) p:=by
 cases o with
 | cells cs=>
  obtain ⟨b,o,s,e,hm,hs,hle,hf,hc⟩:=h
  refine ⟨_,rfl,b,o,s,e,hμ _ _ hm,hs,by rw [iH];exact hle,hf,fun j l hj => ?_⟩
  rw [iG] at hj
  obtain ⟨l0,h0,rfl⟩:=Option.map_eq_some_iff.1 hj
  obtain ⟨u,h1,h2,h3⟩:=hc j l0 h0
  exact ⟨u,h1,h2,h3.bk hμ⟩
 | iter s q=>
  obtain ⟨b,hm,hb⟩:=h
  exact ⟨_,rfl,b,hμ _ _ hm,hb⟩
theorem g9 {H:Heap} {seen:List Nat} : ∀ {l:List Nat} {n:List (Option Obj)},renH H seen l=some n→n.length=l.length∧∀ (k:Nat) id,l[k]?=some id→∃ p,n[k]?=some p∧renO 0 seen (H id)=some p
 | [],n,h=>by simp only [renH,Option.some.injEq] at h;subst h;exact ⟨rfl,by simp⟩
 | x::r,n,h=>by
  simp only [renH] at h
  split at h
  ·rename_i p l h1 h2
   obtain rfl:=Option.some.inj h
   obtain ⟨g1,g2⟩:=g9 h2
   refine ⟨by simp [g1],fun k id hk => ?_⟩
   cases k with
   | zero=>simp at hk;subst hk;exact ⟨p,rfl,h1⟩
   | succ k=>exact g2 k id hk
  ·cases h
theorem Sim.can {P:Program} {G:Nat→Option (List PV)} {f:FuncId} {args a:List LV} {H:Heap} {nx:Nat} {seen:List Nat} {l:List (Option Obj)} {r:LV} {u U:Upd} {n:List (Option Obj)}
  (hs:reach H 1000 (ids.idsL args) []=some seen) (ha:ren.go 0 seen args=some a) (hl:renH H seen seen=some l) (s:Sim P G f a (hpL l) l.length r u n)
  (hU : ∀ id,¬id∈seen→findU U id=none) (hUs : ∀ c id,seen[c]?=some id→(findU U id).getD (H id)=bkO seen nx (look (hpL l) l.length ⟨u,n⟩ c)):
  Sim P G f args H nx (bk seen nx r) U (n.map (bkO seen nx)):=by
 have hnd:seen.Nodup:=bL 1000 _ _ seen hs (by simp)
 have hal : ∀ id∈seen,(H id).isSome=true:=ce 1000 _ _ seen hs (by simp)
 obtain ⟨hll,hlg⟩:=g9 hl
 obtain ⟨hal1,hag⟩:=gw ha
 have hgetc : ∀ c o,hpL l c=some o→∃ id p,seen[c]?=some id∧H id=some p∧renO 0 seen (some p)=some (some o):=fun c o h=>by
  simp only [hpL] at h
  split at h
  ·rename_i q hq
   subst h
   have hlt:c<seen.length:=by rw [←hll];exact (List.getElem?_eq_some_iff.1 hq).1
   obtain ⟨p,h1,h2⟩:=hlg c seen[c] (List.getElem?_eq_getElem hlt)
   rw [hq] at h1
   obtain rfl:=Option.some.inj h1
   obtain ⟨o',ho'⟩:=Option.isSome_iff_exists.1 (hal seen[c] (List.getElem_mem hlt))
   exact ⟨seen[c],o',List.getElem?_eq_getElem hlt,ho',by rw [←ho'];exact h2⟩
  ·cases h
 refine ⟨fun id o ho => ?_,s.body,fun I μ w vs hH hlt h0 hG hsz hv => ?_⟩
 ·by_cases hm:id∈seen
  ·exact hal id hm
  ·rw [hU id hm] at ho;cases ho
 have hmu : ∀ c,renMu μ 0 seen c=(seen[c]?).bind μ:=fun c=>by simp only [renMu,Nat.not_lt_zero,if_false,Nat.sub_zero];cases seen[c]?<;>rfl
 have hHc:HR I (renMu μ 0 seen) w (fun _=>True) (hpL l):=by
  refine ⟨fun c o _ ho => ?_,fun c c' o o' _ _ ho ho' hne => ?_,fun c o b _ ho hb => ?_,hH.lt⟩
  ·obtain ⟨id,p,h1,h2,h3⟩:=hgetc c o ho
   obtain ⟨q,hq,hor⟩:=(hH.obj id p trivial h2).ren (nx:=0) (seen:=seen) (id':=c) (by rw [hmu,h1];rfl) h3
   obtain rfl:=Option.some.inj hq
   exact hor
  ·obtain ⟨id,p,h1,h2,h3⟩:=hgetc c o ho
   obtain ⟨id',p',h1',h2',h3'⟩:=hgetc c' o' ho'
   simp only [blk,hmu,h1,h1',Option.bind_some]
   refine hH.inj id id' p p' trivial trivial h2 h2' fun e=>hne ?_
   subst e
   exact (List.getElem?_inj (List.getElem?_eq_some_iff.1 h1).1 hnd).1 (h1.trans h1'.symm)
  ·obtain ⟨id,p,h1,h2,h3⟩:=hgetc c o ho
   simp only [blk,hmu,h1,Option.bind_some]
   exact hH.imm id p b trivial h2 hb
 refine (s.call I (renMu μ 0 seen) w vs hHc (fun c o ho => ?_) (fun c hc => ?_) hG (by rw [hsz,hal1]) fun j x v hj hvj => ?_).mono ?_
 ·obtain ⟨id,p,h1,_⟩:=hgetc c o ho
  rw [hll];exact (List.getElem?_eq_some_iff.1 h1).1
 ·rw [hmu,List.getElem?_eq_none (by omega)];rfl
 ·obtain ⟨y,hy,hr⟩:=hag j x hj
  exact (hv j y v hy hvj).ren hr
 rintro e w' ⟨v,I',μ',rfl,g,hvr⟩
 obtain ⟨k,hk⟩ : ∃ k,k=l.length:=⟨_,rfl⟩
 rw [←hk] at g hll
 have hμ' : ∀ c,c<k→μ' c=(seen[c]?).bind μ:=fun c hc=>by rw [g.mu c (by omega),hmu]
 have hμn : ∀ c,k+n.length≤c→μ' c=none:=fun c hc=>by rw [g.mu c (by omega),hmu,List.getElem?_eq_none (by omega)];rfl
 obtain ⟨μ2,hμ2⟩ : ∃ μ2:Mu,μ2=fun id=>if id<nx then μ id else if id<nx+n.length then μ' (k+(id-nx)) else none:=⟨_,rfl⟩
 have hbkμ : ∀ c x,μ' c=some x→μ2 (bkId seen nx c)=some x:=fun c x hx=>by
  rw [hμ2]
  by_cases hc:c<k
  ·rw [hμ' c hc] at hx
   have hlt':c<seen.length:=by omega
   rw [List.getElem?_eq_getElem hlt',Option.bind_some] at hx
   have:seen[c]<nx:=by
    obtain ⟨o,ho⟩:=Option.isSome_iff_exists.1 (hal seen[c] (List.getElem_mem hlt'))
    exact hlt _ o ho
   simp only [bkId,List.getElem?_eq_getElem hlt',if_pos this]
   exact hx
  ·have hc2:c<k+n.length:=by
    rcases Nat.lt_or_ge c (k+n.length) with h1|h1
    ·exact h1
    ·rw [hμn c h1] at hx;cases hx
   simp only [bkId,List.getElem?_eq_none (show seen.length≤c by omega)]
   rw [if_neg (by omega),if_pos (by omega),show k+(nx+(c-seen.length)-nx)=c by omega]
   exact hx
 obtain ⟨lk,hlk⟩ : ∃ lk:Heap,lk=fun id=>if id∈seen then H id else none:=⟨_,rfl⟩
 obtain ⟨lk',hlk'⟩ : ∃ lk':Heap,lk'=fun id=>if id<nx then (if id∈seen then look H nx ⟨U,n.map (bkO seen nx)⟩ id else none) else look H nx ⟨U,n.map (bkO seen nx)⟩ id:=⟨_,rfl⟩
 have hin : ∀ id,id∈seen→∃ c,c<k∧seen[c]?=some id∧id<nx:=fun id hid=>by
  obtain ⟨c,hc,rfl⟩:=List.mem_iff_getElem.1 hid
  obtain ⟨o,ho⟩:=Option.isSome_iff_exists.1 (hal _ hid)
  exact ⟨c,by omega,List.getElem?_eq_getElem hc,hlt _ o ho⟩
 have hLs : ∀ c id,seen[c]?=some id→look H nx ⟨U,n.map (bkO seen nx)⟩ id=bkO seen nx (look (hpL l) k ⟨u,n⟩ c):=fun c id hc=>by
  obtain ⟨c',_,_,hidn⟩:=hin id (List.mem_of_getElem? hc)
  rw [hk,←hUs c id hc]
  unfold look
  rw [if_pos hidn]
  cases findU U id<;>rfl
 have hLn : ∀ id,nx≤id→look H nx ⟨U,n.map (bkO seen nx)⟩ id=bkO seen nx (look (hpL l) k ⟨u,n⟩ (k+(id-nx))):=fun id hid=>by
  unfold look
  rw [if_neg (by omega),if_neg (by omega)]
  simp only [List.getElem?_map,show k+(id-nx)-k=id-nx by omega]
  cases n[id-nx]? with
  | none=>rfl
  | some o=>rfl
 have hfrom : ∀ id o,(id∈seen∨(nx≤id∧id<nx+n.length))→lk' id=some o→∃ c p,bkId seen nx c=id∧look (hpL l) k ⟨u,n⟩ c=some p∧bkO seen nx (some p)=some o∧μ2 id=μ' c∧(id∈seen→c<k)∧(nx≤id→c=k+(id-nx)):=fun id o hd ho=>by
  have hbn : ∀ q:Option Obj,bkO seen nx q=some o→∃ p,q=some p∧bkO seen nx (some p)=some o:=fun q hq=>by
   cases q with
   | none=>cases hq
   | some p=>exact ⟨p,rfl,hq⟩
  rw [hlk'] at ho
  simp only [] at ho
  by_cases hm:id∈seen
  ·obtain ⟨c,hc,hsc,hidn⟩:=hin id hm
   rw [if_pos hidn,if_pos hm,hLs c id hsc] at ho
   obtain ⟨p,hp,hb⟩:=hbn _ ho
   exact ⟨c,p,by simp [bkId,hsc],hp,hb,by rw [hμ2,hμ' c hc,hsc];simp only [if_pos hidn,Option.bind_some],fun _=>hc,fun h=>absurd hidn (by omega)⟩
  ·obtain ⟨h1,h2⟩:=hd.resolve_left hm
   rw [if_neg (by omega),hLn id h1] at ho
   obtain ⟨p,hp,hb⟩:=hbn _ ho
   refine ⟨k+(id-nx),p,?_,hp,hb,?_,fun h=>absurd h hm,fun _=>rfl⟩
   ·simp only [bkId,List.getElem?_eq_none (show seen.length≤k+(id-nx) by omega)];omega
   ·rw [hμ2];simp only [if_neg (show ¬id<nx by omega),if_pos h2]
 have hcinj : ∀ id id' c c',bkId seen nx c=id→bkId seen nx c'=id'→id≠id'→c≠c':=fun id id' c c' h1 h2 hne e=>hne (by rw [←h1,←h2,e])
 have hown : ∀ b,Own (renMu μ 0 seen) (fun _=>True) (hpL l) b→Own μ (fun id=>id∈seen) lk b:=fun b ⟨c,o,_,ho,hb⟩=>by
  obtain ⟨id,p,h1,h2,_⟩:=hgetc c o ho
  have hm:=List.mem_of_getElem? h1
  refine ⟨id,p,hm,by rw [hlk];simp only [if_pos hm];exact h2,?_⟩
  simp only [blk,hmu,h1,Option.bind_some] at hb
  exact hb
 have g2:Goes I I' μ μ2 w w' lk lk' (fun id=>id∈seen) (fun id=>nx≤id∧id<nx+n.length):=by
  refine ⟨fun id hn => ?_,fun id hn=>h0 id hn.1,g.up,fun b hb=>(g.back b hb).imp (fun h=>h) (Or.imp (fun h=>h) (hown b)),g.stp.mono hown,⟨fun id o hd ho => ?_,fun id id' o o' hd hd' ho ho' hne => ?_,fun id o b hd ho hb => ?_,g.hr.lt⟩,
   fun id b hn he hb => ?_,fun id ht hn => ?_,fun id hn hl' => ?_⟩
  ·rw [hμ2]
   by_cases h1:id<nx
   ·simp only [if_pos h1]
   ·simp only [if_neg h1,if_neg (show ¬id<nx+n.length by omega)]
    exact (h0 id (by omega)).symm
  ·obtain ⟨c,p,h1,h2,h3,h4,_⟩:=hfrom id o hd ho
   have hor:=g.hr.obj c p (by
    rcases a7 h2 with h|h
    ·exact .inl trivial
    ·exact .inl trivial) h2
   obtain ⟨q,hq,hor2⟩:=hor.bk hbkμ
   rw [h3] at hq
   obtain rfl:=Option.some.inj hq
   rw [h1] at hor2
   exact hor2
  ·obtain ⟨c,p,h1,h2,h3,h4,_⟩:=hfrom id o hd ho
   obtain ⟨c',p',h1',h2',h3',h4',_⟩:=hfrom id' o' hd' ho'
   simp only [blk,h4,h4']
   exact g.hr.inj c c' p p' (.inl trivial) (.inl trivial) h2 h2' (hcinj id id' c c' h1 h1' hne)
  ·obtain ⟨c,p,h1,h2,h3,h4,_⟩:=hfrom id o hd ho
   simp only [blk,h4]
   exact g.hr.imm c p b (.inl trivial) h2 hb
  ·obtain ⟨o,ho⟩:=he
   obtain ⟨c,p,h1,h2,h3,h4,_,h6⟩:=hfrom id o (.inr hn) ho
   simp only [blk,h4] at hb
   have hc:=h6 hn.1
   exact (g.new c b (by omega) ⟨p,h2⟩ hb).imp (fun h=>h) (hown b)
  ·rw [hlk,hlk']
   simp only [if_neg ht]
   by_cases h1:id<nx
   ·rw [if_pos h1]
   ·rw [if_neg h1,hLn id (by omega)]
    have:look (hpL l) k ⟨u,n⟩ (k+(id-nx))=none:=bm (by simp only [];omega)
    rw [this];rfl
  ·have hns : ¬id∈seen:=fun hm=>by
    rw [hlk] at hl'
    simp only [if_pos hm] at hl'
    have:=hal id hm
    rw [hl'] at this;cases this
   rw [hlk']
   simp only [if_neg hns]
   by_cases h1:id<nx
   ·rw [if_pos h1]
   ·rw [if_neg h1,hLn id (by omega)]
    have:look (hpL l) k ⟨u,n⟩ (k+(id-nx))=none:=bm (by simp only [];omega)
    rw [this];rfl
 refine ⟨v,I',μ2,rfl,?_,hvr.bk hbkμ⟩
 have hfin:=g2.lift (lk0:=H) (lk0':=look H nx ⟨U,n.map (bkO seen nx)⟩) hH (fun id ht=>by rw [hlk];simp only [if_pos ht]) (fun id hd => ?_) fun id ht hn => ?_
 ·simpa only [List.length_map] using hfin
 ·rw [hlk']
  rcases hd with hd|hd
  ·obtain ⟨c,_,_,hidn⟩:=hin id hd
   simp only [if_pos hidn,if_pos hd]
  ·simp only [if_neg (show ¬id<nx by omega)]
 ·unfold look
  by_cases h1:id<nx
  ·rw [if_pos h1];simp only [hU id ht]
  ·rw [if_neg h1]
   simp only [List.getElem?_map]
   have h2:H id=none:=by
    cases hh:H id with
    | none=>rfl
    | some o=>exact absurd (hlt id o hh) h1
   rw [List.getElem?_eq_none (show n.length≤id-nx by omega),h2]
   rfl
theorem oU (u:Upd) : ∀ (l:List (Option Obj)) (i c:Nat),(outU u i l)[c]?=(l[c]?).map fun o=>(findU u (i+c)).getD o
 | [],i,c=>by simp [outU]
 | o::r,i,0=>by simp [outU]
 | o::r,i,c+1=>by simp only [outU,List.getElem?_cons_succ,oU u r (i+1) c,show i+1+c=i+(c+1) by omega]
theorem gX (u:Upd) : ∀ (l:List (Option Obj)) (i:Nat),(outU u i l).length=l.length
 | [],i=>rfl
 | o::r,i=>by simp [outU,gX u r (i+1)]
theorem iO {f:Option Obj→Option Obj} : ∀ (s:List Nat) (m:List (Option Obj)) (id:Nat),(¬id∈s→findU (s.zip (m.map f)) id=none)∧∀ (c:Nat),s.Nodup→s[c]?=some id→findU (s.zip (m.map f)) id=(m[c]?).map f
 | [],m,id=>⟨fun _=>rfl,by simp⟩
 | x::s,[],id=>⟨fun _=>rfl,fun c _ _=>by simp [findU]⟩
 | x::s,y::m,id=>by
  obtain ⟨h1,h2⟩:=iO (f:=f) s m id
  simp only [List.map_cons,List.zip_cons_cons,findU]
  refine ⟨fun hn => ?_,fun c hnd hc => ?_⟩
  ·simp only [List.mem_cons,not_or] at hn
   rw [if_neg hn.1];exact h1 hn.2
  ·rw [List.nodup_cons] at hnd
   cases c with
   | zero=>simp at hc;subst hc;simp
   | succ c=>
    have hne:id≠x:=fun e=>hnd.1 (by subst e;exact List.mem_of_getElem? (by simpa using hc))
    rw [if_neg hne,h2 c hnd.2 (by simpa using hc)]
    simp
theorem mb {P:Program} {G:Nat→Option (List PV)} {O:Oracle} (C:FuncId→Nat) (hO:OSound P G O):OSound P G (sel C O):=fun f args H nx r U N h=>by
 unfold sel at h
 have key : ∀ {seen:List Nat} {a:List LV} {l:List (Option Obj)} {r0:LV} {u:Upd} {n:List (Option Obj)},reach H 1000 (ids.idsL args) []=some seen→ren.go 0 seen args=some a→renH H seen seen=some l→O f a (hpL l) l.length=some (r0,u,n) →
   (∀ id,¬id∈seen→findU U id=none)→(∀ c id,seen[c]?=some id→(findU U id).getD (H id)=bkO seen nx (look (hpL l) l.length ⟨u,n⟩ c))→N=n.map (bkO seen nx)→r=bk seen nx r0→Sim P G f args H nx r U N:=by
  intro seen a l r0 u n hs ha hl ho h1 h2 h3 h4
  subst h3 h4
  exact (hO _ _ _ _ _ _ _ ho).can hs ha hl h1 h2
 split at h
 ·exact hO _ _ _ _ _ _ _ h
 ·unfold can at h
  split at h
  ·cases h
  rename_i seen hs
  split at h
  case h_2=>cases h
  rename_i a l ha hl
  split at h
  case h_2=>cases h
  rename_i r0 l' hr
  simp only [if_true,Option.some.injEq,Prod.mk.injEq] at h
  obtain ⟨rfl,rfl,rfl⟩:=h
  unfold ansW at hr
  split at hr
  case h_2=>cases hr
  rename_i r1 u n ho
  simp only [Option.some.injEq,Prod.mk.injEq] at hr
  obtain ⟨rfl,rfl⟩:=hr
  have hnd:seen.Nodup:=bL 1000 _ _ seen hs (by simp)
  obtain ⟨hll,_⟩:=g9 hl
  refine key hs ha hl ho (fun id hid=>(iO _ _ id).1 hid) (fun c id hc => ?_) ?_ rfl
  ·have hcl:c<l.length:=by rw [hll];exact (List.getElem?_eq_some_iff.1 hc).1
   rw [(iO _ _ id).2 c hnd hc,List.getElem?_append_left (by rw [gX];exact hcl),oU,List.getElem?_eq_getElem hcl]
   simp only [Option.map_some,Nat.zero_add]
   congr 1
   unfold look
   rw [if_pos hcl]
   cases findU u c with
   | some p=>rfl
   | none=>simp [hpL,hcl]
  ·rw [List.drop_append,List.drop_eq_nil_of_le (by rw [gX];omega),gX,hll];simp
 ·unfold can at h
  split at h
  ·cases h
  rename_i seen hs
  split at h
  case h_2=>cases h
  rename_i a l ha hl
  split at h
  case h_2=>cases h
  rename_i r0 l' hr
  simp only [Bool.false_eq_true,if_false,Option.some.injEq,Prod.mk.injEq] at h
  obtain ⟨rfl,rfl,rfl⟩:=h
  simp only [] at hr
  unfold noW ansP at hr
  split at hr
  case h_2=>cases hr
  rename_i r1 hr1
  obtain ⟨rfl,rfl⟩:r1=r0∧l'=[]:=by simpa [eq_comm] using hr
  split at hr1
  case h_2=>cases hr1
  rename_i r2 ho
  obtain rfl:=Option.some.inj hr1
  have hnd:seen.Nodup:=bL 1000 _ _ seen hs (by simp)
  obtain ⟨hll,hlg⟩:=g9 hl
  refine key hs ha hl ho (fun _ _=>rfl) (fun c id hc => ?_) rfl rfl
  obtain ⟨p,h1,h2⟩:=hlg c id hc
  have hcl:c<l.length:=(List.getElem?_eq_some_iff.1 h1).1
  have e:look (hpL l) l.length ⟨[],[]⟩ c=p:=by
   unfold look
   rw [if_pos hcl]
   simp [findU,hpL,h1]
  rw [e,xf h2]
  rfl
end Go.Sx
end

section
namespace Go.Sx
open Go
section
variable {P:Program} {I0 I:Nat→Prop} {μ0 μ:Mu} {w0 w:World} {H:Heap} {nx:Nat}
def oneV:List Value→Value
 | [x]=>x
 | l=>.tuple l.toArray
def resG (tmps:Array Value):ResultVar→Sem Value
 | .tmp t=>pure (tmps.getD t undef)
 | .cell q t=>do loadVar t (← asAddr (tmps.getD q undef))
theorem yD {fn:Func} {a:Act} {rs:List (Nat × Option (Nat × Bool))} {st:St} {vs:List LV} (h:resSlots P fn.results.toList=some rs) (hv:resVs H nx st rs=some vs) (henv:EnvR I μ w st.env a) (hr:HR I μ w (fun _=>True) (look H nx st.h)):
  ∃ us:List Value,(results fn a.tmps).run P w = .ok (oneV us) w∧us.length=vs.length∧∀ (j:Nat) l u,vs[j]?=some l→us[j]?=some u→VR I μ w l u:=by
 have hl : ∀ (g:ResultVar→Sem Value),(∀ t,g (.tmp t)=pure (a.tmps.getD t undef))→(∀ q t,g (.cell q t)=do loadVar t (← asAddr (a.tmps.getD q undef)))→∀ (l:List ResultVar) (rs:List (Nat × Option (Nat × Bool))) (vs:List LV),resSlots P l=some rs→resVs H nx st rs=some vs →
   ∃ us:List Value,(l.mapM (m:=Sem) g).run P w = .ok us w∧us.length=vs.length∧∀ (j:Nat) l u,vs[j]?=some l→us[j]?=some u→VR I μ w l u:=by
  intro g hg hg2 l
  induction l with
  | nil=>
   intro rs vs h hv
   simp only [resSlots,Option.some.injEq] at h;subst h
   simp only [resVs,Option.some.injEq] at hv;subst hv
   exact ⟨[],by simp,rfl,by simp⟩
  | cons x r ih=>
   intro rs vs h hv
   have fin : ∀ (y:Nat × Option (Nat × Bool)) (l':List (Nat × Option (Nat × Bool))) (q:LV),rs=y::l'→resSlots P r=some l'→(resV H nx st y=some q→∃ u,(g x).run P w = .ok u w∧VR I μ w q u)→resV H nx st y=some q →
     ∃ us:List Value,((x::r).mapM (m:=Sem) g).run P w = .ok us w∧us.length=vs.length∧∀ (j:Nat) l u,vs[j]?=some l→us[j]?=some u→VR I μ w l u:=by
    intro y l' q hrs hl' hq hy
    subst hrs
    simp only [resVs,hy] at hv
    split at hv
    ·rename_i v l2 hv1 hv2
     obtain rfl:=Option.some.inj hv1
     obtain rfl:=Option.some.inj hv
     obtain ⟨u,h1,h2⟩:=hq hy
     obtain ⟨us,g1,g2,g3⟩:=ih l' l2 hl' hv2
     refine ⟨u::us,by simp only [List.mapM_cons,Sem.run_bind,h1,Result.andThen_ok,g1,Sem.run_pure],by simp [g2],fun j l u' hj hu => ?_⟩
     cases j with
     | zero=>simp at hj hu;rw [←hj,←hu];exact h2
     | succ j=>exact g3 j l u' hj hu
    ·cases hv
   cases x with
   | tmp t=>
    simp only [resSlots] at h
    split at h
    ·rename_i l' hl'
     obtain rfl:=Option.some.inj h
     exact fin (t,none) l' (get st.env t) rfl hl' (fun _=>⟨a.tmps.getD t undef,by rw [hg];simp,henv t⟩) rfl
    ·cases h
   | cell q t=>
    simp only [resSlots] at h
    split at h
    ·rename_i s gg l' hs hgg hl'
     obtain rfl:=Option.some.inj h
     cases hy:resV H nx st (q,some (s,gg)) with
     | none=>simp [resVs,hy] at hv
     | some y=>
      refine fin (q,some (s,gg)) l' y rfl hl' (fun hy => ?_) hy
      have hx:=henv q
      have key : ∀ {b o off:Nat} {cs:List LV},At I μ w b o cs→rd cs off s gg=some y→a.tmps.getD q undef = .pointer (some ⟨b,o+off,none⟩)→∃ u,(g (.cell q t)).run P w = .ok u w∧VR I μ w y u:=fun hat hv he=>by
       obtain ⟨u,h1,h2⟩:=r6 (P:=P) hat hv hs hgg
       refine ⟨u,?_,h2⟩
       rw [hg2,he]
       simp only [asAddr,Sem.run_bind,Sem.run_pure,Result.andThen_ok,h1]
      simp only [resV] at hy
      split at hy
      ·rename_i cs off hv'
       rw [hv'] at hx
       obtain ⟨b,o,he,_,hat⟩:=hx.pp.imm_at (μ:=μ)
       exact key hat hy he
      ·rename_i id off hv'
       rw [hv'] at hx
       split at hy
       ·rename_i cs hlk
        obtain ⟨b,o,sz,e,hm,_,_,_,hat⟩:=hr.obj id _ trivial hlk
        obtain ⟨b',o',s',hm',he⟩:=dh hx
        rw [hm] at hm'
        obtain ⟨rfl,rfl,rfl⟩:b=b'∧o=o'∧sz=s':=by simpa using hm'
        exact key (off:=off) hat hy he
       ·cases hy
      ·cases hy
    ·cases h
 have h2 : ∀ (g:ResultVar→Sem Value),(∀ t,g (.tmp t)=pure (a.tmps.getD t undef))→(∀ q t,g (.cell q t)=do loadVar t (← asAddr (a.tmps.getD q undef))) →
   ∃ us:List Value,(List.toArray <$> (fn.results.toList.mapM (m:=Sem) g)).run P w = .ok us.toArray w∧us.length=vs.length∧∀ (j:Nat) l u,vs[j]?=some l→us[j]?=some u→VR I μ w l u:=fun g hg hg2=>by
  obtain ⟨us,q1,q2,q3⟩:=hl g hg hg2 _ rs vs h hv
  refine ⟨us,?_,q2,q3⟩
  rw [←bind_pure_comp,Sem.run_bind,q1]
  rfl
 have e:results fn a.tmps=(do let vs ← fn.results.mapM (resG a.tmps);pure (if h:vs.size=1 then vs[0] else .tuple vs)):=by
  unfold results
  congr 1
 rw [e,Array.mapM_eq_mapM_toList,Sem.run_bind]
 obtain ⟨us,q1,q2,q3⟩:=h2 (resG a.tmps) (fun t=>rfl) (fun q t=>rfl)
 refine ⟨us,?_,q2,q3⟩
 rw [q1]
 simp only [Result.andThen_ok]
 cases us with
 | nil=>rfl
 | cons x l=>
  cases l with
  | nil=>rfl
  | cons y l=>rfl
theorem uq {k k' r0 r:LV} {h:Hp} {u:Upd} {n:List (Option Obj)} (hf:tidyR H nx k r0 h=some (k',r,u,n)) (hk:Keys H h) : ∀ id o,findU u id=some o→(H id).isSome=true:=by
 unfold tidyR at hf
 split at hf
 ·cases hf
 split at hf
 ·cases hf
 split at hf
 case isFalse=>cases hf
 split at hf
 case h_2=>cases hf
 rename_i r2 u2 n2 hr2 hu2 hn2
 simp only [Option.some.injEq,Prod.mk.injEq] at hf
 obtain ⟨_,_,rfl,rfl⟩:=hf
 intro id o ho
 obtain ⟨o',ho',_⟩:=(cW hu2 id).2 o ho
 exact hk id o' ho'
theorem og {own:Bool} {r0 r:LV} {h:Hp} {u:Upd} {n:List (Option Obj)} (hf:finish own H nx r0 h=some (r,u,n)) (hk:Keys H h) : ∀ id o,findU u id=some o→(H id).isSome=true:=by
 unfold finish at hf
 split at hf
 ·cases hf
 split at hf
 ·cases hf
 split at hf
 case isFalse=>cases hf
 split at hf
 case h_2=>cases hf
 rename_i r2 u2 n2 hr2 hu2 hn2
 simp only [Option.some.injEq,Prod.mk.injEq] at hf
 obtain ⟨rfl,rfl,rfl⟩:=hf
 intro id o ho
 obtain ⟨o',ho',_⟩:=(cW hu2 id).2 o ho
 exact hk id o' ho'
theorem fh {c:Ctx} (hO:OSound P c.G c.O) : ∀ (l:List IROper) (env env':Env) (h h':Hp),runOps c l env h=some (env',h')→Keys c.H h→Keys c.H h'
 | [],env,env',h,h',hr,hk=>by
  simp only [runOps,Option.some.injEq,Prod.mk.injEq] at hr
  obtain ⟨rfl,rfl⟩:=hr
  exact hk
 | o::r,env,env',h,h',hr,hk=>by
  simp only [runOps] at hr
  split at hr
  ·split at hr
   ·rename_i x hx
    exact fh hO r _ _ _ _ hr ((fC hx).1.keys hO hk)
   ·cases hr
  ·exact fh hO r _ _ _ _ hr hk
  ·cases hr
theorem cT {c:Ctx} (hO:OSound P c.G c.O) : ∀ (l:List IROper) (env env':Env) (h h':Hp) (tr:List Tr),runOpsT c l env h=some (tr,env',h')→Keys c.H h→Keys c.H h'
 | [],env,env',h,h',tr,hr,hk=>by
  simp only [runOpsT,Option.some.injEq,Prod.mk.injEq] at hr
  obtain ⟨rfl,rfl,rfl⟩:=hr
  exact hk
 | o::r,env,env',h,h',tr,hr,hk=>by
  simp only [runOpsT] at hr
  split at hr
  ·split at hr
   ·rename_i x hx
    split at hr
    ·rename_i tr1 e1 h1 hrun
     simp only [Option.some.injEq,Prod.mk.injEq] at hr
     obtain ⟨rfl,rfl,rfl⟩:=hr
     exact cT hO r _ _ _ _ _ hrun ((fC hx).1.keys hO hk)
    ·cases hr
   ·cases hr
  ·split at hr
   ·rename_i tr1 e1 h1 hrun
    simp only [Option.some.injEq,Prod.mk.injEq] at hr
    obtain ⟨rfl,rfl,rfl⟩:=hr
    exact cT hO r _ _ _ _ _ hrun hk
   ·cases hr
  ·cases hr
theorem nj {c:Ctx} (hO:OSound P c.G c.O) {fin:Bool} {l:List IROper} {env env':Env} {h h':Hp} (hr:runOpsQ c fin l env h=some (env',h')) (hk:Keys c.H h):Keys c.H h':=by
 obtain ⟨tr,h1,_⟩:=fN hr
 exact cT hO _ _ _ _ _ _ h1 hk
theorem bd {c:Ctx} (hO:OSound P c.G c.O) (n:Nat) : ∀ (i:IRC) (st st':St) (e:Ex),runC c n i st=some (e,st')→Keys c.H st.h→Keys c.H st'.h
 | .skip,st,st',e,hr,hk=>by
  simp only [runC,Option.some.injEq,Prod.mk.injEq] at hr
  obtain ⟨rfl,rfl⟩:=hr;exact hk
 | .region ops none live,st,st',e,hr,hk=>by
  simp only [runC] at hr
  split at hr
  ·rename_i env h hrun
   simp only [Option.some.injEq,Prod.mk.injEq] at hr
   obtain ⟨rfl,rfl⟩:=hr
   exact fh hO _ _ _ _ _ hrun hk
  ·cases hr
 | .region ops (some b) live,st,st',e,hr,hk=>by
  simp only [runC] at hr
  split at hr
  ·rename_i tr env h hrun
   split at hr
   ·simp only [Option.some.injEq,Prod.mk.injEq] at hr
    obtain ⟨rfl,rfl⟩:=hr
    exact cT hO _ _ _ _ _ _ hrun hk
   ·cases hr
  ·cases hr
 | .seq a b,st,st',e,hr,hk=>by
  simp only [runC] at hr
  split at hr
  ·rename_i st1 h1
   exact bd hO n b st1 st' e hr (bd hO n a st st1 .normal h1 hk)
  ·exact bd hO n a st st' e hr hk
 | .cond x a b,st,st',e,hr,hk=>by
  simp only [runC] at hr
  split at hr
  ·rename_i t ht
   cases t with
   | true=>simp only [if_true] at hr;exact bd hO n a st st' e hr hk
   | false=>simp only [Bool.false_eq_true,if_false] at hr;exact bd hO n b st st' e hr hk
  ·cases hr
 | .block id a,st,st',e,hr,hk=>by
  simp only [runC] at hr
  split at hr
  ·rename_i j st1 h1
   have:=bd hO n a st st1 _ h1 hk
   split at hr <;>
    (simp only [Option.some.injEq,Prod.mk.injEq] at hr
     obtain ⟨rfl,rfl⟩:=hr
     exact this)
  ·exact bd hO n a st st' e hr hk
 | .loop a,st,st',e,hr,hk=>by
  simp only [runC] at hr
  have : ∀ (k:Nat) (st:St),iter (runC c n a) k st=some (e,st')→Keys c.H st.h→Keys c.H st'.h:=by
   intro k
   induction k with
   | zero=>intro st h;simp [iter] at h
   | succ k ih=>
    intro st h hk
    simp only [iter] at h
    split at h
    ·rename_i st1 h1
     exact ih st1 h (bd hO n a st st1 _ h1 hk)
    ·exact bd hO n a st st' e h hk
  exact this n st hr hk
 | .exit id,st,st',e,hr,hk=>by
  simp only [runC,Option.some.injEq,Prod.mk.injEq] at hr
  obtain ⟨rfl,rfl⟩:=hr;exact hk
 | .ret,st,st',e,hr,hk=>by
  simp only [runC,Option.some.injEq,Prod.mk.injEq] at hr
  obtain ⟨rfl,rfl⟩:=hr;exact hk
 | .bad,st,st',e,hr,hk=>by simp [runC] at hr
 | .label l lv,st,st',e,hr,hk=>by
  simp only [runC,Option.some.injEq,Prod.mk.injEq] at hr
  obtain ⟨rfl,rfl⟩:=hr;exact hk
 | .goto l,st,st',e,hr,hk=>by
  simp only [runC,Option.some.injEq,Prod.mk.injEq] at hr
  obtain ⟨rfl,rfl⟩:=hr;exact hk
 | .scope a l b,st,st',e,hr,hk=>by
  simp only [runC] at hr
  have : ∀ (k:Nat) (st:St),iterG (runC c n b) l k st=some (e,st')→Keys c.H st.h→Keys c.H st'.h:=by
   intro k
   induction k with
   | zero=>intro st h;simp [iterG] at h
   | succ k ih=>
    intro st h hk
    simp only [iterG] at h
    split at h
    ·rename_i j st1 h1
     have hk1:=bd hO n b st st1 _ h1 hk
     split at h
     ·exact ih st1 h hk1
     ·simp only [Option.some.injEq,Prod.mk.injEq] at h
      obtain ⟨rfl,rfl⟩:=h
      exact hk1
    ·exact bd hO n b st st' e h hk
  split at hr
  ·rename_i st1 h1
   exact this n st1 hr (bd hO n a st st1 _ h1 hk)
  ·rename_i j st1 h1
   have hk1:=bd hO n a st st1 _ h1 hk
   split at hr
   ·exact this n st1 hr hk1
   ·simp only [Option.some.injEq,Prod.mk.injEq] at hr
    obtain ⟨rfl,rfl⟩:=hr
    exact hk1
  ·exact bd hO n a st st' e hr hk
 | .tidy keep fz,st,st',e,h,hk=>by
  simp only [runC] at h
  split at h
  case h_2=>cases h
  rename_i ks fs u m hr
  simp only [Option.some.injEq,Prod.mk.injEq] at h
  obtain ⟨_,rfl⟩:=h
  exact uq hr hk
 | .regq fin ops live,st,st',e,hr,hk=>by
  simp only [runC] at hr
  split at hr
  ·rename_i env h hrun
   simp only [Option.some.injEq,Prod.mk.injEq] at hr
   obtain ⟨rfl,rfl⟩:=hr
   exact nj hO hrun hk
  ·cases hr
theorem qe {imT:An} {f:FuncId} {fn:Func} {ir:IRF} {O:Oracle} {G:Nat→Option (List PV)} {n:Nat} {args:List LV} {r:LV} {u:Upd} {nw:List (Option Obj)} (hO:OSound P G O) (hm:P.follows .mixedOrders=true)
  (hf:P.funcs[f]?=some fn) (hc:cF P imT fn=some ir) (hn:fn.name ≠ "runtime.NumGoroutine") (hr:runF O G n ir args H nx=some (r,u,nw)):Sim P G f args H nx r u nw:=by
 unfold cF at hc
 split at hc
 case h_2=>cases hc
 rename_i c rs hb hrs
 obtain rfl:=Option.some.inj hc
 unfold runF at hr
 split at hr
 case isFalse=>cases hr
 rename_i hal
 simp only at hr hal
 have start : ∀ (I:Nat→Prop) (μ:Mu) (w:World) (vs:Array Value),HR I μ w (fun _=>True) H→(∀ id o,H id=some o→id<nx)→(∀ id,nx≤id→μ id=none)→GOK G I w →
   vs.size=args.length→(∀ (j:Nat) (l:LV) (v:Value),args[j]?=some l→vs[j]?=some v→VR I μ w l v) →
   Inv ⟨O,G,H,nx⟩ I μ w fn.ntmps ((List.range (fn.params.size+fn.nfree)).zip args) ⟨[],[]⟩ { tmps:=vs++Array.replicate (fn.ntmps-vs.size) undef,defers:=[] } w I μ:=by
  intro I μ w vs hH hlt h0 hG hl hv
  have hlook:look H nx ⟨[],[]⟩=H:=funext fun id=>by
   unfold look
   by_cases hid:id<nx
   ·rw [if_pos hid];rfl
   ·rw [if_neg hid]
    simp only [List.getElem?_nil]
    cases hh:H id with
    | none=>rfl
    | some o=>exact absurd (hlt id o hh) hid
  refine ⟨fun t => ?_,by simp;omega,rfl,?_,fun id hid=>h0 id (by simpa using hid),hG,(fun id o ho=>by cases ho),hH⟩
  ·have hget : ∀ (l:List LV) (k:Nat),get ((List.range' k l.length).zip l) t=if k≤t then (match l[t-k]? with
     | some v=>v
     | none=>.junk) else .junk:=by
    intro l
    induction l with
    | nil=>intro k;simp [get]
    | cons x r ih=>
     intro k
     simp only [List.length_cons,List.range'_succ,List.zip_cons_cons,get]
     by_cases e:t=k
     ·subst e;simp
     ·rw [if_neg e,ih (k+1)]
      by_cases h1:k≤t
      ·rw [if_pos h1,if_pos (by omega),show t-k=(t-(k+1))+1 by omega];rfl
      ·rw [if_neg h1,if_neg (by omega)]
   have hlen:fn.params.size+fn.nfree=args.length:=by simpa using hal.symm
   rw [hlen,List.range_eq_range',hget args 0,if_pos (Nat.zero_le _),Nat.sub_zero]
   cases ht:args[t]? with
   | none=>exact .junk _
   | some l=>
    have hlt':t<vs.size:=by rw [hl];exact (List.getElem?_eq_some_iff.1 ht).1
    have hvt:vs[t]?=some vs[t]:=by simp [hlt']
    have:(vs++Array.replicate (fn.ntmps-vs.size) undef).getD t undef=vs[t]:=by
     rw [Array.getD_eq_getD_getElem?,Array.getElem?_append_left hlt',hvt];rfl
    simp only [this]
    exact hv t l _ ht hvt
  ·simp only [hlook]
   exact ((Goes.refl hH.lt).widen hH fun _ h=>h.elim).congrN fun id=>by simp
 split at hr
 ·cases hr
 ·cases hr
 ·rename_i e st hne hne' hrun
  have hkst:=bd hO n _ _ st e hrun (fun id o ho=>by cases ho)
  split at hr
  case h_2=>cases hr
  rename_i vl hvl
  have hfin:=hr
  refine ⟨og hfin hkst,⟨fn,hf,by rw [hb];rfl,hn⟩,fun I μ w vs hH hlt h0 hG hl hv => ?_⟩
  refine calls_of_wp hf hb ?_
  refine pH (imT:=imT) hO hm n c [] _ _ st e _ w I μ _ hrun (start I μ w vs hH hlt h0 hG hl hv) fun a' w' I' μ' hi => ?_
  obtain ⟨us,hrun2,hlen2,hpt⟩:=yD (P:=P) hrs hvl hi.env hi.hr
  have hval:VR I' μ' w' (oneL vl) (oneV us):=by
   cases vl with
   | nil=>
    obtain rfl:us=[]:=List.eq_nil_of_length_eq_zero hlen2
    exact .tuple [] #[] rfl (by simp)
   | cons x r=>
    cases us with
    | nil=>cases hlen2
    | cons y us=>
     cases r with
     | nil=>
      obtain rfl:us=[]:=List.eq_nil_of_length_eq_zero (by simpa using hlen2)
      exact hpt 0 x y rfl rfl
     | cons x2 r=>
      cases us with
      | nil=>simp at hlen2
      | cons y2 us=>exact .tuple _ _ (by simpa using hlen2) fun j l u hj hu=>hpt j l u hj (by simpa using hu)
  obtain ⟨_,I2,μ2,q1,q2⟩:=mM hfin h0 hH hi.goes hkst hval
  have hpost:a'.defers=[]∧∃ v,(results fn a'.tmps).run P w' = .ok v w'∧(∃ v_1 I'_1 μ'_1,Ending.returned v=Ending.returned v_1∧Goes I I'_1 μ μ'_1 w w' H (look H nx ⟨u,nw⟩) (fun _=>True) (fun id=>nx≤id∧id<nx+nw.length)∧VR I'_1 μ'_1 w' r v_1):=
   ⟨hi.defers,_,hrun2,_,I2,μ2,rfl,q1,q2⟩
  cases e with
  | normal=>exact hpost
  | ret=>exact hpost
  | exit id=>exact absurd rfl (hne id)
  | goto l=>exact absurd rfl (hne' l)
 ·cases hr
theorem eN {C:FuncId→Nat} {an:FuncId→An} {F:FuncId→Option IRF} {G:Nat→Option (List PV)} {X:Oracle} (hm:P.follows .mixedOrders=true) (hX:OSound P G X)
  (hF : ∀ f ir,F f=some ir→∃ fn,P.funcs[f]?=some fn∧cF P (an f) fn=some ir∧fn.name ≠ "runtime.NumGoroutine") : ∀ n,OSound P G (evalN C F G X n)
 | 0=>fun f args H nx r u n h=>by simp [evalN] at h
 | n+1=>fun f args H nx r u nw h=>by
  simp only [evalN] at h
  split at h
  ·rename_i ir hir
   obtain ⟨fn,h1,h2,h3⟩:=hF f ir hir
   exact qe (mb C (eN hm hX hF n)) hm h1 h2 h3 h
  ·exact hX f args H nx r u nw h
end
end Go.Sx
end

section
namespace Go.Sx
open Go
def findF:List (FuncId × IRF)→FuncId→Option IRF
 | [],_=>none
 | (g,ir)::r,f=>if f=g then some ir else findF r f
theorem iM : ∀ {l:List (FuncId × IRF)} {f:FuncId} {ir:IRF},findF l f=some ir→(f,ir)∈l
 | [],f,ir,h=>by cases h
 | (g,i)::r,f,ir,h=>by
  simp only [findF] at h
  split at h
  ·rename_i e
   obtain rfl:=Option.some.inj h
   rw [e];exact List.mem_cons_self
  ·exact List.mem_cons_of_mem _ (iM h)
def noX:Oracle:=fun _ _ _ _=>none
def noH:Heap:=fun _=>none
theorem tU (P:Program) (G:Nat→Option (List PV)):OSound P G noX:=fun _ _ _ _ _ _ _ h=>by cases h
theorem call_of_eval {C:FuncId→Nat} {P:Program} {an:FuncId→An} {L:List (FuncId × IRF)} {G:Nat→Option (List PV)} {X:Oracle} (hm:P.follows .mixedOrders=true) (hX:OSound P G X)
  (hL : ∀ p∈L,∃ fn,P.funcs[p.1]?=some fn∧cF P (an p.1) fn=some p.2∧fn.name ≠ "runtime.NumGoroutine") {n:Nat} {f:FuncId} {args:List LV} {x:PV} (h:evalN C (findF L) G X n f args noH 0=some (.p x,[],[]))
  {I:Nat→Prop} {w:World} {vs:Array Value} (hI : ∀ b,I b→b<w.heap.size) (hG:GOK G I w) (hl:vs.size=args.length) (hv : ∀ (j:Nat) (l:LV) (v:Value),args[j]?=some l→vs[j]?=some v→VR I (fun _=>none) w l v):
  Calls P f vs w (fun e w'=>∃ v I',e = .returned v∧(w'.os=w.os∧w'.tape=w.tape∧w'.output=w.output∧w.heap.size≤w'.heap.size∧∀ k,k<w.heap.size→w'.heap[k]?=w.heap[k]?)∧PR I' w' x v):=by
 have hs:=eN (C:=C) (P:=P) (an:=an) (F:=findF L) hm hX (fun f ir hf=>hL (f,ir) (iM hf)) n f args noH 0 _ _ _ h
 refine (hs.call I (fun _=>none) w vs ⟨fun _ _ _ h=>(by cases h),fun _ _ _ _ _ _ h=>(by cases h),fun _ _ _ _ h=>(by cases h),hI⟩ (fun _ _ h=>(by cases h)) (fun _ _=>rfl) hG hl hv).mono ?_
 rintro e w' ⟨v,I',μ',rfl,g,hv⟩
 refine ⟨v,I',rfl,⟨g.stp.os,g.stp.tape,g.stp.output,g.stp.size,fun k hk=>g.stp.block k hk fun ⟨id,o,_,ho,_⟩=>(by cases ho)⟩,hv.pp⟩
end Go.Sx
end

section
namespace Go.Sx
open Go
def Up (Om:Nat→Oracle) (O:Oracle):Prop:=∀ f a H nx r,O f a H nx=some r→∃ m,∀ m',m≤m'→Om m' f a H nx=some r
section
variable {Om:Nat→Oracle} {O:Oracle} {G:Nat→Option (List PV)} {H:Heap} {nx:Nat}
theorem nP (hO:Up Om O) {dr:Bool} {h:Hp} {f:FuncId} {args:List LV} {r:Res} (hr:callO ⟨O,G,H,nx⟩ dr h f args=some r) : ∃ M,∀ m,M≤m→callO ⟨Om m,G,H,nx⟩ dr h f args=some r:=by
 unfold callO at hr
 simp only at hr
 cases dr with
 | true=>
  simp only [if_true] at hr
  split at hr
  ·rename_i S hS
   split at hr
   ·rename_i hall
    split at hr
    ·rename_i x u n hc
     obtain ⟨M,hM⟩:=hO _ _ _ _ _ hc
     refine ⟨M,fun m hm => ?_⟩
     unfold callO
     simp only [if_true,hS]
     rw [if_pos hall,hM m hm]
     exact hr
    ·cases hr
   ·cases hr
  ·cases hr
 | false=>
  simp only [Bool.false_eq_true,if_false] at hr
  split at hr
  ·rename_i x u n hc
   obtain ⟨M,hM⟩:=hO _ _ _ _ _ hc
   refine ⟨M,fun m hm => ?_⟩
   unfold callO
   simp only [Bool.false_eq_true,if_false]
   rw [hM m hm]
   exact hr
  ·cases hr
theorem mL (hO:Up Om O) {dr:Bool} {env:Env} {h:Hp} {op:IROp} {r:Res} (hr:evOp ⟨O,G,H,nx⟩ dr env h op=some r) : ∃ M,∀ m,M≤m→evOp ⟨Om m,G,H,nx⟩ dr env h op=some r:=by
 cases op
 case call f args=>exact nP hO hr
 case callv x args=>
  have e : ∀ Q:Oracle,evOp ⟨Q,G,H,nx⟩ dr env h (.callv x args)=match opd ⟨O,G,H,nx⟩ env x with
   | .fn f a b=>callO ⟨Q,G,H,nx⟩ dr h f (a++args.map (opd ⟨O,G,H,nx⟩ env)++b)
   | _=>none:=fun Q=>rfl
  rw [e] at hr
  split at hr
  ·rename_i f a b hx
   obtain ⟨M,hM⟩:=nP hO hr
   exact ⟨M,fun m hm=>by rw [e,hx];exact hM m hm⟩
  ·cases hr
 all_goals exact ⟨0,fun m _=>hr⟩
theorem iZ (hO:Up Om O) : ∀ {ops:List IROper} {env:Env} {h:Hp} {r:Env × Hp},runOps ⟨O,G,H,nx⟩ ops env h=some r→∃ M,∀ m,M≤m→runOps ⟨Om m,G,H,nx⟩ ops env h=some r
 | [],env,h,r,hr=>⟨0,fun _ _=>hr⟩
 | o::l,env,h,r,hr=>by
  simp only [runOps] at hr
  split at hr
  ·rename_i hw
   split at hr
   ·rename_i x hx
    obtain ⟨M,hM⟩:=mL hO hx
    obtain ⟨N,hN⟩:=iZ hO hr
    exact ⟨max M N,fun m hm=>by simp only [runOps,hw,hM m (by omega),hN m (by omega)]⟩
   ·cases hr
  ·rename_i hw
   obtain ⟨N,hN⟩:=iZ hO hr
   exact ⟨N,fun m hm=>by simp only [runOps,hw,hN m hm]⟩
  ·cases hr
theorem gF (hO:Up Om O) : ∀ {ops:List IROper} {env:Env} {h:Hp} {r:List Tr × Env × Hp},runOpsT ⟨O,G,H,nx⟩ ops env h=some r→∃ M,∀ m,M≤m→runOpsT ⟨Om m,G,H,nx⟩ ops env h=some r
 | [],env,h,r,hr=>⟨0,fun _ _=>hr⟩
 | o::l,env,h,r,hr=>by
  simp only [runOpsT] at hr
  split at hr
  ·rename_i hw
   split at hr
   ·rename_i x hx
    split at hr
    ·rename_i tr e h' ht
     obtain ⟨M,hM⟩:=mL hO hx
     obtain ⟨N,hN⟩:=gF hO ht
     exact ⟨max M N,fun m hm=>by simp only [runOpsT,hw,hM m (by omega),hN m (by omega)];exact hr⟩
    ·cases hr
   ·cases hr
  ·rename_i hw
   split at hr
   ·rename_i tr e h' ht
    obtain ⟨N,hN⟩:=gF hO ht
    exact ⟨N,fun m hm=>by simp only [runOpsT,hw,hN m hm];exact hr⟩
   ·cases hr
  ·cases hr
theorem gC (hO:Up Om O) {fin:Bool} : ∀ {ops:List IROper} {env:Env} {h:Hp} {r:Env × Hp},runOpsQ ⟨O,G,H,nx⟩ fin ops env h=some r→∃ M,∀ m,M≤m→runOpsQ ⟨Om m,G,H,nx⟩ fin ops env h=some r
 | [],env,h,r,hr=>⟨0,fun _ _=>hr⟩
 | o::l,env,h,r,hr=>by
  simp only [runOpsQ] at hr
  split at hr
  ·rename_i hw
   split at hr
   ·rename_i x hx
    split at hr
    ·rename_i hq
     obtain ⟨M,hM⟩:=mL hO hx
     obtain ⟨N,hN⟩:=gC hO hr
     exact ⟨max M N,fun m hm=>by simp only [runOpsQ,hw,hM m (by omega),hN m (by omega),hq,if_true]⟩
    ·cases hr
   ·cases hr
  ·rename_i hw
   obtain ⟨N,hN⟩:=gC hO hr
   exact ⟨N,fun m hm=>by simp only [runOpsQ,hw,hN m hm]⟩
  ·cases hr
theorem mV {f:St→Option (Ex × St)} {g:Nat→St→Option (Ex × St)} (hf : ∀ st r,f st=some r→∃ M,∀ m,M≤m→g m st=some r) : ∀ {k:Nat} {st:St} {r:Ex × St},iter f k st=some r→∃ M,∀ m,M≤m→∀ k',k≤k'→iter (g m) k' st=some r
 | 0,st,r,hr=>by cases hr
 | k+1,st,r,hr=>by
  simp only [iter] at hr
  split at hr
  ·rename_i st' h1
   obtain ⟨M,hM⟩:=hf _ _ h1
   obtain ⟨N,hN⟩:=mV hf hr
   refine ⟨max M N,fun m hm k' hk => ?_⟩
   obtain ⟨j,rfl⟩ : ∃ j,k'=j+1:=⟨k'-1,by omega⟩
   simp only [iter,hM m (by omega)]
   exact hN m (by omega) j (by omega)
  ·rename_i hne
   obtain ⟨M,hM⟩:=hf _ _ hr
   refine ⟨M,fun m hm k' hk => ?_⟩
   obtain ⟨j,rfl⟩ : ∃ j,k'=j+1:=⟨k'-1,by omega⟩
   simp only [iter,hM m hm]
   split
   ·rename_i st' e
    rw [hr,e] at hne
    exact absurd rfl (hne st')
   ·rfl
theorem oD {f:St→Option (Ex × St)} {g:Nat→St→Option (Ex × St)} {l:Nat} (hf : ∀ st r,f st=some r→∃ M,∀ m,M≤m→g m st=some r) : ∀ {k:Nat} {st:St} {r:Ex × St},iterG f l k st=some r→∃ M,∀ m,M≤m→∀ k',k≤k'→iterG (g m) l k' st=some r
 | 0,st,r,hr=>by cases hr
 | k+1,st,r,hr=>by
  simp only [iterG] at hr
  split at hr
  ·rename_i j st' h1
   obtain ⟨M,hM⟩:=hf _ _ h1
   split at hr
   ·rename_i e
    obtain ⟨N,hN⟩:=oD hf hr
    refine ⟨max M N,fun m hm k' hk => ?_⟩
    obtain ⟨q,rfl⟩ : ∃ q,k'=q+1:=⟨k'-1,by omega⟩
    simp only [iterG,hM m (by omega),e,if_true]
    exact hN m (by omega) q (by omega)
   ·rename_i e
    refine ⟨M,fun m hm k' hk => ?_⟩
    obtain ⟨q,rfl⟩ : ∃ q,k'=q+1:=⟨k'-1,by omega⟩
    simp only [iterG,hM m hm,if_neg e]
    exact hr
  ·rename_i hne
   obtain ⟨M,hM⟩:=hf _ _ hr
   refine ⟨M,fun m hm k' hk => ?_⟩
   obtain ⟨q,rfl⟩ : ∃ q,k'=q+1:=⟨k'-1,by omega⟩
   simp only [iterG,hM m hm]
   split
   ·rename_i j st' e
    rw [hr,e] at hne
    exact absurd rfl (hne j st')
   ·rfl
theorem sS (hO:Up Om O) {n:Nat} : ∀ {code:IRC} {st:St} {r:Ex × St},runC ⟨O,G,H,nx⟩ n code st=some r→∃ M,∀ m,M≤m→runC ⟨Om m,G,H,nx⟩ m code st=some r:=by
 intro code
 induction code with
 | skip=>intro st r hr;exact ⟨0,fun _ _=>hr⟩
 | region ops draw live=>
  intro st r hr
  cases draw with
  | none=>
   simp only [runC] at hr
   split at hr
   ·rename_i env h h1
    obtain ⟨M,hM⟩:=iZ hO h1
    exact ⟨M,fun m hm=>by simp only [runC,hM m hm];exact hr⟩
   ·cases hr
  | some before=>
   simp only [runC] at hr
   split at hr
   ·rename_i tr env h h1
    obtain ⟨M,hM⟩:=gF hO h1
    exact ⟨M,fun m hm=>by simp only [runC,hM m hm];exact hr⟩
   ·cases hr
 | seq a b iha ihb=>
  intro st r hr
  simp only [runC] at hr
  split at hr
  ·rename_i st' h1
   obtain ⟨M,hM⟩:=iha h1
   obtain ⟨N,hN⟩:=ihb hr
   exact ⟨max M N,fun m hm=>by simp only [runC,hM m (by omega),hN m (by omega)]⟩
  ·rename_i hne
   obtain ⟨M,hM⟩:=iha hr
   refine ⟨M,fun m hm => ?_⟩
   simp only [runC,hM m hm]
   split
   ·rename_i st' e
    rw [hr,e] at hne
    exact absurd rfl (hne st')
   ·rfl
 | cond x a b iha ihb=>
  intro st r hr
  have e : ∀ (Q:Oracle) k,runC ⟨Q,G,H,nx⟩ k (.cond x a b) st=match opd ⟨O,G,H,nx⟩ st.env x with
   | .p (.s (.bool t))=>if t then runC ⟨Q,G,H,nx⟩ k a st else runC ⟨Q,G,H,nx⟩ k b st
   | _=>none:=fun Q k=>rfl
  rw [e] at hr
  split at hr
  ·rename_i t hx
   cases t with
   | true=>
    obtain ⟨M,hM⟩:=iha hr
    exact ⟨M,fun m hm=>by rw [e,hx];exact hM m hm⟩
   | false=>
    obtain ⟨M,hM⟩:=ihb hr
    exact ⟨M,fun m hm=>by rw [e,hx];exact hM m hm⟩
  ·cases hr
 | block id a iha=>
  intro st r hr
  simp only [runC] at hr
  split at hr
  ·rename_i j st' h1
   obtain ⟨M,hM⟩:=iha h1
   exact ⟨M,fun m hm=>by simp only [runC,hM m hm];exact hr⟩
  ·rename_i hne
   obtain ⟨M,hM⟩:=iha hr
   refine ⟨M,fun m hm => ?_⟩
   simp only [runC,hM m hm]
   split
   ·rename_i j st' e
    rw [hr,e] at hne
    exact absurd rfl (hne j st')
   ·rfl
 | loop a iha=>
  intro st r hr
  simp only [runC] at hr
  obtain ⟨M,hM⟩:=mV (g:=fun m=>runC ⟨Om m,G,H,nx⟩ m a) (fun st r h=>iha h) hr
  exact ⟨max M n,fun m hm=>by simp only [runC];exact hM m (by omega) m (by omega)⟩
 | exit id=>intro st r hr;exact ⟨0,fun _ _=>hr⟩
 | ret=>intro st r hr;exact ⟨0,fun _ _=>hr⟩
 | bad=>intro st r hr;cases hr
 | label l lv=>intro st r hr;exact ⟨0,fun _ _=>hr⟩
 | tidy k f=>intro st r hr;exact ⟨0,fun _ _=>hr⟩
 | regq fin ops live=>
  intro st r hr
  simp only [runC] at hr
  split at hr
  ·rename_i env h h1
   obtain ⟨M,hM⟩:=gC hO h1
   exact ⟨M,fun m hm=>by simp only [runC,hM m hm];exact hr⟩
  ·cases hr
 | goto l=>intro st r hr;exact ⟨0,fun _ _=>hr⟩
 | scope a l b iha ihb=>
  intro st r hr
  simp only [runC] at hr
  have hG : ∀ {s:St} {r:Ex × St},iterG (runC ⟨O,G,H,nx⟩ n b) l n s=some r→∃ M,∀ m,M≤m→iterG (runC ⟨Om m,G,H,nx⟩ m b) l m s=some r:=fun h=>by
   obtain ⟨M,hM⟩:=oD (g:=fun m=>runC ⟨Om m,G,H,nx⟩ m b) (fun st r h=>ihb h) h
   exact ⟨max M n,fun m hm=>hM m (by omega) m (by omega)⟩
  split at hr
  ·rename_i st1 h1
   obtain ⟨M,hM⟩:=iha h1
   obtain ⟨N,hN⟩:=hG hr
   exact ⟨max M N,fun m hm=>by simp only [runC,hM m (by omega)];exact hN m (by omega)⟩
  ·rename_i j st1 h1
   obtain ⟨M,hM⟩:=iha h1
   split at hr
   ·rename_i e
    obtain ⟨N,hN⟩:=hG hr
    exact ⟨max M N,fun m hm=>by simp only [runC,hM m (by omega),e,if_true];exact hN m (by omega)⟩
   ·rename_i e
    exact ⟨M,fun m hm=>by simp only [runC,hM m hm,if_neg e];exact hr⟩
  ·rename_i h1 h2
   obtain ⟨M,hM⟩:=iha hr
   refine ⟨M,fun m hm => ?_⟩
   simp only [runC,hM m hm]
   split
   ·rename_i st' e
    rw [hr,e] at h1
    exact absurd rfl (h1 st')
   ·rename_i j st' e
    rw [hr,e] at h2
    exact absurd rfl (h2 j st')
   ·rfl
theorem sT (hO:Up Om O) {n:Nat} {f:IRF} {args:List LV} {r:LV × Upd × List (Option Obj)} (hr:runF O G n f args H nx=some r) : ∃ M,∀ m,M≤m→runF (Om m) G m f args H nx=some r:=by
 unfold runF at hr
 split at hr
 case isFalse=>cases hr
 rename_i hl
 split at hr
 ·cases hr
 ·cases hr
 ·rename_i ex st hne hne' h1
  obtain ⟨M,hM⟩:=sS hO h1
  refine ⟨M,fun m hm => ?_⟩
  unfold runF
  rw [if_pos hl,hM m hm]
  split
  ·rename_i j st' e
   simp only [Option.some.injEq,Prod.mk.injEq] at e
   exact absurd e.1 (by intro e';exact hne j e')
  ·rename_i j st' e
   simp only [Option.some.injEq,Prod.mk.injEq] at e
   exact absurd e.1 (by intro e';exact hne' j e')
  ·rename_i e
   simp only [Option.some.injEq,Prod.mk.injEq] at e
   rw [←e.2];exact hr
  ·rename_i e;cases e
 ·cases hr
end
section
variable {C:FuncId→Nat} {O:Oracle} {f:FuncId} {a:List LV} {H:Heap} {nx:Nat}
theorem zB (hc:C f=0):sel C O f a H nx=O f a H nx:=by simp only [sel,hc]
theorem Br (hc:C f=1):sel C O f a H nx=can (ansW O f) true a H nx:=by simp only [sel,hc]
theorem zC {k:Nat} (hc:C f=k+2):sel C O f a H nx=can (fun a l=>noW (ansP O f a l)) false a H nx:=by simp only [sel,hc]
end
theorem wI {C:FuncId→Nat} {Om:Nat→Oracle} {O:Oracle} (hO:Up Om O):Up (fun m=>sel C (Om m)) (sel C O):=fun f a H nx r h=>by
 have hcan : ∀ (w:Bool) (g:List LV→List (Option Obj)→Option (LV × List (Option Obj))) (gm:Nat→List LV→List (Option Obj)→Option (LV × List (Option Obj))),(∀ a l q,g a l=some q→∃ M,∀ m,M≤m→gm m a l=some q)→can g w a H nx=some r→∃ M,∀ m,M≤m→can (gm m) w a H nx=some r:=by
  intro w g gm hg h
  unfold can at h
  split at h
  ·cases h
  ·rename_i seen hs
   split at h
   ·rename_i a' l ha hl
    split at h
    ·rename_i r' l' hr'
     obtain ⟨M,hM⟩:=hg _ _ _ hr'
     refine ⟨M,fun m hm => ?_⟩
     unfold can
     simp only [hs,ha,hl,hM m hm]
     exact h
    ·cases h
   ·cases h
 cases hC:C f with
 | zero=>
  simp only [zB hC] at h ⊢
  exact hO f a H nx r h
 | succ k=>
  cases k with
  | zero=>
   simp only [Br hC] at h ⊢
   refine hcan true _ (fun m=>ansW (Om m) f) (fun a l q h => ?_) h
   unfold ansW at h ⊢
   split at h
   ·rename_i r' u n hr'
    obtain ⟨M,hM⟩:=hO _ _ _ _ _ hr'
    exact ⟨M,fun m hm=>by rw [hM m hm];exact h⟩
   ·cases h
  | succ k=>
   simp only [zC hC] at h ⊢
   refine hcan false _ (fun m a l=>noW (ansP (Om m) f a l)) (fun a l q h => ?_) h
   unfold ansP at h ⊢
   cases ho:O f a (hpL l) l.length with
   | none=>rw [ho] at h;cases h
   | some z=>
   obtain ⟨M,hM⟩:=hO _ _ _ _ _ ho
   exact ⟨M,fun m hm=>by rw [hM m hm];rw [ho] at h;exact h⟩
open Classical in
noncomputable def om0 (C:FuncId→Nat) (F:FuncId→Option IRF) (G:Nat→Option (List PV)) (E:Oracle):Oracle:=fun f a H nx=>
 if h : ∃ r n,∀ m,n≤m→evalN C F G E m f a H nx=some r then some h.choose else none
noncomputable def om (C:FuncId→Nat) (F:FuncId→Option IRF) (G:Nat→Option (List PV)) (E:Oracle):Oracle:=sel C (om0 C F G E)
section
variable {C:FuncId→Nat} {F:FuncId→Option IRF} {G:Nat→Option (List PV)} {E:Oracle} {f:FuncId} {a:List LV} {H:Heap} {nx:Nat} {r:LV × Upd × List (Option Obj)}
theorem vM:Up (evalN C F G E) (om0 C F G E):=fun f a H nx r h=>by
 unfold om0 at h
 split at h
 ·rename_i h1
  obtain rfl:=Option.some.inj h
  exact h1.choose_spec
 ·cases h
theorem Be:Up (fun m=>sel C (evalN C F G E m)) (om C F G E):=wI vM
theorem t8 (hc:C f=0):om C F G E f a H nx=om0 C F G E f a H nx:=zB hc
theorem BE (hc:C f=2):om C F G E f a H nx=can (fun a l=>noW (ansP (om0 C F G E) f a l)) false a H nx:=zC hc
theorem vL {n:Nat} (h : ∀ m,n≤m→evalN C F G E m f a H nx=some r):om0 C F G E f a H nx=some r:=by
 have h1 : ∃ r n,∀ m,n≤m→evalN C F G E m f a H nx=some r:=⟨r,n,h⟩
 unfold om0
 rw [dif_pos h1]
 obtain ⟨k,hk⟩:=h1.choose_spec
 have a1:=hk (max n k) (by omega)
 have a2:=h (max n k) (by omega)
 rw [a1] at a2
 exact a2
theorem mX {ir:IRF} (hf:F f=some ir) (n:Nat) (h:runF (om C F G E) G n ir a H nx=some r):om0 C F G E f a H nx=some r:=by
 obtain ⟨M,hM⟩:=sT Be h
 refine vL (n:=M+1) fun m hm => ?_
 obtain ⟨k,rfl⟩ : ∃ k,m=k+1:=⟨m-1,by omega⟩
 simp only [evalN,hf]
 exact hM k (by omega)
theorem ax {ir:IRF} (hf:F f=some ir) (n:Nat) (h:runF (om C F G E) G n ir a H nx=some r) (hc:C f=0:=by rfl):om C F G E f a H nx=some r:=by
 rw [t8 hc];exact mX hf n h
theorem mW (hf:F f=none) (h:E f a H nx=some r):om0 C F G E f a H nx=some r:=by
 refine vL (n:=1) fun m hm => ?_
 obtain ⟨k,rfl⟩ : ∃ k,m=k+1:=⟨m-1,by omega⟩
 simp only [evalN,hf]
 exact h
theorem eY : ∀ {n:Nat} {f:FuncId} {a:List LV} {H:Heap} {nx:Nat} {r:LV × Upd × List (Option Obj)},evalN C F G E n f a H nx=some r→om0 C F G E f a H nx=some r
 | 0,f,a,H,nx,r,h=>by cases h
 | n+1,f,a,H,nx,r,h=>by
  simp only [evalN] at h
  split at h
  ·rename_i ir hf
   have hu:Up (fun _:Nat=>om C F G E) (sel C (evalN C F G E n)):=fun f a H nx r h'=>by
    obtain ⟨M,hM⟩:=wI (Om:=fun _:Nat=>om0 C F G E) (O:=evalN C F G E n) (fun f a H nx r h'=>⟨0,fun _ _=>eY h'⟩) f a H nx r h'
    exact ⟨M,fun m hm=>hM m hm⟩
   obtain ⟨M,hM⟩:=sT hu h
   exact mX hf M (hM M (Nat.le_refl _))
  ·rename_i hf
   exact mW hf h
theorem ee {n:Nat} (h:evalN C F G E n f a H nx=some r) (hc:C f=0:=by rfl):om C F G E f a H nx=some r:=by
 rw [t8 hc];exact eY h
theorem oO (h:om0 C F G E f a H nx=some r) : ∃ m,evalN C F G E m f a H nx=some r:=by
 obtain ⟨m,hm⟩:=vM f a H nx r h
 exact ⟨m,hm m (Nat.le_refl _)⟩
theorem om_eval (h:om C F G E f a H nx=some r) (hc:C f=0:=by rfl) : ∃ m,evalN C F G E m f a H nx=some r:=by
 rw [t8 hc] at h;exact oO h
end
end Go.Sx
end

section
namespace Go.Sx
open Go
noncomputable def veil {α:Type} (a:α):α:=Classical.choose (⟨a,rfl⟩ : ∃ b,b=a)
theorem jz {α:Type} (a:α):veil a=a:=Classical.choose_spec (⟨a,rfl⟩ : ∃ b,b=a)
noncomputable def runOpsS:Ctx→List IROper→Env→Hp→Option (Env × Hp):=veil runOps
noncomputable def runOpsTS:Ctx→List IROper→Env→Hp→Option (List Tr × Env × Hp):=veil runOpsT
noncomputable def runCS:Ctx→Nat→IRC→St→Option (Ex × St):=veil runC
theorem gD:runOpsS=runOps:=jz _
theorem fg:runOpsTS=runOpsT:=jz _
theorem aZ:runCS=runC:=jz _
theorem cg (c:Ctx) (env:Env) (h:Hp):runOpsS c [] env h=some (env,h):=by rw [gD];rfl
theorem es (c:Ctx) (o:IROper) (r:List IROper) (env:Env) (h:Hp):runOpsS c (o::r) env h=match wants env o.guard with
  | some true=>match evOp c false env h o.op with
   | some x=>runOpsS c r (putD env o.dst x.v) x.h
   | none=>none
  | some false=>runOpsS c r (putD env o.dst .undef) h
  | none=>none:=by rw [gD];rfl
theorem bT (c:Ctx) (env:Env) (h:Hp):runOpsTS c [] env h=some ([],env,h):=by rw [fg];rfl
theorem dE (c:Ctx) (o:IROper) (r:List IROper) (env:Env) (h:Hp):runOpsTS c (o::r) env h=match wants env o.guard with
  | some true=>match evOp c true env h o.op with
   | some x=>match runOpsTS c r (putD env o.dst x.v) x.h with
    | some (tr,e,h')=>some (⟨x.tch,x.md,c.nx+h.new.length,c.nx+x.h.new.length,o.op.slots++gslot o.guard,o.dst⟩::tr,e,h')
    | none=>none
   | none=>none
  | some false=>match runOpsTS c r (putD env o.dst .undef) h with
   | some (tr,e,h')=>some (⟨[],false,c.nx+h.new.length,c.nx+h.new.length,gslot o.guard,o.dst⟩::tr,e,h')
   | none=>none
  | none=>none:=by rw [fg];rfl
section
variable (c:Ctx) (n:Nat) (st:St)
theorem eo:runCS c n .skip st=some (.normal,st):=by rw [aZ];rfl
theorem iY (ops:List IROper) (live:List Nat):runCS c n (.region ops none live) st=match runOpsS c ops st.env st.h with
  | some (env,h)=>some (.normal,⟨keep live env,h⟩)
  | none=>none:=by rw [aZ,gD];rfl
theorem gA (ops:List IROper) (before live:List Nat):runCS c n (.region ops (some before) live) st=match runOpsTS c ops st.env st.h with
  | some (tr,env,h)=>if indepD tr before then some (.normal,⟨keep live env,h⟩) else none
  | none=>none:=by rw [aZ,fg];rfl
theorem cz (a b:IRC):runCS c n (.seq a b) st=match runCS c n a st with
  | some (.normal,st')=>runCS c n b st'
  | r=>r:=by rw [aZ];rfl
theorem gy (x:Opd) (a b:IRC):runCS c n (.cond x a b) st=match opd c st.env x with
  | .p (.s (.bool t))=>if t then runCS c n a st else runCS c n b st
  | _=>none:=by rw [aZ];rfl
theorem du (id:Nat) (a:IRC):runCS c n (.block id a) st=match runCS c n a st with
  | some (.exit j,st')=>if j=id then some (.normal,st') else some (.exit j,st')
  | r=>r:=by rw [aZ];rfl
theorem c9 (a:IRC):runCS c n (.loop a) st=iter (runCS c n a) n st:=by rw [aZ];rfl
theorem ej (id:Nat):runCS c n (.exit id) st=some (.exit id,st):=by rw [aZ];rfl
theorem dw (l:Nat) (lv:List Nat):runCS c n (.label l lv) st=some (.normal,st):=by rw [aZ];rfl
theorem ek (l:Nat):runCS c n (.goto l) st=some (.goto l,st):=by rw [aZ];rfl
theorem dA (a b:IRC) (l:Nat):runCS c n (.scope a l b) st=match runCS c n a st with
  | some (.normal,st')=>iterG (runCS c n b) l n st'
  | some (.goto j,st')=>if j=l then iterG (runCS c n b) l n st' else some (.goto j,st')
  | r=>r:=by rw [aZ];rfl
theorem fM:runCS c n .ret st=some (.ret,st):=by rw [aZ];rfl
theorem er (k f:List Nat):runCS c n (.tidy k f) st=match tidyR c.H c.nx (.tuple (k.map (get st.env))) (.tuple (f.map (get st.env))) st.h with
  | some (.tuple ks,.tuple fs,u,m)=>some (.normal,⟨k.zip ks++f.zip fs,⟨u,m⟩⟩)
  | _=>none:=by rw [aZ];rfl
end
theorem runF_S (O:Oracle) (G:Nat→Option (List PV)) (n:Nat) (f:IRF) (args:List LV) (H:Heap) (nx:Nat):runF O G n f args H nx=
 if args.length=f.params.length then
  match runCS ⟨O,G,H,nx⟩ n f.body ⟨f.params.zip args,⟨[],[]⟩⟩ with
  | some (.exit _,_)=>none
  | some (.goto _,_)=>none
  | some (_,st)=>match resVs H nx st f.results with
   | some l=>finish f.own H nx (oneL l) st.h
   | none=>none
  | none=>none
 else none:=by rw [aZ];rfl
end Go.Sx
end

section
namespace Go.Proofs.YtoeblkipfdnnlaaGreatDoor
open Go Go.Sx
abbrev qX (d:Nat) (o:IROp) (g:Option (Nat × Bool):=none):IROper:=⟨some d,o,g⟩
abbrev qM (d s:Nat) (g:Option (Nat × Bool):=none):IROper:=⟨some d,.mv (.t s),g⟩
abbrev qV (d:Nat) (x:Opd) (g:Option (Nat × Bool):=none):IROper:=⟨some d,.mv x,g⟩
abbrev qF (d k s:Nat) (g:Option (Nat × Bool):=none):IROper:=⟨some d,.fieldAddr k (.t s),g⟩
abbrev qL (d k s:Nat) (g:Option (Nat × Bool):=none):IROper:=⟨some d,.load k false (.t s),g⟩
abbrev qT (d k s:Nat) (g:Option (Nat × Bool):=none):IROper:=⟨some d,.load k true (.t s),g⟩
abbrev qC (d f:Nat) (a:List Opd) (g:Option (Nat × Bool):=none):IROper:=⟨some d,.call f a,g⟩
abbrev qS (k a x:Nat):IROper:=⟨none,.store k (.t a) (.t x),none⟩
abbrev qA (d a b:Nat) (g:Option (Nat × Bool):=none):IROper:=⟨some d,.pick (.t a) (.t b) (.c (.p (.s (.bool false)))),g⟩
abbrev qO (d a b:Nat) (g:Option (Nat × Bool):=none):IROper:=⟨some d,.pick (.t a) (.c (.p (.s (.bool true)))) (.t b),g⟩
abbrev qN (d s:Nat) (g:Option (Nat × Bool):=none):IROper:=⟨some d,.nilCk (.t s),g⟩
abbrev qE (d s k:Nat) (g:Option (Nat × Bool):=none):IROper:=⟨some d,.ext (.t s) k,g⟩
abbrev qB (d:Nat) (o:BinOp) (a b:Opd) (g:Option (Nat × Bool):=none):IROper:=⟨some d,.bin o a b,g⟩
abbrev qy (k:Nat):Option (Nat × Bool):=some (k,true)
abbrev qn (k:Nat):Option (Nat × Bool):=some (k,false)
abbrev qi (k:Int):Opd:=.c (.p (.s (.int .i64 k)))
abbrev qu (k:Int):Opd:=.c (.p (.s (.int .u64 k)))
abbrev qf:Opd:=.c (.p (.s (.bool false)))
abbrev qt:Opd:=.c (.p (.s (.bool true)))
abbrev ql:Opd:=.c (.p (.s (.slice none 0 0)))
abbrev qp:Opd:=.c (.p (.s (.pointer none)))
abbrev zi:PV:=.s (.int .i64 0)
abbrev zu:PV:=.s (.int .u64 0)
abbrev zf:PV:=.s (.bool false)
abbrev zp:PV:=.s (.pointer none)
abbrev zs:PV:=.s (.slice none 0 0)
abbrev qR (l:List Nat):IRC:=.region [] none l
abbrev zE0:PV:=.s (.string ⟨#[]⟩)
def ir5_0:IRC:=(.seq (.tidy [6,8,9,10,11,12,46,47,48] []) (.seq (.region [qB 49 .lss (.t 48) (.t 47)] none [6,8,9,10,11,12,46,47,48,49]) (.seq (.cond (.t 49) .skip (.exit 2)) (.seq (.block 3 (.seq (.seq (.region [qX 50 (.idxASl 4 (.t 46) (.t 48)),qT 51 4 50,qX 16 (.alloc false [zu,zp,zs,zf]),qS 4 16 51] none [6,8,9,10,11,12,16,46,47,48]) (.tidy [6,8,9,10,11,12,46,47,48] [16])) (.region [qT 52 1 10,qT 53 4 16,qC 54 11 [(.t 52),(.t 53)],qT 55 2 12,qF 56 0 16,qT 57 2 56,qC 58 29 [(.t 55),(.t 57)],qS 1 10 54,qS 2 12 58] (some [0,0,3,0,0,16,63,127,255]) [6,8,9,10,11,12,46,47,48]))) (.region [qB 59 .add (.t 48) (qi 1),qM 48 59] none [6,8,9,10,11,12,46,47,48])))))
def ir5_1:IRC:=(.seq (.tidy [6,7,8,9,10,11,12,32,33,34] []) (.seq (.region [qB 35 .lss (.t 34) (.t 33)] none [6,7,8,9,10,11,12,32,33,34,35]) (.seq (.cond (.t 35) .skip (.exit 0)) (.seq (.block 1 (.seq (.seq (.region [qX 36 (.idxASl 4 (.t 32) (.t 34)),qT 37 4 36,qX 14 (.alloc false [zu,zp,zs,zf]),qS 4 14 37] none [6,7,8,9,10,11,12,14,32,33,34]) (.tidy [6,7,8,9,10,11,12,32,33,34] [14])) (.region [qT 38 1 9,qT 39 4 14,qC 40 11 [(.t 38),(.t 39)],qT 41 2 11,qF 42 0 14,qT 43 2 42,qC 44 29 [(.t 41),(.t 43)],qS 1 9 40,qS 2 11 44] (some [0,0,3,0,0,16,63,127,255]) [6,7,8,9,10,11,12,32,33,34]))) (.region [qB 45 .add (.t 34) (qi 1),qM 34 45] none [6,7,8,9,10,11,12,32,33,34])))))
def ir5:IRF:=⟨[0,1],(.seq (.region [qV 4 qf] none [0,1]) (.seq (.seq (.region [qC 18 8 [],qX 19 (.un .not (.t 18))] none [0,1,19]) (.cond (.t 19) (.seq (.region [qV 4 qf] none [4]) .ret) .skip)) (.seq (.seq (.region [qM 21 0,qC 22 9 [(.t 21)],qM 20 22,qE 23 20 0,qE 24 20 1,qM 5 23,qM 6 24] none [1,5,6]) (.tidy [1,6] [5])) (.seq (.seq (.region [qM 26 1,qC 27 9 [(.t 26)],qM 25 27,qE 28 25 0,qE 29 25 1,qM 7 28,qM 8 29] none [5,6,7,8]) (.tidy [5,6] [7,8])) (.seq (.region [qX 9 (.alloc false [zs]),qX 10 (.alloc false [zs])] none [5,6,7,8,9,10]) (.seq (.region [qX 30 (.build [zu,zp] []),qX 31 (.build [zu,zp] []),qX 11 (.alloc false [zu,zp]),qX 12 (.alloc false [zu,zp]),qS 2 11 30,qS 2 12 31] none [5,6,7,8,9,10,11,12]) (.seq (.seq (.seq (.region [qM 32 5,qX 33 (.len false (.t 32)),qV 34 (qi 0)] none [6,7,8,9,10,11,12,32,33,34]) (.tidy [6,7,8,9,10,11,12,33,34] [32])) (.block 0 (.loop ir5_1))) (.seq (.seq (.seq (.region [qM 46 7,qX 47 (.len false (.t 46)),qV 48 (qi 0)] none [6,8,9,10,11,12,46,47,48]) (.tidy [6,8,9,10,11,12,47,48] [46])) (.block 2 (.loop ir5_0))) (.seq (.seq (.region [qT 60 1 9,qT 61 1 10,qC 62 16 [(.t 60),(.t 61)],qX 17 (.alloc false [zs]),qS 1 17 62] none [6,8,9,10,11,12,17]) (.tidy [6,8,9,10,11,12] [17])) (.seq (.region [qT 63 1 17,qT 64 1 10,qT 65 1 9,qC 66 16 [(.t 64),(.t 65)],qC 67 15 [(.t 63),(.t 66)],qM 68 67,qT 69 1 17 (qy 68),qC 70 13 [(.t 69)] (qy 68),qM 71 6 (qy 68),qM 72 8 (qy 68),qX 73 (.app 3 40 (.t 71) (.t 72)) (qy 68),qC 74 10 [(.t 73)] (qy 68),qC 75 12 [(.t 70),(.t 74)] (qy 68),qA 76 68 75,qM 77 76,qT 78 1 17 (qy 77),qT 79 2 11 (qy 77),qT 80 2 12 (qy 77),qC 81 29 [(.t 79),(.t 80)] (qy 77),qC 82 24 [(.t 78),(.t 81)] (qy 77),qX 83 (.len false (.t 82)) (qy 77),qB 84 .eql (.t 83) (qi 0) (qy 77),qA 85 77 84,qM 86 85,qT 87 1 9 (qy 86),qX 88 (.build [zu,zp] []) (qy 86),qC 89 24 [(.t 87),(.t 88)] (qy 86),qX 90 (.len false (.t 89)) (qy 86),qT 91 1 9 (qy 86),qC 92 14 [(.t 91)] (qy 86),qB 93 .leq (.t 90) (.t 92) (qy 86),qA 94 86 93,qM 4 94] (some [0,0,0,6,15,31,63,127,63,63,1023,2047,4095,8191,16383,32767,32767,32767,229375,524287,1048575,2097151,4194303,8388607,16777215,16777215,67108863,134217727,16777215,402653183,1073741823,2147483647,4294967295]) [4]) .ret)))))))))),[(4,none)],false⟩
def ir8:IRF:=⟨[],(.seq (.region [qV 0 qf] none []) (.seq (.seq (.region [qC 9 39 [(.c (.p (.s (.string ⟨#[40,48,44,49,44,48,41]⟩))))],qM 8 9,qE 10 8 0,qE 11 8 1,qX 1 (.alloc false [zu,zp]),qS 2 1 10,qM 2 11] none [1]) (.tidy [] [1])) (.seq (.seq (.region [qC 13 39 [(.c (.p (.s (.string ⟨#[40,48,44,48,44,49,41]⟩))))],qM 12 13,qE 14 12 0,qE 15 12 1,qX 3 (.alloc false [zu,zp]),qS 2 3 14,qM 4 15] none [1,3]) (.tidy [1] [3])) (.seq (.seq (.region [qC 17 39 [(.c (.p (.s (.string ⟨#[49]⟩))))],qM 16 17,qE 18 16 0,qE 19 16 1,qX 5 (.alloc false [zu,zp]),qS 2 5 18,qM 6 19] none [1,3,5]) (.tidy [1,3] [5])) (.seq (.seq (.region [qX 20 (.build [zs] []),qT 21 2 1,qX 22 (.build [zu,zp,zs,zf] [(0,2,(.t 21))]),qC 23 11 [(.t 20),(.t 22)],qT 24 2 3,qX 25 (.build [zu,zp,zs,zf] [(0,2,(.t 24))]),qC 26 11 [(.t 23),(.t 25)],qX 7 (.alloc false [zs]),qS 1 7 26] (some [0,0,2,7,0,16,63,0,255]) [5,7]) (.tidy [5] [7])) (.seq (.region [qT 27 1 7,qC 28 14 [(.t 27)],qB 29 .eql (.t 28) (qi 2),qM 30 29,qT 31 1 7 (qy 30),qT 32 2 5 (qy 30),qX 33 (.build [zu,zp,zs,zf] [(0,2,(.t 32))]) (qy 30),qC 34 11 [(.t 31),(.t 33)] (qy 30),qC 35 14 [(.t 34)] (qy 30),qB 36 .eql (.t 35) (qi 1) (qy 30),qA 37 30 36,qM 0 37] none [0]) .ret)))))),[(0,none)],false⟩
def ir9_0:IRC:=(.seq (.tidy [4,5,10,11,12] []) (.seq (.region [qB 13 .lss (.t 12) (.t 11)] none [4,5,10,11,12,13]) (.seq (.cond (.t 13) .skip (.exit 0)) (.seq (.block 1 (.seq (.seq (.region [qM 14 12,qX 15 (.idxASl 3 (.t 10) (.t 12)),qT 16 3 15,qX 7 (.alloc false [zs,zE0,zf]),qM 6 14,qS 3 7 16] none [4,5,6,7,10,11,12]) (.tidy [4,5,6,10,11,12] [7])) (.seq (.region [qM 17 6,qB 18 .lss (.t 17) (qi 14)] none [4,5,7,10,11,12,18]) (.cond (.t 18) (.seq (.seq (.region [qT 20 3 7,qC 21 17 [(.t 20)],qM 19 21,qE 22 19 0,qE 23 19 1,qX 8 (.alloc false [zu,zp,zs,zf]),qX 9 (.alloc false [zp,zs,zf]),qS 4 8 22,qS 3 9 23] none [4,5,8,9,10,11,12]) (.tidy [4,5,10,11,12] [8,9])) (.region [qM 24 4,qT 25 4 8,qX 26 (.mkSl true 1 4 [zu,zp,zs,zf] [(0,4,(.t 25))]),qX 27 (.app 4 48 (.t 24) (.t 26)),qM 28 5,qT 29 3 9,qX 30 (.mkSl true 1 3 [zp,zs,zf] [(0,3,(.t 29))]),qX 31 (.app 3 40 (.t 28) (.t 30)),qM 4 27,qM 5 31] (some [0,0,2,7,0,0,32,127,255,511]) [4,5,10,11,12])) .skip)))) (.region [qB 32 .add (.t 12) (qi 1),qM 12 32] none [4,5,10,11,12])))))
def ir9:IRF:=⟨[0],(.seq (.region [qV 2 ql,qV 3 ql] none [0]) (.seq (.region [qV 4 ql] none [0,4]) (.seq (.region [qV 5 ql] none [0,4,5]) (.seq (.seq (.region [qM 10 0,qX 11 (.len false (.t 10)),qV 12 (qi 0)] none [4,5,10,11,12]) (.seq (.block 0 (.loop ir9_0)) (.tidy [4,5] []))) (.seq (.region [qM 33 4,qM 34 5,qM 2 33,qM 3 34] none [2,3]) .ret))))),[(2,none),(3,none)],true⟩
def ir10_0:IRC:=(.seq (.tidy [0,3,5,6,9,10,11,24,25,26] []) (.seq (.region [qB 27 .lss (.t 26) (.t 25)] none [0,3,5,6,9,10,11,24,25,26,27]) (.seq (.cond (.t 27) .skip (.exit 2)) (.seq (.block 3 (.seq (.seq (.region [qX 28 (.idxASl 3 (.t 24) (.t 26)),qT 29 3 28,qX 8 (.alloc false [zp,zs,zf]),qS 3 8 29] none [0,3,5,6,8,9,10,11,24,25,26]) (.tidy [0,3,5,6,9,10,11,24,25,26] [8])) (.seq (.region [qT 30 3 5,qT 31 3 8,qC 32 38 [(.t 30),(.t 31)],qM 33 32,qF 34 2 8 (qy 33),qL 35 1 34 (qy 33),qX 36 (.un .not (.t 35)) (qy 33),qM 37 36 (qy 33),qF 38 1 8 (qn 37),qL 39 1 38 (qn 37),qX 40 (.len false (.t 39)) (qn 37),qB 41 .eql (.t 40) (qi 0) (qn 37),qO 42 37 41 (qy 33),qA 43 33 42] none [0,3,5,6,9,10,11,24,25,26,43]) (.cond (.t 43) (.region [qV 6 qf] none [0,3,5,6,9,10,11,24,25,26]) .skip)))) (.region [qB 44 .add (.t 26) (qi 1),qM 26 44] none [0,3,5,6,9,10,11,24,25,26])))))
def ir10_1:IRC:=(.seq (.tidy [0,3,9,10,11] []) (.seq (.region [qB 12 .lss (.t 11) (.t 10)] none [0,3,9,10,11,12]) (.seq (.cond (.t 12) .skip (.exit 0)) (.seq (.block 1 (.seq (.seq (.region [qX 13 (.idxASl 3 (.t 9) (.t 11)),qT 14 3 13,qX 5 (.alloc false [zp,zs,zf]),qS 3 5 14] none [0,3,5,9,10,11]) (.tidy [0,3,9,10,11] [5])) (.seq (.region [qF 15 2 5,qL 16 1 15,qX 17 (.un .not (.t 16)),qM 18 17,qF 19 1 5 (qn 18),qL 20 1 19 (qn 18),qX 21 (.len false (.t 20)) (qn 18),qB 22 .eql (.t 21) (qi 0) (qn 18),qO 23 18 22,qM 6 23] none [0,3,5,6,9,10,11]) (.seq (.seq (.region [qM 24 0,qX 25 (.len false (.t 24)),qV 26 (qi 0)] none [0,3,5,6,9,10,11,24,25,26]) (.block 2 (.loop ir10_0))) (.seq (.region [qM 45 6] none [0,3,5,9,10,11,45]) (.cond (.t 45) (.region [qM 46 3,qT 47 3 5,qC 48 40 [(.t 46),(.t 47)],qM 3 48] none [0,3,9,10,11]) .skip)))))) (.region [qB 49 .add (.t 11) (qi 1),qM 11 49] none [0,3,9,10,11])))))
def ir10:IRF:=⟨[0],(.seq (.region [qV 2 ql] none [0]) (.seq (.region [qV 3 ql] none [0,3]) (.seq (.seq (.region [qM 9 0,qX 10 (.len false (.t 9)),qV 11 (qi 0)] none [0,3,9,10,11]) (.block 0 (.loop ir10_1))) (.seq (.region [qM 50 3,qM 2 50] none [2]) .ret)))),[(2,none)],false⟩
def ir11:IRF:=⟨[0,1],(.seq (.region [qX 2 (.box true (.t 0)),qX 3 (.box true (.t 1)),qX 4 (.alloc false [zs])] none [2,3,4]) (.seq (.seq (.region [qT 8 4 3,qC 9 34 [(.t 8)],qX 10 (.un .not (.t 9)),qM 11 10,qT 12 1 2 (qn 11),qT 13 4 3 (qn 11),qC 14 23 [(.t 12),(.t 13)] (qn 11),qO 15 11 14,qM 16 15,qF 17 0 2 (qn 16),qL 18 1 17 (qn 16),qX 19 (.mkFn 42 [] [(.t 3)]) (qn 16),qC 20 41 [(.t 18),(.t 19)] (qn 16),qO 21 16 20] none [2,3,4,21]) (.cond (.t 21) (.seq (.region [qT 22 1 2,qS 1 4 22] none [4]) .ret) .skip)) (.seq (.region [qT 23 1 2,qC 24 13 [(.t 23)],qX 25 (.mkFn 44 [] [(.t 3)]),qC 26 43 [(.t 24),(.t 25)],qM 5 26] none [3,4,5]) (.seq (.region [qM 28 5,qT 29 4 3,qC 30 45 [(.t 28),(.t 29),(.c (.fn 46 [] []))],qM 27 30,qE 31 27 0,qE 32 27 1,qM 6 31,qM 7 32] none [3,4,5,6]) (.seq (.region [qM 33 5,qM 34 6,qT 35 4 3,qX 36 (.mkSl false 1 4 [zu,zp,zs,zf] [(0,4,(.t 35))]),qC 37 47 [(.t 33),(.t 34),(.t 36)],qX 38 (.build [zs] [(0,1,(.t 37))]),qS 1 4 38] none [4]) .ret))))),[(4,some (1,true))],false⟩
def ir12_0:IRC:=(.seq (.tidy [1,12,13,14] []) (.seq (.region [qB 15 .lss (.t 14) (.t 13)] none [1,12,13,14,15]) (.seq (.cond (.t 15) .skip (.exit 0)) (.seq (.block 1 (.seq (.seq (.region [qM 16 14,qX 17 (.idxASl 4 (.t 12) (.t 14)),qT 18 4 17,qX 6 (.alloc false [zu,zp,zs,zf]),qM 5 16,qS 4 6 18] none [1,5,6,12,13,14]) (.tidy [1,5,12,13,14] [6])) (.seq (.region [qT 19 4 6,qC 20 32 [(.t 19)],qM 21 1,qM 22 5,qX 23 (.idxASl 3 (.t 21) (.t 22)),qT 24 3 23,qC 25 21 [(.t 24)],qC 26 20 [(.t 20),(.t 25)],qX 27 (.un .not (.t 26))] (some [0,1,0,0,12,28,63,127,255]) [1,12,13,14,27]) (.cond (.t 27) (.seq (.region [qV 4 qf] none [4]) .ret) .skip)))) (.region [qB 28 .add (.t 14) (qi 1),qM 14 28] none [1,12,13,14])))))
def ir12:IRF:=⟨[0,1],(.seq (.region [qV 4 qf] none [0,1]) (.seq (.seq (.region [qM 7 0,qX 8 (.len false (.t 7)),qM 9 1,qX 10 (.len false (.t 9)),qB 11 .neq (.t 8) (.t 10)] none [0,1,11]) (.cond (.t 11) (.seq (.region [qV 4 qf] none [4]) .ret) .skip)) (.seq (.seq (.region [qM 12 0,qX 13 (.len false (.t 12)),qV 14 (qi 0)] none [1,12,13,14]) (.block 0 (.loop ir12_0))) (.seq (.region [qV 4 qt] none [4]) .ret)))),[(4,none)],false⟩
def ir13:IRF:=⟨[0],(.seq (.region [qX 1 (.box true (.t 0)),qV 2 ql] none [1]) (.seq (.region [qF 3 0 1,qL 4 1 3,qC 5 48 [(.t 4)],qM 2 5] none [2]) .ret)),[(2,none)],true⟩
def ir14:IRF:=⟨[0],(.seq (.region [qX 1 (.box true (.t 0)),qV 2 (qi 0)] none [1]) (.seq (.region [qF 3 0 1,qL 4 1 3,qX 5 (.len false (.t 4)),qM 2 5] none [2]) .ret)),[(2,none)],false⟩
def ir15:IRF:=⟨[0,1],(.seq (.region [qX 2 (.box true (.t 0)),qX 3 (.box true (.t 1)),qV 4 qf] none [2,3]) (.seq (.region [qF 5 0 2,qL 6 1 5,qF 7 0 3,qL 8 1 7,qC 9 49 [(.t 6),(.t 8),(.c (.fn 33 [] []))],qM 4 9] none [4]) .ret)),[(4,none)],false⟩
def ir16_0:IRC:=(.seq (.tidy [2,4,8,9,10] []) (.seq (.region [qB 11 .lss (.t 10) (.t 9)] none [2,4,8,9,10,11]) (.seq (.cond (.t 11) .skip (.exit 0)) (.seq (.block 1 (.seq (.seq (.region [qX 12 (.idxASl 4 (.t 8) (.t 10)),qT 13 4 12,qX 6 (.alloc false [zu,zp,zs,zf]),qS 4 6 13] none [2,4,6,8,9,10]) (.tidy [2,4,8,9,10] [6])) (.region [qT 14 1 2,qT 15 4 6,qC 16 11 [(.t 14),(.t 15)],qS 1 2 16] none [2,4,8,9,10]))) (.region [qB 17 .add (.t 10) (qi 1),qM 10 17] none [2,4,8,9,10])))))
def ir16:IRF:=⟨[0,1],(.seq (.region [qX 2 (.box false (.t 0)),qX 3 (.box true (.t 1)),qX 4 (.alloc false [zs])] none [2,3,4]) (.seq (.seq (.region [qF 7 0 3,qL 8 1 7,qX 9 (.len false (.t 8)),qV 10 (qi 0)] none [2,4,8,9,10]) (.block 0 (.loop ir16_0))) (.seq (.region [qT 18 1 2,qS 1 4 18] none [4]) .ret))),[(4,some (1,true))],false⟩
def ir17_0:IRC:=(.seq (.tidy [2,3,4,5,23,24,25] []) (.seq (.region [qB 26 .lss (.t 25) (.t 24)] none [2,3,4,5,23,24,25,26]) (.seq (.cond (.t 26) .skip (.exit 0)) (.seq (.block 1 (.seq (.seq (.region [qX 27 (.idxASl 3 (.t 23) (.t 25)),qT 28 3 27,qX 7 (.alloc false [zi,zE0,zE0]),qS 3 7 28] none [2,3,4,5,7,23,24,25]) (.tidy [2,3,4,5,23,24,25] [7])) (.region [qM 29 5,qT 30 3 7,qX 31 (.mkSl true 1 3 [zi,zE0,zE0] [(0,3,(.t 30))]),qX 32 (.app 3 40 (.t 29) (.t 31)),qM 5 32] none [2,3,4,5,23,24,25]))) (.region [qB 33 .add (.t 25) (qi 1),qM 25 33] none [2,3,4,5,23,24,25])))))
def ir17:IRF:=⟨[0],(.seq (.region [qX 1 (.box true (.t 0)),qX 2 (.alloc false [zu,zp,zs,zf]),qX 3 (.alloc false [zp,zs,zf])] none [1,2,3]) (.seq (.seq (.region [qF 10 0 1,qL 11 1 10,qF 12 1 1,qL 13 1 12,qF 14 1 1,qL 15 1 14,qX 16 (.len true (.t 15)),qX 17 (.minmax false [(.t 16),(qi 60)]),qX 18 (.slStr (.t 13) none (some (.t 17))),qF 19 2 1,qL 20 1 19,qC 21 50 [(.t 11),(.t 18),(.t 20)],qX 4 (.alloc false [zp,zs,zf]),qS 3 4 21] (some [0,1,0,4,0,16,48,112,252,0,512,2047,0,8191]) [2,3,4]) (.tidy [2,3] [4])) (.seq (.region [qV 5 ql] none [2,3,4,5]) (.seq (.seq (.region [qF 22 1 4,qL 23 1 22,qX 24 (.len false (.t 23)),qV 25 (qi 0)] none [2,3,4,5,23,24,25]) (.seq (.block 0 (.loop ir17_0)) (.tidy [2,3,4] [5]))) (.seq (.seq (.region [qM 35 5,qC 36 51 [(.t 35)],qM 34 36,qE 37 34 0,qE 38 34 1,qX 8 (.alloc false [zs]),qS 1 8 37,qM 9 38] none [2,3,4,8]) (.tidy [2,3,4] [8])) (.seq (.region [qF 39 0 4,qL 40 1 39,qC 41 25 [(.t 40)],qT 42 1 8,qF 43 2 4,qL 44 1 43,qX 45 (.build [zu,zp,zs,zf] [(0,2,(.t 41)),(2,1,(.t 42)),(3,1,(.t 44))]),qT 46 3 4,qS 4 2 45,qS 3 3 46] (some [0,1,3,0,0,16,63,0,127,511]) [2,3]) .ret)))))),[(2,some (4,true)),(3,some (3,true))],false⟩
def ir18:IRF:=⟨[0,1],(.seq (.region [qV 4 qp,qV 5 ql] none [0,1]) (.seq (.seq (.region [qM 9 0,qX 10 (.len false (.t 9)),qB 11 .eql (.t 10) (qi 0)] none [0,1,11]) (.cond (.t 11) (.seq (.region [qC 12 52 [(qu 0)],qM 4 12,qV 5 ql] none [4,5]) .ret) .skip)) (.seq (.region [qM 13 0,qX 14 (.idxASl 1 (.t 13) (qi 0)),qL 15 1 14,qM 6 15] none [0,1,6]) (.seq (.region [qM 16 0,qX 17 (.slSl 1 (.t 16) (some (qi 1)) none none),qM 0 17] none [0,1,6]) (.seq (.seq (.region [qM 18 1,qB 19 .eql (.t 18) (qi 0),qM 20 19,qM 21 6 (qn 20),qB 22 .rem (.t 21) (.c (.p (.s (.int .u8 4)))) (qn 20),qB 23 .lss (.t 22) (.c (.p (.s (.int .u8 2)))) (qn 20),qO 24 20 23] none [0,1,6,24]) (.cond (.t 24) (.seq (.region [qM 25 6,qB 26 .quo (.t 25) (.c (.p (.s (.int .u8 4)))),qB 27 .rem (.t 26) (.c (.p (.s (.int .u8 8)))),qX 28 (.cvt .u64 (.t 27)),qC 29 52 [(.t 28)],qM 30 0,qM 4 29,qM 5 30] none [4,5]) .ret) .skip)) (.seq (.region [qM 32 0,qM 33 1,qB 34 .sub (.t 33) (qi 1),qC 35 18 [(.t 32),(.t 34)],qM 31 35,qE 36 31 0,qE 37 31 1,qM 7 36,qM 0 37] none [0,1,6,7]) (.seq (.region [qM 39 0,qM 40 1,qB 41 .sub (.t 40) (qi 1),qC 42 18 [(.t 39),(.t 41)],qM 38 42,qE 43 38 0,qE 44 38 1,qM 8 43,qM 0 44] none [0,6,7,8]) (.seq (.region [qM 45 6,qB 46 .quo (.t 45) (.c (.p (.s (.int .u8 4)))),qB 47 .rem (.t 46) (.c (.p (.s (.int .u8 4)))),qX 48 (.cvt .u64 (.t 47)),qM 49 7,qM 50 8,qC 51 53 [(.t 48),(.t 49),(.t 50)],qM 52 0,qM 4 51,qM 5 52] none [4,5]) .ret)))))))),[(4,none),(5,none)],false⟩
def ir19:IRF:=⟨[0,1],(.seq (.region [qV 4 qf] none [0,1]) (.seq (.seq (.region [qM 5 0,qN 6 5,qF 7 1 6,qL 8 1 7,qX 9 (.eq false .ptr (.t 8) qp),qM 10 9,qM 11 1 (qy 10),qN 12 11 (qy 10),qF 13 1 12 (qy 10),qL 14 1 13 (qy 10),qX 15 (.eq false .ptr (.t 14) qp) (qy 10),qA 16 10 15] none [0,1,16]) (.cond (.t 16) (.seq (.region [qM 17 0,qN 18 17,qF 19 0 18,qL 20 1 19,qM 21 1,qN 22 21,qF 23 0 22,qL 24 1 23,qB 25 .leq (.t 20) (.t 24),qM 4 25] (some [0,1,3,7,0,16,48,112,255,511]) [4]) .ret) .skip)) (.seq (.region [qM 26 0,qC 27 54 [(.t 26)],qM 28 1,qC 29 54 [(.t 28)],qC 30 19 [(.t 27),(.t 29)],qM 31 30,qM 32 0 (qy 31),qC 33 55 [(.t 32)] (qy 31),qM 34 1 (qy 31),qC 35 55 [(.t 34)] (qy 31),qC 36 19 [(.t 33),(.t 35)] (qy 31),qA 37 31 36,qM 4 37] none [4]) .ret))),[(4,none)],false⟩
def ir20_0:IRC:=(.seq (.region [qB 14 .lss (.t 13) (.t 12)] none [0,1,12,13,14]) (.seq (.cond (.t 14) .skip (.exit 0)) (.seq (.block 1 (.seq (.region [qM 15 13,qM 5 15] none [0,1,5,12,13]) (.seq (.region [qM 16 0,qM 17 5,qX 18 (.idxASl 1 (.t 16) (.t 17)),qL 19 1 18,qM 20 1,qM 21 5,qX 22 (.idxASl 1 (.t 20) (.t 21)),qL 23 1 22,qB 24 .neq (.t 19) (.t 23)] (some [0,0,3,7,0,0,48,112,255]) [0,1,12,13,24]) (.cond (.t 24) (.seq (.region [qV 4 qf] none [4]) .ret) .skip)))) (.region [qB 25 .add (.t 13) (qi 1),qM 13 25] none [0,1,12,13]))))
def ir20:IRF:=⟨[0,1],(.seq (.region [qV 4 qf] none [0,1]) (.seq (.seq (.region [qM 6 0,qX 7 (.len false (.t 6)),qM 8 1,qX 9 (.len false (.t 8)),qB 10 .neq (.t 7) (.t 9)] none [0,1,10]) (.cond (.t 10) (.seq (.region [qV 4 qf] none [4]) .ret) .skip)) (.seq (.seq (.region [qM 11 0,qX 12 (.len false (.t 11)),qV 13 (qi 0)] none [0,1,12,13]) (.block 0 (.loop ir20_0))) (.seq (.region [qV 4 qt] none [4]) .ret)))),[(4,none)],false⟩
def ir21:IRF:=⟨[0],(.seq (.region [qX 1 (.box true (.t 0)),qV 2 ql] none [1]) (.seq (.region [qF 4 0 1,qL 5 1 4,qC 6 58 [ql,(.t 5)],qC 7 57 [(.t 6)],qX 8 (.b2s (.t 7)),qC 9 56 [(.t 8)],qM 3 9] none [1,3]) (.seq (.seq (.region [qF 10 2 1,qL 11 1 10] none [1,3,11]) (.cond (.t 11) (.seq (.region [qM 12 3,qX 13 (.mkSl true 1 1 [(.s (.int .u8 0))] [(0,1,(.c (.p (.s (.int .u8 1)))))]),qX 14 (.app 1 1 (.t 12) (.t 13)),qM 2 14] none [2]) .ret) .skip)) (.seq (.region [qM 15 3,qX 16 (.mkSl true 1 1 [(.s (.int .u8 0))] [(0,1,(.c (.p (.s (.int .u8 0)))))]),qF 17 1 1,qL 18 1 17,qC 19 60 [(.t 18)],qX 20 (.mkSl false 3 1 [zs,zs,zs] [(0,1,(.t 15)),(1,1,(.t 16)),(2,1,(.t 19))]),qC 21 59 [(.t 20)],qM 2 21] none [2]) .ret)))),[(2,none)],false⟩
def ir23:IRF:=⟨[0,1],(.seq (.region [qX 2 (.box true (.t 0)),qX 3 (.box true (.t 1)),qV 4 qf] none [2,3]) (.seq (.region [qF 8 0 2,qL 9 1 8,qT 10 4 3,qC 11 45 [(.t 9),(.t 10),(.c (.fn 46 [] []))],qM 7 11,qE 12 7 0,qE 13 7 1,qM 5 12,qM 6 13] none [3,6]) (.seq (.region [qM 14 6,qM 15 14,qT 16 4 3 (qy 15),qC 17 34 [(.t 16)] (qy 15),qA 18 15 17,qM 4 18] none [4]) .ret))),[(4,none)],false⟩
def ir24:IRF:=⟨[0,1],(.seq (.region [qX 2 (.box true (.t 0)),qX 3 (.box true (.t 1)),qV 4 ql] none [2,3]) (.seq (.region [qT 5 1 2,qC 6 13 [(.t 5)],qX 7 (.mkFn 61 [] [(.t 3)]),qC 8 43 [(.t 6),(.t 7)],qM 4 8] none [4]) .ret)),[(4,none)],false⟩
def ir25:IRF:=⟨[0],(.seq (.region [qX 2 (.alloc false [zu,zp])] none [0,2]) (.seq (.seq (.region [qM 7 0,qN 8 7,qF 9 1 8,qL 10 1 9,qX 11 (.eq false .ptr (.t 10) qp)] none [0,2,11]) (.cond (.t 11) (.seq (.region [qM 13 0,qN 14 13,qF 15 0 14,qL 16 1 15,qC 17 63 [(.t 16)],qM 12 17,qE 18 12 0,qE 19 12 1,qX 3 (.alloc false [zu,zp]),qS 2 3 18,qM 4 19] none [2,3]) (.seq (.region [qT 20 2 3,qS 2 2 20] none [2]) .ret)) .skip)) (.seq (.region [qM 22 0,qN 23 22,qF 24 0 23,qL 25 1 24,qM 26 0,qN 27 26,qF 28 1 27,qL 29 1 28,qC 30 25 [(.t 29)],qM 31 0,qN 32 31,qF 33 2 32,qL 34 1 33,qC 35 25 [(.t 34)],qC 36 64 [(.t 25),(.t 30),(.t 35)],qM 21 36,qE 37 21 0,qE 38 21 1,qX 5 (.alloc false [zu,zp]),qS 2 5 37,qM 6 38] (some [0,1,3,7,0,16,48,112,240,0,512,1536,3584,8176,16383,32767,65535,65535,0,393215,1048575]) [2,5]) (.seq (.region [qT 39 2 5,qS 2 2 39] none [2]) .ret)))),[(2,some (2,true))],false⟩
def ir27:IRF:=⟨[0],(.seq (.region [qX 1 (.box true (.t 0)),qV 2 ql] none [1]) (.seq (.region [qF 3 0 1,qL 4 1 3,qC 5 65 [(.t 4)],qM 2 5] none [2]) .ret)),[(2,none)],false⟩
def ir29:IRF:=⟨[0,1],(.seq (.region [qX 2 (.box true (.t 0)),qX 3 (.box true (.t 1)),qX 4 (.alloc false [zu,zp])] none [2,3,4]) (.seq (.seq (.region [qF 5 1 2,qL 6 1 5,qX 7 (.eq false .ptr (.t 6) qp),qM 8 7,qF 9 1 3 (qy 8),qL 10 1 9 (qy 8),qX 11 (.eq false .ptr (.t 10) qp) (qy 8),qA 12 8 11] none [2,3,4,12]) (.cond (.t 12) (.seq (.region [qF 13 0 2,qL 14 1 13,qF 15 0 3,qL 16 1 15,qX 17 (.minmax true [(.t 14),(.t 16)]),qX 18 (.build [zu,zp] [(0,1,(.t 17))]),qS 2 4 18] none [4]) .ret) .skip)) (.seq (.region [qT 19 2 2,qC 20 67 [(.t 19)],qF 21 0 2,qL 22 1 21,qC 23 68 [(.t 20),(.t 22)],qT 24 2 3,qC 25 67 [(.t 24)],qF 26 0 3,qL 27 1 26,qC 28 68 [(.t 25),(.t 27)],qC 29 29 [(.t 23),(.t 28)],qT 30 2 2,qC 31 69 [(.t 30)],qF 32 0 2,qL 33 1 32,qC 34 68 [(.t 31),(.t 33)],qT 35 2 3,qC 36 69 [(.t 35)],qF 37 0 3,qL 38 1 37,qC 39 68 [(.t 36),(.t 38)],qC 40 29 [(.t 34),(.t 39)],qC 41 66 [(qu 0),(.t 29),(.t 40)],qS 2 4 41] (some [0,1,0,4,15,0,63,0,128,511,1023,0,4095,0,8192,32767,0,131071,0,262144,1048575,2097151,4194303,8388607]) [4]) .ret))),[(4,some (2,true))],false⟩
def ir32:IRF:=⟨[0],(.seq (.region [qX 1 (.box true (.t 0)),qV 2 ql] none [1]) (.seq (.region [qF 4 0 1,qT 5 2 4,qC 6 84 [(.t 5)],qX 7 (.b2s (.t 6)),qC 8 83 [ql,(.t 7)],qM 3 8] none [1,3]) (.seq (.seq (.region [qF 9 3 1,qL 10 1 9] none [1,3,10]) (.cond (.t 10) (.seq (.region [qM 11 3,qX 12 (.mkSl true 1 1 [(.s (.int .u8 0))] [(0,1,(.c (.p (.s (.int .u8 1)))))]),qX 13 (.app 1 1 (.t 11) (.t 12)),qM 2 13] none [2]) .ret) .skip)) (.seq (.region [qM 14 3,qX 15 (.mkSl true 1 1 [(.s (.int .u8 0))] [(0,1,(.c (.p (.s (.int .u8 0)))))]),qX 16 (.app 1 1 (.t 14) (.t 15)),qF 17 2 1,qT 18 1 17,qC 19 85 [(.t 16),(.t 18)],qM 2 19] (some [0,0,3,0,8,31,63]) [2]) .ret)))),[(2,none)],false⟩
def ir33:IRF:=⟨[0,1],(.seq (.region [qX 2 (.box true (.t 0)),qX 3 (.box true (.t 1)),qV 4 qf] none [2,3]) (.seq (.region [qT 5 4 2,qT 6 4 3,qC 7 46 [(.t 5),(.t 6)],qB 8 .eql (.t 7) (qi 0),qM 4 8] none [4]) .ret)),[(4,none)],false⟩
def ir34:IRF:=⟨[0],(.seq (.region [qX 1 (.box true (.t 0)),qV 2 qf] none [1]) (.seq (.region [qF 3 3 1,qL 4 1 3,qX 5 (.un .not (.t 4)),qM 6 5,qF 7 2 1 (qn 6),qT 8 1 7 (qn 6),qC 9 86 [(.t 8)] (qn 6),qB 10 .eql (.t 9) (qi 0) (qn 6),qO 11 6 10,qM 2 11] none [2]) .ret)),[(2,none)],false⟩
def ir36_0:IRC:=(.seq (.tidy [0,1,5] []) (.seq (.seq (.region [qM 6 5,qM 7 0,qX 8 (.len false (.t 7)),qB 9 .lss (.t 6) (.t 8),qM 10 9,qM 11 5 (qy 10),qM 12 1 (qy 10),qX 13 (.len false (.t 12)) (qy 10),qB 14 .lss (.t 11) (.t 13) (qy 10),qA 15 10 14] none [0,1,5,15]) (.cond (.t 15) .skip (.exit 0))) (.seq (.block 1 (.seq (.region [qM 18 0,qM 19 5,qX 20 (.idxASl 1 (.t 18) (.t 19)),qL 21 1 20,qM 22 1,qM 23 5,qX 24 (.idxASl 1 (.t 22) (.t 23)),qL 25 1 24,qB 26 .neq (.t 21) (.t 25)] (some [0,0,3,7,0,0,48,112,255]) [0,1,5,26]) (.cond (.t 26) (.seq (.region [qM 27 0,qM 28 5,qX 29 (.idxASl 1 (.t 27) (.t 28)),qL 30 1 29,qM 31 1,qM 32 5,qX 33 (.idxASl 1 (.t 31) (.t 32)),qL 34 1 33,qB 35 .lss (.t 30) (.t 34),qM 4 35] (some [0,0,3,7,0,0,48,112,255,511]) [4]) .ret) .skip))) (.region [qM 16 5,qB 17 .add (.t 16) (qi 1),qM 5 17] none [0,1,5]))))
def ir36:IRF:=⟨[0,1],(.seq (.region [qV 4 qf] none [0,1]) (.seq (.seq (.region [qV 5 (qi 0)] none [0,1,5]) (.block 0 (.loop ir36_0))) (.seq (.region [qM 36 0,qX 37 (.len false (.t 36)),qM 38 1,qX 39 (.len false (.t 38)),qB 40 .lss (.t 37) (.t 39),qM 4 40] none [4]) .ret))),[(4,none)],false⟩
def ir37:IRF:=⟨[0,1],(.seq (.region [qX 2 (.box true (.t 0)),qX 3 (.box true (.t 1)),qV 4 qf] none [2,3]) (.seq (.region [qF 5 0 2,qT 6 2 5,qF 7 0 3,qT 8 2 7,qC 9 62 [(.t 6),(.t 8)],qM 10 9,qF 11 0 3 (qy 10),qT 12 2 11 (qy 10),qF 13 0 2 (qy 10),qT 14 2 13 (qy 10),qC 15 62 [(.t 12),(.t 14)] (qy 10),qX 16 (.un .not (.t 15)) (qy 10),qA 17 10 16,qM 4 17] none [4]) .ret)),[(4,none)],false⟩
def ir38:IRF:=⟨[0,1],(.seq (.region [qX 2 (.box true (.t 0)),qX 3 (.box true (.t 1)),qV 4 qf] none [2,3]) (.seq (.region [qF 5 0 2,qL 6 1 5,qF 7 0 3,qL 8 1 7,qC 9 19 [(.t 6),(.t 8)],qM 10 9,qF 11 0 3 (qy 10),qL 12 1 11 (qy 10),qF 13 0 2 (qy 10),qL 14 1 13 (qy 10),qC 15 19 [(.t 12),(.t 14)] (qy 10),qX 16 (.un .not (.t 15)) (qy 10),qA 17 10 16,qM 4 17] none [4]) .ret)),[(4,none)],false⟩
def ir39:IRF:=⟨[0],(.seq (.region [qX 2 (.alloc false [zu,zp]),qV 3 (qi 0)] none [0,2]) (.seq (.region [qM 7 0,qX 8 (.build [zE0,zf,zf] [(0,1,(.t 7))]),qX 9 (.box false (.t 8)),qM 4 9] none [2,4]) (.seq (.seq (.region [qM 10 4,qC 11 87 [(.t 10)],qX 5 (.alloc false [zu,zp]),qS 2 5 11] none [2,4,5]) (.tidy [2,4] [5])) (.seq (.region [qT 12 2 5,qC 13 88 [(.t 12)],qM 6 13] none [2,4,5,6]) (.seq (.block 0 (.seq (.region [qM 15 4,qN 16 15,qF 17 1 16,qL 18 1 17,qM 19 18,qM 20 4 (qn 19),qN 21 20 (qn 19),qF 22 0 21 (qn 19),qL 23 1 22 (qn 19),qB 24 .neq (.t 23) (.c (.p zE0)) (qn 19),qO 25 19 24,qM 14 25] none [2,4,5,6,14]) (.cond (.t 14) (.seq (.region [qX 26 (.build [zu,zp] []),qS 2 2 26,qV 3 (qi 6)] none [2,3]) .ret) (.seq (.region [qM 28 6,qB 29 .eql (.t 28) (qi 0),qM 30 29,qM 31 4 (qy 30),qN 32 31 (qy 30),qF 33 2 32 (qy 30),qL 34 1 33 (qy 30),qA 35 30 34,qM 27 35] none [2,5,6,27]) (.cond (.t 27) (.seq (.region [qX 36 (.build [zu,zp] []),qS 2 2 36,qV 3 (qi 4)] none [2,3]) .ret) (.seq (.region [qM 38 6,qB 39 .neq (.t 38) (qi 0),qM 37 39] none [2,5,6,37]) (.cond (.t 37) (.seq (.region [qX 40 (.build [zu,zp] []),qM 41 6,qS 2 2 40,qM 3 41] none [2,3]) .ret) .skip))))))) (.seq (.region [qT 42 2 5,qS 2 2 42,qV 3 (qi 0)] none [2,3]) .ret)))))),[(2,some (2,true)),(3,none)],false⟩
def ir40_0:IRC:=(.seq (.tidy [0,3,5,6] []) (.seq (.seq (.region [qM 10 6,qM 11 0,qX 12 (.len false (.t 11)),qB 13 .lss (.t 10) (.t 12),qM 14 13,qM 15 0 (qy 14),qM 16 6 (qy 14),qX 17 (.idxASl 3 (.t 15) (.t 16)) (qy 14),qT 18 3 17 (qy 14),qC 19 21 [(.t 18)] (qy 14),qM 20 5 (qy 14),qC 21 36 [(.t 19),(.t 20)] (qy 14),qA 22 14 21] none [0,3,5,6,22]) (.cond (.t 22) .skip (.exit 0))) (.block 1 (.region [qM 23 6,qB 24 .add (.t 23) (qi 1),qM 6 24] none [0,3,5,6]))))
def ir40:IRF:=⟨[0,1],(.seq (.region [qX 3 (.box true (.t 1)),qV 4 ql] none [0,3]) (.seq (.region [qT 8 3 3,qC 9 21 [(.t 8)],qM 5 9] none [0,3,5]) (.seq (.region [qV 6 (qi 0)] none [0,3,5,6]) (.seq (.block 0 (.loop ir40_0)) (.seq (.seq (.region [qM 25 6,qM 26 0,qX 27 (.len false (.t 26)),qB 28 .lss (.t 25) (.t 27),qM 29 28,qM 30 0 (qy 29),qM 31 6 (qy 29),qX 32 (.idxASl 3 (.t 30) (.t 31)) (qy 29),qT 33 3 32 (qy 29),qC 34 21 [(.t 33)] (qy 29),qM 35 5 (qy 29),qC 36 20 [(.t 34),(.t 35)] (qy 29),qA 37 29 36] none [0,3,6,37]) (.cond (.t 37) (.seq (.region [qM 38 0,qM 4 38] none [4]) .ret) .skip)) (.seq (.seq (.region [qT 39 3 3,qX 40 (.mkSl false 1 3 [zp,zs,zf] [(0,3,(.t 39))]),qM 41 0,qM 42 6,qX 43 (.slSl 3 (.t 41) (some (.t 42)) none none),qX 44 (.app 3 40 (.t 40) (.t 43)),qM 7 44] (some [0,1,0,0,12,31,63]) [0,6,7]) (.tidy [0,6] [7])) (.seq (.region [qX 45 (.mkSl false 0 3 [] []),qM 46 0,qM 47 6,qX 48 (.slSl 3 (.t 46) none (some (.t 47)) none),qX 49 (.app 3 40 (.t 45) (.t 48)),qM 50 7,qX 51 (.app 3 40 (.t 49) (.t 50)),qM 4 51] none [4]) .ret))))))),[(4,none)],false⟩
def ir41:IRF:=⟨[0,1],(.seq (.region [qV 4 qf] none [0,1]) (.seq (.region [qM 5 0,qM 6 1,qC 7 89 [(.t 5),(.t 6)],qB 8 .geq (.t 7) (qi 0),qM 4 8] none [4]) .ret)),[(4,none)],false⟩
def ir42:IRF:=⟨[0,1],(.seq (.region [qX 2 (.box true (.t 0)),qV 3 qf] none [1,2]) (.seq (.region [qT 4 4 1,qT 5 4 2,qC 6 37 [(.t 4),(.t 5)],qM 3 6] none [3]) .ret)),[(3,none)],false⟩
def ir43_0:IRC:=(.seq (.tidy [0,1,5,6] []) (.seq (.seq (.region [qM 16 6,qM 17 0,qX 18 (.len false (.t 17)),qB 19 .lss (.t 16) (.t 18)] none [0,1,5,6,19]) (.cond (.t 19) .skip (.exit 0))) (.seq (.block 1 (.seq (.seq (.region [qM 22 0,qM 23 6,qX 24 (.idxASl 4 (.t 22) (.t 23)),qT 25 4 24,qX 7 (.alloc false [zu,zp,zs,zf]),qS 4 7 25] none [0,1,5,6,7]) (.tidy [0,1,5,6] [7])) (.seq (.region [qM 26 1,qT 27 4 7,qX 28 (.callv (.t 26) [(.t 27)]),qX 29 (.un .not (.t 28))] none [0,1,5,6,7,29]) (.cond (.t 29) (.seq (.region [qM 30 0,qM 31 5,qT 32 4 7,qX 33 (.idxASl 4 (.t 30) (.t 31)),qS 4 33 32] none [0,1,5,6]) (.region [qM 34 5,qB 35 .add (.t 34) (qi 1),qM 5 35] none [0,1,5,6])) .skip)))) (.region [qM 20 6,qB 21 .add (.t 20) (qi 1),qM 6 21] none [0,1,5,6]))))
def ir43:IRF:=⟨[0,1],(.seq (.region [qV 4 ql] none [0,1]) (.seq (.region [qM 8 0,qM 9 1,qC 10 89 [(.t 8),(.t 9)],qM 5 10] none [0,1,5]) (.seq (.seq (.region [qM 11 5,qB 12 .eql (.t 11) (.c (.p (.s (.int .i64 (-1)))))] none [0,1,5,12]) (.cond (.t 12) (.seq (.region [qM 13 0,qM 4 13] none [4]) .ret) .skip)) (.seq (.seq (.region [qM 14 5,qB 15 .add (.t 14) (qi 1),qM 6 15] none [0,1,5,6]) (.block 0 (.loop ir43_0))) (.seq (.region [qM 36 0,qM 37 5,qX 38 (.slSl 4 (.t 36) (some (.t 37)) none none),⟨none,(.clr 4 [zu,zp,zs,zf] (.t 38)),none⟩] none [0,5]) (.seq (.region [qM 39 0,qM 40 5,qX 41 (.slSl 4 (.t 39) none (some (.t 40)) none),qM 4 41] none [4]) .ret)))))),[(4,none)],true⟩
def ir44:IRF:=⟨[0,1],(.seq (.region [qX 2 (.box true (.t 0)),qV 3 qf] none [1,2]) (.seq (.region [qT 4 4 2,qT 5 4 1,qC 6 37 [(.t 4),(.t 5)],qM 3 6] none [3]) .ret)),[(3,none)],false⟩
def ir45_0:IRC:=(.seq (.tidy [0,2,4,8,9,10] []) (.seq (.seq (.region [qM 15 9,qM 16 10,qB 17 .lss (.t 15) (.t 16)] none [0,2,4,8,9,10,17]) (.cond (.t 17) .skip (.exit 0))) (.block 1 (.seq (.region [qM 18 9,qM 19 10,qB 20 .add (.t 18) (.t 19),qX 21 (.cvt .u64 (.t 20)),qB 22 .shr (.t 21) (qu 1),qX 23 (.cvt .i64 (.t 22)),qM 11 23] none [0,2,4,8,9,10,11]) (.seq (.region [qM 24 2,qM 25 0,qM 26 11,qX 27 (.idxASl 4 (.t 25) (.t 26)),qT 28 4 27,qT 29 4 4,qX 30 (.callv (.t 24) [(.t 28),(.t 29)]),qB 31 .lss (.t 30) (qi 0)] (some [0,0,0,6,14,0,63,127]) [0,2,4,8,9,10,11,31]) (.cond (.t 31) (.region [qM 32 11,qB 33 .add (.t 32) (qi 1),qM 9 33] none [0,2,4,8,9,10]) (.region [qM 34 11,qM 10 34] none [0,2,4,8,9,10])))))))
def ir45:IRF:=⟨[0,1,2],(.seq (.region [qX 4 (.box true (.t 1)),qV 6 (qi 0),qV 7 qf] none [0,2,4]) (.seq (.region [qM 12 0,qX 13 (.len false (.t 12)),qM 8 13] none [0,2,4,8]) (.seq (.region [qM 14 8,qV 9 (qi 0),qM 10 14] none [0,2,4,8,9,10]) (.seq (.block 0 (.loop ir45_0)) (.seq (.region [qM 35 9,qM 36 9,qM 37 8,qB 38 .lss (.t 36) (.t 37),qM 39 38,qM 40 2 (qy 39),qM 41 0 (qy 39),qM 42 9 (qy 39),qX 43 (.idxASl 4 (.t 41) (.t 42)) (qy 39),qT 44 4 43 (qy 39),qT 45 4 4 (qy 39),qX 46 (.callv (.t 40) [(.t 44),(.t 45)]) (qy 39),qB 47 .eql (.t 46) (qi 0) (qy 39),qA 48 39 47,qM 6 35,qM 7 48] (some [0,0,0,6,14,30,30,30,222,478,30,2046,4094,8190,4095,32767]) [6,7]) .ret))))),[(6,none),(7,none)],false⟩
def ir46:IRF:=⟨[0,1],(.seq (.region [qX 2 (.box true (.t 0)),qX 3 (.box true (.t 1)),qV 4 (qi 0)] none [2,3]) (.seq (.region [qT 5 4 2,qC 6 32 [(.t 5)],qT 7 4 3,qC 8 32 [(.t 7)],qC 9 90 [(.t 6),(.t 8)],qM 4 9] (some [0,1,0,7,15,31]) [4]) .ret)),[(4,none)],false⟩
def ir47:IRF:=⟨[0,1,2],(.seq (.region [qV 6 ql] none [0,1,2]) (.seq (.region [qM 10 0,qM 11 1,qX 12 (.slSl 4 (.t 10) (some (.t 11)) none none)] none [0,1,2]) (.seq (.region [qM 13 2,qX 14 (.len false (.t 13)),qM 7 14] none [0,1,2,7]) (.seq (.seq (.region [qM 15 7,qB 16 .eql (.t 15) (qi 0)] none [0,1,2,7,16]) (.cond (.t 16) (.seq (.region [qM 17 0,qM 6 17] none [6]) .ret) .skip)) (.seq (.region [qM 18 0,qX 19 (.len false (.t 18)),qM 8 19] none [0,1,2,7,8]) (.seq (.seq (.region [qM 20 1,qM 21 8,qB 22 .eql (.t 20) (.t 21)] none [0,1,2,7,8,22]) (.cond (.t 22) (.seq (.region [qM 23 0,qM 24 2,qX 25 (.app 4 48 (.t 23) (.t 24)),qM 6 25] none [6]) .ret) .skip)) (.seq (.seq (.region [qM 26 8,qM 27 7,qB 28 .add (.t 26) (.t 27),qM 29 0,qX 30 (.cap (.t 29)),qB 31 .gtr (.t 28) (.t 30)] none [0,1,2,7,8,31]) (.cond (.t 31) (.seq (.region [qM 32 0,qM 33 1,qX 34 (.slSl 4 (.t 32) none (some (.t 33)) none),qM 35 8,qM 36 7,qB 37 .add (.t 35) (.t 36),qM 38 1,qB 39 .sub (.t 37) (.t 38),qX 40 (.appZ 4 48 [zu,zp,zs,zf] (.t 34) (.t 39)),qM 9 40] none [0,1,2,7,9]) (.seq (.region [qM 41 9,qM 42 1,qX 43 (.slSl 4 (.t 41) (some (.t 42)) none none),qM 44 2,qX 45 (.copyX 4 (.t 43) (.t 44))] none [0,1,7,9]) (.seq (.region [qM 46 9,qM 47 1,qM 48 7,qB 49 .add (.t 47) (.t 48),qX 50 (.slSl 4 (.t 46) (some (.t 49)) none none),qM 51 0,qM 52 1,qX 53 (.slSl 4 (.t 51) (some (.t 52)) none none),qX 54 (.copyX 4 (.t 50) (.t 53))] (some [0,0,0,6,15,0,0,96,255]) [9]) (.seq (.region [qM 55 9,qM 6 55] none [6]) .ret)))) .skip)) (.seq (.region [qM 56 0,qM 57 8,qM 58 7,qB 59 .add (.t 57) (.t 58),qX 60 (.slSl 4 (.t 56) none (some (.t 59)) none),qM 0 60] none [0,1,2,7,8]) (.seq (.seq (.region [qM 61 2,qM 62 0,qM 63 1,qM 64 7,qB 65 .add (.t 63) (.t 64),qX 66 (.slSl 4 (.t 62) (some (.t 65)) none none),qX 67 (.ovl (.t 61) (.t 66)),qX 68 (.un .not (.t 67))] none [0,1,2,7,8,68]) (.cond (.t 68) (.seq (.region [qM 69 0,qM 70 1,qM 71 7,qB 72 .add (.t 70) (.t 71),qX 73 (.slSl 4 (.t 69) (some (.t 72)) none none),qM 74 0,qM 75 1,qX 76 (.slSl 4 (.t 74) (some (.t 75)) none none),qX 77 (.copyX 4 (.t 73) (.t 76))] (some [0,0,0,6,15,0,0,96,255]) [0,1,2]) (.seq (.region [qM 78 0,qM 79 1,qX 80 (.slSl 4 (.t 78) (some (.t 79)) none none),qM 81 2,qX 82 (.copyX 4 (.t 80) (.t 81))] none [0]) (.seq (.region [qM 83 0,qM 6 83] none [6]) .ret))) .skip)) (.seq (.region [qM 84 0,qM 85 8,qX 86 (.slSl 4 (.t 84) (some (.t 85)) none none),qM 87 2,qX 88 (.copyX 4 (.t 86) (.t 87))] none [0,1,7]) (.seq (.region [qM 89 0,qM 90 1,qX 91 (.slSl 4 (.t 89) (some (.t 90)) none none),qM 92 7,qC 93 92 [(.t 91),(.t 92)]] none [0]) (.seq (.region [qM 94 0,qM 6 94] none [6]) .ret)))))))))))),[(6,none)],true⟩
def ir48:IRF:=⟨[0],(.seq (.region [qV 2 ql] none [0]) (.seq (.seq (.region [qM 3 0,qX 4 (.eq false .slice (.t 3) ql)] none [0,4]) (.cond (.t 4) (.seq (.region [qV 2 ql] none [2]) .ret) .skip)) (.seq (.region [qX 5 (.mkSl false 0 4 [] []),qM 6 0,qX 7 (.app 4 48 (.t 5) (.t 6)),qM 2 7] none [2]) .ret))),[(2,none)],true⟩
def ir49_0:IRC:=(.seq (.tidy [1,2,15,16,17] []) (.seq (.region [qB 18 .lss (.t 17) (.t 16)] none [1,2,15,16,17,18]) (.seq (.cond (.t 18) .skip (.exit 0)) (.seq (.block 1 (.seq (.seq (.region [qM 19 17,qX 20 (.idxASl 4 (.t 15) (.t 17)),qT 21 4 20,qX 8 (.alloc false [zu,zp,zs,zf]),qM 7 19,qS 4 8 21] none [1,2,7,8,15,16,17]) (.tidy [1,2,7,15,16,17] [8])) (.seq (.seq (.region [qM 22 1,qM 23 7,qX 24 (.idxASl 4 (.t 22) (.t 23)),qT 25 4 24,qX 9 (.alloc false [zu,zp,zs,zf]),qS 4 9 25] none [1,2,8,9,15,16,17]) (.tidy [1,2,8,15,16,17] [9])) (.seq (.region [qM 26 2,qT 27 4 8,qT 28 4 9,qX 29 (.callv (.t 26) [(.t 27),(.t 28)]),qX 30 (.un .not (.t 29))] none [1,2,15,16,17,30]) (.cond (.t 30) (.seq (.region [qV 6 qf] none [6]) .ret) .skip))))) (.region [qB 31 .add (.t 17) (qi 1),qM 17 31] none [1,2,15,16,17])))))
def ir49:IRF:=⟨[0,1,2],(.seq (.region [qV 6 qf] none [0,1,2]) (.seq (.seq (.region [qM 10 0,qX 11 (.len false (.t 10)),qM 12 1,qX 13 (.len false (.t 12)),qB 14 .neq (.t 11) (.t 13)] none [0,1,2,14]) (.cond (.t 14) (.seq (.region [qV 6 qf] none [6]) .ret) .skip)) (.seq (.seq (.region [qM 15 0,qX 16 (.len false (.t 15)),qV 17 (qi 0)] none [1,2,15,16,17]) (.block 0 (.loop ir49_0))) (.seq (.region [qV 6 qt] none [6]) .ret)))),[(6,none)],false⟩
def ir50:IRF:=⟨[0,1,2],(.seq (.region [qX 6 (.alloc false [zp,zs,zf])] none [0,1,2,6]) (.seq (.seq (.region [qM 11 0,qX 12 (.len false (.t 11)),qB 13 .gtr (.t 12) (qi 40)] none [0,1,2,6,13]) (.cond (.t 13) (.region [qM 14 0,qX 15 (.slSl 1 (.t 14) none (some (qi 40)) none),qM 0 15] none [0,1,2,6]) .skip)) (.seq (.region [qM 17 0,qC 18 18 [(.t 17),(qi 4)],qM 16 18,qE 19 16 0,qE 20 16 1,qM 7 19,qM 8 20] none [1,2,6,7]) (.seq (.region [qM 21 7,qM 22 2,qX 23 (.build [zp,zs,zf] [(0,1,(.t 21)),(2,1,(.t 22))]),qX 9 (.alloc false [zp,zs,zf]),qS 3 9 23] none [1,2,6,9]) (.seq (.seq (.region [qM 24 1,qX 25 (.build [zi,zE0,zE0] [(0,1,(qi 1)),(2,1,(.t 24))]),qX 10 (.alloc false [zi,zE0,zE0]),qS 3 10 25] none [2,6,9,10]) (.tidy [2,6,9] [10])) (.seq (.seq (.region [qM 26 2,qX 27 (.un .not (.t 26)),qM 28 27,qT 29 3 10 (qy 28),qC 30 93 [(.t 29)] (qy 28),qB 31 .eql (.t 30) (qi 0) (qy 28),qA 32 28 31] none [6,9,10,32]) (.cond (.t 32) (.region [qT 33 3 10,qX 34 (.mkSl true 1 3 [zi,zE0,zE0] [(0,3,(.t 33))]),qF 35 1 9,qS 1 35 34] none [6,9]) .skip)) (.seq (.region [qT 36 3 9,qS 3 6 36] none [6]) .ret))))))),[(6,some (3,true))],false⟩
def ir51_0:IRC:=(.seq (.tidy [0,2,8,9,10] []) (.seq (.region [qB 11 .lss (.t 10) (.t 9)] none [0,2,8,9,10,11]) (.seq (.seq (.cond (.t 11) .skip (.seq (qR [0,2]) (.exit 0))) (qR [0,2,8,9,10])) (.seq (.block 1 (.seq (.seq (.region [qX 12 (.idxASl 3 (.t 8) (.t 10)),qT 13 3 12,qX 5 (.alloc false [zi,zE0,zE0]),qS 3 5 13] none [0,2,5,8,9,10]) (.tidy [0,2,8,9,10] [5])) (.seq (.region [qT 14 3 5,qC 15 94 [(.t 14)],qM 6 15] none [0,2,6,8,9,10]) (.seq (.region [qM 16 6,qB 17 .neq (.t 16) (qi 0)] none [0,2,6,8,9,10,17]) (.seq (.cond (.t 17) (.seq (.region [qX 18 (.build [zs] []),qM 19 6,qS 1 2 18,qM 3 19] none [2,3]) .ret) .skip) (qR [0,2,8,9,10])))))) (.region [qB 20 .add (.t 10) (qi 1),qM 10 20] none [0,2,8,9,10])))))
def ir51:IRF:=⟨[0],(.seq (.region [qX 2 (.alloc false [zs]),qV 3 (qi 0)] none [0,2]) (.seq (.seq (.region [qM 8 0,qX 9 (.len false (.t 8)),qV 10 (qi 0)] none [0,2,8,9,10]) (.block 0 (.loop ir51_0))) (.seq (.seq (.region [qM 21 0,qC 22 95 [(.t 21)],qX 7 (.alloc false [zs]),qS 1 7 22] none [2,7]) (.tidy [2] [7])) (.seq (.seq (.region [qT 23 1 7,qC 24 86 [(.t 23)],qB 25 .gtr (.t 24) (qi 8)] none [2,7,25]) (.seq (.cond (.t 25) (.seq (.region [qX 26 (.build [zs] []),qS 1 2 26,qV 3 (qi 8)] none [2,3]) .ret) .skip) (qR [2,7]))) (.seq (.region [qT 27 1 7,qS 1 2 27,qV 3 (qi 0)] none [2,3]) .ret))))),[(2,some (1,true)),(3,none)],false⟩
def ir52:IRF:=⟨[0],(.seq (.region [qV 2 qp] none [0]) (.seq (.region [qM 3 0,qX 4 (.build [zu,zp,zp] [(0,1,(.t 3))]),qX 5 (.box true (.t 4)),qM 2 5] none [2]) .ret)),[(2,none)],false⟩
def ir53:IRF:=⟨[0,1,2],(.seq (.region [qV 6 qp] none [0,1,2]) (.seq (.seq (.region [qM 8 1,qN 9 8,qF 10 1 9,qL 11 1 10,qX 12 (.eq false .ptr (.t 11) qp),qM 13 12,qM 14 2 (qy 13),qN 15 14 (qy 13),qF 16 1 15 (qy 13),qL 17 1 16 (qy 13),qX 18 (.eq false .ptr (.t 17) qp) (qy 13),qA 19 13 18,qM 20 19,qM 21 1 (qy 20),qN 22 21 (qy 20),qF 23 0 22 (qy 20),qL 24 1 23 (qy 20),qM 25 2 (qy 20),qN 26 25 (qy 20),qF 27 0 26 (qy 20),qL 28 1 27 (qy 20),qB 29 .eql (.t 24) (.t 28) (qy 20),qA 30 20 29] (some [0,1,3,7,15,31,63,127,255,511,1023,2047,4095,8191,16383,32767,65535,8191,139263,401407,925695,2097151,4194303]) [0,1,2,30]) (.cond (.t 30) (.seq (.region [qM 31 0,qM 32 1,qN 33 32,qF 34 0 33,qL 35 1 34,qB 36 .add (.t 31) (.t 35),qC 37 52 [(.t 36)],qM 6 37] none [6]) .ret) .skip)) (.seq (.region [qM 38 1,qC 39 96 [(.t 38)],qM 7 39] none [0,1,2,7]) (.seq (.seq (.region [qM 40 2,qC 41 96 [(.t 40)],qM 42 7,qB 43 .lss (.t 41) (.t 42)] none [0,1,2,7,43]) (.cond (.t 43) (.region [qM 44 2,qC 45 96 [(.t 44)],qM 7 45] none [0,1,2,7]) .skip)) (.seq (.region [qM 46 0,qM 47 7,qB 48 .add (.t 46) (.t 47),qM 49 1,qN 50 49,qF 51 0 50,qL 52 1 51,qM 53 7,qB 54 .sub (.t 52) (.t 53),qM 55 1,qN 56 55,qF 57 1 56,qL 58 1 57,qM 59 1,qN 60 59,qF 61 2 60,qL 62 1 61,qX 63 (.build [zu,zp,zp] [(0,1,(.t 54)),(1,1,(.t 58)),(2,1,(.t 62))]),qX 64 (.box true (.t 63)),qM 65 2,qN 66 65,qF 67 0 66,qL 68 1 67,qM 69 7,qB 70 .sub (.t 68) (.t 69),qM 71 2,qN 72 71,qF 73 1 72,qL 74 1 73,qM 75 2,qN 76 75,qF 77 2 76,qL 78 1 77,qX 79 (.build [zu,zp,zp] [(0,1,(.t 70)),(1,1,(.t 74)),(2,1,(.t 78))]),qX 80 (.box true (.t 79)),qX 81 (.build [zu,zp,zp] [(0,1,(.t 48)),(1,1,(.t 64)),(2,1,(.t 80))]),qX 82 (.box true (.t 81)),qM 6 82] (some [0,0,3,0,8,24,56,0,248,0,512,1536,3584,0,8192,24576,57344,131064,262136,0,524288,1572864,3670016,0,16252928,0,33554432,100663296,234881024,0,536870912,1610612736,3758096384,8589410304,17179344896,34359738367,68719476735,137438953471]) [6]) .ret))))),[(6,none)],false⟩
def ir54:IRF:=⟨[0],(.seq (.region [qV 2 qp] none [0]) (.seq (.seq (.region [qM 3 0,qN 4 3,qF 5 1 4,qL 6 1 5,qX 7 (.eq false .ptr (.t 6) qp)] none [0,7]) (.cond (.t 7) (.seq (.region [qM 8 0,qM 2 8] none [2]) .ret) .skip)) (.seq (.region [qM 9 0,qN 10 9,qF 11 1 10,qL 12 1 11,qM 13 0,qN 14 13,qF 15 0 14,qL 16 1 15,qC 17 97 [(.t 12),(.t 16)],qM 2 17] (some [0,1,3,7,0,16,48,112,255,511]) [2]) .ret))),[(2,none)],false⟩
def ir55:IRF:=⟨[0],(.seq (.region [qV 2 qp] none [0]) (.seq (.seq (.region [qM 3 0,qN 4 3,qF 5 1 4,qL 6 1 5,qX 7 (.eq false .ptr (.t 6) qp)] none [0,7]) (.cond (.t 7) (.seq (.region [qM 8 0,qM 2 8] none [2]) .ret) .skip)) (.seq (.region [qM 9 0,qN 10 9,qF 11 2 10,qL 12 1 11,qM 13 0,qN 14 13,qF 15 0 14,qL 16 1 15,qC 17 97 [(.t 12),(.t 16)],qM 2 17] (some [0,1,3,7,0,16,48,112,255,511]) [2]) .ret))),[(2,none)],false⟩
def ir56:IRF:=⟨[0],(.seq (.region [qV 2 ql] none [0]) (.seq (.region [qM 3 0,qX 4 (.len true (.t 3)),qX 5 (.cvt .u64 (.t 4)),qC 6 98 [(.t 5)],qM 7 0,qX 8 (.s2b false (.t 7)),qX 9 (.app 1 1 (.t 6) (.t 8)),qM 2 9] none [2]) .ret)),[(2,none)],true⟩
def ir57_0:IRC:=(.seq (.seq (.region [qM 13 6,qB 14 .lss (.t 13) (qi 8)] none [0,3,4,5,6,14]) (.cond (.t 14) .skip (.exit 2))) (.seq (.block 3 (.seq (.region [qM 17 5,qB 18 .mul (.t 17) (.c (.p (.s (.int .u8 2)))),qM 5 18] none [0,3,4,5,6]) (.seq (.region [qM 19 4,qM 20 6,qB 21 .add (.t 19) (.t 20),qM 22 0,qX 23 (.len false (.t 22)),qB 24 .lss (.t 21) (.t 23),qM 25 24,qM 26 0 (qy 25),qM 27 4 (qy 25),qM 28 6 (qy 25),qB 29 .add (.t 27) (.t 28) (qy 25),qX 30 (.idxASl 1 (.t 26) (.t 29)) (qy 25),qL 31 1 30 (qy 25),qA 32 25 31] none [0,3,4,5,6,32]) (.cond (.t 32) (.region [qM 33 5,qB 34 .add (.t 33) (.c (.p (.s (.int .u8 1)))),qM 5 34] none [0,3,4,5,6]) .skip)))) (.region [qM 15 6,qB 16 .add (.t 15) (qi 1),qM 6 16] none [0,3,4,5,6])))
def ir57_1:IRC:=(.seq (.seq (.region [qM 7 4,qM 8 0,qX 9 (.len false (.t 8)),qB 10 .lss (.t 7) (.t 9)] none [0,3,4,10]) (.cond (.t 10) .skip (.exit 0))) (.seq (.block 1 (.seq (.region [qV 5 (.c (.p (.s (.int .u8 0))))] none [0,3,4,5]) (.seq (.seq (.region [qV 6 (qi 0)] none [0,3,4,5,6]) (.block 2 (.loop ir57_0))) (.region [qM 35 3,qM 36 5,qX 37 (.mkSl false 1 1 [(.s (.int .u8 0))] [(0,1,(.t 36))]),qX 38 (.app 1 1 (.t 35) (.t 37)),qM 3 38] none [0,3,4])))) (.region [qM 11 4,qB 12 .add (.t 11) (qi 8),qM 4 12] none [0,3,4])))
def ir57:IRF:=⟨[0],(.seq (.region [qV 2 ql] none [0]) (.seq (.region [qV 3 ql] none [0,3]) (.seq (.seq (.region [qV 4 (qi 0)] none [0,3,4]) (.block 0 (.loop ir57_1))) (.seq (.region [qM 39 3,qM 2 39] none [2]) .ret)))),[(2,none)],false⟩
def ir58:IRF:=⟨[0,1],(.seq (.region [qV 4 ql] none [0,1]) (.seq (.seq (.region [qM 5 1,qN 6 5,qF 7 1 6,qL 8 1 7,qX 9 (.eq false .ptr (.t 8) qp)] none [0,1,9]) (.cond (.t 9) (.seq (.region [qM 10 0,qC 11 100 [(.t 10),(qu 1),(qi 1)],qM 12 1,qN 13 12,qF 14 0 13,qL 15 1 14,qC 16 99 [(.t 11),(.t 15)],qM 4 16] (some [0,1,0,4,12,28,63,127]) [4]) .ret) .skip)) (.seq (.region [qM 17 0,qC 18 100 [(.t 17),(qu 0),(qi 1)],qM 0 18] none [0,1]) (.seq (.seq (.region [qM 19 1,qN 20 19,qF 21 0 20,qL 22 1 21,qB 23 .eql (.t 22) (qu 0)] none [0,1,23]) (.cond (.t 23) (.seq (.seq (.region [qM 24 1,qN 25 24,qF 26 1 25,qL 27 1 26,qC 28 101 [(.t 27)]] none [0,1,28]) (.cond (.t 28) (.seq (.region [qM 29 0,qC 30 100 [(.t 29),(qu 0),(qi 2)],qM 31 1,qN 32 31,qF 33 2 32,qL 34 1 33,qC 35 58 [(.t 30),(.t 34)],qM 4 35] (some [0,1,0,4,12,28,63,127]) [4]) .ret) .skip)) (.seq (.seq (.region [qM 36 1,qN 37 36,qF 38 2 37,qL 39 1 38,qC 40 101 [(.t 39)]] none [0,1,40]) (.cond (.t 40) (.seq (.region [qM 41 0,qC 42 100 [(.t 41),(qu 1),(qi 2)],qM 43 1,qN 44 43,qF 45 1 44,qL 46 1 45,qC 47 58 [(.t 42),(.t 46)],qM 4 47] (some [0,1,0,4,12,28,63,127]) [4]) .ret) .skip)) (.seq (.region [qM 48 0,qC 49 100 [(.t 48),(qu 2),(qi 2)],qM 50 1,qN 51 50,qF 52 1 51,qL 53 1 52,qC 54 58 [(.t 49),(.t 53)],qM 55 1,qN 56 55,qF 57 2 56,qL 58 1 57,qC 59 58 [(.t 54),(.t 58)],qM 4 59] (some [0,1,0,4,12,28,63,0,128,384,896,2047,4095]) [4]) .ret))) .skip)) (.seq (.region [qM 60 0,qC 61 100 [(.t 60),(qu 3),(qi 2)],qM 0 61] none [0,1]) (.seq (.seq (.region [qM 62 1,qN 63 62,qF 64 1 63,qL 65 1 64,qC 66 101 [(.t 65)]] none [0,1,66]) (.cond (.t 66) (.seq (.region [qM 67 0,qC 68 100 [(.t 67),(qu 0),(qi 2)],qM 69 1,qN 70 69,qF 71 0 70,qL 72 1 71,qC 73 99 [(.t 68),(.t 72)],qM 74 1,qN 75 74,qF 76 2 75,qL 77 1 76,qC 78 58 [(.t 73),(.t 77)],qM 4 78] (some [0,1,0,4,12,28,63,0,128,384,896,2047,4095]) [4]) .ret) .skip)) (.seq (.seq (.region [qM 79 1,qN 80 79,qF 81 2 80,qL 82 1 81,qC 83 101 [(.t 82)]] none [0,1,83]) (.cond (.t 83) (.seq (.region [qM 84 0,qC 85 100 [(.t 84),(qu 1),(qi 2)],qM 86 1,qN 87 86,qF 88 0 87,qL 89 1 88,qC 90 99 [(.t 85),(.t 89)],qM 91 1,qN 92 91,qF 93 1 92,qL 94 1 93,qC 95 58 [(.t 90),(.t 94)],qM 4 95] (some [0,1,0,4,12,28,63,0,128,384,896,2047,4095]) [4]) .ret) .skip)) (.seq (.region [qM 96 0,qC 97 100 [(.t 96),(qu 1),(qi 1)],qM 98 1,qN 99 98,qF 100 0 99,qL 101 1 100,qC 102 99 [(.t 97),(.t 101)],qM 103 1,qN 104 103,qF 105 1 104,qL 106 1 105,qC 107 58 [(.t 102),(.t 106)],qM 108 1,qN 109 108,qF 110 2 109,qL 111 1 110,qC 112 58 [(.t 107),(.t 111)],qM 4 112] (some [0,1,0,4,12,28,63,0,128,384,896,2047,0,4096,12288,28672,65535,131071]) [4]) .ret)))))))),[(4,none)],false⟩
def ir59_0:IRC:=(.seq (.region [qB 9 .lss (.t 8) (.t 7)] none [3,6,7,8,9]) (.seq (.cond (.t 9) .skip (.exit 0)) (.seq (.block 1 (.seq (.region [qX 10 (.idxASl 1 (.t 6) (.t 8)),qL 11 1 10,qM 5 11] none [3,5,6,7,8]) (.region [qM 12 3,qM 13 5,qX 14 (.app 1 1 (.t 12) (.t 13)),qM 3 14] none [3,6,7,8]))) (.region [qB 15 .add (.t 8) (qi 1),qM 8 15] none [3,6,7,8]))))
def ir59:IRF:=⟨[0],(.seq (.region [qV 2 ql] none [0]) (.seq (.region [qV 3 ql] none [0,3]) (.seq (.seq (.region [qM 6 0,qX 7 (.len false (.t 6)),qV 8 (qi 0)] none [3,6,7,8]) (.block 0 (.loop ir59_0))) (.seq (.region [qM 16 3,qM 2 16] none [2]) .ret)))),[(2,none)],false⟩
def ir60_0:IRC:=(.seq (.tidy [3,10,11,12] []) (.seq (.region [qB 13 .lss (.t 12) (.t 11)] none [3,10,11,12,13]) (.seq (.cond (.t 13) .skip (.exit 0)) (.seq (.block 1 (.seq (.seq (.region [qX 14 (.idxASl 3 (.t 10) (.t 12)),qT 15 3 14,qX 5 (.alloc false [zi,zE0,zE0]),qS 3 5 15] none [3,5,10,11,12]) (.tidy [3,10,11,12] [5])) (.seq (.region [qM 16 3,qF 17 0 5,qL 18 1 17,qX 19 (.cvt .u8 (.t 18)),qX 20 (.mkSl true 1 1 [(.s (.int .u8 0))] [(0,1,(.t 19))]),qF 21 1 5,qL 22 1 21,qC 23 56 [(.t 22)],qF 24 2 5,qL 25 1 24,qC 26 56 [(.t 25)],qX 27 (.mkSl false 4 1 [zs,zs,zs,zs] [(0,1,(.t 16)),(1,1,(.t 20)),(2,1,(.t 23)),(3,1,(.t 26))]),qC 28 59 [(.t 27)],qM 3 28] (some [0,0,2,6,14,0,32,96,0,256,992,2047,4095,8191]) [3,10,11,12]) (.tidy [10,11,12] [3])))) (.region [qB 29 .add (.t 12) (qi 1),qM 12 29] none [3,10,11,12])))))
def ir60:IRF:=⟨[0],(.seq (.region [qV 2 ql] none [0]) (.seq (.seq (.region [qM 6 0,qX 7 (.len false (.t 6)),qX 8 (.cvt .u64 (.t 7)),qC 9 98 [(.t 8)],qM 3 9] none [0,3]) (.tidy [0] [3])) (.seq (.seq (.region [qM 10 0,qX 11 (.len false (.t 10)),qV 12 (qi 0)] none [3,10,11,12]) (.block 0 (.loop ir60_0))) (.seq (.region [qM 30 3,qM 2 30] none [2]) .ret)))),[(2,none)],false⟩
def ir61:IRF:=⟨[0,1],(.seq (.region [qX 2 (.box true (.t 0)),qV 3 qf] none [1,2]) (.seq (.region [qF 4 0 2,qT 5 2 4,qT 6 2 1,qC 7 62 [(.t 5),(.t 6)],qM 3 7] none [3]) .ret)),[(3,none)],false⟩
def ir62:IRF:=⟨[0,1],(.seq (.region [qX 2 (.box false (.t 0)),qX 3 (.box false (.t 1)),qV 4 qf] none [2,3]) (.seq (.seq (.region [qF 5 1 2,qL 6 1 5,qX 7 (.eq false .ptr (.t 6) qp)] none [2,3,7]) (.cond (.t 7) (.seq (.region [qF 8 0 2,qL 9 1 8,qF 10 0 3,qL 11 1 10,qB 12 .leq (.t 9) (.t 11),qM 4 12] none [4]) .ret) .skip)) (.seq (.seq (.region [qF 13 0 2,qL 14 1 13,qF 15 0 3,qL 16 1 15,qB 17 .gtr (.t 14) (.t 16),qM 18 17,qF 19 1 3 (qy 18),qL 20 1 19 (qy 18),qX 21 (.eq false .ptr (.t 20) qp) (qy 18),qA 22 18 21] none [2,3,22]) (.cond (.t 22) (.seq (.region [qV 4 qf] none [4]) .ret) .skip)) (.seq (.region [qF 23 1 2,qL 24 1 23,qN 25 24,qF 26 0 25,qT 27 2 26,qF 28 0 2,qL 29 1 28,qC 30 68 [(.t 27),(.t 29)],qT 31 2 3,qC 32 67 [(.t 31)],qF 33 0 3,qL 34 1 33,qC 35 68 [(.t 32),(.t 34)],qC 36 62 [(.t 30),(.t 35)],qM 37 36,qF 38 1 2 (qy 37),qL 39 1 38 (qy 37),qN 40 39 (qy 37),qF 41 2 40 (qy 37),qT 42 2 41 (qy 37),qF 43 0 2 (qy 37),qL 44 1 43 (qy 37),qC 45 68 [(.t 42),(.t 44)] (qy 37),qT 46 2 3 (qy 37),qC 47 69 [(.t 46)] (qy 37),qF 48 0 3 (qy 37),qL 49 1 48 (qy 37),qC 50 68 [(.t 47),(.t 49)] (qy 37),qC 51 62 [(.t 45),(.t 50)] (qy 37),qA 52 37 51,qM 4 52] (some [0,1,3,7,15,0,32,127,0,511,0,1024,4095,8191,16383,32767,65535,131071,262143,524287,32767,1081343,4194303,32767,16777215,32767,33587199,134217727,268435455,536870911,1073741823]) [4]) .ret)))),[(4,none)],false⟩
def ir63:IRF:=⟨[0],(.seq (.region [qX 2 (.alloc false [zu,zp]),qV 3 (qi 0)] none [0,2]) (.seq (.seq (.region [qM 4 0,qB 5 .gtr (.t 4) (qu 1048576)] none [0,2,5]) (.cond (.t 5) (.seq (.region [qX 6 (.build [zu,zp] []),qS 2 2 6,qV 3 (qi 4)] none [2,3]) .ret) .skip)) (.seq (.region [qM 7 0,qX 8 (.build [zu,zp] [(0,1,(.t 7))]),qS 2 2 8,qV 3 (qi 0)] none [2,3]) .ret))),[(2,some (2,true)),(3,none)],false⟩
def ir64:IRF:=⟨[0,1,2],(.seq (.region [qX 4 (.box false (.t 1)),qX 5 (.box false (.t 2)),qX 6 (.alloc false [zu,zp]),qV 7 (qi 0)] none [0,4,5,6]) (.seq (.region [qM 10 0,qX 11 (.minmax false [(.t 10),(qu 2097152)]),qT 12 2 4,qT 13 2 5,qC 14 66 [(.t 11),(.t 12),(.t 13)],qX 8 (.alloc false [zu,zp]),qS 2 8 14] none [6,8]) (.seq (.seq (.region [qT 15 2 8,qC 16 88 [(.t 15)],qM 9 16] none [6,8,9]) (.seq (.region [qM 17 9,qB 18 .neq (.t 17) (qi 0)] none [6,8,9,18]) (.cond (.t 18) (.seq (.region [qX 19 (.build [zu,zp] []),qM 20 9,qS 2 6 19,qM 7 20] none [6,7]) .ret) .skip))) (.seq (.region [qT 21 2 8,qS 2 6 21,qV 7 (qi 0)] none [6,7]) .ret)))),[(6,some (2,true)),(7,none)],false⟩
def ir65:IRF:=⟨[0],(.seq (.region [qV 2 ql] none [0]) (.seq (.seq (.region [qM 3 0,qX 4 (.eq false .slice (.t 3) ql)] none [0,4]) (.cond (.t 4) (.seq (.region [qV 2 ql] none [2]) .ret) .skip)) (.seq (.region [qX 5 (.mkSl false 0 3 [] []),qM 6 0,qX 7 (.app 3 40 (.t 5) (.t 6)),qM 2 7] none [2]) .ret))),[(2,none)],false⟩
def ir66:IRF:=⟨[0,1,2],(.seq (.region [qX 4 (.box false (.t 1)),qX 5 (.box false (.t 2)),qX 6 (.alloc false [zu,zp])] none [0,4,5,6]) (.seq (.seq (.region [qF 8 1 4,qL 9 1 8,qX 10 (.eq false .ptr (.t 9) qp),qM 11 10,qF 12 1 5 (qy 11),qL 13 1 12 (qy 11),qX 14 (.eq false .ptr (.t 13) qp) (qy 11),qA 15 11 14,qM 16 15,qF 17 0 4 (qy 16),qL 18 1 17 (qy 16),qF 19 0 5 (qy 16),qL 20 1 19 (qy 16),qB 21 .eql (.t 18) (.t 20) (qy 16),qA 22 16 21] none [0,4,5,6,22]) (.cond (.t 22) (.seq (.region [qM 23 0,qF 24 0 4,qL 25 1 24,qB 26 .add (.t 23) (.t 25),qX 27 (.build [zu,zp] [(0,1,(.t 26))]),qS 2 6 27] none [6]) .ret) .skip)) (.seq (.region [qF 28 0 4,qL 29 1 28,qF 30 0 5,qL 31 1 30,qX 32 (.minmax false [(.t 29),(.t 31)]),qM 7 32] none [0,4,5,6,7]) (.seq (.region [qF 33 0 4,qL 34 1 33,qM 35 7,qB 36 .sub (.t 34) (.t 35),qF 37 0 4,qS 1 37 36] none [0,4,5,6,7]) (.seq (.region [qF 38 0 5,qL 39 1 38,qM 40 7,qB 41 .sub (.t 39) (.t 40),qF 42 0 5,qS 1 42 41] none [0,4,5,6,7]) (.seq (.region [qM 43 0,qM 44 7,qB 45 .add (.t 43) (.t 44),qT 46 2 4,qT 47 2 5,qX 48 (.build [zu,zp,zu,zp] [(0,2,(.t 46)),(2,2,(.t 47))]),qX 49 (.box true (.t 48)),qX 50 (.build [zu,zp] [(0,1,(.t 45)),(1,1,(.t 49))]),qS 2 6 50] none [6]) .ret)))))),[(6,some (2,true))],false⟩
def ir67:IRF:=⟨[0],(.seq (.region [qX 1 (.box false (.t 0)),qX 2 (.alloc false [zu,zp])] none [1,2]) (.seq (.seq (.region [qF 3 1 1,qL 4 1 3,qX 5 (.eq false .ptr (.t 4) qp)] none [1,2,5]) (.cond (.t 5) (.seq (.region [qX 6 (.build [zu,zp] []),qS 2 2 6] none [2]) .ret) .skip)) (.seq (.region [qF 7 1 1,qL 8 1 7,qN 9 8,qF 10 0 9,qT 11 2 10,qS 2 2 11] none [2]) .ret))),[(2,some (2,true))],false⟩
def ir68:IRF:=⟨[0,1],(.seq (.region [qX 2 (.box false (.t 0)),qX 4 (.alloc false [zu,zp])] none [1,2,4]) (.seq (.region [qF 5 0 2,qL 6 1 5,qM 7 1,qB 8 .add (.t 6) (.t 7),qF 9 0 2,qS 1 9 8] none [2,4]) (.seq (.region [qT 10 2 2,qS 2 4 10] none [4]) .ret))),[(4,some (2,true))],false⟩
def ir69:IRF:=⟨[0],(.seq (.region [qX 1 (.box false (.t 0)),qX 2 (.alloc false [zu,zp])] none [1,2]) (.seq (.seq (.region [qF 3 1 1,qL 4 1 3,qX 5 (.eq false .ptr (.t 4) qp)] none [1,2,5]) (.cond (.t 5) (.seq (.region [qX 6 (.build [zu,zp] []),qS 2 2 6] none [2]) .ret) .skip)) (.seq (.region [qF 7 1 1,qL 8 1 7,qN 9 8,qF 10 2 9,qT 11 2 10,qS 2 2 11] none [2]) .ret))),[(2,some (2,true))],false⟩
def ir83:IRF:=⟨[0,1],(.seq (.region [qV 4 ql] none [0,1]) (.seq (.region [qM 5 0,qM 6 1,qX 7 (.len true (.t 6)),qX 8 (.cvt .u64 (.t 7)),qC 9 116 [(.t 5),(.t 8)],qM 10 1,qX 11 (.app 1 1 (.t 9) (.t 10)),qM 4 11] none [4]) .ret)),[(4,none)],true⟩
def ir84:IRF:=⟨[0],(.seq (.region [qX 1 (.box false (.t 0)),qV 2 ql] none [1]) (.seq (.region [qC 4 117 [],qM 3 4] none [1,3]) (.seq (.region [qM 5 3,qT 6 2 1,qC 7 118 [(.t 5),(.t 6)]] none [3]) (.seq (.region [qM 8 3,qC 9 119 [(.t 8)],qM 2 9] none [2]) .ret)))),[(2,none)],false⟩
def ir85:IRF:=⟨[0,1],(.seq (.region [qX 3 (.box true (.t 1)),qV 4 ql] none [0,3]) (.seq (.region [qM 5 0,qT 6 1 3,qC 7 27 [(.t 6)],qC 8 120 [(.t 5),(.t 7)],qM 4 8] none [4]) .ret)),[(4,none)],false⟩
def ir86:IRF:=⟨[0],(.seq (.region [qX 1 (.box true (.t 0)),qV 2 (qi 0)] none [1]) (.seq (.region [qF 3 0 1,qL 4 1 3,qX 5 (.len false (.t 4)),qM 2 5] none [2]) .ret)),[(2,none)],false⟩
def ir87:IRF:=⟨[0],(.seq (.region [qX 2 (.alloc false [zu,zp])] none [0,2]) (.seq (.seq (.region [qM 6 0,qN 7 6,qF 8 1 7,qL 9 1 8] none [0,2,9]) (.cond (.t 9) (.seq (.region [qX 10 (.build [zu,zp] []),qS 2 2 10] none [2]) .ret) .skip)) (.seq (.seq (.region [qM 11 0,qN 12 11,qF 13 0 12,qL 14 1 13,qB 15 .eql (.t 14) (.c (.p zE0)),qM 16 15,qM 17 0 (qn 16),qN 18 17 (qn 16),qF 19 0 18 (qn 16),qL 20 1 19 (qn 16),qX 21 (.idxStr (.t 20) (qi 0)) (qn 16),qB 22 .neq (.t 21) (.c (.p (.s (.int .u8 40)))) (qn 16),qO 23 16 22] none [0,2,23]) (.cond (.t 23) (.seq (.region [qM 24 0,qC 25 121 [(.t 24)],qX 26 (.build [zu,zp] [(0,1,(.t 25))]),qS 2 2 26] none [2]) .ret) .skip)) (.seq (.region [qM 27 0,qC 28 122 [(.t 27),(.c (.p (.s (.int .u8 40))))]] none [0,2]) (.seq (.region [qM 29 0,qC 30 121 [(.t 29)],qM 3 30] none [0,2,3]) (.seq (.region [qM 31 0,qC 32 122 [(.t 31),(.c (.p (.s (.int .u8 44))))]] none [0,2,3]) (.seq (.seq (.region [qM 33 0,qC 34 87 [(.t 33)],qX 4 (.alloc false [zu,zp]),qS 2 4 34] none [0,2,3,4]) (.tidy [0,2,3] [4])) (.seq (.region [qM 35 0,qC 36 122 [(.t 35),(.c (.p (.s (.int .u8 44))))]] none [0,2,3,4]) (.seq (.seq (.region [qM 37 0,qC 38 87 [(.t 37)],qX 5 (.alloc false [zu,zp]),qS 2 5 38] none [0,2,3,4,5]) (.tidy [0,2,3,4] [5])) (.seq (.region [qM 39 0,qC 40 122 [(.t 39),(.c (.p (.s (.int .u8 41))))]] none [0,2,3,4,5]) (.seq (.seq (.region [qF 41 0 4,qL 42 1 41,qF 43 0 5,qL 44 1 43,qX 45 (.minmax false [(.t 42),(.t 44)]),qB 46 .gtr (.t 45) (qu 0),qM 47 46,qF 48 1 4 (qn 47),qL 49 1 48 (qn 47),qX 50 (.eq false .ptr (.t 49) qp) (qn 47),qM 51 50 (qn 47),qF 52 1 5 (qy 51),qL 53 1 52 (qy 51),qX 54 (.eq false .ptr (.t 53) qp) (qy 51),qA 55 51 54 (qn 47),qM 56 55 (qn 47),qF 57 0 4 (qy 56),qL 58 1 57 (qy 56),qF 59 0 5 (qy 56),qL 60 1 59 (qy 56),qB 61 .eql (.t 58) (.t 60) (qy 56),qA 62 56 61 (qn 47),qO 63 47 62] none [0,2,3,4,5,63]) (.cond (.t 63) (.seq (.region [qM 64 0,qN 65 64,qF 66 1 65,⟨none,(.store 1 (.t 66) qt),none⟩] none [2]) (.seq (.region [qX 67 (.build [zu,zp] []),qS 2 2 67] none [2]) .ret)) .skip)) (.seq (.region [qM 68 3,qT 69 2 4,qT 70 2 5,qX 71 (.build [zu,zp,zu,zp] [(0,2,(.t 69)),(2,2,(.t 70))]),qX 72 (.box true (.t 71)),qX 73 (.build [zu,zp] [(0,1,(.t 68)),(1,1,(.t 72))]),qS 2 2 73] none [2]) .ret)))))))))))),[(2,some (2,true))],false⟩
def ir88:IRF:=⟨[0],(.seq (.region [qX 1 (.box false (.t 0)),qV 2 (qi 0)] none [1]) (.seq (.block 0 (.seq (.region [qT 4 2 1,qC 5 123 [(.t 4)],qB 6 .gtr (.t 5) (qi 16),qM 3 6] none [1,3]) (.cond (.t 3) (.seq (.region [qV 2 (qi 3)] none [2]) .ret) (.seq (.region [qT 8 2 1,qC 9 124 [(.t 8)],qB 10 .gtr (.t 9) (qu 1048576),qM 7 10] none [7]) (.cond (.t 7) (.seq (.region [qV 2 (qi 4)] none [2]) .ret) .skip))))) (.seq (.region [qV 2 (qi 0)] none [2]) .ret))),[(2,none)],false⟩
def ir89_0:IRC:=(.seq (.tidy [0,1,7,8] []) (.seq (.region [qB 9 .lss (.t 8) (.t 7)] none [0,1,7,8,9]) (.seq (.cond (.t 9) .skip (.exit 0)) (.seq (.block 1 (.seq (.region [qM 10 8,qM 5 10] none [0,1,5,7,8]) (.seq (.region [qM 11 1,qM 12 0,qM 13 5,qX 14 (.idxASl 4 (.t 12) (.t 13)),qT 15 4 14,qX 16 (.callv (.t 11) [(.t 15)])] none [0,1,5,7,8,16]) (.cond (.t 16) (.seq (.region [qM 17 5,qM 4 17] none [4]) .ret) .skip)))) (.region [qB 18 .add (.t 8) (qi 1),qM 8 18] none [0,1,7,8])))))
def ir89:IRF:=⟨[0,1],(.seq (.region [qV 4 (qi 0)] none [0,1]) (.seq (.seq (.region [qM 6 0,qX 7 (.len false (.t 6)),qV 8 (qi 0)] none [0,1,7,8]) (.block 0 (.loop ir89_0))) (.seq (.region [qV 4 (.c (.p (.s (.int .i64 (-1)))))] none [4]) .ret))),[(4,none)],false⟩
def ir90:IRF:=⟨[0,1],(.seq (.region [qV 4 (qi 0)] none [0,1]) (.seq (.region [qM 5 0,qM 6 1,qX 7 (.cmpB (.t 5) (.t 6)),qM 4 7] none [4]) .ret)),[(4,none)],false⟩
def ir93:IRF:=⟨[0],(.seq (.region [qX 1 (.box true (.t 0)),qV 2 (qi 0)] none [1]) (.seq (.seq (.region [qF 5 0 1,qL 6 1 5,qB 7 .lss (.t 6) (qi 1),qM 8 7,qF 9 0 1 (qn 8),qL 10 1 9 (qn 8),qB 11 .gtr (.t 10) (qi 6) (qn 8),qO 12 8 11] none [1,12]) (.seq (.cond (.t 12) (.seq (.region [qV 2 (qi 1)] none [2]) .ret) .skip) (qR [1]))) (.seq (.seq (.region [qF 13 1 1,qL 14 1 13,qC 15 127 [(.t 14),(qi 12)],qM 3 15] none [1,3]) (.seq (.region [qM 16 3,qB 17 .neq (.t 16) (qi 0)] none [1,3,17]) (.seq (.cond (.t 17) (.seq (.region [qM 18 3,qM 2 18] none [2]) .ret) .skip) (qR [1])))) (.seq (.seq (.region [qF 19 2 1,qL 20 1 19,qC 21 127 [(.t 20),(qi 40)],qM 4 21] none [1,4]) (.seq (.region [qM 22 4,qB 23 .neq (.t 22) (qi 0)] none [1,4,23]) (.seq (.cond (.t 23) (.seq (.region [qM 24 4,qM 2 24] none [2]) .ret) .skip) (qR [1])))) (.seq (.seq (.regq true [qF 25 2 1,qL 26 1 25,qB 27 .eql (.t 26) (.c (.p zE0)),qM 28 27,qF 29 2 1 (qn 28),qL 30 1 29 (qn 28),qC 31 128 [(.t 30)] (qn 28),qF 32 2 1 (qn 28),qL 33 1 32 (qn 28),qB 34 .neq (.t 31) (.t 33) (qn 28),qO 35 28 34,qM 36 35,qF 37 0 1 (qn 36),qL 38 1 37 (qn 36),qB 39 .eql (.t 38) (qi 2) (qn 36),qM 40 39 (qn 36),qF 41 2 1 (qy 40),qL 42 1 41 (qy 40),qC 43 129 [(.t 42)] (qy 40),qX 44 (.un .not (.t 43)) (qy 40),qA 45 40 44 (qn 36),qO 46 36 45,qM 47 46,qF 48 0 1 (qn 47),qL 49 1 48 (qn 47),qB 50 .eql (.t 49) (qi 3) (qn 47),qM 51 50 (qn 47),qF 52 2 1 (qy 51),qL 53 1 52 (qy 51),qC 54 130 [(.t 53)] (qy 51),qX 55 (.un .not (.t 54)) (qy 51),qA 56 51 55 (qn 47),qO 57 47 56] [57]) (.seq (.cond (.t 57) (.seq (.region [qV 2 (qi 7)] none [2]) .ret) .skip) (qR []))) (.seq (.region [qV 2 (qi 0)] none [2]) .ret)))))),[(2,none)],false⟩
def ir94:IRF:=⟨[0],(.seq (.region [qX 1 (.box true (.t 0)),qV 2 (qi 0)] none [1]) (.seq (.seq (.region [qF 5 0 1,qL 6 1 5,qC 7 131 [(.t 6)],qB 8 .eql (.t 7) (.c (.p zE0))] none [1,8]) (.seq (.cond (.t 8) (.seq (.region [qV 2 (qi 1)] none [2]) .ret) .skip) (qR [1]))) (.seq (.seq (.region [qF 9 1 1,qL 10 1 9,qC 11 132 [(.t 10),(qi 12)],qM 3 11] none [1,3]) (.seq (.region [qM 12 3,qB 13 .neq (.t 12) (qi 0)] none [1,3,13]) (.seq (.cond (.t 13) (.seq (.region [qM 14 3,qM 2 14] none [2]) .ret) .skip) (qR [1])))) (.seq (.seq (.region [qF 15 2 1,qL 16 1 15,qC 17 132 [(.t 16),(qi 40)],qM 4 17] none [1,4]) (.seq (.region [qM 18 4,qB 19 .neq (.t 18) (qi 0)] none [1,4,19]) (.seq (.cond (.t 19) (.seq (.region [qM 20 4,qM 2 20] none [2]) .ret) .skip) (qR [1])))) (.seq (.block 0 (.seq (.seq (.region [qF 22 2 1,qL 23 1 22,qB 24 .eql (.t 23) (.c (.p zE0)),qM 21 24] none [1,21]) (.seq (.cond (.t 21) .skip (.seq (.regq true [qF 25 2 1,qL 26 1 25,qC 27 133 [(.t 26)],qF 28 2 1,qL 29 1 28,qB 30 .neq (.t 27) (.t 29),qM 21 30] [1,21]) (.seq (.cond (.t 21) .skip (.seq (.region [qF 31 0 1,qL 32 1 31,qB 33 .eql (.t 32) (qi 2),qM 34 33,qF 35 2 1 (qy 34),qL 36 1 35 (qy 34),qC 37 134 [(.t 36)] (qy 34),qX 38 (.un .not (.t 37)) (qy 34),qA 39 34 38,qM 21 39] none [1,21]) (.seq (.cond (.t 21) .skip (.region [qF 40 0 1,qL 41 1 40,qB 42 .eql (.t 41) (qi 3),qM 43 42,qF 44 2 1 (qy 43),qL 45 1 44 (qy 43),qC 46 135 [(.t 45)] (qy 43),qX 47 (.un .not (.t 46)) (qy 43),qA 48 43 47,qM 21 48] none [21])) (qR [21])))) (qR [21])))) (qR [21]))) (.seq (.cond (.t 21) (.seq (.region [qV 2 (qi 7)] none [2]) .ret) .skip) (qR [])))) (.seq (.region [qV 2 (qi 0)] none [2]) .ret)))))),[(2,none)],false⟩
def ir95:IRF:=⟨[0],(.seq (.region [qX 2 (.alloc false [zs])] none [0,2]) (.seq (.region [qM 3 0,qC 4 65 [(.t 3)],qM 0 4] none [0,2]) (.seq (.region [qM 5 0,qC 6 136 [(.t 5),(.c (.fn 137 [] []))]] none [0,2]) (.seq (.region [qM 7 0,qC 8 138 [(.t 7)],qX 9 (.build [zs] [(0,1,(.t 8))]),qS 1 2 9] none [2]) .ret)))),[(2,some (1,true))],false⟩
def ir96:IRF:=⟨[0],(.seq (.region [qV 2 (qu 0)] none [0]) (.seq (.seq (.region [qM 5 0,qN 6 5,qF 7 1 6,qL 8 1 7,qX 9 (.eq false .ptr (.t 8) qp)] none [0,9]) (.cond (.t 9) (.seq (.region [qM 10 0,qN 11 10,qF 12 0 11,qL 13 1 12,qM 2 13] none [2]) .ret) .skip)) (.seq (.region [qM 14 0,qN 15 14,qF 16 1 15,qL 17 1 16,qC 18 96 [(.t 17)],qM 19 0,qN 20 19,qF 21 2 20,qL 22 1 21,qC 23 96 [(.t 22)],qM 3 18,qM 4 23] (some [0,1,3,7,15,0,32,96,224,511,1023,2047]) [0,3,4]) (.seq (.seq (.region [qM 24 3,qM 25 4,qB 26 .lss (.t 24) (.t 25)] none [0,3,4,26]) (.cond (.t 26) (.seq (.region [qM 27 0,qN 28 27,qF 29 0 28,qL 30 1 29,qM 31 3,qB 32 .add (.t 30) (.t 31),qM 2 32] none [2]) .ret) .skip)) (.seq (.region [qM 33 0,qN 34 33,qF 35 0 34,qL 36 1 35,qM 37 4,qB 38 .add (.t 36) (.t 37),qM 2 38] none [2]) .ret))))),[(2,none)],false⟩
def ir97:IRF:=⟨[0,1],(.seq (.region [qV 4 qp] none [0,1]) (.seq (.region [qM 5 0,qN 6 5,qF 7 0 6,qL 8 1 7,qM 9 1,qB 10 .add (.t 8) (.t 9),qM 11 0,qN 12 11,qF 13 1 12,qL 14 1 13,qM 15 0,qN 16 15,qF 17 2 16,qL 18 1 17,qX 19 (.build [zu,zp,zp] [(0,1,(.t 10)),(1,1,(.t 14)),(2,1,(.t 18))]),qX 20 (.box true (.t 19)),qM 4 20] (some [0,1,3,7,0,31,0,64,192,448,0,1024,3072,7168,16383,32767,65535]) [4]) .ret)),[(4,none)],false⟩
def ir98:IRF:=⟨[0],(.seq (.region [qV 2 ql] none [0]) (.seq (.seq (.region [qM 3 0,qB 4 .lss (.t 3) (qu 128)] none [0,4]) (.cond (.t 4) (.seq (.region [qM 5 0,qX 6 (.cvt .u8 (.t 5)),qX 7 (.mkSl false 1 1 [(.s (.int .u8 0))] [(0,1,(.t 6))]),qM 2 7] none [2]) .ret) .skip)) (.seq (.region [qM 8 0,qB 9 .rem (.t 8) (qu 128),qB 10 .add (.t 9) (qu 128),qX 11 (.cvt .u8 (.t 10)),qX 12 (.mkSl false 1 1 [(.s (.int .u8 0))] [(0,1,(.t 11))]),qM 13 0,qB 14 .quo (.t 13) (qu 128),qC 15 98 [(.t 14)],qX 16 (.app 1 1 (.t 12) (.t 15)),qM 2 16] none [2]) .ret))),[(2,none)],true⟩
def ir99_0:IRC:=(.seq (.seq (.region [qM 6 5,qB 7 .lss (.t 6) (qi 64),qM 8 7,qM 9 1 (qy 8),qM 10 5 (qy 8),qC 11 139 [(.t 10)] (qy 8),qB 12 .geq (.t 9) (.t 11) (qy 8),qA 13 8 12] none [0,1,5,13]) (.cond (.t 13) .skip (.exit 0))) (.block 1 (.seq (.region [qM 14 0,qC 15 100 [(.t 14),(qu 1),(qi 1)],qM 0 15] none [0,1,5]) (.seq (.region [qM 16 1,qM 17 5,qC 18 139 [(.t 17)],qB 19 .sub (.t 16) (.t 18),qM 1 19] none [0,1,5]) (.region [qM 20 5,qB 21 .add (.t 20) (qi 1),qM 5 21] none [0,1,5])))))
def ir99:IRF:=⟨[0,1],(.seq (.region [qV 4 ql] none [0,1]) (.seq (.region [qV 5 (qi 2)] none [0,1,5]) (.seq (.block 0 (.loop ir99_0)) (.seq (.region [qM 22 0,qC 23 100 [(.t 22),(qu 0),(qi 1)],qM 24 1,qM 25 5,qC 26 100 [(.t 23),(.t 24),(.t 25)],qM 4 26] none [4]) .ret)))),[(4,none)],false⟩
def ir100_0:IRC:=(.seq (.seq (.region [qM 9 8,qM 10 2,qC 11 140 [(.t 10)],qB 12 .lss (.t 9) (.t 11)] none [0,1,2,7,8,12]) (.cond (.t 12) .skip (.exit 0))) (.seq (.block 1 (.seq (.region [qM 15 1,qB 16 .rem (.t 15) (qu 2),qB 17 .eql (.t 16) (qu 1),qX 18 (.mkSl false 1 1 [zf] [(0,1,(.t 17))]),qM 19 7,qX 20 (.app 1 1 (.t 18) (.t 19)),qM 7 20] none [0,1,2,7,8]) (.region [qM 21 1,qB 22 .quo (.t 21) (qu 2),qM 1 22] none [0,1,2,7,8]))) (.region [qM 13 8,qB 14 .add (.t 13) (qi 1),qM 8 14] none [0,1,2,7,8])))
def ir100:IRF:=⟨[0,1,2],(.seq (.region [qV 6 ql] none [0,1,2]) (.seq (.region [qV 7 ql] none [0,1,2,7]) (.seq (.seq (.region [qV 8 (qi 0)] none [0,1,2,7,8]) (.block 0 (.loop ir100_0))) (.seq (.region [qX 23 (.mkSl false 0 1 [] []),qM 24 0,qX 25 (.app 1 1 (.t 23) (.t 24)),qM 26 7,qX 27 (.app 1 1 (.t 25) (.t 26)),qM 6 27] none [6]) .ret)))),[(6,none)],false⟩
def ir101:IRF:=⟨[0],(.seq (.region [qV 2 qf] none [0]) (.seq (.region [qM 3 0,qN 4 3,qF 5 1 4,qL 6 1 5,qX 7 (.eq false .ptr (.t 6) qp),qM 8 7,qM 9 0 (qy 8),qN 10 9 (qy 8),qF 11 0 10 (qy 8),qL 12 1 11 (qy 8),qB 13 .eql (.t 12) (qu 0) (qy 8),qA 14 8 13,qM 2 14] none [2]) .ret)),[(2,none)],false⟩
def ir102:IRF:=⟨[0],(.seq (.region [qV 2 ql] none [0]) (.seq (.seq (.region [qM 3 0,qX 4 (.eq false .slice (.t 3) ql)] none [0,4]) (.seq (.cond (.t 4) (.seq (.region [qV 2 ql] none [2]) .ret) .skip) (qR [0]))) (.seq (.region [qX 5 (.mkSl false 0 1 [] []),qM 6 0,qX 7 (.app 1 1 (.t 5) (.t 6)),qM 2 7] none [2]) .ret))),[(2,none)],false⟩
def ir116_0:IRC:=(.seq (.seq (.region [qM 11 1,qB 12 .geq (.t 11) (qu 128)] none [0,1,12]) (.cond (.t 12) .skip (.exit 0))) (.seq (.block 1 (.region [qM 15 0,qM 16 1,qX 17 (.cvt .u8 (.t 16)),qB 18 .or (.t 17) (.c (.p (.s (.int .u8 128)))),qX 19 (.mkSl false 1 1 [(.s (.int .u8 0))] [(0,1,(.t 18))]),qX 20 (.app 1 1 (.t 15) (.t 19)),qM 0 20] none [0,1])) (.region [qM 13 1,qB 14 .shr (.t 13) (qu 7),qM 1 14] none [0,1])))
def ir116:IRF:=⟨[0,1],(.seq (.region [qV 4 ql] none [0,1]) (.seq (.region [qM 5 0,qM 6 0,qX 7 (.len false (.t 6)),qM 8 0,qX 9 (.len false (.t 8)),qX 10 (.slSl 1 (.t 5) none (some (.t 7)) (some (.t 9))),qM 0 10] none [0,1]) (.seq (.block 0 (.loop ir116_0)) (.seq (.region [qM 21 0,qM 22 1,qX 23 (.cvt .u8 (.t 22)),qX 24 (.mkSl false 1 1 [(.s (.int .u8 0))] [(0,1,(.t 23))]),qX 25 (.app 1 1 (.t 21) (.t 24)),qM 4 25] none [4]) .ret)))),[(4,none)],true⟩
def ir117:IRF:=⟨[],(.seq (.region [qV 0 qp] none []) (.seq (.region [qX 1 (.build [zs,zi] []),qX 2 (.box false (.t 1)),qM 0 2] none [0]) .ret)),[(0,none)],true⟩
def ir118_0:IRC:=(.seq (.region [qB 78 .lss (.t 77) (.t 76)] none [0,75,76,77,78]) (.seq (.cond (.t 78) .skip (.exit 1)) (.seq (.block 2 (.seq (.region [qX 79 (.idxASl 2 (.t 75) (.t 77)),qT 80 2 79,qX 7 (.alloc false [zu,zp]),qS 2 7 80] none [0,7,75,76,77]) (.seq (.region [qT 81 2 7,qC 82 151 [(.t 81)],qX 83 (.un .not (.t 82))] none [0,7,75,76,77,83]) (.cond (.t 83) (.region [qM 84 0,qT 85 2 7,qC 86 118 [(.t 84),(.t 85)]] none [0,75,76,77]) .skip)))) (.region [qB 87 .add (.t 77) (qi 1),qM 77 87] none [0,75,76,77]))))
def ir118:IRF:=⟨[0,1],(.seq (.region [qX 3 (.box false (.t 1))] none [0,3]) (.seq (.region [qT 8 2 3,qC 9 67 [(.t 8)],qT 10 2 3,qC 11 69 [(.t 10)],qX 4 (.alloc false [zu,zp]),qX 5 (.alloc false [zu,zp]),qS 2 4 9,qS 2 5 11] (some [0,1,0,7,0,0,63,127]) [0,3,4,5]) (.seq (.seq (.region [qT 12 2 3,qC 13 147 [(.t 12)]] none [0,3,4,5,13]) (.cond (.t 13) (.seq (.region [qM 14 0,qC 15 148 [(.t 14),(qu 1),(qi 1)]] none [0,3]) (.seq (.region [qM 16 0,qT 17 2 3,qC 18 150 [(.t 17)],qC 19 149 [(.t 16),(.t 18)]] none []) .ret)) .skip)) (.seq (.region [qM 20 0,qC 21 148 [(.t 20),(qu 0),(qi 1)]] none [0,3,4,5]) (.seq (.block 0 (.seq (.region [qT 27 2 3,qC 28 150 [(.t 27)],qB 29 .eql (.t 28) (qu 0),qM 30 29,qT 31 2 4 (qy 30),qC 32 151 [(.t 31)] (qy 30),qA 33 30 32,qM 26 33] none [0,3,4,5,26]) (.cond (.t 26) (.region [qM 34 0,qC 35 148 [(.t 34),(qu 0),(qi 2)]] none [0,3,4,5]) (.seq (.region [qT 37 2 3,qC 38 150 [(.t 37)],qB 39 .eql (.t 38) (qu 0),qM 40 39,qT 41 2 5 (qy 40),qC 42 151 [(.t 41)] (qy 40),qA 43 40 42,qM 36 43] none [0,3,4,5,36]) (.cond (.t 36) (.region [qM 44 0,qC 45 148 [(.t 44),(qu 1),(qi 2)]] none [0,3,4,5]) (.seq (.region [qT 47 2 3,qC 48 150 [(.t 47)],qB 49 .eql (.t 48) (qu 0),qM 46 49] none [0,3,4,5,46]) (.cond (.t 46) (.region [qM 50 0,qC 51 148 [(.t 50),(qu 2),(qi 2)]] none [0,3,4,5]) (.seq (.region [qT 53 2 4,qC 54 151 [(.t 53)],qM 52 54] none [0,3,4,5,52]) (.cond (.t 52) (.seq (.region [qM 55 0,qC 56 148 [(.t 55),(qu 3),(qi 2)]] none [0,3,4,5]) (.region [qM 57 0,qC 58 148 [(.t 57),(qu 0),(qi 2)]] none [0,3,4,5])) (.seq (.region [qT 60 2 5,qC 61 151 [(.t 60)],qM 59 61] none [0,3,4,5,59]) (.cond (.t 59) (.seq (.region [qM 62 0,qC 63 148 [(.t 62),(qu 3),(qi 2)]] none [0,3,4,5]) (.region [qM 64 0,qC 65 148 [(.t 64),(qu 1),(qi 2)]] none [0,3,4,5])) (.seq (.region [qM 22 0,qC 23 148 [(.t 22),(qu 3),(qi 2)]] none [0,3,4,5]) (.region [qM 24 0,qC 25 148 [(.t 24),(qu 1),(qi 1)]] none [0,3,4,5]))))))))))))) (.seq (.seq (.region [qT 66 2 3,qC 67 150 [(.t 66)],qB 68 .gtr (.t 67) (qu 0)] none [0,3,4,5,68]) (.cond (.t 68) (.region [qM 69 0,qT 70 2 3,qC 71 150 [(.t 70)],qC 72 149 [(.t 69),(.t 71)]] none [0,4,5]) .skip)) (.seq (.region [qT 73 2 4,qT 74 2 5,qX 75 (.mkSl false 2 2 [zu,zp,zu,zp] [(0,2,(.t 73)),(2,2,(.t 74))]),qX 76 (.len false (.t 75)),qV 77 (qi 0)] none [0,75,76,77]) (.block 1 (.loop ir118_0))))))))),[],false⟩
def ir119:IRF:=⟨[0],(.seq (.region [qV 2 ql] none [0]) (.seq (.seq (.region [qM 3 0,qX 4 (.eq false .ptr (.t 3) qp)] none [0,4]) (.cond (.t 4) (.seq (.region [qV 2 ql] none [2]) .ret) .skip)) (.seq (.region [qM 5 0,qN 6 5,qF 7 0 6,qL 8 1 7,qC 9 102 [(.t 8)],qM 2 9] none [2]) .ret))),[(2,none)],false⟩
def ir120_0:IRC:=(.seq (.tidy [0,12,13,14] []) (.seq (.region [qB 15 .lss (.t 14) (.t 13)] none [0,12,13,14,15]) (.seq (.cond (.t 15) .skip (.exit 0)) (.seq (.block 1 (.seq (.seq (.region [qX 16 (.idxASl 3 (.t 12) (.t 14)),qT 17 3 16,qX 6 (.alloc false [zi,zE0,zE0]),qS 3 6 17] none [0,6,12,13,14]) (.tidy [0,12,13,14] [6])) (.region [qM 18 0,qF 19 0 6,qL 20 1 19,qX 21 (.cvt .u8 (.t 20)),qX 22 (.mkSl true 1 1 [(.s (.int .u8 0))] [(0,1,(.t 21))]),qX 23 (.app 1 1 (.t 18) (.t 22)),qF 24 1 6,qL 25 1 24,qC 26 83 [(.t 23),(.t 25)],qF 27 2 6,qL 28 1 27,qC 29 83 [(.t 26),(.t 28)],qM 0 29] (some [0,0,2,6,14,31,0,64,255,0,512,2047,4095]) [0,12,13,14]))) (.region [qB 30 .add (.t 14) (qi 1),qM 14 30] none [0,12,13,14])))))
def ir120:IRF:=⟨[0,1],(.seq (.region [qV 4 ql] none [0,1]) (.seq (.region [qM 7 0,qM 8 1,qX 9 (.len false (.t 8)),qX 10 (.cvt .u64 (.t 9)),qC 11 116 [(.t 7),(.t 10)],qM 0 11] none [0,1]) (.seq (.seq (.region [qM 12 1,qX 13 (.len false (.t 12)),qV 14 (qi 0)] none [0,12,13,14]) (.seq (.block 0 (.loop ir120_0)) (.tidy [] [0]))) (.seq (.region [qM 31 0,qM 4 31] none [4]) .ret)))),[(4,none)],false⟩
def ir121_0:IRC:=(.seq (.tidy [0,3] []) (.seq (.seq (.region [qM 6 3,qM 7 0,qN 8 7,qF 9 0 8,qL 10 1 9,qX 11 (.len true (.t 10)),qB 12 .lss (.t 6) (.t 11),qM 13 12,qM 14 3 (qy 13),qB 15 .lss (.t 14) (qi 19) (qy 13),qA 16 13 15,qM 17 16,qM 18 0 (qy 17),qN 19 18 (qy 17),qF 20 0 19 (qy 17),qL 21 1 20 (qy 17),qM 22 3 (qy 17),qX 23 (.idxStr (.t 21) (.t 22)) (qy 17),qB 24 .geq (.t 23) (.c (.p (.s (.int .u8 48)))) (qy 17),qA 25 17 24,qM 26 25,qM 27 0 (qy 26),qN 28 27 (qy 26),qF 29 0 28 (qy 26),qL 30 1 29 (qy 26),qM 31 3 (qy 26),qX 32 (.idxStr (.t 30) (.t 31)) (qy 26),qB 33 .leq (.t 32) (.c (.p (.s (.int .u8 57)))) (qy 26),qA 34 26 33] none [0,3,34]) (.cond (.t 34) .skip (.exit 0))) (.block 1 (.region [qM 35 3,qB 36 .add (.t 35) (qi 1),qM 3 36] none [0,3]))))
def ir121:IRF:=⟨[0],(.seq (.region [qV 2 (qu 0)] none [0]) (.seq (.region [qV 3 (qi 0)] none [0,3]) (.seq (.block 0 (.loop ir121_0)) (.seq (.region [qM 38 0,qN 39 38,qF 40 0 39,qL 41 1 40,qM 42 3,qX 43 (.slStr (.t 41) none (some (.t 42))),qC 44 152 [(.t 43),(qi 10),(qi 64)],qM 37 44,qE 45 37 0,qE 46 37 1,qM 4 45,qM 5 46] none [0,3,4,5]) (.seq (.seq (.region [qM 47 5,qX 48 (.eq true .iface (.t 47) (.c (.p (.s .nilIface)))),qM 49 48,qM 50 4 (qn 49),qC 51 153 [(.t 50),(qi 10)] (qn 49),qM 52 0 (qn 49),qN 53 52 (qn 49),qF 54 0 53 (qn 49),qL 55 1 54 (qn 49),qM 56 3 (qn 49),qX 57 (.slStr (.t 55) none (some (.t 56))) (qn 49),qB 58 .neq (.t 51) (.t 57) (qn 49),qO 59 49 58] (some [0,1,3,7,15,7,39,103,231,7,999,2047,4095]) [0,3,4,59]) (.cond (.t 59) (.seq (.region [qM 60 0,qN 61 60,qF 62 1 61,⟨none,(.store 1 (.t 62) qt),none⟩] none []) (.seq (.region [qV 2 (qu 0)] none [2]) .ret)) .skip)) (.seq (.region [qM 63 0,qM 64 0,qN 65 64,qF 66 0 65,qL 67 1 66,qM 68 3,qX 69 (.slStr (.t 67) (some (.t 68)) none),qN 70 63,qF 71 0 70,qS 1 71 69] none [0,4]) (.seq (.seq (.region [qM 72 4,qB 73 .gtr (.t 72) (qu 1048576)] none [0,4,73]) (.cond (.t 73) (.seq (.region [qM 74 0,qN 75 74,qF 76 2 75,⟨none,(.store 1 (.t 76) qt),none⟩] none []) (.seq (.region [qV 2 (qu 1048576)] none [2]) .ret)) .skip)) (.seq (.region [qM 77 4,qM 2 77] none [2]) .ret)))))))),[(2,none)],false⟩
def ir122:IRF:=⟨[0,1],(.seq (.seq (.region [qM 4 0,qN 5 4,qF 6 0 5,qL 7 1 6,qB 8 .eql (.t 7) (.c (.p zE0)),qM 9 8,qM 10 0 (qn 9),qN 11 10 (qn 9),qF 12 0 11 (qn 9),qL 13 1 12 (qn 9),qX 14 (.idxStr (.t 13) (qi 0)) (qn 9),qM 15 1 (qn 9),qB 16 .neq (.t 14) (.t 15) (qn 9),qO 17 9 16] none [0,17]) (.cond (.t 17) (.seq (.region [qM 18 0,qN 19 18,qF 20 1 19,⟨none,(.store 1 (.t 20) qt),none⟩] none []) .ret) .skip)) (.region [qM 21 0,qM 22 0,qN 23 22,qF 24 0 23,qL 25 1 24,qX 26 (.slStr (.t 25) (some (qi 1)) none),qN 27 21,qF 28 0 27,qS 1 28 26] none [])),[],false⟩
def ir123:IRF:=⟨[0],(.seq (.region [qX 1 (.box false (.t 0)),qV 2 (qi 0)] none [1]) (.seq (.seq (.region [qF 3 1 1,qL 4 1 3,qX 5 (.eq false .ptr (.t 4) qp)] none [1,5]) (.cond (.t 5) (.seq (.region [qV 2 (qi 0)] none [2]) .ret) .skip)) (.seq (.region [qF 6 1 1,qL 7 1 6,qN 8 7,qF 9 0 8,qT 10 2 9,qC 11 123 [(.t 10)],qF 12 1 1,qL 13 1 12,qN 14 13,qF 15 2 14,qT 16 2 15,qC 17 123 [(.t 16)],qX 18 (.minmax true [(.t 11),(.t 17)]),qB 19 .add (qi 1) (.t 18),qM 2 19] (some [0,1,3,7,15,31,0,64,192,448,960,2047,4095,8191,16383]) [2]) .ret))),[(2,none)],false⟩
def ir124:IRF:=⟨[0],(.seq (.region [qX 1 (.box false (.t 0)),qV 2 (qu 0)] none [1]) (.seq (.seq (.region [qF 3 1 1,qL 4 1 3,qX 5 (.eq false .ptr (.t 4) qp)] none [1,5]) (.cond (.t 5) (.seq (.region [qF 6 0 1,qL 7 1 6,qM 2 7] none [2]) .ret) .skip)) (.seq (.region [qF 8 0 1,qL 9 1 8,qF 10 1 1,qL 11 1 10,qN 12 11,qF 13 0 12,qT 14 2 13,qC 15 124 [(.t 14)],qF 16 1 1,qL 17 1 16,qN 18 17,qF 19 2 18,qT 20 2 19,qC 21 124 [(.t 20)],qX 22 (.minmax true [(.t 15),(.t 21)]),qB 23 .add (.t 9) (.t 22),qM 2 23] (some [0,1,0,4,12,28,60,124,0,256,768,1792,3840,8188,16380,32767,65535]) [2]) .ret))),[(2,none)],false⟩
def ir127_0:IRC:=(.seq (.tidy [0,5] []) (.seq (.seq (.region [qM 13 5,qM 14 0,qX 15 (.len true (.t 14)),qB 16 .lss (.t 13) (.t 15)] none [0,5,16]) (.seq (.cond (.t 16) .skip (.seq (qR []) (.exit 0))) (qR [0,5]))) (.block 1 (.seq (.region [qM 18 0,qM 19 5,qC 20 155 [(.t 18),(.t 19)],qM 17 20,qE 21 17 0,qE 22 17 1,qE 23 17 2,qM 6 21,qM 7 22,qM 8 23] none [0,5,6,7,8]) (.seq (.seq (.region [qM 24 8,qX 25 (.un .not (.t 24)),qM 26 25,qM 27 6 (qn 26),qB 28 .lss (.t 27) (qi 32) (qn 26),qO 29 26 28,qM 30 29,qM 31 6 (qn 30),qB 32 .eql (.t 31) (qi 127) (qn 30),qO 33 30 32] none [0,5,7,33]) (.seq (.cond (.t 33) (.seq (.region [qV 4 (qi 7)] none [4]) .ret) .skip) (qR [0,5,7]))) (.region [qM 34 5,qM 35 7,qB 36 .add (.t 34) (.t 35),qM 5 36] none [0,5]))))))
def ir127:IRF:=⟨[0,1],(.seq (.region [qV 4 (qi 0)] none [0,1]) (.seq (.seq (.region [qM 9 0,qX 10 (.len true (.t 9)),qM 11 1,qB 12 .gtr (.t 10) (.t 11)] none [0,12]) (.seq (.cond (.t 12) (.seq (.region [qV 4 (qi 9)] none [4]) .ret) .skip) (qR [0]))) (.seq (.seq (.region [qV 5 (qi 0)] none [0,5]) (.block 0 (.loop ir127_0))) (.seq (.region [qV 4 (qi 0)] none [4]) .ret)))),[(4,none)],false⟩
def ir128_0:IRC:=(.seq (.tidy [0,3] []) (.seq (.seq (.region [qM 30 3,qB 31 .add (.t 30) (qi 1),qM 32 0,qX 33 (.len true (.t 32)),qB 34 .lss (.t 31) (.t 33)] none [0,3,34]) (.seq (.cond (.t 34) .skip (.seq (qR [0]) (.exit 4))) (qR [0,3]))) (.seq (.block 5 (.seq (.region [qM 37 0,qM 38 3,qX 39 (.idxStr (.t 37) (.t 38)),qB 40 .eql (.t 39) (.c (.p (.s (.int .u8 32)))),qM 41 40,qM 42 0 (qy 41),qM 43 3 (qy 41),qB 44 .add (.t 43) (qi 1) (qy 41),qX 45 (.idxStr (.t 42) (.t 44)) (qy 41),qB 46 .eql (.t 45) (.c (.p (.s (.int .u8 32)))) (qy 41),qA 47 41 46] none [0,3,47]) (.seq (.cond (.t 47) (.seq (.regq true [qM 48 0,qM 49 3,qX 50 (.slStr (.t 48) none (some (.t 49))),qM 51 0,qM 52 3,qB 53 .add (.t 52) (qi 1),qX 54 (.slStr (.t 51) (some (.t 53)) none),qB 55 .add (.t 50) (.t 54),qC 56 128 [(.t 55)],qM 2 56] [2]) .ret) .skip) (qR [0,3])))) (.region [qM 35 3,qB 36 .add (.t 35) (qi 1),qM 3 36] none [0,3]))))
def ir128_1:IRC:=(.seq (.tidy [0] []) (.seq (.seq (.region [qM 14 0,qX 15 (.len true (.t 14)),qB 16 .gtr (.t 15) (qi 0),qM 17 16,qM 18 0 (qy 17),qM 19 0 (qy 17),qX 20 (.len true (.t 19)) (qy 17),qB 21 .sub (.t 20) (qi 1) (qy 17),qX 22 (.idxStr (.t 18) (.t 21)) (qy 17),qB 23 .eql (.t 22) (.c (.p (.s (.int .u8 32)))) (qy 17),qA 24 17 23] none [0,24]) (.seq (.cond (.t 24) .skip (.seq (qR [0]) (.exit 2))) (qR [0]))) (.block 3 (.region [qM 25 0,qM 26 0,qX 27 (.len true (.t 26)),qB 28 .sub (.t 27) (qi 1),qX 29 (.slStr (.t 25) none (some (.t 28))),qM 0 29] none [0]))))
def ir128_2:IRC:=(.seq (.tidy [0] []) (.seq (.seq (.region [qM 4 0,qX 5 (.len true (.t 4)),qB 6 .gtr (.t 5) (qi 0),qM 7 6,qM 8 0 (qy 7),qX 9 (.idxStr (.t 8) (qi 0)) (qy 7),qB 10 .eql (.t 9) (.c (.p (.s (.int .u8 32)))) (qy 7),qA 11 7 10] none [0,11]) (.seq (.cond (.t 11) .skip (.seq (qR [0]) (.exit 0))) (qR [0]))) (.block 1 (.region [qM 12 0,qX 13 (.slStr (.t 12) (some (qi 1)) none),qM 0 13] none [0]))))
def ir128:IRF:=⟨[0],(.seq (.region [qV 2 (.c (.p zE0))] none [0]) (.seq (.block 0 (.loop ir128_2)) (.seq (.block 2 (.loop ir128_1)) (.seq (.seq (.region [qV 3 (qi 0)] none [0,3]) (.block 4 (.loop ir128_0))) (.seq (.region [qM 57 0,qM 2 57] none [2]) .ret))))),[(2,none)],false⟩
def ir131:IRF:=⟨[0],(.seq (.region [qV 2 (.c (.p zE0))] none [0]) (.seq (.seq (.region [qX 4 (.build [zE0,zE0,zE0,zE0,zE0,zE0,zE0] [(1,1,(.c (.p (.s (.string ⟨#[110,97,109,101]⟩))))),(2,1,(.c (.p (.s (.string ⟨#[112,104,111,110,101]⟩))))),(3,1,(.c (.p (.s (.string ⟨#[109,97,105,108]⟩))))),(4,1,(.c (.p (.s (.string ⟨#[97,100,100,114,101,115,115]⟩))))),(5,1,(.c (.p (.s (.string ⟨#[110,111,116,101]⟩))))),(6,1,(.c (.p (.s (.string ⟨#[103,114,111,117,112]⟩)))))]),qX 3 (.alloc false [zE0,zE0,zE0,zE0,zE0,zE0,zE0]),qS 7 3 4] none [0,3]) (.tidy [0] [3])) (.seq (.seq (.region [qM 5 0,qB 6 .lss (.t 5) (qi 0),qM 7 6,qM 8 0 (qn 7),qB 9 .geq (.t 8) (qi 7) (qn 7),qO 10 7 9] none [0,3,10]) (.seq (.cond (.t 10) (.seq (.region [qV 2 (.c (.p zE0))] none [2]) .ret) .skip) (qR [0,3]))) (.seq (.region [qM 11 0,qX 12 (.idxAArr 7 1 (.t 3) (.t 11)),qL 13 1 12,qM 2 13] none [2]) .ret)))),[(2,none)],false⟩
def ir132:IRF:=⟨[0,1],(.seq (.region [qV 4 (qi 0)] none [0,1]) (.seq (.seq (.region [qM 5 0,qX 6 (.len true (.t 5)),qM 7 1,qB 8 .gtr (.t 6) (.t 7)] none [0,8]) (.seq (.cond (.t 8) (.seq (.region [qV 4 (qi 9)] none [4]) .ret) .skip) (qR [0]))) (.seq (.seq (.region [qM 9 0,qC 10 156 [(.t 9)],qX 11 (.un .not (.t 10)),qM 12 11,qM 13 0 (qn 12),qC 14 157 [(.t 13),(.c (.fn 158 [] []))] (qn 12),qO 15 12 14] none [15]) (.seq (.cond (.t 15) (.seq (.region [qV 4 (qi 7)] none [4]) .ret) .skip) (qR []))) (.seq (.region [qV 4 (qi 0)] none [4]) .ret)))),[(4,none)],false⟩
def ir133_0:IRC:=(.seq (.tidy [3,4,8,9,10] []) (.seq (.region [qB 11 .lss (.t 10) (.t 9)] none [3,4,8,9,10,11]) (.seq (.seq (.cond (.t 11) .skip (.seq (qR [3]) (.exit 0))) (qR [3,4,8,9,10])) (.seq (.block 1 (.seq (.region [qX 12 (.idxASl 1 (.t 8) (.t 10)),qL 13 1 12,qM 6 13] none [3,4,6,8,9,10]) (.seq (.seq (.region [qM 14 6,qB 15 .neq (.t 14) (.c (.p (.s (.int .u8 32)))),qM 16 15,qM 17 4 (qn 16),qX 18 (.un .not (.t 17)) (qn 16),qO 19 16 18] none [3,6,8,9,10,19]) (.seq (.cond (.t 19) (.region [qM 20 3,qM 21 6,qX 22 (.mkSl true 1 1 [(.s (.int .u8 0))] [(0,1,(.t 21))]),qX 23 (.app 1 1 (.t 20) (.t 22)),qM 3 23] none [3,6,8,9,10]) .skip) (qR [3,6,8,9,10]))) (.region [qM 24 6,qB 25 .eql (.t 24) (.c (.p (.s (.int .u8 32)))),qM 4 25] none [3,4,8,9,10])))) (.region [qB 26 .add (.t 10) (qi 1),qM 10 26] none [3,4,8,9,10])))))
def ir133:IRF:=⟨[0],(.seq (.region [qV 2 (.c (.p zE0))] none [0]) (.seq (.region [qV 3 ql] none [0,3]) (.seq (.region [qV 4 qt] none [0,3,4]) (.seq (.seq (.region [qM 7 0,qX 8 (.s2b true (.t 7)),qX 9 (.len false (.t 8)),qV 10 (qi 0)] none [3,4,8,9,10]) (.seq (.block 0 (.loop ir133_0)) (.tidy [] [3]))) (.seq (.region [qM 27 3,qX 28 (.b2s (.t 27)),qC 29 160 [(.t 28),(.c (.p (.s (.string ⟨#[32]⟩))))],qM 2 29] none [2]) .ret))))),[(2,none)],false⟩
def ir136:IRF:=⟨[0,1],(.seq (.region [qM 5 0,qX 6 (.len false (.t 5)),qM 4 6] none [0,1,4]) (.region [qM 7 0,qM 8 4,qM 9 4,qX 10 (.cvt .u64 (.t 9)),qC 11 165 [(.t 10)],qM 12 1,qC 13 164 [(.t 7),(qi 0),(.t 8),(.t 11),(.t 12)]] none [])),[],false⟩
def ir138_0:IRC:=(.seq (.tidy [0,3,4,5] []) (.seq (.seq (.region [qM 29 5,qM 30 4,qX 31 (.len false (.t 30)),qB 32 .lss (.t 29) (.t 31)] none [0,3,4,5,32]) (.cond (.t 32) .skip (.exit 2))) (.seq (.block 3 (.seq (.region [qM 35 4,qM 36 5,qX 37 (.idxASl 3 (.t 35) (.t 36)),qT 38 3 37,qM 39 4,qM 40 5,qB 41 .sub (.t 40) (qi 1),qX 42 (.idxASl 3 (.t 39) (.t 41)),qT 43 3 42,qB 44 .neq (.t 38) (.t 43)] (some [0,0,3,7,0,0,32,112,240,511]) [0,3,4,5,44]) (.cond (.t 44) (.seq (.region [qM 45 0,qM 46 3,qM 47 4,qM 48 5,qX 49 (.idxASl 3 (.t 47) (.t 48)),qT 50 3 49,qX 51 (.idxASl 3 (.t 45) (.t 46)),qS 3 51 50] none [0,3,4,5]) (.region [qM 52 3,qB 53 .add (.t 52) (qi 1),qM 3 53] none [0,3,4,5])) .skip))) (.region [qM 33 5,qB 34 .add (.t 33) (qi 1),qM 5 34] none [0,3,4,5]))))
def ir138_1:IRC:=(.seq (.tidy [0,3] []) (.seq (.seq (.region [qM 10 3,qM 11 0,qX 12 (.len false (.t 11)),qB 13 .lss (.t 10) (.t 12)] none [0,3,13]) (.cond (.t 13) .skip (.exit 0))) (.seq (.block 1 (.seq (.region [qM 16 0,qM 17 3,qX 18 (.idxASl 3 (.t 16) (.t 17)),qT 19 3 18,qM 20 0,qM 21 3,qB 22 .sub (.t 21) (qi 1),qX 23 (.idxASl 3 (.t 20) (.t 22)),qT 24 3 23,qB 25 .eql (.t 19) (.t 24)] (some [0,0,3,7,0,0,32,112,240,511]) [0,3,25]) (.cond (.t 25) (.seq (.region [qM 26 0,qM 27 3,qX 28 (.slSl 3 (.t 26) (some (.t 27)) none none),qM 4 28] none [0,3,4]) (.seq (.seq (.region [qV 5 (qi 1)] none [0,3,4,5]) (.block 2 (.loop ir138_0))) (.seq (.region [qM 54 0,qM 55 3,qX 56 (.slSl 3 (.t 54) (some (.t 55)) none none),⟨none,(.clr 3 [zi,zE0,zE0] (.t 56)),none⟩] none [0,3]) (.seq (.region [qM 57 0,qM 58 3,qX 59 (.slSl 3 (.t 57) none (some (.t 58)) none),qM 2 59] none [2]) .ret)))) .skip))) (.region [qM 14 3,qB 15 .add (.t 14) (qi 1),qM 3 15] none [0,3]))))
def ir138:IRF:=⟨[0],(.seq (.region [qV 2 ql] none [0]) (.seq (.seq (.region [qM 6 0,qX 7 (.len false (.t 6)),qB 8 .lss (.t 7) (qi 2)] none [0,8]) (.cond (.t 8) (.seq (.region [qM 9 0,qM 2 9] none [2]) .ret) .skip)) (.seq (.seq (.region [qV 3 (qi 1)] none [0,3]) (.block 0 (.loop ir138_1))) (.seq (.region [qM 60 0,qM 2 60] none [2]) .ret)))),[(2,none)],false⟩
def ir139_0:IRC:=(.seq (.seq (.region [qM 5 4,qM 6 0,qB 7 .lss (.t 5) (.t 6)] none [0,3,4,7]) (.cond (.t 7) .skip (.exit 0))) (.seq (.block 1 (.region [qM 10 3,qB 11 .mul (.t 10) (qu 2),qM 3 11] none [0,3,4])) (.region [qM 8 4,qB 9 .add (.t 8) (qi 1),qM 4 9] none [0,3,4])))
def ir139:IRF:=⟨[0],(.seq (.region [qV 2 (qu 0)] none [0]) (.seq (.region [qV 3 (qu 1)] none [0,3]) (.seq (.seq (.region [qV 4 (qi 0)] none [0,3,4]) (.block 0 (.loop ir139_0))) (.seq (.region [qM 12 3,qM 2 12] none [2]) .ret)))),[(2,none)],false⟩
def ir140:IRF:=⟨[0],(.seq (.region [qV 2 (qi 0)] none [0]) (.seq (.seq (.region [qM 3 0,qB 4 .lss (.t 3) (qi 0)] none [0,4]) (.cond (.t 4) (.seq (.region [qV 2 (qi 0)] none [2]) .ret) .skip)) (.seq (.seq (.region [qM 5 0,qB 6 .gtr (.t 5) (qi 64)] none [0,6]) (.cond (.t 6) (.seq (.region [qV 2 (qi 64)] none [2]) .ret) .skip)) (.seq (.region [qM 7 0,qM 2 7] none [2]) .ret)))),[(2,none)],false⟩
def ir147:IRF:=⟨[0],(.seq (.region [qX 1 (.box false (.t 0)),qV 2 qf] none [1]) (.seq (.region [qF 3 1 1,qL 4 1 3,qX 5 (.eq false .ptr (.t 4) qp),qM 2 5] none [2]) .ret)),[(2,none)],false⟩
def ir148_0:IRC:=(.seq (.seq (.region [qM 12 6,qB 13 .geq (.t 12) (qi 0)] none [0,1,6,13]) (.cond (.t 13) .skip (.exit 0))) (.seq (.block 1 (.seq (.seq (.region [qM 16 0,qN 17 16,qF 18 1 17,qL 19 1 18,qB 20 .rem (.t 19) (qi 8),qB 21 .eql (.t 20) (qi 0)] none [0,1,6,21]) (.cond (.t 21) (.region [qM 22 0,qM 23 0,qN 24 23,qF 25 0 24,qL 26 1 25,qX 27 (.mkSl false 1 1 [(.s (.int .u8 0))] [(0,1,(.c (.p (.s (.int .u8 0)))))]),qX 28 (.app 1 1 (.t 26) (.t 27)),qN 29 22,qF 30 0 29,qS 1 30 28] none [0,1,6]) .skip)) (.seq (.seq (.region [qM 31 1,qM 32 6,qB 33 .shr (.t 31) (.t 32),qB 34 .and (.t 33) (qu 1),qB 35 .eql (.t 34) (qu 1)] none [0,1,6,35]) (.cond (.t 35) (.region [qM 36 0,qN 37 36,qF 38 0 37,qL 39 1 38,qM 40 0,qN 41 40,qF 42 1 41,qL 43 1 42,qB 44 .quo (.t 43) (qi 8),qX 45 (.idxASl 1 (.t 39) (.t 44)),qL 46 1 45,qM 47 0,qN 48 47,qF 49 1 48,qL 50 1 49,qB 51 .rem (.t 50) (qi 8),qB 52 .shr (.c (.p (.s (.int .u8 128)))) (.t 51),qB 53 .or (.t 46) (.t 52),qX 54 (.idxASl 1 (.t 39) (.t 44)),qS 1 54 53] (some [0,1,3,7,0,16,48,112,240,511,1023,0,2048,6144,14336,30720,63488,131071,262143,524287]) [0,1,6]) .skip)) (.region [qM 55 0,qN 56 55,qF 57 1 56,qL 58 1 57,qB 59 .add (.t 58) (qi 1),qN 60 55,qF 61 1 60,qS 1 61 59] none [0,1,6])))) (.region [qM 14 6,qB 15 .sub (.t 14) (qi 1),qM 6 15] none [0,1,6])))
def ir148:IRF:=⟨[0,1,2],(.seq (.seq (.region [qM 7 0,qX 8 (.eq false .ptr (.t 7) qp)] none [0,1,2,8]) (.cond (.t 8) .ret .skip)) (.seq (.region [qM 9 2,qC 10 180 [(.t 9)],qB 11 .sub (.t 10) (qi 1),qM 6 11] none [0,1,6]) (.block 0 (.loop ir148_0)))),[],true⟩
def ir149_0:IRC:=(.seq (.seq (.region [qM 5 4,qB 6 .lss (.t 5) (qi 64),qM 7 6,qM 8 1 (qy 7),qM 9 4 (qy 7),qB 10 .shr (.t 8) (.t 9) (qy 7),qB 11 .gtr (.t 10) (qu 0) (qy 7),qA 12 7 11] none [0,1,4,12]) (.cond (.t 12) .skip (.exit 0))) (.block 1 (.seq (.region [qM 13 0,qC 14 148 [(.t 13),(qu 1),(qi 1)]] none [0,1,4]) (.seq (.region [qM 15 1,qM 16 4,qB 17 .shl (qu 1) (.t 16),qB 18 .sub (.t 15) (.t 17),qM 1 18] none [0,1,4]) (.region [qM 19 4,qB 20 .add (.t 19) (qi 1),qM 4 20] none [0,1,4])))))
def ir149:IRF:=⟨[0,1],(.seq (.region [qV 4 (qi 2)] none [0,1,4]) (.seq (.block 0 (.loop ir149_0)) (.seq (.region [qM 21 0,qC 22 148 [(.t 21),(qu 0),(qi 1)]] none [0,1,4]) (.region [qM 23 0,qM 24 1,qM 25 4,qC 26 148 [(.t 23),(.t 24),(.t 25)]] none [])))),[],true⟩
def ir150:IRF:=⟨[0],(.seq (.region [qX 1 (.box false (.t 0)),qV 2 (qu 0)] none [1]) (.seq (.region [qF 3 0 1,qL 4 1 3,qM 2 4] none [2]) .ret)),[(2,none)],false⟩
def ir151:IRF:=⟨[0],(.seq (.region [qX 1 (.box false (.t 0)),qV 2 qf] none [1]) (.seq (.region [qT 3 2 1,qC 4 147 [(.t 3)],qM 5 4,qT 6 2 1 (qy 5),qC 7 150 [(.t 6)] (qy 5),qB 8 .eql (.t 7) (qu 0) (qy 5),qA 9 5 8,qM 2 9] none [2]) .ret)),[(2,none)],false⟩
def ir152:IRF:=⟨[0,1,2],(.seq (.region [qV 6 (qu 0),qV 7 (.c (.p (.s .nilIface)))] none [0,1,2]) (.seq (.region [qM 11 0,qM 12 1,qM 13 2,qC 14 181 [(.t 11),(.t 12),(.t 13)],qM 10 14,qE 15 10 0,qE 16 10 1,qM 8 15,qM 9 16] none [0,1,2,8,9]) (.seq (.seq (.region [qM 17 9,qX 18 (.eq true .iface (.t 17) (.c (.p (.s .nilIface))))] none [0,1,2,8,9,18]) (.cond (.t 18) (.seq (.region [qM 19 8,qM 20 0,qM 21 1,qM 22 2,qM 23 9,qC 24 182 [(.c (.p (.s (.string ⟨#[80,97,114,115,101,85,105,110,116]⟩)))),(.t 20),(.t 21),(.t 22),(.t 23)],qM 6 19,qM 7 24] none [6,7]) .ret) .skip)) (.seq (.region [qM 25 8,qM 6 25,qV 7 (.c (.p (.s .nilIface)))] none [6,7]) .ret)))),[(6,none),(7,none)],false⟩
def ir153:IRF:=⟨[0,1],(.seq (.region [qV 4 (.c (.p zE0))] none [0,1]) (.seq (.region [qM 5 0,qM 6 1,qC 7 183 [(.t 5),(.t 6)],qM 4 7] none [4]) .ret)),[(4,none)],false⟩
def ir155_0:IRC:=(.seq (.tidy [0,1,8,9,10,11] []) (.seq (.seq (.region [qM 47 11,qM 48 8,qB 49 .lss (.t 47) (.t 48)] none [0,1,8,9,10,11,49]) (.seq (.cond (.t 49) .skip (.seq (qR [8,9,10]) (.exit 1))) (qR [0,1,8,9,10,11]))) (.seq (.block 2 (.seq (.seq (.region [qM 52 1,qM 53 11,qB 54 .add (.t 52) (.t 53),qM 55 0,qX 56 (.len true (.t 55)),qB 57 .geq (.t 54) (.t 56),qM 58 57,qM 59 0 (qn 58),qM 60 1 (qn 58),qM 61 11 (qn 58),qB 62 .add (.t 60) (.t 61) (qn 58),qX 63 (.idxStr (.t 59) (.t 62)) (qn 58),qB 64 .lss (.t 63) (.c (.p (.s (.int .u8 128)))) (qn 58),qO 65 58 64,qM 66 65,qM 67 0 (qn 66),qM 68 1 (qn 66),qM 69 11 (qn 66),qB 70 .add (.t 68) (.t 69) (qn 66),qX 71 (.idxStr (.t 67) (.t 70)) (qn 66),qB 72 .gtr (.t 71) (.c (.p (.s (.int .u8 191)))) (qn 66),qO 73 66 72] none [0,1,8,9,10,11,73]) (.seq (.cond (.t 73) (.seq (.region [qV 4 (qi 0),qV 5 (qi 1),qV 6 qf] none [4,5,6]) .ret) .skip) (qR [0,1,8,9,10,11]))) (.region [qM 74 10,qB 75 .mul (qi 64) (.t 74),qM 76 0,qM 77 1,qM 78 11,qB 79 .add (.t 77) (.t 78),qX 80 (.idxStr (.t 76) (.t 79)),qX 81 (.cvt .i64 (.t 80)),qB 82 .add (.t 75) (.t 81),qB 83 .sub (.t 82) (qi 128),qM 10 83] none [0,1,8,9,10,11]))) (.region [qM 50 11,qB 51 .add (.t 50) (qi 1),qM 11 51] none [0,1,8,9,10,11]))))
def ir155:IRF:=⟨[0,1],(.seq (.region [qV 4 (qi 0),qV 5 (qi 0),qV 6 qf] none [0,1]) (.seq (.region [qM 12 0,qM 13 1,qX 14 (.idxStr (.t 12) (.t 13)),qX 15 (.cvt .i64 (.t 14)),qM 7 15] none [0,1,7]) (.seq (.region [qV 8 (qi 0),qV 9 (qi 0),qV 10 (qi 0)] none [0,1,7]) (.seq (.block 0 (.seq (.region [qM 17 7,qB 18 .lss (.t 17) (qi 128),qM 16 18] none [0,1,7,16]) (.seq (.cond (.t 16) (.seq (.region [qM 19 7,qM 4 19,qV 5 (qi 1),qV 6 qt] none [4,5,6]) .ret) (.seq (.region [qM 21 7,qB 22 .geq (.t 21) (qi 192),qM 23 22,qM 24 7 (qy 23),qB 25 .lss (.t 24) (qi 224) (qy 23),qA 26 23 25,qM 20 26] none [0,1,7,20]) (.seq (.cond (.t 20) (.region [qM 27 7,qB 28 .sub (.t 27) (qi 192),qV 8 (qi 2),qV 9 (qi 128),qM 10 28] none [0,1,8,9,10]) (.seq (.region [qM 30 7,qB 31 .geq (.t 30) (qi 224),qM 32 31,qM 33 7 (qy 32),qB 34 .lss (.t 33) (qi 240) (qy 32),qA 35 32 34,qM 29 35] none [0,1,7,29]) (.seq (.cond (.t 29) (.region [qM 36 7,qB 37 .sub (.t 36) (qi 224),qV 8 (qi 3),qV 9 (qi 2048),qM 10 37] none [0,1,8,9,10]) (.seq (.region [qM 39 7,qB 40 .geq (.t 39) (qi 240),qM 41 40,qM 42 7 (qy 41),qB 43 .lss (.t 42) (qi 248) (qy 41),qA 44 41 43,qM 38 44] none [0,1,7,38]) (.seq (.cond (.t 38) (.region [qM 45 7,qB 46 .sub (.t 45) (qi 240),qV 8 (qi 4),qV 9 (qi 65536),qM 10 46] none [0,1,8,9,10]) (.seq (.region [qV 4 (qi 0),qV 5 (qi 1),qV 6 qf] none [4,5,6]) .ret)) (qR [0,1,8,9,10])))) (qR [0,1,8,9,10])))) (qR [0,1,8,9,10])))) (qR [0,1,8,9,10])))) (.seq (.seq (.region [qV 11 (qi 1)] none [0,1,8,9,10,11]) (.block 1 (.loop ir155_0))) (.seq (.seq (.region [qM 84 10,qM 85 9,qB 86 .lss (.t 84) (.t 85),qM 87 86,qM 88 10 (qn 87),qB 89 .gtr (.t 88) (qi 1114111) (qn 87),qO 90 87 89,qM 91 90,qM 92 10 (qn 91),qB 93 .geq (.t 92) (qi 55296) (qn 91),qM 94 93 (qn 91),qM 95 10 (qy 94),qB 96 .lss (.t 95) (qi 57344) (qy 94),qA 97 94 96 (qn 91),qO 98 91 97] none [8,10,98]) (.seq (.cond (.t 98) (.seq (.region [qV 4 (qi 0),qV 5 (qi 1),qV 6 qf] none [4,5,6]) .ret) .skip) (qR [8,10]))) (.seq (.region [qM 99 10,qM 100 8,qM 4 99,qM 5 100,qV 6 qt] none [4,5,6]) .ret))))))),[(4,none),(5,none),(6,none)],false⟩
def ir156_0:IRC:=(.seq (.tidy [0] []) (.seq (.seq (.regq true [qM 42 0,qX 43 (.len true (.t 42)),qB 44 .gtr (.t 43) (qi 32),qM 45 44,qM 46 0 (qy 45),qC 47 184 [(.t 46)] (qy 45),qM 48 0 (qy 45),qX 49 (.slStr (.t 48) (some (qi 8)) none) (qy 45),qC 50 184 [(.t 49)] (qy 45),qB 51 .or (.t 47) (.t 50) (qy 45),qM 52 0 (qy 45),qX 53 (.slStr (.t 52) (some (qi 16)) none) (qy 45),qC 54 184 [(.t 53)] (qy 45),qM 55 0 (qy 45),qX 56 (.slStr (.t 55) (some (qi 24)) none) (qy 45),qC 57 184 [(.t 56)] (qy 45),qB 58 .or (.t 54) (.t 57) (qy 45),qB 59 .or (.t 51) (.t 58) (qy 45),qB 60 .and (.t 59) (qu 9259542123273814144) (qy 45),qB 61 .eql (.t 60) (qu 0) (qy 45),qA 62 45 61] [0,62]) (.seq (.cond (.t 62) .skip (.seq (qR [0]) (.exit 2))) (qR [0]))) (.block 3 (.region [qM 63 0,qX 64 (.slStr (.t 63) (some (qi 32)) none),qM 0 64] none [0]))))
def ir156_1:IRC:=(.seq (.tidy [0] []) (.seq (.seq (.region [qM 7 0,qX 8 (.len true (.t 7)),qB 9 .gtr (.t 8) (qi 0)] none [0,9]) (.seq (.cond (.t 9) .skip (.seq (qR []) (.exit 0))) (qR [0]))) (.block 1 (.seq (.region [qM 10 0,qX 11 (.idxStr (.t 10) (qi 0)),qM 3 11] none [0,3]) (.seq (.seq (.region [qM 12 3,qB 13 .lss (.t 12) (.c (.p (.s (.int .u8 128))))] none [0,3,13]) (.seq (.cond (.t 13) (.seq (.region [qM 14 0,qX 15 (.slStr (.t 14) (some (qi 1)) none),qM 0 15] none [0]) (.seq (.seq (.region [qM 16 0,qX 17 (.len true (.t 16)),qB 18 .gtr (.t 17) (qi 8),qM 19 18,qM 20 0 (qy 19),qC 21 184 [(.t 20)] (qy 19),qB 22 .and (.t 21) (qu 9259542123273814144) (qy 19),qB 23 .eql (.t 22) (qu 0) (qy 19),qA 24 19 23] none [0,24]) (.seq (.cond (.t 24) (.seq (.region [qM 25 0,qX 26 (.slStr (.t 25) (some (qi 8)) none),qM 0 26] none [0]) (.seq (.regq true [qM 27 0,qX 28 (.len true (.t 27)),qB 29 .gtr (.t 28) (qi 16),qM 30 29,qM 31 0 (qy 30),qC 32 184 [(.t 31)] (qy 30),qM 33 0 (qy 30),qX 34 (.slStr (.t 33) (some (qi 8)) none) (qy 30),qC 35 184 [(.t 34)] (qy 30),qB 36 .or (.t 32) (.t 35) (qy 30),qB 37 .and (.t 36) (qu 9259542123273814144) (qy 30),qB 38 .eql (.t 37) (qu 0) (qy 30),qA 39 30 38] [0,39]) (.seq (.cond (.t 39) (.seq (.region [qM 40 0,qX 41 (.slStr (.t 40) (some (qi 16)) none),qM 0 41] none [0]) (.block 2 (.loop ir156_0))) .skip) (qR [0])))) .skip) (qR [0]))) (.seq (qR [0]) (.exit 1)))) .skip) (qR [0,3]))) (.seq (.region [qM 65 3,qX 66 (.idxAArr 256 1 (.g 1) (.t 65)),qL 67 1 66,qM 4 67] none [0,4]) (.seq (.region [qM 68 4,qB 69 .and (.t 68) (.c (.p (.s (.int .u8 7)))),qX 70 (.cvt .i64 (.t 69)),qM 5 70] none [0,4,5]) (.seq (.seq (.region [qM 71 4,qB 72 .shr (.t 71) (qu 4),qX 73 (.idxAArr 16 2 (.g 2) (.t 72)),qT 74 2 73,qX 6 (.alloc false [(.s (.int .u8 0)),(.s (.int .u8 0))]),qS 2 6 74] none [0,5,6]) (.tidy [0,5] [6])) (.seq (.region [qM 75 5] none [0,6,75]) (.block 4 (.seq (.region [qB 77 .eql (.t 75) (qi 2),qM 76 77] none [0,6,75,76]) (.seq (.cond (.t 76) (.seq (.seq (.regq true [qM 78 0,qX 79 (.len true (.t 78)),qB 80 .lss (.t 79) (qi 2),qM 81 80,qM 82 0 (qn 81),qX 83 (.idxStr (.t 82) (qi 1)) (qn 81),qF 84 0 6 (qn 81),qL 85 1 84 (qn 81),qB 86 .lss (.t 83) (.t 85) (qn 81),qO 87 81 86,qM 88 87,qF 89 1 6 (qn 88),qL 90 1 89 (qn 88),qM 91 0 (qn 88),qX 92 (.idxStr (.t 91) (qi 1)) (qn 88),qB 93 .lss (.t 90) (.t 92) (qn 88),qO 94 88 93] [0,94]) (.seq (.cond (.t 94) (.seq (.region [qV 2 qf] none [2]) .ret) .skip) (qR [0]))) (.region [qM 95 0,qX 96 (.slStr (.t 95) (some (qi 2)) none),qM 0 96] none [0])) (.seq (.region [qB 98 .eql (.t 75) (qi 3),qM 97 98] none [0,6,75,97]) (.seq (.cond (.t 97) (.seq (.seq (.regq true [qM 99 0,qX 100 (.len true (.t 99)),qB 101 .lss (.t 100) (qi 3),qM 102 101,qM 103 0 (qn 102),qX 104 (.idxStr (.t 103) (qi 1)) (qn 102),qF 105 0 6 (qn 102),qL 106 1 105 (qn 102),qB 107 .lss (.t 104) (.t 106) (qn 102),qO 108 102 107,qM 109 108,qF 110 1 6 (qn 109),qL 111 1 110 (qn 109),qM 112 0 (qn 109),qX 113 (.idxStr (.t 112) (qi 1)) (qn 109),qB 114 .lss (.t 111) (.t 113) (qn 109),qO 115 109 114,qM 116 115,qM 117 0 (qn 116),qX 118 (.idxStr (.t 117) (qi 2)) (qn 116),qB 119 .lss (.t 118) (.c (.p (.s (.int .u8 128)))) (qn 116),qO 120 116 119,qM 121 120,qM 122 0 (qn 121),qX 123 (.idxStr (.t 122) (qi 2)) (qn 121),qB 124 .lss (.c (.p (.s (.int .u8 191)))) (.t 123) (qn 121),qO 125 121 124] [0,125]) (.seq (.cond (.t 125) (.seq (.region [qV 2 qf] none [2]) .ret) .skip) (qR [0]))) (.region [qM 126 0,qX 127 (.slStr (.t 126) (some (qi 3)) none),qM 0 127] none [0])) (.seq (.region [qB 129 .eql (.t 75) (qi 4),qM 128 129] none [0,6,128]) (.seq (.cond (.t 128) (.seq (.seq (.regq true [qM 130 0,qX 131 (.len true (.t 130)),qB 132 .lss (.t 131) (qi 4),qM 133 132,qM 134 0 (qn 133),qX 135 (.idxStr (.t 134) (qi 1)) (qn 133),qF 136 0 6 (qn 133),qL 137 1 136 (qn 133),qB 138 .lss (.t 135) (.t 137) (qn 133),qO 139 133 138,qM 140 139,qF 141 1 6 (qn 140),qL 142 1 141 (qn 140),qM 143 0 (qn 140),qX 144 (.idxStr (.t 143) (qi 1)) (qn 140),qB 145 .lss (.t 142) (.t 144) (qn 140),qO 146 140 145,qM 147 146,qM 148 0 (qn 147),qX 149 (.idxStr (.t 148) (qi 2)) (qn 147),qB 150 .lss (.t 149) (.c (.p (.s (.int .u8 128)))) (qn 147),qO 151 147 150,qM 152 151,qM 153 0 (qn 152),qX 154 (.idxStr (.t 153) (qi 2)) (qn 152),qB 155 .lss (.c (.p (.s (.int .u8 191)))) (.t 154) (qn 152),qO 156 152 155,qM 157 156,qM 158 0 (qn 157),qX 159 (.idxStr (.t 158) (qi 3)) (qn 157),qB 160 .lss (.t 159) (.c (.p (.s (.int .u8 128)))) (qn 157),qO 161 157 160,qM 162 161,qM 163 0 (qn 162),qX 164 (.idxStr (.t 163) (qi 3)) (qn 162),qB 165 .lss (.c (.p (.s (.int .u8 191)))) (.t 164) (qn 162),qO 166 162 165] [0,166]) (.seq (.cond (.t 166) (.seq (.region [qV 2 qf] none [2]) .ret) .skip) (qR [0]))) (.region [qM 167 0,qX 168 (.slStr (.t 167) (some (qi 4)) none),qM 0 168] none [0])) (.seq (.region [qV 2 qf] none [2]) .ret)) (qR [0])))) (qR [0])))) (qR [0])))))))))))))
def ir156:IRF:=⟨[0],(.seq (.region [qV 2 qf] none [0]) (.seq (.block 0 (.loop ir156_1)) (.seq (.region [qV 2 qt] none [2]) .ret))),[(2,none)],false⟩
def ir157:IRF:=⟨[0,1],(.seq (.region [qV 4 qf] none [0,1]) (.seq (.region [qM 5 0,qM 6 1,qC 7 185 [(.t 5),(.t 6)],qB 8 .geq (.t 7) (qi 0),qM 4 8] none [4]) .ret)),[(4,none)],false⟩
def ir158:IRF:=⟨[0],(.seq (.region [qV 2 qf] none [0]) (.seq (.region [qM 3 0,qC 4 159 [(.t 3)],qX 5 (.un .not (.t 4)),qM 2 5] none [2]) .ret)),[(2,none)],false⟩
def ir159:IRF:=⟨[0],(.seq (.region [qV 2 qf] none [0]) (.seq (.region [qM 3 0,qB 4 .geq (.t 3) (.c (.p (.s (.int .i32 32)))),qM 5 4,qM 6 0 (qy 5),qB 7 .neq (.t 6) (.c (.p (.s (.int .i32 127)))) (qy 5),qA 8 5 7,qM 2 8] none [2]) .ret)),[(2,none)],false⟩
def ir160:IRF:=⟨[0,1],(.seq (.region [qV 4 (.c (.p zE0))] none [0,1]) (.seq (.region [qM 5 0,qM 6 1,qC 7 186 [(.t 5),(.t 6)],qM 4 7] none [4]) .ret)),[(4,none)],false⟩
def ir164_0:IRC:=(.seq (.tidy [0,1,2,3,4,10,11] []) (.block 1 (.seq (.region [qM 21 2,qM 22 1,qB 23 .sub (.t 21) (.t 22),qM 12 23] none [0,1,2,3,4,10,11,12]) (.seq (.seq (.region [qM 24 12,qB 25 .leq (.t 24) (qi 12)] none [0,1,2,3,4,10,11,12,25]) (.cond (.t 25) (.seq (.region [qM 26 0,qM 27 1,qM 28 2,qM 29 4,qC 30 196 [(.t 26),(.t 27),(.t 28),(.t 29)]] none []) .ret) .skip)) (.seq (.seq (.region [qM 31 3,qB 32 .eql (.t 31) (qi 0)] none [0,1,2,3,4,10,11,12,32]) (.cond (.t 32) (.seq (.region [qM 33 0,qM 34 1,qM 35 2,qM 36 4,qC 37 197 [(.t 33),(.t 34),(.t 35),(.t 36)]] none []) .ret) .skip)) (.seq (.seq (.region [qM 38 10,qX 39 (.un .not (.t 38))] none [0,1,2,3,4,10,11,12,39]) (.cond (.t 39) (.seq (.region [qM 40 0,qM 41 1,qM 42 2,qM 43 4,qC 44 198 [(.t 40),(.t 41),(.t 42),(.t 43)]] none [0,1,2,3,4,10,11,12]) (.region [qM 45 3,qB 46 .sub (.t 45) (qi 1),qM 3 46] none [0,1,2,3,4,10,11,12])) .skip)) (.seq (.region [qM 48 0,qM 49 1,qM 50 2,qM 51 4,qC 52 199 [(.t 48),(.t 49),(.t 50),(.t 51)],qM 47 52,qE 53 47 0,qE 54 47 1,qM 13 53,qM 14 54] none [0,1,2,3,4,10,11,12,13,14]) (.seq (.seq (.region [qM 55 14,qB 56 .eql (.t 55) (qi 2)] none [0,1,2,3,4,10,11,12,13,14,56]) (.cond (.t 56) (.seq (.region [qM 57 0,qM 58 1,qM 59 2,qM 60 4,qC 61 200 [(.t 57),(.t 58),(.t 59),(.t 60)]] none [0,1,2,3,4,10,11,12,13]) (.seq (.region [qM 62 2,qB 63 .sub (.t 62) (qi 1),qM 64 13,qM 65 1,qB 66 .sub (.t 64) (.t 65),qB 67 .sub (.t 63) (.t 66),qM 13 67] none [0,1,2,3,4,10,11,12,13]) (.region [qV 14 (qi 1)] none [0,1,2,3,4,10,11,12,13,14]))) .skip)) (.seq (.seq (.region [qM 68 10,qM 69 68,qM 70 11 (qy 69),qA 71 69 70,qM 72 71,qM 73 14 (qy 72),qB 74 .eql (.t 73) (qi 1) (qy 72),qA 75 72 74] none [0,1,2,3,4,10,11,12,13,75]) (.cond (.t 75) (.seq (.region [qM 76 0,qM 77 1,qM 78 2,qM 79 4,qC 80 201 [(.t 76),(.t 77),(.t 78),(.t 79)]] none [0,1,2,3,4,10,11,12,13,80]) (.cond (.t 80) .ret .skip)) .skip)) (.seq (.seq (.region [qM 81 1,qB 82 .gtr (.t 81) (qi 0),qM 83 82,qM 84 4 (qy 83),qM 85 0 (qy 83),qM 86 1 (qy 83),qB 87 .sub (.t 86) (qi 1) (qy 83),qX 88 (.idxASl 3 (.t 85) (.t 87)) (qy 83),qT 89 3 88 (qy 83),qM 90 0 (qy 83),qM 91 13 (qy 83),qX 92 (.idxASl 3 (.t 90) (.t 91)) (qy 83),qT 93 3 92 (qy 83),qX 94 (.callv (.t 84) [(.t 89),(.t 93)]) (qy 83),qB 95 .lss (.t 94) (qi 0) (qy 83),qX 96 (.un .not (.t 95)) (qy 83),qA 97 83 96] (some [0,1,3,7,7,7,39,119,247,7,7,1543,3591,8191,16383,32767,65535]) [0,1,2,3,4,10,11,12,13,97]) (.cond (.t 97) (.seq (.region [qM 98 0,qM 99 1,qM 100 2,qM 101 13,qM 102 4,qC 103 202 [(.t 98),(.t 99),(.t 100),(.t 101),(.t 102)],qM 15 103] none [0,2,3,4,10,11,15]) (.seq (.region [qM 104 15,qM 1 104] none [0,1,2,3,4,10,11]) (.exit 1))) .skip)) (.seq (.region [qM 106 0,qM 107 1,qM 108 2,qM 109 13,qM 110 4,qC 111 203 [(.t 106),(.t 107),(.t 108),(.t 109),(.t 110)],qM 105 111,qE 112 105 0,qE 113 105 1,qM 16 112,qM 17 113] none [0,1,2,3,4,12,16,17]) (.seq (.region [qM 114 17,qM 11 114] none [0,1,2,3,4,11,12,16]) (.seq (.region [qM 115 16,qM 116 1,qB 117 .sub (.t 115) (.t 116),qM 118 2,qM 119 16,qB 120 .sub (.t 118) (.t 119),qM 18 117,qM 19 120] none [0,1,2,3,4,11,12,16,18,19]) (.seq (.region [qM 121 12,qB 122 .quo (.t 121) (qi 8),qM 20 122] none [0,1,2,3,4,11,16,18,19,20]) (.seq (.region [qM 123 18,qM 124 19,qB 125 .lss (.t 123) (.t 124)] none [0,1,2,3,4,11,16,18,19,20,125]) (.cond (.t 125) (.seq (.region [qM 126 18,qM 127 20,qB 128 .geq (.t 126) (.t 127),qM 10 128] none [0,1,2,3,4,10,11,16]) (.seq (.region [qM 129 0,qM 130 1,qM 131 16,qM 132 3,qM 133 4,qC 134 164 [(.t 129),(.t 130),(.t 131),(.t 132),(.t 133)]] none [0,2,3,4,10,11,16]) (.region [qM 135 16,qB 136 .add (.t 135) (qi 1),qM 1 136] none [0,1,2,3,4,10,11]))) (.seq (.region [qM 137 19,qM 138 20,qB 139 .geq (.t 137) (.t 138),qM 10 139] none [0,1,2,3,4,10,11,16]) (.seq (.region [qM 140 0,qM 141 16,qB 142 .add (.t 141) (qi 1),qM 143 2,qM 144 3,qM 145 4,qC 146 164 [(.t 140),(.t 142),(.t 143),(.t 144),(.t 145)]] none [0,1,3,4,10,11,16]) (.region [qM 147 16,qM 2 147] none [0,1,2,3,4,10,11])))))))))))))))))))
def ir164:IRF:=⟨[0,1,2,3,4],(.seq (.region [qV 10 qt] none [0,1,2,3,4,10]) (.seq (.region [qV 11 qt] none [0,1,2,3,4,10,11]) (.block 0 (.loop ir164_0)))),[],false⟩
def ir165:IRF:=⟨[0],(.seq (.region [qV 2 (qi 0)] none [0]) (.seq (.cond qf (.seq (.region [qM 3 0,qX 4 (.cvt .u32 (.t 3)),qC 5 204 [(.t 4)],qM 2 5] none [2]) .ret) .skip) (.seq (.region [qM 6 0,qC 7 205 [(.t 6)],qM 2 7] none [2]) .ret))),[(2,none)],false⟩
def ir180:IRF:=⟨[0],(.seq (.region [qV 2 (qi 0)] none [0]) (.seq (.region [qM 3 0,qX 4 (.minmax true [(.t 3),(qi 0)]),qX 5 (.minmax false [(.t 4),(qi 64)]),qM 2 5] none [2]) .ret)),[(2,none)],false⟩
end Go.Proofs.YtoeblkipfdnnlaaGreatDoor
end

section
namespace Go.Proofs.YtoeblkipfdnnlaaGreatDoor
open Go Go.Sx
def ir181_0:IRC:=(.seq (.tidy [1,8,9,10,11,12,13,99,100,101] []) (.seq (.region [qB 102 .lss (.t 101) (.t 100)] none [1,8,9,10,11,12,13,99,100,101,102]) (.seq (.seq (.cond (.t 102) .skip (.seq (qR [9,12,13]) (.exit 3))) (qR [1,8,9,10,11,12,13,99,100,101])) (.seq (.block 4 (.seq (.region [qX 103 (.idxASl 1 (.t 99) (.t 101)),qL 104 1 103,qM 15 104] none [1,8,9,10,11,12,13,15,99,100,101]) (.seq (.region [qV 16 (.c (.p (.s (.int .u8 0))))] none [1,8,9,10,11,12,13,15,99,100,101]) (.seq (.block 5 (.seq (.region [qM 107 15,qB 108 .eql (.t 107) (.c (.p (.s (.int .u8 95)))),qM 109 108,qM 110 8 (qy 109),qA 111 109 110,qM 106 111] none [1,8,9,10,11,12,13,15,99,100,101,106]) (.seq (.cond (.t 106) (.seq (.region [qV 12 qt] none [1,8,9,10,11,12,13,99,100,101]) (.seq (qR [1,8,9,10,11,12,13,99,100,101]) (.exit 4))) (.seq (.region [qM 113 15,qB 114 .leq (.c (.p (.s (.int .u8 48)))) (.t 113),qM 115 114,qM 116 15 (qy 115),qB 117 .leq (.t 116) (.c (.p (.s (.int .u8 57)))) (qy 115),qA 118 115 117,qM 112 118] none [1,8,9,10,11,12,13,15,99,100,101,112]) (.seq (.cond (.t 112) (.region [qM 119 15,qB 120 .sub (.t 119) (.c (.p (.s (.int .u8 48)))),qM 16 120] none [1,8,9,10,11,12,13,16,99,100,101]) (.seq (.region [qM 122 15,qC 123 209 [(.t 122)],qB 124 .leq (.c (.p (.s (.int .u8 97)))) (.t 123),qM 125 124,qM 126 15 (qy 125),qC 127 209 [(.t 126)] (qy 125),qB 128 .leq (.t 127) (.c (.p (.s (.int .u8 122)))) (qy 125),qA 129 125 128,qM 121 129] none [1,8,9,10,11,12,13,15,99,100,101,121]) (.seq (.cond (.t 121) (.region [qM 130 15,qC 131 209 [(.t 130)],qB 132 .sub (.t 131) (.c (.p (.s (.int .u8 97)))),qB 133 .add (.t 132) (.c (.p (.s (.int .u8 10)))),qM 16 133] none [1,8,9,10,11,12,13,16,99,100,101]) (.seq (.region [⟨(some 105),.bad,none⟩,qV 6 (qu 0),qM 7 105] none [6,7]) .ret)) (qR [1,8,9,10,11,12,13,16,99,100,101])))) (qR [1,8,9,10,11,12,13,16,99,100,101])))) (qR [1,8,9,10,11,12,13,16,99,100,101])))) (.seq (.seq (.region [qM 134 16,qM 135 1,qX 136 (.cvt .u8 (.t 135)),qB 137 .geq (.t 134) (.t 136)] none [1,8,9,10,11,12,13,16,99,100,101,137]) (.seq (.cond (.t 137) (.seq (.region [⟨(some 138),.bad,none⟩,qV 6 (qu 0),qM 7 138] none [6,7]) .ret) .skip) (qR [1,8,9,10,11,12,13,16,99,100,101]))) (.seq (.seq (.region [qM 139 13,qM 140 10,qB 141 .geq (.t 139) (.t 140)] none [1,8,9,10,11,12,13,16,99,100,101,141]) (.seq (.cond (.t 141) (.seq (.region [qM 142 11,⟨(some 143),.bad,none⟩,qM 6 142,qM 7 143] none [6,7]) .ret) .skip) (qR [1,8,9,10,11,12,13,16,99,100,101]))) (.seq (.region [qM 144 13,qM 145 1,qX 146 (.cvt .u64 (.t 145)),qB 147 .mul (.t 144) (.t 146),qM 13 147] none [1,8,9,10,11,12,13,16,99,100,101]) (.seq (.region [qM 148 13,qM 149 16,qX 150 (.cvt .u64 (.t 149)),qB 151 .add (.t 148) (.t 150),qM 17 151] none [1,8,9,10,11,12,13,17,99,100,101]) (.seq (.seq (.region [qM 152 17,qM 153 13,qB 154 .lss (.t 152) (.t 153),qM 155 154,qM 156 17 (qn 155),qM 157 11 (qn 155),qB 158 .gtr (.t 156) (.t 157) (qn 155),qO 159 155 158] none [1,8,9,10,11,12,17,99,100,101,159]) (.seq (.cond (.t 159) (.seq (.region [qM 160 11,⟨(some 161),.bad,none⟩,qM 6 160,qM 7 161] none [6,7]) .ret) .skip) (qR [1,8,9,10,11,12,17,99,100,101]))) (.region [qM 162 17,qM 13 162] none [1,8,9,10,11,12,13,99,100,101])))))))))) (.region [qB 163 .add (.t 101) (qi 1),qM 101 163] none [1,8,9,10,11,12,13,99,100,101])))))
def ir181:IRF:=⟨[0,1,2],(.seq (.region [qV 6 (qu 0),qV 7 (.c (.p (.s .nilIface)))] none [0,1,2]) (.seq (.seq (.region [qM 18 0,qB 19 .eql (.t 18) (.c (.p zE0))] none [0,1,2,19]) (.seq (.cond (.t 19) (.seq (.region [⟨(some 20),.bad,none⟩,qV 6 (qu 0),qM 7 20] none [6,7]) .ret) .skip) (qR [0,1,2]))) (.seq (.region [qM 21 1,qB 22 .eql (.t 21) (qi 0),qM 8 22] none [0,1,2,8]) (.seq (.region [qM 23 0,qM 9 23] none [0,1,2,8,9]) (.seq (.block 0 (.seq (.region [qM 26 1,qB 27 .leq (qi 2) (.t 26),qM 28 27,qM 29 1 (qy 28),qB 30 .leq (.t 29) (qi 36) (qy 28),qA 31 28 30,qM 25 31] none [0,1,2,8,9,25]) (.seq (.cond (.t 25) .skip (.seq (.region [qM 33 1,qB 34 .eql (.t 33) (qi 0),qM 32 34] none [0,2,8,9,32]) (.seq (.cond (.t 32) (.seq (.region [qV 1 (qi 10)] none [0,1,2,8,9]) (.seq (.region [qM 35 0,qX 36 (.idxStr (.t 35) (qi 0)),qB 37 .eql (.t 36) (.c (.p (.s (.int .u8 48))))] none [0,1,2,8,9,37]) (.seq (.cond (.t 37) (.block 1 (.seq (.region [qM 41 0,qX 42 (.len true (.t 41)),qB 43 .geq (.t 42) (qi 3),qM 44 43,qM 45 0 (qy 44),qX 46 (.idxStr (.t 45) (qi 1)) (qy 44),qC 47 209 [(.t 46)] (qy 44),qB 48 .eql (.t 47) (.c (.p (.s (.int .u8 98)))) (qy 44),qA 49 44 48,qM 40 49] none [0,2,8,9,40]) (.seq (.cond (.t 40) (.seq (.region [qV 1 (qi 2)] none [0,1,2,8,9]) (.region [qM 50 0,qX 51 (.slStr (.t 50) (some (qi 2)) none),qM 0 51] none [0,1,2,8,9])) (.seq (.region [qM 53 0,qX 54 (.len true (.t 53)),qB 55 .geq (.t 54) (qi 3),qM 56 55,qM 57 0 (qy 56),qX 58 (.idxStr (.t 57) (qi 1)) (qy 56),qC 59 209 [(.t 58)] (qy 56),qB 60 .eql (.t 59) (.c (.p (.s (.int .u8 111)))) (qy 56),qA 61 56 60,qM 52 61] none [0,2,8,9,52]) (.seq (.cond (.t 52) (.seq (.region [qV 1 (qi 8)] none [0,1,2,8,9]) (.region [qM 62 0,qX 63 (.slStr (.t 62) (some (qi 2)) none),qM 0 63] none [0,1,2,8,9])) (.seq (.region [qM 65 0,qX 66 (.len true (.t 65)),qB 67 .geq (.t 66) (qi 3),qM 68 67,qM 69 0 (qy 68),qX 70 (.idxStr (.t 69) (qi 1)) (qy 68),qC 71 209 [(.t 70)] (qy 68),qB 72 .eql (.t 71) (.c (.p (.s (.int .u8 120)))) (qy 68),qA 73 68 72,qM 64 73] none [0,2,8,9,64]) (.seq (.cond (.t 64) (.seq (.region [qV 1 (qi 16)] none [0,1,2,8,9]) (.region [qM 74 0,qX 75 (.slStr (.t 74) (some (qi 2)) none),qM 0 75] none [0,1,2,8,9])) (.seq (.region [qV 1 (qi 8)] none [0,1,2,8,9]) (.region [qM 38 0,qX 39 (.slStr (.t 38) (some (qi 1)) none),qM 0 39] none [0,1,2,8,9]))) (qR [0,1,2,8,9])))) (qR [0,1,2,8,9])))) (qR [0,1,2,8,9])))) .skip) (qR [0,1,2,8,9])))) (.seq (.region [⟨(some 24),.bad,none⟩,qV 6 (qu 0),qM 7 24] none [6,7]) .ret)) (qR [0,1,2,8,9])))) (qR [0,1,2,8,9])))) (.seq (.seq (.region [qM 76 2,qB 77 .eql (.t 76) (qi 0)] none [0,1,2,8,9,77]) (.seq (.cond (.t 77) (.region [qV 2 (qi 64)] none [0,1,2,8,9]) (.seq (.region [qM 78 2,qB 79 .lss (.t 78) (qi 0),qM 80 79,qM 81 2 (qn 80),qB 82 .gtr (.t 81) (qi 64) (qn 80),qO 83 80 82] none [0,1,2,8,9,83]) (.seq (.cond (.t 83) (.seq (.region [⟨(some 84),.bad,none⟩,qV 6 (qu 0),qM 7 84] none [6,7]) .ret) .skip) (qR [0,1,2,8,9])))) (qR [0,1,2,8,9]))) (.seq (.region [qV 10 (qu 0)] none [0,1,2,8,9]) (.seq (.seq (.region [qM 85 1] none [0,1,2,8,9,85]) (.block 2 (.seq (.region [qB 91 .eql (.t 85) (qi 10),qM 90 91] none [0,1,2,8,9,85,90]) (.seq (.cond (.t 90) (.region [qV 10 (qu 1844674407370955162)] none [0,1,2,8,9,10]) (.seq (.region [qB 93 .eql (.t 85) (qi 16),qM 92 93] none [0,1,2,8,9,92]) (.seq (.cond (.t 92) (.region [qV 10 (qu 1152921504606846976)] none [0,1,2,8,9,10]) (.region [qM 86 1,qX 87 (.cvt .u64 (.t 86)),qB 88 .quo (qu 18446744073709551615) (.t 87),qB 89 .add (.t 88) (qu 1),qM 10 89] none [0,1,2,8,9,10])) (qR [0,1,2,8,9,10])))) (qR [0,1,2,8,9,10]))))) (.seq (.region [qM 94 2,qX 95 (.cvt .u64 (.t 94)),qB 96 .shl (qu 1) (.t 95),qB 97 .sub (.t 96) (qu 1),qM 11 97] none [0,1,8,9,10,11]) (.seq (.region [qV 12 qf] none [0,1,8,9,10,11,12]) (.seq (.region [qV 13 (qu 0)] none [0,1,8,9,10,11,12,13]) (.seq (.seq (.region [qM 98 0,qX 99 (.s2b true (.t 98)),qX 100 (.len false (.t 99)),qV 101 (qi 0)] none [1,8,9,10,11,12,13,99,100,101]) (.block 3 (.loop ir181_0))) (.seq (.seq (.region [qM 164 12,qM 165 164,qM 166 9 (qy 165),qC 167 210 [(.t 166)] (qy 165),qX 168 (.un .not (.t 167)) (qy 165),qA 169 165 168] none [13,169]) (.seq (.cond (.t 169) (.seq (.region [⟨(some 170),.bad,none⟩,qV 6 (qu 0),qM 7 170] none [6,7]) .ret) .skip) (qR [13]))) (.seq (.region [qM 171 13,qM 6 171,qV 7 (.c (.p (.s .nilIface)))] none [6,7]) .ret)))))))))))))),[(6,none),(7,none)],false⟩
def ir183:IRF:=⟨[0,1],(.seq (.region [qV 4 (.c (.p zE0))] none [0,1]) (.seq (.seq (.region [qM 9 1,qB 10 .eql (.t 9) (qi 10)] none [0,1,10]) (.seq (.cond (.t 10) (.seq (.seq (.region [qM 11 0,qB 12 .lss (.t 11) (qu 100)] none [0,12]) (.seq (.cond (.t 12) (.seq (.region [qM 13 0,qX 14 (.cvt .i64 (.t 13)),qC 15 215 [(.t 14)],qM 4 15] none [4]) .ret) .skip) (qR [0]))) (.seq (.region [qX 5 (.alloc false [(.s (.int .u8 0)),(.s (.int .u8 0)),(.s (.int .u8 0)),(.s (.int .u8 0)),(.s (.int .u8 0)),(.s (.int .u8 0)),(.s (.int .u8 0)),(.s (.int .u8 0)),(.s (.int .u8 0)),(.s (.int .u8 0)),(.s (.int .u8 0)),(.s (.int .u8 0)),(.s (.int .u8 0)),(.s (.int .u8 0)),(.s (.int .u8 0)),(.s (.int .u8 0)),(.s (.int .u8 0)),(.s (.int .u8 0)),(.s (.int .u8 0)),(.s (.int .u8 0)),(.s (.int .u8 0)),(.s (.int .u8 0)),(.s (.int .u8 0)),(.s (.int .u8 0))])] none [0,5]) (.seq (.region [qM 16 0,qC 17 216 [(.t 16)],qM 6 17] none [0,5,6]) (.seq (.region [qM 18 6,qX 19 (.slArr 24 1 (.t 5) none (some (.t 18)) none),qM 20 0,qC 21 217 [(.t 19),(.t 20)]] none [5,6]) (.seq (.region [qM 22 6,qX 23 (.slArr 24 1 (.t 5) none (some (.t 22)) none),qX 24 (.b2s (.t 23)),qM 4 24] none [4]) .ret))))) .skip) (qR [0,1]))) (.seq (.region [qM 26 0,qM 27 1,qC 28 218 [ql,(.t 26),(.t 27),qf,qf],qM 25 28,qE 29 25 0,qE 30 25 1,qM 7 29,qM 8 30] none [8]) (.seq (.region [qM 31 8,qM 4 31] none [4]) .ret)))),[(4,none)],false⟩
def ir184:IRF:=⟨[0],(.seq (.region [qV 2 (qu 0)] none [0]) (.seq (.seq (.cond qf (.seq (.regq true [qM 3 0,qX 4 (.idxStr (.t 3) (qi 0)),qX 5 (.cvt .u64 (.t 4)),qM 6 0,qX 7 (.idxStr (.t 6) (qi 1)),qX 8 (.cvt .u64 (.t 7)),qB 9 .shl (.t 8) (qu 8),qB 10 .or (.t 5) (.t 9),qM 11 0,qX 12 (.idxStr (.t 11) (qi 2)),qX 13 (.cvt .u64 (.t 12)),qB 14 .shl (.t 13) (qu 16),qB 15 .or (.t 10) (.t 14),qM 16 0,qX 17 (.idxStr (.t 16) (qi 3)),qX 18 (.cvt .u64 (.t 17)),qB 19 .shl (.t 18) (qu 24),qB 20 .or (.t 15) (.t 19),qM 2 20] [2]) .ret) .skip) (qR [0])) (.seq (.regq true [qM 21 0,qX 22 (.idxStr (.t 21) (qi 0)),qX 23 (.cvt .u64 (.t 22)),qM 24 0,qX 25 (.idxStr (.t 24) (qi 1)),qX 26 (.cvt .u64 (.t 25)),qB 27 .shl (.t 26) (qu 8),qB 28 .or (.t 23) (.t 27),qM 29 0,qX 30 (.idxStr (.t 29) (qi 2)),qX 31 (.cvt .u64 (.t 30)),qB 32 .shl (.t 31) (qu 16),qB 33 .or (.t 28) (.t 32),qM 34 0,qX 35 (.idxStr (.t 34) (qi 3)),qX 36 (.cvt .u64 (.t 35)),qB 37 .shl (.t 36) (qu 24),qB 38 .or (.t 33) (.t 37),qM 39 0,qX 40 (.idxStr (.t 39) (qi 4)),qX 41 (.cvt .u64 (.t 40)),qB 42 .shl (.t 41) (qu 32),qB 43 .or (.t 38) (.t 42),qM 44 0,qX 45 (.idxStr (.t 44) (qi 5)),qX 46 (.cvt .u64 (.t 45)),qB 47 .shl (.t 46) (qu 40),qB 48 .or (.t 43) (.t 47),qM 49 0,qX 50 (.idxStr (.t 49) (qi 6)),qX 51 (.cvt .u64 (.t 50)),qB 52 .shl (.t 51) (qu 48),qB 53 .or (.t 48) (.t 52),qM 54 0,qX 55 (.idxStr (.t 54) (qi 7)),qX 56 (.cvt .u64 (.t 55)),qB 57 .shl (.t 56) (qu 56),qB 58 .or (.t 53) (.t 57),qM 2 58] [2]) .ret))),[(2,none)],false⟩
def ir185:IRF:=⟨[0,1],(.seq (.region [qV 4 (qi 0)] none [0,1]) (.seq (.region [qM 5 0,qM 6 1,qC 7 219 [(.t 5),(.t 6),qt],qM 4 7] none [4]) .ret)),[(4,none)],false⟩
def ir186:IRF:=⟨[0,1],(.seq (.region [qV 4 (.c (.p zE0))] none [0,1]) (.seq (.seq (.region [qM 5 0,qM 6 1,qC 7 220 [(.t 5),(.t 6)]] none [0,1,7]) (.seq (.cond (.t 7) (.seq (.region [qM 8 0,qM 9 0,qX 10 (.len true (.t 9)),qM 11 1,qX 12 (.len true (.t 11)),qB 13 .sub (.t 10) (.t 12),qX 14 (.slStr (.t 8) none (some (.t 13))),qM 4 14] none [4]) .ret) .skip) (qR [0]))) (.seq (.region [qM 15 0,qM 4 15] none [4]) .ret))),[(4,none)],false⟩
def ir196_0:IRC:=(.seq (.tidy [0,1,2,3,8,9] []) (.seq (.seq (.region [qM 18 9,qM 19 1,qB 20 .gtr (.t 18) (.t 19),qM 21 20,qM 22 3 (qy 21),qM 23 0 (qy 21),qM 24 9 (qy 21),qX 25 (.idxASl 3 (.t 23) (.t 24)) (qy 21),qT 26 3 25 (qy 21),qM 27 0 (qy 21),qM 28 9 (qy 21),qB 29 .sub (.t 28) (qi 1) (qy 21),qX 30 (.idxASl 3 (.t 27) (.t 29)) (qy 21),qT 31 3 30 (qy 21),qX 32 (.callv (.t 22) [(.t 26),(.t 31)]) (qy 21),qB 33 .lss (.t 32) (qi 0) (qy 21),qA 34 21 33] (some [0,0,3,7,15,15,15,111,239,15,15,1039,3599,7695,16383,32767,65535]) [0,1,2,3,8,9,34]) (.cond (.t 34) .skip (.exit 2))) (.seq (.block 3 (.region [qM 37 0,qM 38 9,qM 39 0,qM 40 9,qB 41 .sub (.t 40) (qi 1),qM 42 0,qM 43 9,qB 44 .sub (.t 43) (qi 1),qX 45 (.idxASl 3 (.t 42) (.t 44)),qT 46 3 45,qM 47 0,qM 48 9,qX 49 (.idxASl 3 (.t 47) (.t 48)),qT 50 3 49,qX 51 (.idxASl 3 (.t 37) (.t 38)),qS 3 51 46,qX 52 (.idxASl 3 (.t 39) (.t 41)),qS 3 52 50] (some [0,0,0,0,8,0,0,64,224,480,0,0,3072,7168,16355,32739,65535,131071]) [0,1,2,3,8,9])) (.region [qM 35 9,qB 36 .sub (.t 35) (qi 1),qM 9 36] none [0,1,2,3,8,9]))))
def ir196_1:IRC:=(.seq (.tidy [0,1,2,3,8] []) (.seq (.seq (.region [qM 12 8,qM 13 2,qB 14 .lss (.t 12) (.t 13)] none [0,1,2,3,8,14]) (.cond (.t 14) .skip (.exit 0))) (.seq (.block 1 (.seq (.region [qM 17 8,qM 9 17] none [0,1,2,3,8,9]) (.block 2 (.loop ir196_0)))) (.region [qM 15 8,qB 16 .add (.t 15) (qi 1),qM 8 16] none [0,1,2,3,8]))))
def ir196:IRF:=⟨[0,1,2,3],(.seq (.region [qM 10 1,qB 11 .add (.t 10) (qi 1),qM 8 11] none [0,1,2,3,8]) (.block 0 (.loop ir196_1))),[],false⟩
def ir205:IRF:=⟨[0],(.seq (.region [qV 2 (qi 0)] none [0,2]) (.seq (.seq (.region [qM 3 0,qB 4 .geq (.t 3) (qu 4294967296)] none [0,2,4]) (.cond (.t 4) (.seq (.region [qM 5 0,qB 6 .shr (.t 5) (qu 32),qM 0 6] none [0]) (.region [qV 2 (qi 32)] none [0,2])) .skip)) (.seq (.seq (.region [qM 7 0,qB 8 .geq (.t 7) (qu 65536)] none [0,2,8]) (.cond (.t 8) (.seq (.region [qM 9 0,qB 10 .shr (.t 9) (qu 16),qM 0 10] none [0,2]) (.region [qM 11 2,qB 12 .add (.t 11) (qi 16),qM 2 12] none [0,2])) .skip)) (.seq (.seq (.region [qM 13 0,qB 14 .geq (.t 13) (qu 256)] none [0,2,14]) (.cond (.t 14) (.seq (.region [qM 15 0,qB 16 .shr (.t 15) (qu 8),qM 0 16] none [0,2]) (.region [qM 17 2,qB 18 .add (.t 17) (qi 8),qM 2 18] none [0,2])) .skip)) (.seq (.region [qM 19 2,qM 20 0,qX 21 (.cvt .u8 (.t 20)),qX 22 (.idxStr (.c (.p (.s (.string ⟨#[0,1,2,2,3,3,3,3,4,4,4,4,4,4,4,4,5,5,5,5,5,5,5,5,5,5,5,5,5,5,5,5,6,6,6,6,6,6,6,6,6,6,6,6,6,6,6,6,6,6,6,6,6,6,6,6,6,6,6,6,6,6,6,6,7,7,7,7,7,7,7,7,7,7,7,7,7,7,7,7,7,7,7,7,7,7,7,7,7,7,7,7,7,7,7,7,7,7,7,7,7,7,7,7,7,7,7,7,7,7,7,7,7,7,7,7,7,7,7,7,7,7,7,7,7,7,7,7,8,8,8,8,8,8,8,8,8,8,8,8,8,8,8,8,8,8,8,8,8,8,8,8,8,8,8,8,8,8,8,8,8,8,8,8,8,8,8,8,8,8,8,8,8,8,8,8,8,8,8,8,8,8,8,8,8,8,8,8,8,8,8,8,8,8,8,8,8,8,8,8,8,8,8,8,8,8,8,8,8,8,8,8,8,8,8,8,8,8,8,8,8,8,8,8,8,8,8,8,8,8,8,8,8,8,8,8,8,8,8,8,8,8,8,8,8,8,8,8,8,8,8,8,8,8,8,8]⟩)))) (.t 21)),qX 23 (.cvt .i64 (.t 22)),qB 24 .add (.t 19) (.t 23),qM 2 24] none [2]) .ret))))),[(2,none)],false⟩
def ir215:IRF:=⟨[0],(.seq (.region [qV 2 (.c (.p zE0))] none [0]) (.seq (.seq (.region [qM 3 0,qB 4 .lss (.t 3) (qi 10)] none [0,4]) (.seq (.cond (.t 4) (.seq (.region [qM 5 0,qM 6 0,qB 7 .add (.t 6) (qi 1),qX 8 (.slStr (.c (.p (.s (.string ⟨#[48,49,50,51,52,53,54,55,56,57,97,98,99,100,101,102,103,104,105,106,107,108,109,110,111,112,113,114,115,116,117,118,119,120,121,122]⟩)))) (some (.t 5)) (some (.t 7))),qM 2 8] none [2]) .ret) .skip) (qR [0]))) (.seq (.region [qM 9 0,qB 10 .mul (.t 9) (qi 2),qM 11 0,qB 12 .mul (.t 11) (qi 2),qB 13 .add (.t 12) (qi 2),qX 14 (.slStr (.c (.p (.s (.string ⟨#[48,48,48,49,48,50,48,51,48,52,48,53,48,54,48,55,48,56,48,57,49,48,49,49,49,50,49,51,49,52,49,53,49,54,49,55,49,56,49,57,50,48,50,49,50,50,50,51,50,52,50,53,50,54,50,55,50,56,50,57,51,48,51,49,51,50,51,51,51,52,51,53,51,54,51,55,51,56,51,57,52,48,52,49,52,50,52,51,52,52,52,53,52,54,52,55,52,56,52,57,53,48,53,49,53,50,53,51,53,52,53,53,53,54,53,55,53,56,53,57,54,48,54,49,54,50,54,51,54,52,54,53,54,54,54,55,54,56,54,57,55,48,55,49,55,50,55,51,55,52,55,53,55,54,55,55,55,56,55,57,56,48,56,49,56,50,56,51,56,52,56,53,56,54,56,55,56,56,56,57,57,48,57,49,57,50,57,51,57,52,57,53,57,54,57,55,57,56,57,57]⟩)))) (some (.t 10)) (some (.t 13))),qM 2 14] none [2]) .ret))),[(2,none)],false⟩
def ir219_0:IRC:=(.seq (.tidy [1,2,10] []) (.seq (.region [qX 11 (.nxt (.t 10)),qE 12 11 0] none [1,2,10,11,12]) (.seq (.seq (.cond (.t 12) .skip (.seq (qR []) (.exit 0))) (qR [1,2,10,11])) (.block 1 (.seq (.region [qE 13 11 1,qE 14 11 2,qM 7 13,qM 8 14] none [1,2,7,8,10]) (.seq (.region [qM 15 1,qM 16 8,qX 17 (.callv (.t 15) [(.t 16)]),qM 18 2,qX 19 (.eq false .bool (.t 17) (.t 18))] none [1,2,7,10,19]) (.seq (.cond (.t 19) (.seq (.region [qM 20 7,qM 6 20] none [6]) .ret) .skip) (qR [1,2,10]))))))))
def ir219:IRF:=⟨[0,1,2],(.seq (.region [qV 6 (qi 0)] none [0,1,2]) (.seq (.seq (.region [qM 9 0,qX 10 (.rng (.t 9))] none [1,2,10]) (.block 0 (.loop ir219_0))) (.seq (.region [qV 6 (.c (.p (.s (.int .i64 (-1)))))] none [6]) .ret))),[(6,none)],false⟩
def ir220:IRF:=⟨[0,1],(.seq (.region [qV 4 qf] none [0,1]) (.seq (.region [qM 5 0,qX 6 (.len true (.t 5)),qM 7 1,qX 8 (.len true (.t 7)),qB 9 .geq (.t 6) (.t 8),qM 10 9,qM 11 0 (qy 10),qM 12 0 (qy 10),qX 13 (.len true (.t 12)) (qy 10),qM 14 1 (qy 10),qX 15 (.len true (.t 14)) (qy 10),qB 16 .sub (.t 13) (.t 15) (qy 10),qX 17 (.slStr (.t 11) (some (.t 16)) none) (qy 10),qM 18 1 (qy 10),qB 19 .eql (.t 17) (.t 18) (qy 10),qA 20 10 19,qM 4 20] none [4]) .ret)),[(4,none)],false⟩
end Go.Proofs.YtoeblkipfdnnlaaGreatDoor
end
