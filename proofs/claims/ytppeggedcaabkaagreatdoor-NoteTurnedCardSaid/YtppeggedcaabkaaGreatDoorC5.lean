/- What the proof of the claim leans on, part 5 of 5: the value machine, the functions as it has them, their specifications. No condition. -/
import Derived.Test.YtppeggedcaabkaaGreatDoorC4
set_option linter.all false
set_option linter.unnecessarySimpa false
set_option linter.unusedSimpArgs false
set_option linter.unusedVariables false
set_option linter.constructorNameAsVariable false
set_option maxHeartbeats 4000000
section
namespace Go.Proofs.YtppeggedcaabkaaGreatDoor
open Go Go.Sx
def okI (le ri:Bool) (l r:Id):Bool:=(decide (l = .zero)==!le)&&(decide (r = .zero)==!ri)&&!(decide (l = .one)&&decide (r = .one))
def getI:Nat→List Bool→Rd Id
 | _,false::false::x::r=>.ok (if x=true then .one else .zero) r
 | _,false::false::[]=>.bad 6
 | _,[]=>.bad 6
 | _,[_]=>.bad 6
 | 0,_=>.bad 3
 | k+1,y::z::r=>(if (y||!z)=true then getI k r else .ok .zero r).then fun i r=>(if (!y||z)=true then getI k r else .ok .zero r).then fun j r=>if okI (y||!z) (!y||z) i j=true then .ok (.node i j) r else .bad 6
theorem eW (k:Nat) (y z:Bool) (r:List Bool) (h : ¬(y=false∧z=false)):getI (k+1) (y::z::r)=(if (y||!z)=true then getI k r else .ok .zero r).then fun i r=>(if (!y||z)=true then getI k r else .ok .zero r).then fun j r=>if okI (y||!z) (!y||z) i j=true then .ok (.node i j) r else .bad 6:=by
 cases y<;>cases z
 ·exact absurd ⟨rfl,rfl⟩ h
 all_goals (cases r<;>rfl)
theorem nA (y z:Bool) (r:List Bool) (h : ¬(y=false∧z=false)):getI 0 (y::z::r) = .bad 3:=by
 cases y<;>cases z
 ·exact absurd ⟨rfl,rfl⟩ h
 all_goals (cases r<;>rfl)
theorem gi : ∀ (k:Nat) (b:List Bool) (x:Id) (r:List Bool),getI k b = .ok x r→x.depth≤k∧r <:+ b
 | k,[],x,r,h=>by cases k<;>cases h
 | k,[y],x,r,h=>by cases k<;>cases y<;>cases h
 | k,y::z::s,x,r,h=>by
  by_cases hyz:y=false∧z=false
  ·obtain ⟨rfl,rfl⟩:=hyz
   cases s with
   | nil=>cases k<;>cases h
   | cons w s=>
    have h':Rd.ok (if w=true then Id.one else .zero) s = .ok x r:=by cases k<;>exact h
    cases h'
    exact ⟨by cases w<;>exact Nat.zero_le _,(List.suffix_cons _ _).trans ((List.suffix_cons _ _).trans (List.suffix_cons _ _))⟩
  ·cases k with
   | zero=>rw [nA _ _ _ hyz] at h;cases h
   | succ k=>
    rw [eW _ _ _ _ hyz] at h
    obtain ⟨i,s1,h3,h4⟩:=Rd.then_ok h
    obtain ⟨j,s2,h5,h6⟩:=Rd.then_ok h4
    have key : ∀ (c:Bool) (s:List Bool) (y:Id) (s':List Bool),(if c=true then getI k s else Rd.ok .zero s) = .ok y s'→y.depth≤k∧s' <:+ s:=by
     intro c s y s' hq
     cases c with
     | true=>exact gi k s y s' hq
     | false=>cases hq;exact ⟨Nat.zero_le _,List.suffix_refl _⟩
    have e2:=key _ _ _ _ h3
    have e3:=key _ _ _ _ h5
    split at h6
    ·cases h6
     refine ⟨?_,e3.2.trans (e2.2.trans ((List.suffix_cons _ _).trans (List.suffix_cons _ _)))⟩
     simp only [Id.depth]
     omega
    ·cases h6
theorem dB : ∀ (k:Nat) (b:List Bool) (c:Int),getI k b = .bad c→c≠0
 | k,[],c,h=>by cases k<;>cases h<;>decide
 | k,[y],c,h=>by cases k<;>cases y<;>cases h<;>decide
 | k,y::z::s,c,h=>by
  by_cases hyz:y=false∧z=false
  ·obtain ⟨rfl,rfl⟩:=hyz
   cases s with
   | nil=>cases k<;>cases h<;>decide
   | cons w s=>cases k<;>cases h
  ·cases k with
   | zero=>rw [nA _ _ _ hyz] at h;cases h;decide
   | succ k=>
    rw [eW _ _ _ _ hyz] at h
    have key : ∀ (q:Bool) (s:List Bool),(if q=true then getI k s else Rd.ok .zero s) = .bad c→c≠0:=by
     intro q s hq
     cases q with
     | true=>exact dB k s c hq
     | false=>cases hq
    rcases Rd.then_bad h with h|⟨l,s2,h3,h4⟩
    ·exact key _ _ h
    ·rcases Rd.then_bad h4 with h|⟨rr,s3,h5,h6⟩
     ·exact key _ _ h
     ·split at h6
      ·cases h6
      ·cases h6;decide
def pairR (l r:Id):Id:=if (Id.pair l r).depth≤16 then Id.pair l r else .zero
theorem cJ (l r:Id):(pairR l r).depth≤16:=by
 unfold pairR
 split
 ·assumption
 ·exact Nat.zero_le _
theorem pair_depth (l r:Id):(Id.pair l r).depth≤1+Max.max l.depth r.depth:=by
 unfold Id.pair
 split
 ·exact Nat.zero_le _
 ·split
  ·exact Nat.zero_le _
  ·exact Nat.le_refl _
theorem iV (l r:Id) (hl:l.depth≤16) (hr:r.depth≤16) (H:Heap) (nx:Nat):Ω 67 [.p l.pv,.p r.pv] H nx=some (.tuple [.p (pairR l r).pv,.int .i64 (if (Id.pair l r).depth≤16 then 0 else 3)],[],[]):=by
 rw [vH l r (by have:=pair_depth l r;omega)]
 unfold pairR
 split<;>rfl
abbrev cI (i:Id):Ob:=some (.cells [.bool i.all,.p i.ptr])
noncomputable abbrev TI (fl:Bool) (P:List UInt8) (x1:Ob) (d kind:Int) (N:Nat) (e se:Int):Option (LV × List (Ob)):=
 bindK (bindK (run ⟨Ω,noG,hpL [so 0,x1],2⟩ (rsC 5 ir211.body) ⟨[(0,.ref 0 0),(1,.int .i64 d),(4,.ref 2 0),(5,.ref 3 0),(6,.ref 4 0),(7,.int .u64 kind)],⟨[(1,brn fl P N e),(0,so se)],[some (.cells [.bool false,.p (.s (.pointer none))]),cI .zero,cI .zero]⟩⟩) (finK ir211 (hpL [so 0,x1]) 2)) (outW [so 0,x1])
section
variable (fl:Bool) (P:List UInt8) (x1:Ob) (d:Int) (N:Nat) (hw:IntKind.i64.wrap (d+1)=d+1)
theorem w7 (kind:Int) (e se:Int) (h:se≠0):TI fl P x1 d kind N e se=some (.p (pairR .zero .zero).pv,[so se,brn fl P N e]):=by
 unfold TI
 have p:=iV .zero .zero (Nat.zero_le _) (Nat.zero_le _)
 have z:=aK .zero
 have o:=aX .zero
 by_cases h1:kind=1<;>by_cases h2:kind=2
 all_goals simp +contextual (maxSteps:=1000000) [ir211,rsC,ssL,↓ssM,ao,List.idxOf?_cons,Go.Sx.LV.undef,Go.undef,Go.Sx.splice,Go.Sx.push,Go.Sx.setObj,Go.Sx.setU,Go.Sx.setAll,Go.Sx.leI_eq,ltF,cu,bd,h,p,z,o,h1,h2]
include hw
theorem tiL (x:Id) (N1:Nat) (hx:x.depth≤16) (hl:Φ 211 [.ref 0 0,.int .i64 (d+1)] [so 0,brn fl P N 0]=some (.p x.pv,[so 0,brn fl P N1 0])):
  TI fl P x1 d 2 N 0 0=some (.p (pairR x .zero).pv,[so (if okI true false x .zero=true then 0 else 6),brn fl P N1 0]):=by
 unfold TI
 have p:=iV x .zero hx (Nat.zero_le _)
 have z:=aK .zero
 have o:=aX .zero
 have zx:=aK x
 have ox:=aX x
 have hok:okI true false x .zero=!decide (x = .zero):=by unfold okI;cases x<;>simp
 rw [hok]
 simp +contextual (maxSteps:=1000000) [ir211,rsC,ssL,↓ssM,ao,List.idxOf?_cons,Go.Sx.LV.undef,Go.undef,Go.Sx.splice,Go.Sx.push,Go.Sx.setObj,Go.Sx.setU,Go.Sx.setAll,Go.Sx.leI_eq,ltF,dG,cu,bd,p,z,o,zx,ox,hl,hw]
theorem tiR (y:Id) (N2:Nat) (hy:y.depth≤16) (hr:Φ 211 [.ref 0 0,.int .i64 (d+1)] [so 0,brn fl P N 0]=some (.p y.pv,[so 0,brn fl P N2 0])):
  TI fl P x1 d 1 N 0 0=some (.p (pairR .zero y).pv,[so (if okI false true .zero y=true then 0 else 6),brn fl P N2 0]):=by
 unfold TI
 have p:=iV .zero y (Nat.zero_le _) hy
 have z:=aK .zero
 have o:=aX .zero
 have zy:=aK y
 have oy:=aX y
 have hok:okI false true .zero y=!decide (y = .zero):=by unfold okI;cases y<;>simp
 rw [hok]
 simp +contextual (maxSteps:=1000000) [ir211,rsC,ssL,↓ssM,ao,List.idxOf?_cons,Go.Sx.LV.undef,Go.undef,Go.Sx.splice,Go.Sx.push,Go.Sx.setObj,Go.Sx.setU,Go.Sx.setAll,Go.Sx.leI_eq,ltF,dG,cu,bd,p,z,o,zy,oy,hr,hw]
theorem tiB (x y:Id) (N1 N2:Nat) (hx:x.depth≤16) (hy:y.depth≤16) (hl:Φ 211 [.ref 0 0,.int .i64 (d+1)] [so 0,brn fl P N 0]=some (.p x.pv,[so 0,brn fl P N1 0]))
  (hr:Φ 211 [.ref 0 0,.int .i64 (d+1)] [so 0,brn fl P N1 0]=some (.p y.pv,[so 0,brn fl P N2 0])):
  TI fl P x1 d 3 N 0 0=some (.p (pairR x y).pv,[so (if okI true true x y=true then 0 else 6),brn fl P N2 0]):=by
 unfold TI
 have p:=iV x y hx hy
 have zx:=aK x
 have ox:=aX x
 have zy:=aK y
 have oy:=aX y
 have hok:okI true true x y=(!decide (x = .zero)&&!decide (y = .zero)&&!(decide (x = .one)&&decide (y = .one))):=by unfold okI;simp
 rw [hok]
 simp +contextual (maxSteps:=1000000) [ir211,rsC,ssL,↓ssM,ao,List.idxOf?_cons,Go.Sx.LV.undef,Go.undef,Go.Sx.splice,Go.Sx.push,Go.Sx.setObj,Go.Sx.setU,Go.Sx.setAll,Go.Sx.leI_eq,ltF,dG,cu,bd,p,zx,ox,zy,oy,hl,hr,hw]
theorem w8 (kind:Int) (hk:kind=2∨kind=3) (x:Id) (hx:x.depth≤16) (c:Int) (n:Nat) (e:Int) (hc:c≠0) (hl:Φ 211 [.ref 0 0,.int .i64 (d+1)] [so 0,brn fl P N 0]=some (.p x.pv,[so c,brn fl P n e])):
  TI fl P x1 d kind N 0 0=some (.p (pairR x .zero).pv,[so c,brn fl P n e]):=by
 unfold TI
 have p:=iV x .zero hx (Nat.zero_le _)
 have z:=aK .zero
 have o:=aX .zero
 have zx:=aK x
 have ox:=aX x
 rcases hk with rfl|rfl
 all_goals simp +contextual (maxSteps:=1000000) [ir211,rsC,ssL,↓ssM,ao,List.idxOf?_cons,Go.Sx.LV.undef,Go.undef,Go.Sx.splice,Go.Sx.push,Go.Sx.setObj,Go.Sx.setU,Go.Sx.setAll,Go.Sx.leI_eq,ltF,dG,cu,bd,p,z,o,zx,ox,hl,hw,hc]
theorem w9 (x y:Id) (N1:Nat) (hx:x.depth≤16) (hy:y.depth≤16) (c:Int) (n:Nat) (e:Int) (hc:c≠0) (hl:Φ 211 [.ref 0 0,.int .i64 (d+1)] [so 0,brn fl P N 0]=some (.p x.pv,[so 0,brn fl P N1 0]))
  (hr:Φ 211 [.ref 0 0,.int .i64 (d+1)] [so 0,brn fl P N1 0]=some (.p y.pv,[so c,brn fl P n e])):
  TI fl P x1 d 3 N 0 0=some (.p (pairR x y).pv,[so c,brn fl P n e]):=by
 unfold TI
 have p:=iV x y hx hy
 have zx:=aK x
 have ox:=aX x
 have zy:=aK y
 have oy:=aX y
 simp +contextual (maxSteps:=1000000) [ir211,rsC,ssL,↓ssM,ao,List.idxOf?_cons,Go.Sx.LV.undef,Go.undef,Go.Sx.splice,Go.Sx.push,Go.Sx.setObj,Go.Sx.setU,Go.Sx.setAll,Go.Sx.leI_eq,ltF,dG,cu,bd,p,zx,ox,zy,oy,hl,hr,hw,hc]
theorem vB (y:Id) (hy:y.depth≤16) (c:Int) (n:Nat) (e:Int) (hc:c≠0) (hr:Φ 211 [.ref 0 0,.int .i64 (d+1)] [so 0,brn fl P N 0]=some (.p y.pv,[so c,brn fl P n e])):
  TI fl P x1 d 1 N 0 0=some (.p (pairR .zero y).pv,[so c,brn fl P n e]):=by
 unfold TI
 have p:=iV .zero y (Nat.zero_le _) hy
 have z:=aK .zero
 have o:=aX .zero
 have zy:=aK y
 have oy:=aX y
 simp +contextual (maxSteps:=1000000) [ir211,rsC,ssL,↓ssM,ao,List.idxOf?_cons,Go.Sx.LV.undef,Go.undef,Go.Sx.splice,Go.Sx.push,Go.Sx.setObj,Go.Sx.setU,Go.Sx.setAll,Go.Sx.leI_eq,ltF,dG,cu,bd,p,z,o,zy,oy,hr,hw,hc]
end
def ISpec (fl:Bool) (P:List UInt8) (d:Int) (b:List Bool):Rd Id→Prop
 | .ok x r=>Φ 211 [.ref 0 0,.int .i64 d] [so 0,brn fl P (8*P.length-b.length) 0]=some (.p x.pv,[so 0,brn fl P (8*P.length-r.length) 0])
 | .bad c=>∃ (x:Id) (n:Nat) (e:Int),x.depth≤16∧Φ 211 [.ref 0 0,.int .i64 d] [so 0,brn fl P (8*P.length-b.length) 0]=some (.p x.pv,[so c,brn fl P n e])
theorem o7 {fl:Bool} {P:List UInt8} (h28:P.length<2^28) {b:List Bool} (hb:b <:+ bitsB P) (d:Int) (h2:b.length<2):ISpec fl P d b (.bad 6):=by
 have g1:=fT fl P 2 b h28 (by decide) hb h2
 simp only [Int.cast_ofNat_Int] at g1
 refine ⟨.zero,8*P.length-b.length,6,by decide,?_⟩
 generalize 8*P.length-b.length=N at*
 refine aH (ir:=ir211) (by kernel_rfl) ?_;simp +contextual (maxSteps:=1000000) [ir211,ssL,↓ssM,ao,List.idxOf?_cons,Go.Sx.LV.undef,Go.undef,Go.Sx.splice,Go.Sx.push,Go.Sx.setObj,Go.Sx.setU,Go.Sx.setAll,Go.Sx.leI_eq,ltF,g1,fU,cC,jk]
theorem vS {fl:Bool} {P:List UInt8} (h28:P.length<2^28) : ∀ (k:Nat) (b:List Bool),k≤16→b <:+ bitsB P→ISpec fl P (16-k:Nat) b (getI k b)
 | k,[],hk,hb=>by
  have e:getI k [] = .bad 6:=by cases k<;>rfl
  rw [e];exact o7 h28 hb _ (by decide)
 | k,[y],hk,hb=>by
  have e:getI k [y] = .bad 6:=by cases k<;>cases y<;>rfl
  rw [e];exact o7 h28 hb _ (by simp)
 | k,y::z::r,hk,hb=>by
  have hr:r <:+ bitsB P:=((List.suffix_cons _ _).trans (List.suffix_cons _ _)).trans hb
  have g1:=cY fl P 2 (y::z::r) (2*y.toNat+z.toNat) r h28 (by decide) hb (by simp [wGet,bvA])
  simp only [Int.cast_ofNat_Int] at g1
  by_cases hyz:y=false∧z=false
  ·obtain ⟨rfl,rfl⟩:=hyz
   simp only [Bool.toNat_false,Nat.mul_zero,Nat.add_zero,Int.natCast_zero] at g1
   cases r with
   | nil=>
    have e:getI k [false,false] = .bad 6:=by cases k<;>rfl
    have g2:=fT fl P 1 [] h28 (by decide) hr (by decide)
    simp only [Int.natCast_one] at g2
    rw [e]
    refine ⟨.zero,8*P.length-([]:List Bool).length,6,by decide,?_⟩
    generalize 8*P.length - [false,false].length=N at*
    generalize 8*P.length-([]:List Bool).length=N1 at*
    refine aH (ir:=ir211) (by kernel_rfl) ?_;simp +contextual (maxSteps:=1000000) [ir211,ssL,↓ssM,ao,List.idxOf?_cons,Go.Sx.LV.undef,Go.undef,Go.Sx.splice,Go.Sx.push,Go.Sx.setObj,Go.Sx.setU,Go.Sx.setAll,Go.Sx.leI_eq,ltF,g1,g2,cC,jk]
   | cons x r=>
    have e:getI k (false::false::x::r) = .ok (if x=true then .one else .zero) r:=by cases k<;>rfl
    have g2:=cY fl P 1 (x::r) x.toNat r h28 (by decide) hr (cj x r)
    simp only [Int.natCast_one] at g2
    rw [e]
    unfold ISpec
    simp only []
    generalize 8*P.length-(false::false::x::r).length=N at*
    generalize 8*P.length-(x::r).length=N1 at*
    generalize 8*P.length-r.length=N2 at*
    cases x
    all_goals
    simp only [Bool.toNat_false,Bool.toNat_true,Int.natCast_zero,Int.natCast_one,Bool.false_eq_true,if_false,if_true] at g2 ⊢
    refine aH (ir:=ir211) (by kernel_rfl) ?_;simp +contextual (maxSteps:=1000000) [ir211,ssL,↓ssM,ao,List.idxOf?_cons,Go.Sx.LV.undef,Go.undef,Go.Sx.splice,Go.Sx.push,Go.Sx.setObj,Go.Sx.setU,Go.Sx.setAll,Go.Sx.leI_eq,ltF,g1,g2,cC,jk]
  ·have hkind:2*y.toNat+z.toNat≠0:=by
    intro h;apply hyz;cases y<;>cases z<;>first|exact ⟨rfl,rfl⟩|(simp at h)
   cases k with
   | zero=>
    rw [nA _ _ _ hyz]
    refine ⟨_,_,_,cJ .zero .zero,tY 5 (ir:=ir211) (by kernel_rfl) rfl ?_ (w7 fl P _ 16 (8*P.length-r.length) (2*y.toNat+z.toNat:Nat) 0 3 (by decide))⟩
    generalize 8*P.length-(y::z::r).length=N at*
    generalize 8*P.length-r.length=N1 at*
    generalize 2*y.toNat+z.toNat=kk at*
    simp +contextual (maxSteps:=1000000) [ir211,tkC,ssL,↓ssM,ao,List.idxOf?_cons,Go.Sx.LV.undef,Go.undef,Go.Sx.splice,Go.Sx.push,Go.Sx.setObj,Go.Sx.setU,Go.Sx.setAll,Go.Sx.leI_eq,ltF,g1,bq,hkind,cC]
   | succ k=>
    rw [eW _ _ _ _ hyz]
    have hd:((16-(k+1):Nat):Int)≠16:=by omega
    have hw:IntKind.i64.wrap (((16-(k+1):Nat):Int)+1)=((16-(k+1):Nat):Int)+1:=am _ (by omega) (by omega)
    have hd1:((16-k:Nat):Int)=((16-(k+1):Nat):Int)+1:=by omega
    have ih:=fun (b:List Bool) (hb:b <:+ bitsB P)=>vS (fl:=fl) h28 k b (by omega) hb
    rw [hd1] at ih
    generalize ((16-(k+1):Nat):Int)=d at*
    have go : ∀ x,TI fl P (brn fl P (8*P.length-(y::z::r).length) 0) d (2*y.toNat+z.toNat:Nat) (8*P.length-r.length) 0 0=some x→Φ 211 [.ref 0 0,.int .i64 d] [so 0,brn fl P (8*P.length-(y::z::r).length) 0]=some x:=by
     intro x hT
     refine tY 5 (ir:=ir211) (by kernel_rfl) rfl ?_ hT
     clear hT ih hw
     generalize 8*P.length-(y::z::r).length=N at*
     generalize 8*P.length-r.length=N1 at*
     generalize 2*y.toNat+z.toNat=kk at*
     simp +contextual (maxSteps:=1000000) [ir211,tkC,ssL,↓ssM,ao,List.idxOf?_cons,Go.Sx.LV.undef,Go.undef,Go.Sx.splice,Go.Sx.push,Go.Sx.setObj,Go.Sx.setU,Go.Sx.setAll,Go.Sx.leI_eq,ltF,g1,bq,hkind,cC,hd]
    clear g1
    have h16 : ∀ (s:List Bool) (x:Id) (t:List Bool),getI k s = .ok x t→x.depth≤16∧t <:+ s∧x.depth≤k:=fun s x t h=>⟨by have:=(gi _ _ _ _ h).1;omega,(gi _ _ _ _ h).2,(gi _ _ _ _ h).1⟩
    have hp : ∀ (le ri:Bool) (i j:Id),(le=true∨ri=true)→okI le ri i j=true→i.depth≤k→j.depth≤k→pairR i j = .node i j:=by
     intro le ri i j hlr hok di dj
     have hpr:Id.pair i j = .node i j:=by
      unfold okI at hok
      simp only [Bool.and_eq_true,beq_iff_eq,Bool.not_eq_true',Bool.and_eq_false_iff,decide_eq_false_iff_not] at hok
      unfold Id.pair
      rw [if_neg (fun h=>by
       rcases hlr with h1|h1
       ·have:=hok.1.1;rw [h1,h.1] at this;simp at this
       ·have:=hok.1.2;rw [h1,h.2] at this;simp at this),if_neg (fun h=>by rcases hok.2 with h2|h2;exact h2 h.1;exact h2 h.2)]
     unfold pairR
     rw [hpr,if_pos (by simp only [Id.depth];omega)]
    have fin : ∀ (le ri:Bool) (i j:Id) (t:List Bool),(le=true∨ri=true)→i.depth≤k→j.depth≤k →
      Φ 211 [.ref 0 0,.int .i64 d] [so 0,brn fl P (8*P.length-(y::z::r).length) 0]=some (.p (pairR i j).pv,[so (if okI le ri i j=true then 0 else 6),brn fl P (8*P.length-t.length) 0]) →
      ISpec fl P d (y::z::r) (if okI le ri i j=true then .ok (.node i j) t else .bad 6):=by
     intro le ri i j t hlr di dj h
     by_cases hok:okI le ri i j=true
     ·rw [if_pos hok] at h ⊢
      rw [hp le ri i j hlr hok di dj] at h
      exact h
     ·rw [if_neg hok] at h ⊢
      exact ⟨_,_,_,cJ i j,h⟩
    have z0:(Id.zero).depth≤16:=by decide
    cases y with
    | true=>
     have hx:=ih r hr
     simp only [Bool.true_or,if_true]
     cases hgx:getI k r with
     | bad c=>
      rw [hgx] at hx
      obtain ⟨x,n,e,dx,hx⟩:=hx
      exact ⟨_,_,_,cJ _ _,go _ (w8 fl P _ d _ hw _ (by cases z;exact .inl rfl;exact .inr rfl) x dx c n e (dB _ _ _ hgx) hx)⟩
     | ok x t=>
      rw [hgx] at hx
      obtain ⟨dx,tx,dxk⟩:=h16 _ _ _ hgx
      cases z with
      | true=>
       have hy:=ih t (tx.trans hr)
       simp only [Rd.then,Bool.or_true,if_true]
       cases hgy:getI k t with
       | bad c=>
        rw [hgy] at hy
        obtain ⟨y,n,e,dy,hy⟩:=hy
        exact ⟨_,_,_,cJ _ _,go _ (w9 fl P _ d _ hw x y _ dx dy c n e (dB _ _ _ hgy) hx hy)⟩
       | ok y u=>
        rw [hgy] at hy
        obtain ⟨dy,uy,dyk⟩:=h16 _ _ _ hgy
        exact fin true true x y u (.inl rfl) dxk dyk (go _ (tiB fl P _ d _ hw x y _ _ dx dy hx hy))
      | false=>exact fin true false x .zero t (.inl rfl) dxk (Nat.zero_le _) (go _ (tiL fl P _ d _ hw x _ dx hx))
    | false=>
     obtain rfl:z=true:=by cases z;exact absurd ⟨rfl,rfl⟩ hyz;rfl
     have hy:=ih r hr
     simp only [Bool.false_or,Bool.not_true,Bool.false_eq_true,if_false,Rd.then,Bool.or_true,if_true]
     cases hgy:getI k r with
     | bad c=>
      rw [hgy] at hy
      obtain ⟨y,n,e,dy,hy⟩:=hy
      exact ⟨_,_,_,cJ _ _,go _ (vB fl P _ d _ hw y dy c n e (dB _ _ _ hgy) hy)⟩
     | ok y u=>
      rw [hgy] at hy
      obtain ⟨dy,uy,dyk⟩:=h16 _ _ _ hgy
      exact fin false true .zero y u (.inr rfl) (Nat.zero_le _) dyk (go _ (tiR fl P _ d _ hw y _ dy hy))
end Go.Proofs.YtppeggedcaabkaaGreatDoor
end

section
namespace Go.Proofs.YtppeggedcaabkaaGreatDoor
open Go Go.Sx
def bits8 (b:UInt8):List Bool:=(List.range 8).map fun i=>b.toNat/2^(7-i)%2==1
theorem ng (b:UInt8) (p:List UInt8):bitsB (b::p)=bits8 b++bitsB p:=by
 unfold bitsB bits8
 rw [List.length_cons,show 8*(p.length+1)=8+8*p.length by omega,List.range_add,List.map_append,List.map_map]
 congr 1
 apply List.map_congr_left
 intro i hi
 simp only [Function.comp,bitN]
 rw [show (8+i)/8=i/8+1 by omega,show (8+i)%8=i%8 by omega,List.getD_cons_succ]
set_option maxRecDepth 100000 in
theorem rL : ∀ l:List Bool,l.length≤8→bits8 (UInt8.ofNat (valL 0 l*2^(8-l.length)))=l++List.replicate (8-l.length) false
 | [],_=>by decide
 | [a],_=>by revert a;decide
 | [a,b],_=>by revert a b;decide
 | [a,b,c],_=>by revert a b c;decide
 | [a,b,c,d],_=>by revert a b c d;decide
 | [a,b,c,d,e],_=>by revert a b c d e;decide
 | [a,b,c,d,e,f],_=>by revert a b c d e f;decide
 | [a,b,c,d,e,f,g],_=>by revert a b c d e f g;decide
 | [a,b,c,d,e,f,g,h],_=>by revert a b c d e f g h;decide
 | _::_::_::_::_::_::_::_::_::_,h=>by simp at h
theorem j6 : ∀ f,packL f []=[]
 | 0=>rfl
 | f+1=>by rw [packL,if_pos rfl]
theorem ib : ∀ (f:Nat) (l:List Bool),l.length≤8*f→∃ k,k<8∧bitsB (packL f l)=l++List.replicate k false
 | 0,l,h=>by
  obtain rfl:l=[]:=List.eq_nil_of_length_eq_zero (by omega)
  exact ⟨0,by decide,rfl⟩
 | f+1,l,h=>by
  by_cases hl:l=[]
  ·subst hl
   exact ⟨0,by decide,by rw [j6];rfl⟩
  have hpos:0<l.length:=List.length_pos_iff.2 hl
  rw [packL,if_neg hl]
  have hb:=rL (l.take 8) (by rw [List.length_take];omega)
  rw [ng,hb]
  by_cases h8:l.length<8
  ·rw [List.drop_of_length_le (by omega),j6,List.take_of_length_le (by omega)]
   exact ⟨8-l.length,by omega,by rw [show bitsB []=[] from rfl,List.append_nil]⟩
  ·obtain ⟨k,hk,e⟩:=ib f (l.drop 8) (by rw [List.length_drop];omega)
   refine ⟨k,hk,?_⟩
   have e8:8-(l.take 8).length=0:=by rw [List.length_take];omega
   rw [e,e8,List.replicate_zero,List.append_nil,←List.append_assoc,List.take_append_drop]
theorem fB (l:List Bool) : ∃ k,k<8∧bitsB (pack l)=l++List.replicate k false:=by
 have h:=fX (l.length+1) [] l (by omega)
 have e:pack l=packL (l.length+1) l:=by simpa [pack] using h
 rw [e]
 exact ib _ _ (by omega)
theorem i5 : ∀ (k x v:Nat),bvA v (bitsOf x k)=v*2^k+x%2^k
 | 0,x,v=>by simp [bitsOf,bvA,Nat.mod_one]
 | k+1,x,v=>by
  rw [bitsOf,bvA,i5 k x,Nat.mod_pow_succ,Nat.pow_succ,Nat.testBit_eq_decide_div_mod_eq]
  have hb:x/2^k%2<2:=Nat.mod_lt _ (by decide)
  generalize x/2^k%2=b at*
  generalize x%2^k=r
  generalize 2^k=P
  rcases (by omega:b=0∨b=1) with rfl|rfl
  ·simp [Nat.mul_comm,Nat.mul_left_comm,Nat.mul_assoc]
  ·have e:(2*v+1)*P=v*(P*2)+P:=by rw [Nat.add_mul,Nat.one_mul,Nat.mul_comm 2 v,Nat.mul_assoc,Nat.mul_comm 2 P]
   simp;omega
theorem pn (w base v:Nat) (r:List Bool) (h:v<2^w) (h2:base+v<2^64):numF w base (bitsOf v w++r)=some (base+v,r):=by
 unfold numF
 have e1:(bitsOf v w++r).take w=bitsOf v w:=by rw [List.take_append_of_le_length (by rw [aj];exact Nat.le_refl _),List.take_of_length_le (by rw [aj];exact Nat.le_refl _)]
 have e2:(bitsOf v w++r).drop w=r:=by rw [List.drop_append_of_le_length (by rw [aj];exact Nat.le_refl _),List.drop_of_length_le (by rw [aj];exact Nat.le_refl _)];rfl
 rw [e1,e2,i5,Nat.zero_mul,Nat.zero_add,Nat.mod_eq_of_lt h,if_neg (by rw [List.length_append,aj];omega),if_neg (by omega)]
theorem pq : ∀ (m w base v:Nat) (r:List Bool),m+w=64→base+v<2^64→2^w≤base+4→numR m w base (numBits v w m++r)=some (base+v,r)
 | 0,w,base,v,r,hm,hv,hb=>by
  rw [numBits,List.cons_append,numR]
  exact pn w base v r (by have hw:w=64:=(by omega);subst hw;omega) hv
 | m+1,w,base,v,r,hm,hv,hb=>by
  rw [numBits]
  have hp:0<2^w:=Nat.two_pow_pos w
  have hs:0<v >>> w↔2^w≤v:=by
   rw [Nat.shiftRight_eq_div_pow]
   exact Nat.div_pos_iff.trans ⟨fun h=>h.2,fun h=>⟨hp,h⟩⟩
  by_cases h:0<v >>> w
  ·have h':=hs.1 h
   rw [if_pos h,List.cons_append,numR,pq m (w+1) (base+2^w) (v-2^w) r (by omega) (by omega) (by rw [Nat.pow_succ];omega)]
   congr 2
   omega
  ·have h':v<2^w:=by
    have:=mt hs.2 h
    omega
   rw [if_neg h,List.cons_append,numR]
   exact pn w base v r h' hv
theorem j0 (v:Nat) (h:v≤2^20) (r:List Bool):getN20 (numBits v 2 62++r) = .ok v r:=by
 unfold getN20
 rw [pq 62 2 0 v r rfl (by omega) (by decide),Nat.zero_add]
 exact if_pos h
theorem kw : ∀ (e:Ev) (k:Nat) (r:List Bool),e.norm→e.max≤2^20→e.depth≤k→getE k (evBits e++r) = .ok e r
 | .leaf n,k,r,hn,hm,hd=>by
  have e:evBits (.leaf n)++r=true::(numBits n 2 62++r):=by rw [evBits,List.append_assoc];rfl
  have e2:getE k (true::(numBits n 2 62++r))=(getN20 (numBits n 2 62++r)).then fun v r=>.ok (.leaf v) r:=by cases k<;>rfl
  rw [e,e2,j0 n hm]
  rfl
 | .node n x y,0,r,hn,hm,hd=>by simp only [Ev.depth] at hd;omega
 | .node n x y,k+1,r,hn,hm,hd=>by
  have dx:x.depth≤k:=by simp only [Ev.depth] at hd;omega
  have dy:y.depth≤k:=by simp only [Ev.depth] at hd;omega
  have mx:x.max≤2^20:=by have:=Ev.max_l n x y;omega
  have my:y.max≤2^20:=by have:=Ev.max_r n x y;omega
  have mn:n≤2^20:=by simp only [Ev.max] at hm;omega
  obtain ⟨nx,ny,h0,hs⟩:=hn
  have ix:=fun r=>kw x k r nx mx dx
  have iy:=fun r=>kw y k r ny my dy
  have hxy : ¬(x = .leaf 0∧y = .leaf 0):=by
   rintro ⟨rfl,rfl⟩
   exact hs ⟨rfl,rfl,rfl⟩
  have hh : ∀ s,hdE (evKind n (decide (x = .leaf 0)) (decide (y = .leaf 0))++((if n=0 then [] else numBits n 2 62)++s)) = .ok (!decide (x = .leaf 0),!decide (y = .leaf 0),n) s:=by
   intro s
   unfold evKind
   by_cases hn0:n=0
   ·subst hn0
    by_cases h1:x = .leaf 0
    ·have h2 : ¬y = .leaf 0:=fun h=>hxy ⟨h1,h⟩
     simp [h1,h2,bitsOf,hdE]
    ·by_cases h2:y = .leaf 0<;>simp [h1,h2,bitsOf,hdE,Nat.testBit]
   ·have g:=j0 n mn s
    by_cases h1:x = .leaf 0
    ·have h2 : ¬y = .leaf 0:=fun h=>hxy ⟨h1,h⟩
     simp [h1,h2,bitsOf,hdE,hn0,Nat.testBit,g,Rd.then]
    ·by_cases h2:y = .leaf 0<;>simp [h1,h2,bitsOf,hdE,hn0,Nat.testBit,g,Rd.then]
  have eb:evBits (.node n x y)++r=false::(evKind n (decide (x = .leaf 0)) (decide (y = .leaf 0))++((if n=0 then [] else numBits n 2 62)++((if x = .leaf 0 then [] else evBits x)++((if y = .leaf 0 then [] else evBits y)++r)))):=by
   rw [evBits]
   simp only [List.append_assoc]
   rfl
  have ok:okE (!decide (x = .leaf 0)) (!decide (y = .leaf 0)) x y=true:=by
   unfold okE
   simp only [Bool.and_eq_true,Bool.not_not,beq_self_eq_true,true_and,Bool.not_eq_true',decide_eq_true_eq]
   refine ⟨by omega,?_⟩
   simpa using fun h1 h2 h3=>hs ⟨h1,h2,h3⟩
  rw [eb,getE,hh]
  simp only [Rd.then]
  by_cases h1:x = .leaf 0
  ·have h2 : ¬y = .leaf 0:=fun h=>hxy ⟨h1,h⟩
   simp only [h1,h2,decide_true,decide_false,Bool.not_true,Bool.not_false,Bool.false_eq_true,if_false,if_true,List.nil_append] at ok ⊢
   rw [iy]
   simp only [ok,if_true]
   rw [if_pos (by rw [←h1];exact hm)]
  ·simp only [h1,decide_false,Bool.not_false,if_true,if_false] at ok ⊢
   rw [ix]
   simp only []
   by_cases h2:y = .leaf 0
   ·simp only [h2,decide_true,Bool.not_true,Bool.false_eq_true,if_false,if_true,List.nil_append] at ok ⊢
    simp only [ok,if_true]
    rw [if_pos (by rw [←h2];exact hm)]
   ·simp only [h2,decide_false,Bool.not_false,if_true,if_false] at ok ⊢
    rw [iy]
    simp only [ok,if_true]
    rw [if_pos hm]
theorem ky : ∀ (i:Id) (k:Nat) (r:List Bool),i.norm→i.depth≤k→getI k (idBits i++r) = .ok i r
 | .zero,k,r,hn,hd=>by cases k<;>rfl
 | .one,k,r,hn,hd=>by cases k<;>rfl
 | .node x y,0,r,hn,hd=>by simp only [Id.depth] at hd;omega
 | .node x y,k+1,r,hn,hd=>by
  have dx:x.depth≤k:=by simp only [Id.depth] at hd;omega
  have dy:y.depth≤k:=by simp only [Id.depth] at hd;omega
  obtain ⟨nx,ny,h0,h1⟩:=hn
  have ix:=fun r=>ky x k r nx dx
  have iy:=fun r=>ky y k r ny dy
  have ok:okI (!decide (x = .zero)) (!decide (y = .zero)) x y=true:=by
   unfold okI
   simp only [Bool.and_eq_true,Bool.not_not,beq_self_eq_true,true_and,Bool.not_eq_true']
   simpa using fun h2 h3=>h1 ⟨h2,h3⟩
  rw [idBits]
  by_cases hx:x = .zero
  ·have hy : ¬y = .zero:=fun h=>h0 ⟨hx,h⟩
   rw [if_pos hx]
   have e:bitsOf 1 2++idBits y++r=false::true::(idBits y++r):=rfl
   rw [e,eW _ _ _ _ (by simp)]
   simp only [hx,hy,decide_true,decide_false,Bool.not_true,Bool.not_false,Bool.or_true,Bool.or_false,Bool.false_eq_true,if_false,if_true,Rd.then] at ok ⊢
   rw [iy]
   simp only [ok,if_true]
  ·rw [if_neg hx]
   by_cases hy:y = .zero
   ·rw [if_pos hy]
    have e:bitsOf 2 2++idBits x++r=true::false::(idBits x++r):=rfl
    rw [e,eW _ _ _ _ (by simp)]
    simp only [hx,hy,decide_true,decide_false,Bool.not_true,Bool.not_false,Bool.or_true,Bool.or_false,Bool.false_eq_true,if_false,if_true,Rd.then] at ok ⊢
    rw [ix]
    simp only [ok,if_true]
   ·rw [if_neg hy]
    have e:bitsOf 3 2++idBits x++idBits y++r=true::true::(idBits x++(idBits y++r)):=by simp only [List.append_assoc];rfl
    rw [e,eW _ _ _ _ (by simp)]
    simp only [hx,hy,decide_false,Bool.not_true,Bool.not_false,Bool.or_true,Bool.true_or,if_true,Rd.then] at ok ⊢
    rw [ix]
    simp only []
    rw [iy]
    simp only [ok,if_true]
theorem tW (k:Nat) (h:k<8):wEnd (List.replicate k false) 0=0:=by
 unfold wEnd
 rw [if_pos rfl,if_neg]
 simp
 omega
end Go.Proofs.YtppeggedcaabkaaGreatDoor
end

section
namespace Go.Proofs.YtppeggedcaabkaaGreatDoor
open Go Go.Sx
theorem vJ (fl p) (h30:p.length<2^31):Φ 149 [sB fl p] []=some (.ref 0 0,[brn p.isEmpty p 0 0]):=by
 refine aH (ir:=ir149) (by kernel_rfl) ?_;simp +contextual (maxSteps:=1000000) [ir149,ssL,↓ssM,ao,ssU,ssR,oD p fl h30]
section
variable {fl:Bool} {P:List UInt8} (h28:P.length<2^28) {b:List Bool} (hb:b <:+ bitsB P)
include h28 hb
theorem xv:(match getE 16 b with
  | .ok x r=>Φ 150 [.ref 0 0] [br fl P b 0]=some (.tuple [.p x.pv,.int .i64 0],[br fl P r 0])
  | .bad c=>∃ n e,Φ 150 [.ref 0 0] [br fl P b 0]=some (.tuple [.p (Ev.leaf 0).pv,.int .i64 c],[brn fl P n e])):=by
 have g:=vL (fl:=fl) h28 16 b (by decide) hb
 unfold EvSpec at g
 unfold br
 generalize 8*P.length-b.length=N at*
 cases hg:getE 16 b with
 | ok x r=>
  rw [hg] at g
  simp only [Nat.sub_self,Int.natCast_zero,Ev.pv] at g ⊢
  generalize 8*P.length-r.length=N1 at*
  generalize x.ptr=px at*
  generalize x.n=nx at*
  refine aH (ir:=ir150) (by kernel_rfl) ?_;simp +contextual (maxSteps:=1000000) [ir150,ssL,↓ssM,ao,ssU,ssR,g]
 | bad c=>
  have hc:=dA _ _ _ hg
  rw [hg] at g
  obtain ⟨n,e,g⟩:=g
  simp only [Nat.sub_self,Int.natCast_zero,Ev.pv,Ev.n_l,Ev.ptr_l] at g ⊢
  refine ⟨n,e,?_⟩
  refine aH (ir:=ir150) (by kernel_rfl) ?_;simp +contextual (maxSteps:=1000000) [ir150,ssL,↓ssM,ao,ssU,ssR,g,hc]
theorem xz:(match getI 16 b with
  | .ok x r=>Φ 180 [.ref 0 0] [br fl P b 0]=some (.tuple [.p x.pv,.int .i64 0],[br fl P r 0])
  | .bad c=>∃ n e,Φ 180 [.ref 0 0] [br fl P b 0]=some (.tuple [.p Id.zero.pv,.int .i64 c],[brn fl P n e])):=by
 have g:=vS (fl:=fl) h28 16 b (by decide) hb
 unfold ISpec at g
 unfold br
 generalize 8*P.length-b.length=N at*
 cases hg:getI 16 b with
 | ok x r=>
  rw [hg] at g
  simp only [Nat.sub_self,Int.natCast_zero,Id.pv] at g ⊢
  generalize 8*P.length-r.length=N1 at*
  generalize x.ptr=px at*
  generalize x.all=nx at*
  refine aH (ir:=ir180) (by kernel_rfl) ?_;simp +contextual (maxSteps:=1000000) [ir180,ssL,↓ssM,ao,ssU,ssR,g,cC]
 | bad c=>
  have hc:=dB _ _ _ hg
  rw [hg] at g
  obtain ⟨y,n,e,_,g⟩:=g
  simp only [Nat.sub_self,Int.natCast_zero,Id.pv,Id.all_z,Id.ptr_z] at g ⊢
  refine ⟨n,e,?_⟩
  refine aH (ir:=ir180) (by kernel_rfl) ?_;simp +contextual (maxSteps:=1000000) [ir180,ssL,↓ssM,ao,ssU,ssR,g,hc,cC,Id.all_z,Id.ptr_z]
theorem ut (x:PV) (n:Int):Φ 151 [.ref 0 0,.p (.agg [.s (.int .u64 n),x]),.int .i64 0] [br fl P b 0]=if wEnd b 0=0 then some (.tuple [.p (.agg [.s (.int .u64 n),x]),.int .i64 0],[br fl P b 0]) else some (.tuple [.p (Ev.leaf 0).pv,.int .i64 (wEnd b 0)],[br fl P b (wEnd b 0)]):=by
 have g:=vI fl P b 0 h28 hb
 simp only [Ev.pv,Ev.n_l,Ev.ptr_l,Int.natCast_zero]
 unfold br at*
 generalize 8*P.length-b.length=N at*
 by_cases h:wEnd b 0=0
 ·rw [if_pos h];rw [h] at g
  refine aH (ir:=ir151) (by kernel_rfl) ?_;simp +contextual (maxSteps:=1000000) [ir151,ssL,↓ssM,ao,ssU,ssR,g]
 ·rw [if_neg h]
  generalize wEnd b 0=w at*
  refine aH (ir:=ir151) (by kernel_rfl) ?_;simp +contextual (maxSteps:=1000000) [ir151,ssL,↓ssM,ao,ssU,ssR,g,h]
theorem uD (x:PV) (n:Bool):Φ 181 [.ref 0 0,.p (.agg [.s (.bool n),x]),.int .i64 0] [br fl P b 0]=if wEnd b 0=0 then some (.tuple [.p (.agg [.s (.bool n),x]),.int .i64 0],[br fl P b 0]) else some (.tuple [.p Id.zero.pv,.int .i64 (wEnd b 0)],[br fl P b (wEnd b 0)]):=by
 have g:=vI fl P b 0 h28 hb
 simp only [Id.pv,Id.all_z,Id.ptr_z]
 unfold br at*
 generalize 8*P.length-b.length=N at*
 by_cases h:wEnd b 0=0
 ·rw [if_pos h];rw [h] at g
  refine aH (ir:=ir181) (by kernel_rfl) ?_;simp +contextual (maxSteps:=1000000) [ir181,ssL,↓ssM,ao,ssU,ssR,g]
 ·rw [if_neg h]
  generalize wEnd b 0=w at*
  refine aH (ir:=ir181) (by kernel_rfl) ?_;simp +contextual (maxSteps:=1000000) [ir181,ssL,↓ssM,ao,ssU,ssR,g,h]
end
theorem si (fl P n e) (x:PV) (v c:Int) (hc:c≠0):Φ 151 [.ref 0 0,.p (.agg [.s (.int .u64 v),x]),.int .i64 c] [brn fl P n e]=some (.tuple [.p (Ev.leaf 0).pv,.int .i64 c],[brn fl P n e]):=by
 refine aH (ir:=ir151) (by kernel_rfl) ?_;simp +contextual (maxSteps:=1000000) [ir151,ssL,↓ssM,ao,ssU,ssR,hc,Ev.n_l,Ev.ptr_l]
theorem sM (fl P n e) (x:PV) (v:Bool) (c:Int) (hc:c≠0):Φ 181 [.ref 0 0,.p (.agg [.s (.bool v),x]),.int .i64 c] [brn fl P n e]=some (.tuple [.p Id.zero.pv,.int .i64 c],[brn fl P n e]):=by
 refine aH (ir:=ir181) (by kernel_rfl) ?_;simp +contextual (maxSteps:=1000000) [ir181,ssL,↓ssM,ao,ssU,ssR,hc,Id.all_z,Id.ptr_z]
def rdE (p:List UInt8):Ev × Int:=match getE 16 (bitsB p) with
 | .ok x r=>if wEnd r 0=0 then (x,0) else (.leaf 0,wEnd r 0)
 | .bad c=>(.leaf 0,c)
def rdI (p:List UInt8):Id × Int:=match getI 16 (bitsB p) with
 | .ok x r=>if wEnd r 0=0 then (x,0) else (.zero,wEnd r 0)
 | .bad c=>(.zero,c)
theorem fg (fl) (p:List UInt8) (h28:p.length<2^28):Ψ 100 [sB fl p] []=some (.tuple [.p (rdE p).1.pv,.int .i64 (rdE p).2]):=by
 have nw:=vJ fl p (by omega)
 have g:=xv (fl:=p.isEmpty) h28 (List.suffix_refl (bitsB p))
 have e0:8*p.length-(bitsB p).length=0:=by rw [dw];omega
 unfold rdE
 unfold br at g
 rw [e0] at g
 simp only [brn,Int.natCast_zero] at g nw
 cases hg:getE 16 (bitsB p) with
 | ok x r=>
  rw [hg] at g
  have hr:=(gh _ _ _ _ hg).2.2.2
  have w:=ut (fl:=p.isEmpty) h28 hr
  unfold br at w
  simp only [Ev.pv,Id.pv] at g ⊢
  generalize 8*p.length-r.length=N1 at*
  by_cases h:wEnd r 0=0
  ·simp only [if_pos h] at w ⊢
   generalize x.ptr=px at*
   generalize x.n=nx at*
   refine bV (ir:=ir100) (by kernel_rfl) ?_;simp +contextual (maxSteps:=1000000) [ir100,ssL,↓ssM,ao,ssU,ssR,nw,g,w]
  ·simp only [if_neg h,Ev.pv,Ev.n_l,Ev.ptr_l,Int.natCast_zero] at w ⊢
   generalize x.ptr=px at*
   generalize x.n=nx at*
   generalize wEnd r 0=ww at*
   refine bV (ir:=ir100) (by kernel_rfl) ?_;simp +contextual (maxSteps:=1000000) [ir100,ssL,↓ssM,ao,ssU,ssR,nw,g,w]
 | bad c=>
  rw [hg] at g
  obtain ⟨n,e,g⟩:=g
  have w:=fun fl P n e x v=>si fl P n e x v c (dA _ _ _ hg)
  simp only [Ev.pv,Ev.n_l,Ev.ptr_l,Int.natCast_zero] at g w ⊢
  refine bV (ir:=ir100) (by kernel_rfl) ?_;simp +contextual (maxSteps:=1000000) [ir100,ssL,↓ssM,ao,ssU,ssR,nw,g,w]
theorem wV (fl) (p:List UInt8) (h28:p.length<2^28):Ψ 148 [sB fl p] []=some (.tuple [.p (rdI p).1.pv,.int .i64 (rdI p).2]):=by
 have nw:=vJ fl p (by omega)
 have g:=xz (fl:=p.isEmpty) h28 (List.suffix_refl (bitsB p))
 have e0:8*p.length-(bitsB p).length=0:=by rw [dw];omega
 unfold rdI
 unfold br at g
 rw [e0] at g
 simp only [brn,Int.natCast_zero] at g nw
 cases hg:getI 16 (bitsB p) with
 | ok x r=>
  rw [hg] at g
  have hr:=(gi _ _ _ _ hg).2
  have w:=uD (fl:=p.isEmpty) h28 hr
  unfold br at w
  simp only [Ev.pv,Id.pv] at g ⊢
  generalize 8*p.length-r.length=N1 at*
  by_cases h:wEnd r 0=0
  ·simp only [if_pos h] at w ⊢
   generalize x.ptr=px at*
   generalize x.all=nx at*
   refine bV (ir:=ir148) (by kernel_rfl) ?_;simp +contextual (maxSteps:=1000000) [ir148,ssL,↓ssM,ao,ssU,ssR,nw,g,w]
  ·simp only [if_neg h,Id.pv,Id.all_z,Id.ptr_z] at w ⊢
   generalize x.ptr=px at*
   generalize x.all=nx at*
   generalize wEnd r 0=ww at*
   refine bV (ir:=ir148) (by kernel_rfl) ?_;simp +contextual (maxSteps:=1000000) [ir148,ssL,↓ssM,ao,ssU,ssR,nw,g,w]
 | bad c=>
  rw [hg] at g
  obtain ⟨n,e,g⟩:=g
  have w:=fun fl P n e x v=>sM fl P n e x v c (dB _ _ _ hg)
  simp only [Id.pv,Id.all_z,Id.ptr_z] at g w ⊢
  refine bV (ir:=ir148) (by kernel_rfl) ?_;simp +contextual (maxSteps:=1000000) [ir148,ssL,↓ssM,ao,ssU,ssR,nw,g,w]
end Go.Proofs.YtppeggedcaabkaaGreatDoor
end

section
namespace Go.Proofs.YtppeggedcaabkaaGreatDoor
open Go Go.Sx
theorem kN (e:Ev) (hn:e.norm) (hm:e.max≤2^20) (hd:e.depth≤16):rdE (pack (evBits e))=(e,0):=by
 obtain ⟨k,hk,h⟩:=fB (evBits e)
 unfold rdE
 rw [h,kw e 16 _ hn hm hd]
 simp only [tW k hk,if_true]
theorem wU (i:Id) (hn:i.norm) (hd:i.depth≤16):rdI (pack (idBits i))=(i,0):=by
 obtain ⟨k,hk,h⟩:=fB (idBits i)
 unfold rdI
 rw [h,ky i 16 _ hn hd]
 simp only [tW k hk,if_true]
theorem pW (n:Nat) (h:n<2^64) (r:List UInt8):wNum (vnum n++r) 0=(n,r,0):=by
 unfold wNum
 rw [if_pos rfl,vq n h]
theorem tX (most:Nat) (s r:List UInt8) (h:s.length≤most) (hm:most<2^31):wText most (txt s++r) 0=(s,r,0):=by
 unfold wText txt
 rw [if_pos rfl,List.append_assoc,pW _ (by omega)]
 simp only [if_true]
 rw [if_neg (by omega),if_neg (by rw [List.length_append];omega),List.take_append_of_le_length (Nat.le_refl _),List.take_length,List.drop_append_of_le_length (Nat.le_refl _),List.drop_length]
 rfl
theorem tV (b:UInt8) (r:List UInt8):wByte (b::r) 0=(b,r,0):=by simp [wByte]
theorem bG (l:List UInt8):(l.map fun x:UInt8=>PV.s (.int .u8 x.toNat))=bytP l:=rfl
theorem bsz (l:List UInt8):ByteArray.size ⟨l.toArray⟩=l.length:=rfl
section
variable (fl:Bool) (r:List UInt8)
theorem dg (n:Nat) (h:n<2^64) (hl:(vnum n++r).length<2^31):Φ 98 [.ref 0 0] [wi fl (vnum n++r) 0]=some (.int .u64 n,[wi fl r 0]):=by
 have g:=vU fl (vnum n++r) 0 hl
 rw [pW n h] at g
 exact g
theorem cN (most:Nat) (s:List UInt8) (h:s.length≤most) (hm:most<2^31) (hl:(txt s++r).length<2^31):Φ 101 [.ref 0 0,.int .i64 most] [wi fl (txt s++r) 0]=some (.str ⟨s.toArray⟩,[wi fl r 0]):=by
 have g:=wC fl most (txt s++r) 0 hl hm
 rw [tX most s r h hm] at g
 exact g
theorem gl (b:UInt8):Φ 96 [.ref 0 0] [wi fl (b::r) 0]=some (.int .u8 b.toNat,[wi fl r 0]):=by
 have g:=wA fl (b::r) 0
 rw [tV] at g
 exact g
end
end Go.Proofs.YtppeggedcaabkaaGreatDoor
end

section
namespace Go.Proofs.YtppeggedcaabkaaGreatDoor
open Go Go.Sx
section
variable (fl:Bool) (r:List UInt8)
theorem pt (n:Nat) (h:n<2^31) (hl:(vnum n++r).length<2^31):Φ 147 [.ref 0 0] [wi fl (vnum n++r) 0]=some (.int .i64 n,[wi fl r 0]):=by
 have g:=dg fl r n (by omega) hl
 have h1 : ¬2147483648≤n:=by omega
 have h2 : ¬(2147483648:Int)≤n:=by omega
 have h3:(n:Int)<2147483648:=by omega
 have h4:IntKind.i64.wrap (n:Int)=n:=am _ (by omega) (by omega)
 generalize vnum n++r=p at*
 generalize p.length=N at*
 generalize r.length=M at*
 refine aH (ir:=ir147) (by kernel_rfl) ?_;simp +contextual (maxSteps:=1000000) [ir147,ssL,↓ssM,ao,ssU,ssR,g,h1,h2,h3,h4]
theorem sI (g:Gft) (f t:Nat) (hf:g.fr=f) (ht:g.to=t) (h1:g.no<2^64) (h2:f<2^31) (h3:t<2^31) (hn:g.sh.norm) (hd:g.sh.depth≤16) (hs:(pack (idBits g.sh)).length≤4096) (hl:(g.bytes++r).length<2^31):
  Φ 99 [.ref 0 0] [wi fl (g.bytes++r) 0]=some (.p g.pv,[wi fl r 0]):=by
 obtain ⟨no,fr,to,sh⟩:=g
 subst hf ht
 have e:Gft.bytes ⟨no,f,t,sh⟩++r=vnum no++(vnum f++(vnum t++(txt (pack (idBits sh))++r))):=by simp [Gft.bytes]
 rw [e] at hl ⊢
 simp only [] at h1 hn hd hs
 have g1:=dg fl (vnum f++(vnum t++(txt (pack (idBits sh))++r))) no h1 hl
 have l1:(vnum f++(vnum t++(txt (pack (idBits sh))++r))).length<2^31:=by rw [List.length_append] at hl;omega
 have g2:=pt fl (vnum t++(txt (pack (idBits sh))++r)) f h2 l1
 have l2:(vnum t++(txt (pack (idBits sh))++r)).length<2^31:=by rw [List.length_append] at l1;omega
 have g3:=pt fl (txt (pack (idBits sh))++r) t h3 l2
 have l3:(txt (pack (idBits sh))++r).length<2^31:=by rw [List.length_append] at l2;omega
 have g4:=cN fl r 4096 (pack (idBits sh)) hs (by decide) l3
 have g5:=fun fl=>wV fl (pack (idBits sh)) (by omega)
 rw [wU sh hn hd] at g5
 simp only [Int.cast_ofNat_Int] at g4
 simp only [Gft.pv,Id.pv] at g5 ⊢
 clear e hl l1 l2 l3 hs
 generalize vnum no++(vnum f++(vnum t++(txt (pack (idBits sh))++r)))=p0 at*
 generalize vnum f++(vnum t++(txt (pack (idBits sh))++r))=p1 at*
 generalize vnum t++(txt (pack (idBits sh))++r)=p2 at*
 generalize txt (pack (idBits sh))++r=p3 at*
 generalize pack (idBits sh)=q at*
 generalize sh.ptr=ps at*
 generalize sh.all=al at*
 have e1:=bT fl r 0
 generalize p0.length=N0 at*
 generalize p1.length=N1 at*
 generalize p2.length=N2 at*
 generalize p3.length=N3 at*
 generalize r.length=N4 at*
 refine aH (ir:=ir99) (by kernel_rfl) ?_;simp +contextual (maxSteps:=1000000) [ir99,ssL,↓ssM,ao,ssU,ssR,g1,g2,g3,g4,g5,e1,bG,bsz]
end
end Go.Proofs.YtppeggedcaabkaaGreatDoor
end

section
namespace Go.Proofs.YtppeggedcaabkaaGreatDoor
open Go Go.Sx
theorem xD (fl:Bool):Ψ 24 [.p (.sl ann 1 3 fl)] []=some (.tuple [.p (.agg [.sl ann 1 3 false]),.int .i64 0]):=by
 cases fl
 ·exact cz (n:=40) (by kernel_rfl)
 ·exact cz (n:=40) (by kernel_rfl)
theorem wH:Ψ 24 [.p (.s (.slice none 0 0))] []=some (.tuple [.p (.agg [.s (.slice none 0 0)]),.int .i64 0]):=cz (n:=40) (by kernel_rfl)
theorem rE:Ψ 69 [.p (.agg ann)] []=some (.int .i64 0):=cz (n:=40) (by kernel_rfl)
theorem w0:IntKind.u64.wrap 0=0:=rfl
theorem wi1:IntKind.i64.wrap 1=1:=rfl
theorem w1:IntKind.u64.wrap 1=1:=rfl
abbrev zC:Ob:=some (.cells [.p (.s (.slice none 0 0))])
abbrev annO:Ob:=some (.cells (ann.map .p))
theorem sE (c:Ctx) (hO:c.O=Ω) (hnx:c.nx=1) (fl:Bool) (r:List UInt8) (n:Nat) (x:LV) (l:List (Ob)) (hx:x = .p (.s (.slice none 0 0))∧n=0∧l=[zC]∨x = .arr 2 0 1 3 1 false∧n=1∧l=[zC,annO]):
  run c (.loop ir184_0) ⟨[(0,.ref 0 0),(2,.ref 1 0),(3,.int .u64 n),(4,x)],⟨[(0,wi fl r 0)],l⟩⟩=some (.exit 0,⟨[(0,.ref 0 0),(2,.ref 1 0),(4,x)],⟨[(0,wi fl r 0)],l⟩⟩):=by
 have e:=bT fl r 0
 rw [b6]
 generalize IRC.loop ir184_0=LB at*
 rcases hx with ⟨rfl,rfl,rfl⟩|⟨rfl,rfl,rfl⟩
 all_goals
 simp +contextual (maxSteps:=1000000) [ir184_0,ssL,↓ssM,ao,ssU,ssR,hO,hnx,e,w0,w1]
section
variable (fl:Bool) (r:List UInt8) (hl:(0::r).length<2^31) (hl':(crdB true++r).length<2^31)
include hl in
theorem sG:Φ 184 [.ref 0 0] [wi fl (0::r) 0]=some (.p (.agg [.s (.slice none 0 0)]),[wi fl r 0]):=by
 have g1:=dg fl r 0 (by decide) (by rw [←nn];exact hl)
 rw [←nn,show crdB false=[0] from rfl] at g1
 have lo:=sE ⟨Ω,noG,hpL [wi fl (0::r) 0],1⟩ rfl rfl fl r 0 _ _ (.inl ⟨rfl,rfl,rfl⟩)
 have e:=bT fl r 0
 simp only [Int.natCast_zero,List.singleton_append] at g1 lo
 generalize (0::r)=p0 at*
 refine aH (ir:=ir184) (by kernel_rfl) ?_;simp +contextual (maxSteps:=1000000) [ir184,ssL,↓ssM,ao,ssU,ssR,g1,lo,e,wH]
include hl' in
theorem sF:Φ 184 [.ref 0 0] [wi fl (crdB true++r) 0]=some (.p (.agg [.sl ann 1 3 false]),[wi fl r 0]):=by
 rw [rT] at hl' ⊢
 have e0:vnum 1++[1]++txt []++txt [65,110,110]++r=vnum 1++(1::(txt []++(txt [65,110,110]++r))):=by simp
 rw [e0] at hl' ⊢
 have l1:(txt []++(txt [65,110,110]++r)).length<2^31:=by rw [List.length_append,List.length_cons] at hl';omega
 have l2:(txt [65,110,110]++r).length<2^31:=by rw [List.length_append] at l1;omega
 have g1:=dg fl (1::(txt []++(txt [65,110,110]++r))) 1 (by decide) hl'
 have g2:=gl fl (txt []++(txt [65,110,110]++r)) 1
 have g3:=cN fl (txt [65,110,110]++r) 12 [] (by decide) (by decide) l1
 have g4:=cN fl r 40 [65,110,110] (by decide) (by decide) l2
 have e1:=fun p=>bT fl p 0
 have lo:=fun c hO hnx=>sE c hO hnx fl r 1 _ _ (.inr ⟨rfl,rfl,rfl⟩)
 simp only [Int.natCast_one,Int.cast_ofNat_Int,show (1:UInt8).toNat=1 from rfl] at g1 g2 g3 g4 lo
 clear e0 hl' l1 l2
 generalize vnum 1++(1::(txt []++(txt [65,110,110]++r)))=p0 at*
 generalize 1::(txt []++(txt [65,110,110]++r))=p1 at*
 generalize txt []++(txt [65,110,110]++r)=p2 at*
 generalize txt [65,110,110]++r=p3 at*
 have lo':run ⟨Ω,noG,hpL [wi fl p0 0],1⟩ (.loop ir184_0) ⟨[(0,.ref 0 0),(2,.ref 1 0),(3,.int .u64 1),(4,.p (.s (.slice none 0 0)))],⟨[(0,wi fl p1 0)],[zC]⟩⟩=some (.exit 0,⟨[(0,.ref 0 0),(2,.ref 1 0),(4,.arr 2 0 1 3 1 false)],⟨[(0,wi fl r 0)],[zC,annO]⟩⟩):=by
  have lo:=lo ⟨Ω,noG,hpL [wi fl p0 0],1⟩ rfl rfl
  rw [b6]
  generalize IRC.loop ir184_0=LB at*
  simp +contextual (maxSteps:=1000000) [ir184_0,ssL,↓ssM,ao,ssU,ssR,g2,g3,g4,e1,w0,w1,wi1,rE]
  exact lo
 refine aH (ir:=ir184) (by kernel_rfl) ?_;simp +contextual (maxSteps:=1000000) [ir184,ssL,↓ssM,ao,ssU,ssR,g1,lo',e1,xD]
end
end Go.Proofs.YtppeggedcaabkaaGreatDoor
end

section
namespace Go.Proofs.YtppeggedcaabkaaGreatDoor
open Go Go.Sx
theorem sH (a fl:Bool) (r:List UInt8) (hl:(crdB a++r).length<2^31):Φ 184 [.ref 0 0] [wi fl (crdB a++r) 0]=some (.p (.agg [crd a false]),[wi fl r 0]):=by
 cases a
 ·exact sG fl r hl
 ·exact sF fl r hl
structure Vsn.Fit (v:Vsn):Prop where
 n:v.ev.norm
 m:v.ev.max≤2^20
 d:v.ev.depth≤16
 l:(pack (evBits v.ev)).length≤4096
 g:v.gone=true→v.nm=false
theorem kO (v:Vsn) (fl:Bool) (hf:v.Fit):Ψ 152 [sB fl v.bytes] []=some (.tuple [.p (v.pv false),.int .i64 0]):=by
 obtain ⟨ev,nm,gone⟩:=v
 obtain ⟨hn,hm,hd,hp,hg⟩:=hf
 simp only [] at hn hm hd hp hg
 have lt:=k9 (pack (evBits ev)) (by omega)
 have lb:(Vsn.bytes ⟨ev,nm,gone⟩).length<2^31:=by
  unfold Vsn.bytes
  rw [List.length_append]
  have:(if gone=true then [1] else 0::crdB nm).length≤10:=by cases gone<;>cases nm<;>decide
  simp only [] at this ⊢
  omega
 have g0:=xA fl _ lb
 have g2:=fun fl=>fg fl (pack (evBits ev)) (by omega)
 rw [kN ev hn hm hd] at g2
 cases gone with
 | true=>
  obtain rfl:=hg rfl
  have e:Vsn.bytes ⟨ev,false,true⟩=txt (pack (evBits ev))++[1]:=rfl
  rw [e] at g0 lb ⊢
  have g1:=fun fl=>cN fl [1] 4096 (pack (evBits ev)) hp (by decide) lb
  have g3:=fun fl=>gl fl [] 1
  have e1:=fun fl p=>bT fl p 0
  have e2:=fun fl p=>bC fl p 0 0
  have e3:=fun fl=>vT fl [] 0
  simp only [Int.cast_ofNat_Int,Vsn.pv,Ev.pv,show (1:UInt8).toNat=1 from rfl,ne_eq,not_true_eq_false,and_false,if_false,if_true,Int.natCast_one] at g1 g2 g3 e2 e3 ⊢
  clear e lb lt
  generalize (txt (pack (evBits ev))++[1]).isEmpty=fl2 at*
  generalize txt (pack (evBits ev))++[1]=p0 at*
  generalize [(1:UInt8)]=p1 at*
  generalize ([]:List UInt8)=p2 at*
  generalize pack (evBits ev)=q at*
  generalize ev.n=n at*
  generalize ev.ptr=x at*
  refine bV (ir:=ir152) (by kernel_rfl) ?_;simp +contextual (maxSteps:=1000000) [ir152,ssL,↓ssM,ao,ssU,ssR,g0,g1,g2,g3,e1,e2,e3,bG,bsz,ef]
 | false=>
  have e:Vsn.bytes ⟨ev,nm,false⟩=txt (pack (evBits ev))++(0::crdB nm):=rfl
  rw [e] at g0 lb ⊢
  have g1:=fun fl=>cN fl (0::crdB nm) 4096 (pack (evBits ev)) hp (by decide) lb
  have g3:=fun fl=>gl fl (crdB nm) 0
  have g4:=fun fl=>sH nm fl [] (by cases nm<;>decide)
  have e1:=fun fl p=>bT fl p 0
  have e2:=fun fl p=>bC fl p 0 0
  have e3:=fun fl=>vT fl [] 0
  simp only [Int.cast_ofNat_Int,Vsn.pv,Ev.pv,show (0:UInt8).toNat=0 from rfl,ne_eq,not_true_eq_false,and_false,if_false,if_true,Int.natCast_zero,List.append_nil] at g1 g2 g3 g4 e2 e3 ⊢
  clear e lb lt
  generalize (txt (pack (evBits ev))++(0::crdB nm)).isEmpty=fl2 at*
  generalize txt (pack (evBits ev))++(0::crdB nm)=p0 at*
  generalize 0::crdB nm=p1 at*
  generalize crdB nm=p2 at*
  generalize ([]:List UInt8)=p3 at*
  generalize pack (evBits ev)=q at*
  generalize ev.n=n at*
  generalize ev.ptr=x at*
  generalize crd nm false=cc at*
  refine bV (ir:=ir152) (by kernel_rfl) ?_;simp +contextual (maxSteps:=1000000) [ir152,ssL,↓ssM,ao,ssU,ssR,g0,g1,g2,g3,g4,e1,e2,e3,bG,bsz]
end Go.Proofs.YtppeggedcaabkaaGreatDoor
end

section
namespace Go.Proofs.YtppeggedcaabkaaGreatDoor
open Go Go.Sx
theorem j8 (f:Ent→List PV) (x:Ent) : ∀ l,rows f (l++[x])=rows f l++f x
 | []=>by simp [rows]
 | y::l=>by rw [List.cons_append,rows,j8 f x l,rows,List.append_assoc]
inductive GS (L:List Ent):LV→List (Ob)→Prop
 | nil:L=[]→GS L (.p (.s (.slice none 0 0))) []
 | one:L≠[]→GS L (.arr 1 0 L.length 5 L.length false) [some (.cells (pc (rows (Ent.row false) L)))]
 | two:L≠[]→GS L (.arr 2 0 L.length 5 L.length false) [none,some (.cells (pc (rows (Ent.row false) L)))]
structure Ent.Fit (x:Ent):Prop where
 i:x.id<2^32
 v:x.v.Fit
 l:x.v.bytes.length≤8192
section
variable (fl:Bool) (r:List UInt8) (p0:List UInt8)
theorem wy (L0:List Ent) (x:LV) (l:List (Ob)) (g:GS L0 x l):
  ∃ x' l',run ⟨Ω,noG,hpL [wi fl p0 0],1⟩ (.loop ir102_0) ⟨[(0,.ref 0 0),(3,x),(4,.int .u64 0)],⟨[(0,wi fl r 0)],l⟩⟩=some (.exit 0,⟨[(0,.ref 0 0),(3,x')],⟨[(0,wi fl r 0)],l'⟩⟩)∧GS L0 x' l':=by
 have e:=bT fl r 0
 rw [b6]
 generalize IRC.loop ir102_0=LB at*
 have hlen:(rows (Ent.row false) L0).length=L0.length*5:=bZ _ 5 (fun _=>rfl) _
 cases g with
 | nil h=>
  refine ⟨_,_,?_,GS.nil h⟩
  simp +contextual (maxSteps:=1000000) [ir102_0,ssL,↓ssM,ao,ssU,ssR,e,w0,w1]
 | one h=>
  refine ⟨_,_,?_,GS.one h⟩
  generalize rows (Ent.row false) L0=R at*
  generalize L0.length=n at*
  simp +contextual (maxSteps:=1000000) [ir102_0,ssL,↓ssM,ao,ssU,ssR,e,w0,w1,eo,eu]
 | two h=>
  refine ⟨_,_,?_,GS.one h⟩
  generalize rows (Ent.row false) L0=R at*
  generalize L0.length=n at*
  simp +contextual (maxSteps:=1000000) [ir102_0,ssL,↓ssM,ao,ssU,ssR,e,w0,w1,eo,eu]
theorem uA (e:Ent) (L0:List Ent) (hF:e.Fit) (h31:L0.length<2^31) (m:Nat) (hm:m<2^31) (hl:(e.bytes++r).length<2^31) (x:LV) (l:List (Ob)) (g:GS L0 x l):
  ∃ x' l',GS (L0++[e]) x' l'∧run ⟨Ω,noG,hpL [wi fl p0 0],1⟩ (.loop ir102_0) ⟨[(0,.ref 0 0),(3,x),(4,.int .u64 (m+1:Nat))],⟨[(0,wi fl (e.bytes++r) 0)],l⟩⟩=
   run ⟨Ω,noG,hpL [wi fl p0 0],1⟩ (.loop ir102_0) ⟨[(0,.ref 0 0),(3,x'),(4,.int .u64 m)],⟨[(0,wi fl r 0)],l'⟩⟩:=by
 obtain ⟨id,v⟩:=e
 obtain ⟨hi,hv,hb⟩:=hF
 simp only [] at hi hv hb
 have eb:Ent.bytes ⟨id,v⟩++r=vnum id++(txt v.bytes++r):=by unfold Ent.bytes;simp only [List.append_assoc]
 rw [eb] at hl ⊢
 have l1:(txt v.bytes++r).length<2^31:=by rw [List.length_append] at hl;omega
 have g1:=dg fl (txt v.bytes++r) id (by omega) hl
 have g2:=cN fl r 8192 v.bytes hb (by decide) l1
 have g3:=fun fl=>kO v fl hv
 have e1:=fun p=>bT fl p 0
 have e2:=fun p=>bC fl p 0 0
 have h1 : ¬4294967295<id:=by omega
 have h2:IntKind.u32.wrap (id:Int)=id:=rD _ (by omega)
 have h4:id≤4294967295:=by omega
 have h5:(id:Int)≤4294967295:=by omega
 have h6 : ¬(4294967295:Int)<id:=by omega
 have hk:0<(m:Int)+1:=by omega
 have hk' : ¬(m:Int)+1≤0:=by omega
 have h3:IntKind.u64.wrap (m:Int)=(m:Int):=b7 _ (by omega)
 have hs:=j8 (Ent.row false) (Ent.mk id v) L0
 have hne:L0++[Ent.mk id v]≠[]:=by simp
 have hlen:(rows (Ent.row false) L0).length=L0.length*5:=bZ _ 5 (fun _=>rfl) _
 have hll:(L0++[Ent.mk id v]).length=L0.length+1:=by simp
 have i1:=GS.one hne
 have i2:=GS.two hne
 rw [hs,hll] at i1 i2
 simp only [Ent.row,Vsn.pv,nU,aN,bf,Int.cast_ofNat_Int,if_true] at g2 g3 e2 i1 i2
 clear eb hl l1 hs hll
 generalize vnum id++(txt v.bytes++r)=p1 at*
 generalize txt v.bytes++r=p2 at*
 generalize v.bytes=q at*
 generalize v.ev.n=vn at*
 generalize v.ev.ptr=vp at*
 generalize crd v.nm false=cc at*
 generalize v.gone=vg at*
 have c1:(L0.length+1)*56≤1099511627776:=by omega
 have c2 : ¬1099511627776<(L0.length+1)*56:=by omega
 cases g with
 | nil h=>
  subst h
  refine ⟨_,_,i1,?_⟩
  rw [b6]
  generalize IRC.loop ir102_0=LB at*
  simp +contextual (maxSteps:=1000000) [ir102_0,ssL,↓ssM,ao,ssU,ssR,e1,e2,g1,g2,g3,h1,h2,h3,h4,h5,h6,hk,hk',bG,bsz,rows,bf]
 | one h=>
  refine ⟨_,_,i2,?_⟩
  clear i1 i2
  rw [b6]
  generalize rows (Ent.row false) L0=R at*
  generalize L0.length=n at*
  generalize IRC.loop ir102_0=LB at*
  simp +contextual (maxSteps:=1000000) [ir102_0,ssL,↓ssM,ao,ssU,ssR,e1,e2,g1,g2,g3,h1,h2,h3,h4,h5,h6,hk,hk',bG,bsz,eo,eu,dQ,hlen,c1,c2]
 | two h=>
  refine ⟨_,_,i2,?_⟩
  clear i1 i2
  rw [b6]
  generalize rows (Ent.row false) L0=R at*
  generalize L0.length=n at*
  generalize IRC.loop ir102_0=LB at*
  simp +contextual (maxSteps:=1000000) [ir102_0,ssL,↓ssM,ao,ssU,ssR,e1,e2,g1,g2,g3,h1,h2,h3,h4,h5,h6,hk,hk',bG,bsz,eo,eu,dQ,hlen,c1,c2]
theorem o4 : ∀ (L L0:List Ent) (x:LV) (l:List (Ob)),GS L0 x l→(∀ e∈L,e.Fit)→L0.length+L.length<2^31→(entB L++r).length<2^31 →
  ∃ x' l',run ⟨Ω,noG,hpL [wi fl p0 0],1⟩ (.loop ir102_0) ⟨[(0,.ref 0 0),(3,x),(4,.int .u64 L.length)],⟨[(0,wi fl (entB L++r) 0)],l⟩⟩=some (.exit 0,⟨[(0,.ref 0 0),(3,x')],⟨[(0,wi fl r 0)],l'⟩⟩)∧GS (L0++L) x' l'
 | [],L0,x,l,g,hF,h31,hl=>by
  have h:=wy fl r p0 L0 x l g
  rw [List.append_nil]
  exact h
 | e::L,L0,x,l,g,hF,h31,hl=>by
  rw [List.length_cons] at h31
  have eb:entB (e::L)++r=e.bytes++(entB L++r):=by rw [entB,List.append_assoc]
  rw [eb] at hl ⊢
  obtain ⟨x1,l1,g1,h1⟩:=uA fl (entB L++r) p0 e L0 (hF e List.mem_cons_self) (by omega) L.length (by omega) hl x l g
  obtain ⟨x2,l2,h2,g2⟩:=o4 L (L0++[e]) x1 l1 g1 (fun e he=>hF e (List.mem_cons_of_mem _ he)) (by rw [List.length_append,List.length_singleton];omega) (by rw [List.length_append] at hl;omega)
  rw [show L0++[e]++L=L0++e::L by simp] at g2
  exact ⟨x2,l2,by rw [List.length_cons,h1,h2],g2⟩
theorem il (L:List Ent) (hF : ∀ e∈L,e.Fit) (h31:L.length<2^31) (hl:(vnum L.length++(entB L++r)).length<2^31):
  Φ 102 [.ref 0 0] [wi fl (vnum L.length++(entB L++r)) 0]=some (.p (entP (Ent.row false) 5 L),[wi fl r 0]):=by
 have l1:(entB L++r).length<2^31:=by rw [List.length_append] at hl;omega
 have g1:=dg fl (entB L++r) L.length (by omega) hl
 obtain ⟨x,l,h,g⟩:=o4 fl r (vnum L.length++(entB L++r)) L [] _ _ (.nil rfl) hF (by simpa using h31) l1
 have e1:=bT fl r 0
 rw [List.nil_append] at g
 have hlen:(rows (Ent.row false) L).length=L.length*5:=bZ _ 5 (fun _=>rfl) _
 clear hl l1 h31
 generalize vnum L.length++(entB L++r)=p0 at*
 generalize entB L++r=p1 at*
 have a1:allP (pc (rows (Ent.row false) L))=some (rows (Ent.row false) L):=ol _
 have a2:List.take (L.length*5) (pc (rows (Ent.row false) L))=pc (rows (Ent.row false) L):=by rw [←hlen];exact vA _
 cases g with
 | nil h0=>
  unfold entP
  rw [if_pos h0]
  clear hF hlen a1 a2 h0
  generalize L.length=n at*
  refine aH (ir:=ir102) (by kernel_rfl) ?_;simp +contextual (maxSteps:=1000000) [ir102,ssL,↓ssM,ao,ssU,ssR,g1,h,e1]
 | one h0=>
  unfold entP
  rw [if_neg h0]
  clear hF h0
  generalize rows (Ent.row false) L=R at*
  generalize L.length=n at*
  refine aH (ir:=ir102) (by kernel_rfl) ?_;simp +contextual (maxSteps:=1000000) [ir102,ssL,↓ssM,ao,ssU,ssR,g1,h,e1,hlen,a1,a2,dQ]
 | two h0=>
  unfold entP
  rw [if_neg h0]
  clear hF h0
  generalize rows (Ent.row false) L=R at*
  generalize L.length=n at*
  refine aH (ir:=ir102) (by kernel_rfl) ?_;simp +contextual (maxSteps:=1000000) [ir102,ssL,↓ssM,ao,ssU,ssR,g1,h,e1,hlen,a1,a2,dQ]
end
end Go.Proofs.YtppeggedcaabkaaGreatDoor
end

section
namespace Go.Proofs.YtppeggedcaabkaaGreatDoor
open Go Go.Sx
section open'
variable (a b c d s0 s1 s2 s3:UInt8) (q:List UInt8) (fl:Bool)
abbrev eight:List PV:=.s (.int .u8 a.toNat) :: .s (.int .u8 b.toNat) :: .s (.int .u8 c.toNat) :: .s (.int .u8 d.toNat) :: .s (.int .u8 s0.toNat) :: .s (.int .u8 s1.toNat) :: .s (.int .u8 s2.toNat) :: .s (.int .u8 s3.toNat)::bytP q
theorem nR (h:(un4 a b c d).toNat≤2^20) (hs:q.length<(un4 a b c d).toNat):Ψ 45 [.p (.sl (eight a b c d s0 s1 s2 s3 q) (q.length+8) 1 fl)] []=
  some (.tuple [.p (.s (.slice none 0 0)),.int .i64 0,.int .i64 6]):=by
 have h1:nv (un4 a b c d)≤1048576:=by rw [nv];omega
 have h8:(8:Int)≤(q.length:Int)+8:=by omega
 have hw:IntKind.i64.wrap (nv (un4 a b c d))=((un4 a b c d).toNat:Int):=am _ (by rw [nv];omega) (by rw [nv];omega)
 have hq:IntKind.i64.wrap ((q.length:Int))=q.length:=am _ (by omega) (by omega)
 have h2 : ¬(((un4 a b c d).toNat:Int)≤q.length):=by omega
 refine bV (ir:=ir45) (by kernel_rfl) ?_;simp +contextual (maxSteps:=1000000) [ir45,ssL,↓ssM,ao,ssU,ssR,yd,h1,h8,hw,hq,h2]
theorem yb (l:List UInt8) (n:Nat) (hn:l.length=n) (h30:n<2^31) (id cp:Nat) (ex:Bool) (H:Heap) (nx:Nat)
  (h1:H id=some (.cells (.int .u8 a.toNat :: .int .u8 b.toNat :: .int .u8 c.toNat :: .int .u8 d.toNat::byt l))) (h2:id<nx):
  Ω 78 [.arr id 0 (4+n) 1 cp ex] H nx=some (.int .u32 (nv (crc (a::b::c::d::l))),[],[]):=by
 have:=wZ (a::b::c::d::l) (by simp;omega) id cp ex H nx h1 h2
 have e:(a::b::c::d::l).length=4+n:=by simp;omega
 rwa [e] at this
end open'
end Go.Proofs.YtppeggedcaabkaaGreatDoor
end

section
namespace Go.Proofs.YtppeggedcaabkaaGreatDoor
open Go Go.Sx
set_option maxHeartbeats 4000000
theorem uE (fl:Bool) (r:List UInt8) (b:Bool):Φ 96 [.ref 0 0] [wi fl (bit b::r) 0]=some (.int .u8 (if b=true then 1 else 0),[wi fl r 0]):=by
 have g:=gl fl r (bit b)
 cases b<;>exact g
theorem wks:(IntKind.i64.wrap 1=1)∧(IntKind.i64.wrap 2=2)∧(IntKind.i64.wrap 3=3)∧(IntKind.i64.wrap 4=4)∧(IntKind.i64.wrap 5=5)∧(IntKind.i64.wrap 6=6)∧(IntKind.i64.wrap 7=7):=⟨rfl,rfl,rfl,rfl,rfl,rfl,rfl⟩
theorem yh (x:Int) (h0:0≤x) (h1:x<256):((u8 x).toNat:Int)=x:=by
 unfold u8
 have:(UInt8.ofNat x.toNat).toNat=x.toNat:=UInt8.toNat_ofNat_of_lt' (by show x.toNat<256;omega)
 rw [this];omega
theorem be (fl:Bool) (r:List UInt8) (x:Int) (h0:0≤x) (h1:x<256):Φ 96 [.ref 0 0] [wi fl (u8 x::r) 0]=some (.int .u8 x,[wi fl r 0]):=by
 have g:=gl fl r (u8 x)
 rw [yh x h0 h1] at g
 exact g
section
variable (fl:Bool) (f t:Int) (f0:0≤f) (f1:f<12) (t0:0≤t) (t1:t<12)
include f0 f1 t0 t1
theorem vQ (k:Int) (hk:k=1∨k=2) (ses:Nat) (hs:ses<2^64) (ev:Ev) (hn:ev.norm) (hm:ev.max≤2^20) (hd:ev.depth≤16) (hp:(pack (evBits ev)).length≤4096) (hl:(u8 k::(u8 f::(u8 t::(vnum ses++(txt (pack (evBits ev))++[]))))).length<2^31):
  Φ 47 [.ref 0 0] [wi fl (u8 k::(u8 f::(u8 t::(vnum ses++(txt (pack (evBits ev))++[]))))) 0]=some (.p (Nte.pv false ⟨k,f,t,ses,0,false,ev,[],⟨0,0,0,.zero⟩,0⟩),[wi fl [] 0]):=by
 have l3:(vnum ses++(txt (pack (evBits ev))++[])).length<2^31:=by simp only [List.length_cons] at hl;omega
 have l4:(txt (pack (evBits ev))++[]).length<2^31:=by rw [List.length_append] at l3;omega
 have l5:([]:List UInt8).length<2^31:=by rw [List.length_append] at l4;omega
 have b0:=be fl (u8 f::(u8 t::(vnum ses++(txt (pack (evBits ev))++[])))) k (by omega) (by omega)
 have b1:=be fl (u8 t::(vnum ses++(txt (pack (evBits ev))++[]))) f f0 (by omega)
 have b2:=be fl (vnum ses++(txt (pack (evBits ev))++[])) t t0 (by omega)
 have g0:=dg fl (txt (pack (evBits ev))++[]) ses hs l3
 have g1:=cN fl ([]:List UInt8) 1048576 (pack (evBits ev)) (by omega) (by decide) l4
 have re:=by
  have:=fun fl=>fg fl (pack (evBits ev)) (by omega)
  rw [kN ev hn hm hd] at this
  exact this
 have wf:IntKind.i64.wrap f=f:=am _ (by omega) (by omega)
 have wt:IntKind.i64.wrap t=t:=am _ (by omega) (by omega)
 have e2:=fun p=>bC fl p 0 0
 simp only [Int.cast_ofNat_Int,if_true,Ev.pv,Gft.pv,Nte.pv,Nte.cells,Ev.n_l,Ev.ptr_l,Id.all_z,Id.ptr_z,Int.natCast_zero] at g0 g1 re e2 ⊢
 clear hl l3 l4 l5
 generalize (u8 k::(u8 f::(u8 t::(vnum ses++(txt (pack (evBits ev))++[])))))=p0 at*
 generalize (u8 f::(u8 t::(vnum ses++(txt (pack (evBits ev))++[]))))=p1 at*
 generalize (u8 t::(vnum ses++(txt (pack (evBits ev))++[])))=p2 at*
 generalize (vnum ses++(txt (pack (evBits ev))++[]))=p3 at*
 generalize (txt (pack (evBits ev))++[])=p4 at*
 generalize ([]:List UInt8)=pe at*
 generalize ev.n=en at*
 generalize ev.ptr=ep at*
 generalize pack (evBits ev)=eq at*
 rcases hk with rfl|rfl
 all_goals
 refine aH (ir:=ir47) (by kernel_rfl) ?_;simp +contextual (maxSteps:=1000000) [ir47,ssL,↓ssM,ao,ssU,ssR,b0,b1,b2,re,g0,g1,wf,wt,wks,e2,gk,hasK,iC,bG,bsz,entP]
theorem yq  (ses:Nat) (hs:ses<2^64) (sq:Int) (s0:0≤sq) (s1:sq<256) (hl:(u8 4::(u8 f::(u8 t::(vnum ses++(u8 sq::[]))))).length<2^31):
  Φ 47 [.ref 0 0] [wi fl (u8 4::(u8 f::(u8 t::(vnum ses++(u8 sq::[]))))) 0]=some (.p (Nte.pv false ⟨4,f,t,ses,sq,false,.leaf 0,[],⟨0,0,0,.zero⟩,0⟩),[wi fl [] 0]):=by
 have l3:(vnum ses++(u8 sq::[])).length<2^31:=by simp only [List.length_cons] at hl;omega
 have l4:(u8 sq::[]).length<2^31:=by rw [List.length_append] at l3;omega
 have l5:([]:List UInt8).length<2^31:=by rw [List.length_cons] at l4;omega
 have b0:=be fl (u8 f::(u8 t::(vnum ses++(u8 sq::[])))) 4 (by omega) (by omega)
 have b1:=be fl (u8 t::(vnum ses++(u8 sq::[]))) f f0 (by omega)
 have b2:=be fl (vnum ses++(u8 sq::[])) t t0 (by omega)
 have g0:=dg fl (u8 sq::[]) ses hs l3
 have g1:=be fl ([]:List UInt8) sq s0 s1
 have wf:IntKind.i64.wrap f=f:=am _ (by omega) (by omega)
 have wt:IntKind.i64.wrap t=t:=am _ (by omega) (by omega)
 have e2:=fun p=>bC fl p 0 0
 simp only [Int.cast_ofNat_Int,if_true,Ev.pv,Gft.pv,Nte.pv,Nte.cells,Ev.n_l,Ev.ptr_l,Id.all_z,Id.ptr_z,Int.natCast_zero] at g0 g1 e2 ⊢
 clear hl l3 l4 l5
 generalize (u8 4::(u8 f::(u8 t::(vnum ses++(u8 sq::[])))))=p0 at*
 generalize (u8 f::(u8 t::(vnum ses++(u8 sq::[]))))=p1 at*
 generalize (u8 t::(vnum ses++(u8 sq::[])))=p2 at*
 generalize (vnum ses++(u8 sq::[]))=p3 at*
 generalize (u8 sq::[])=p4 at*
 generalize ([]:List UInt8)=pe at*
 have ws:IntKind.i64.wrap sq=sq:=am _ (by omega) (by omega)
 refine aH (ir:=ir47) (by kernel_rfl) ?_;simp +contextual (maxSteps:=1000000) [ir47,ssL,↓ssM,ao,ssU,ssR,b0,b1,b2,g0,g1,wf,wt,wks,e2,gk,hasK,iC,bG,bsz,entP,ws]
theorem yr   (hl:(u8 5::(u8 f::(u8 t::[]))).length<2^31):
  Φ 47 [.ref 0 0] [wi fl (u8 5::(u8 f::(u8 t::[]))) 0]=some (.p (Nte.pv false ⟨5,f,t,0,0,false,.leaf 0,[],⟨0,0,0,.zero⟩,0⟩),[wi fl [] 0]):=by
 have l3:([]:List UInt8).length<2^31:=by simp only [List.length_cons] at hl;omega
 have b0:=be fl (u8 f::(u8 t::[])) 5 (by omega) (by omega)
 have b1:=be fl (u8 t::[]) f f0 (by omega)
 have b2:=be fl ([]:List UInt8) t t0 (by omega)
 have wf:IntKind.i64.wrap f=f:=am _ (by omega) (by omega)
 have wt:IntKind.i64.wrap t=t:=am _ (by omega) (by omega)
 have e2:=fun p=>bC fl p 0 0
 simp only [Int.cast_ofNat_Int,if_true,Ev.pv,Gft.pv,Nte.pv,Nte.cells,Ev.n_l,Ev.ptr_l,Id.all_z,Id.ptr_z,Int.natCast_zero] at  e2 ⊢
 clear hl l3
 generalize (u8 5::(u8 f::(u8 t::[])))=p0 at*
 generalize (u8 f::(u8 t::[]))=p1 at*
 generalize (u8 t::[])=p2 at*
 generalize ([]:List UInt8)=pe at*
 refine aH (ir:=ir47) (by kernel_rfl) ?_;simp +contextual (maxSteps:=1000000) [ir47,ssL,↓ssM,ao,ssU,ssR,b0,b1,b2,wf,wt,wks,e2,gk,hasK,iC,bG,bsz,entP]
theorem yu  (no:Nat) (hs:no<2^64) (hl:(u8 7::(u8 f::(u8 t::(vnum no++[])))).length<2^31):
  Φ 47 [.ref 0 0] [wi fl (u8 7::(u8 f::(u8 t::(vnum no++[])))) 0]=some (.p (Nte.pv false ⟨7,f,t,0,0,false,.leaf 0,[],⟨0,0,0,.zero⟩,no⟩),[wi fl [] 0]):=by
 have l3:(vnum no++[]).length<2^31:=by simp only [List.length_cons] at hl;omega
 have l4:([]:List UInt8).length<2^31:=by rw [List.length_append] at l3;omega
 have b0:=be fl (u8 f::(u8 t::(vnum no++[]))) 7 (by omega) (by omega)
 have b1:=be fl (u8 t::(vnum no++[])) f f0 (by omega)
 have b2:=be fl (vnum no++[]) t t0 (by omega)
 have g0:=dg fl ([]:List UInt8) no hs l3
 have wf:IntKind.i64.wrap f=f:=am _ (by omega) (by omega)
 have wt:IntKind.i64.wrap t=t:=am _ (by omega) (by omega)
 have e2:=fun p=>bC fl p 0 0
 simp only [Int.cast_ofNat_Int,if_true,Ev.pv,Gft.pv,Nte.pv,Nte.cells,Ev.n_l,Ev.ptr_l,Id.all_z,Id.ptr_z,Int.natCast_zero] at g0 e2 ⊢
 clear hl l3 l4
 generalize (u8 7::(u8 f::(u8 t::(vnum no++[]))))=p0 at*
 generalize (u8 f::(u8 t::(vnum no++[])))=p1 at*
 generalize (u8 t::(vnum no++[]))=p2 at*
 generalize (vnum no++[])=p3 at*
 generalize ([]:List UInt8)=pe at*
 refine aH (ir:=ir47) (by kernel_rfl) ?_;simp +contextual (maxSteps:=1000000) [ir47,ssL,↓ssM,ao,ssU,ssR,b0,b1,b2,g0,wf,wt,wks,e2,gk,hasK,iC,bG,bsz,entP]
theorem yp  (ses:Nat) (hs:ses<2^64) (sq:Int) (s0:0≤sq) (s1:sq<256) (la:Bool) (ev:Ev) (hn:ev.norm) (hm:ev.max≤2^20) (hd:ev.depth≤16) (hp:(pack (evBits ev)).length≤4096) (L:List Ent) (hF : ∀ e∈L,e.Fit) (hL:L.length<2^31) (hl:(u8 3::(u8 f::(u8 t::(vnum ses++(u8 sq::(bit la::(txt (pack (evBits ev))++(vnum L.length++(entB L++[]))))))))).length<2^31):
  Φ 47 [.ref 0 0] [wi fl (u8 3::(u8 f::(u8 t::(vnum ses++(u8 sq::(bit la::(txt (pack (evBits ev))++(vnum L.length++(entB L++[]))))))))) 0]=some (.p (Nte.pv false ⟨3,f,t,ses,sq,la,ev,L,⟨0,0,0,.zero⟩,0⟩),[wi fl [] 0]):=by
 have l3:(vnum ses++(u8 sq::(bit la::(txt (pack (evBits ev))++(vnum L.length++(entB L++[])))))).length<2^31:=by simp only [List.length_cons] at hl;omega
 have l4:(u8 sq::(bit la::(txt (pack (evBits ev))++(vnum L.length++(entB L++[]))))).length<2^31:=by rw [List.length_append] at l3;omega
 have l5:(bit la::(txt (pack (evBits ev))++(vnum L.length++(entB L++[])))).length<2^31:=by rw [List.length_cons] at l4;omega
 have l6:(txt (pack (evBits ev))++(vnum L.length++(entB L++[]))).length<2^31:=by rw [List.length_cons] at l5;omega
 have l7:(vnum L.length++(entB L++[])).length<2^31:=by rw [List.length_append] at l6;omega
 have l8:(entB L++[]).length<2^31:=by rw [List.length_append] at l7;omega
 have l9:([]:List UInt8).length<2^31:=by rw [List.length_append] at l8;omega
 have b0:=be fl (u8 f::(u8 t::(vnum ses++(u8 sq::(bit la::(txt (pack (evBits ev))++(vnum L.length++(entB L++[])))))))) 3 (by omega) (by omega)
 have b1:=be fl (u8 t::(vnum ses++(u8 sq::(bit la::(txt (pack (evBits ev))++(vnum L.length++(entB L++[]))))))) f f0 (by omega)
 have b2:=be fl (vnum ses++(u8 sq::(bit la::(txt (pack (evBits ev))++(vnum L.length++(entB L++[])))))) t t0 (by omega)
 have g0:=dg fl (u8 sq::(bit la::(txt (pack (evBits ev))++(vnum L.length++(entB L++[]))))) ses hs l3
 have g1:=be fl (bit la::(txt (pack (evBits ev))++(vnum L.length++(entB L++[])))) sq s0 s1
 have g2:=uE fl (txt (pack (evBits ev))++(vnum L.length++(entB L++[]))) la
 have g3:=cN fl (vnum L.length++(entB L++[])) 1048576 (pack (evBits ev)) (by omega) (by decide) l6
 have g4:=il fl [] L hF hL l7
 have re:=by
  have:=fun fl=>fg fl (pack (evBits ev)) (by omega)
  rw [kN ev hn hm hd] at this
  exact this
 have wf:IntKind.i64.wrap f=f:=am _ (by omega) (by omega)
 have wt:IntKind.i64.wrap t=t:=am _ (by omega) (by omega)
 have e2:=fun p=>bC fl p 0 0
 simp only [Int.cast_ofNat_Int,if_true,Ev.pv,Gft.pv,Nte.pv,Nte.cells,Ev.n_l,Ev.ptr_l,Id.all_z,Id.ptr_z,Int.natCast_zero] at g0 g1 g2 g3 g4 re e2 ⊢
 clear hl l3 l4 l5 l6 l7 l8 l9
 generalize (u8 3::(u8 f::(u8 t::(vnum ses++(u8 sq::(bit la::(txt (pack (evBits ev))++(vnum L.length++(entB L++[])))))))))=p0 at*
 generalize (u8 f::(u8 t::(vnum ses++(u8 sq::(bit la::(txt (pack (evBits ev))++(vnum L.length++(entB L++[]))))))))=p1 at*
 generalize (u8 t::(vnum ses++(u8 sq::(bit la::(txt (pack (evBits ev))++(vnum L.length++(entB L++[])))))))=p2 at*
 generalize (vnum ses++(u8 sq::(bit la::(txt (pack (evBits ev))++(vnum L.length++(entB L++[]))))))=p3 at*
 generalize (u8 sq::(bit la::(txt (pack (evBits ev))++(vnum L.length++(entB L++[])))))=p4 at*
 generalize (bit la::(txt (pack (evBits ev))++(vnum L.length++(entB L++[]))))=p5 at*
 generalize (txt (pack (evBits ev))++(vnum L.length++(entB L++[])))=p6 at*
 generalize (vnum L.length++(entB L++[]))=p7 at*
 generalize (entB L++[])=p8 at*
 generalize ([]:List UInt8)=pe at*
 have ws:IntKind.i64.wrap sq=sq:=am _ (by omega) (by omega)
 generalize ev.n=en at*
 generalize ev.ptr=ep at*
 generalize pack (evBits ev)=eq at*
 have hc:(LV.p (entP (Ent.row false) 5 L)).cells=some [.p (entP (Ent.row false) 5 L)]:=by unfold entP;split<;>rfl
 generalize entP (Ent.row false) 5 L=EP at*
 cases la
 all_goals
 refine aH (ir:=ir47) (by kernel_rfl) ?_;simp +contextual (maxSteps:=1000000) [ir47,ssL,↓ssM,ao,ssU,ssR,b0,b1,b2,re,g0,g1,g2,g3,g4,wf,wt,wks,e2,gk,hasK,iC,bG,bsz,ws,hc]
theorem yt  (g:Gft) (gf gt:Nat) (hgf:g.fr=gf) (hgt:g.to=gt) (gno:g.no<2^64) (gf1:gf<2^31) (gt1:gt<2^31) (gn:g.sh.norm) (gd:g.sh.depth≤16) (gs:(pack (idBits g.sh)).length≤4096) (ev:Ev) (hn:ev.norm) (hm:ev.max≤2^20) (hd:ev.depth≤16) (hp:(pack (evBits ev)).length≤4096) (L:List Ent) (hF : ∀ e∈L,e.Fit) (hL:L.length<2^31) (hl:(u8 6::(u8 f::(u8 t::(g.bytes++(txt (pack (evBits ev))++(vnum L.length++(entB L++[]))))))).length<2^31):
  Φ 47 [.ref 0 0] [wi fl (u8 6::(u8 f::(u8 t::(g.bytes++(txt (pack (evBits ev))++(vnum L.length++(entB L++[]))))))) 0]=some (.p (Nte.pv false ⟨6,f,t,0,0,false,ev,L,g,0⟩),[wi fl [] 0]):=by
 have l3:(g.bytes++(txt (pack (evBits ev))++(vnum L.length++(entB L++[])))).length<2^31:=by simp only [List.length_cons] at hl;omega
 have l4:(txt (pack (evBits ev))++(vnum L.length++(entB L++[]))).length<2^31:=by rw [List.length_append] at l3;omega
 have l5:(vnum L.length++(entB L++[])).length<2^31:=by rw [List.length_append] at l4;omega
 have l6:(entB L++[]).length<2^31:=by rw [List.length_append] at l5;omega
 have l7:([]:List UInt8).length<2^31:=by rw [List.length_append] at l6;omega
 have b0:=be fl (u8 f::(u8 t::(g.bytes++(txt (pack (evBits ev))++(vnum L.length++(entB L++[])))))) 6 (by omega) (by omega)
 have b1:=be fl (u8 t::(g.bytes++(txt (pack (evBits ev))++(vnum L.length++(entB L++[]))))) f f0 (by omega)
 have b2:=be fl (g.bytes++(txt (pack (evBits ev))++(vnum L.length++(entB L++[])))) t t0 (by omega)
 have g0:=sI fl (txt (pack (evBits ev))++(vnum L.length++(entB L++[]))) g gf gt hgf hgt gno gf1 gt1 gn gd gs l3
 have g1:=cN fl (vnum L.length++(entB L++[])) 1048576 (pack (evBits ev)) (by omega) (by decide) l4
 have g2:=il fl [] L hF hL l5
 have re:=by
  have:=fun fl=>fg fl (pack (evBits ev)) (by omega)
  rw [kN ev hn hm hd] at this
  exact this
 have wf:IntKind.i64.wrap f=f:=am _ (by omega) (by omega)
 have wt:IntKind.i64.wrap t=t:=am _ (by omega) (by omega)
 have e2:=fun p=>bC fl p 0 0
 simp only [Int.cast_ofNat_Int,if_true,Ev.pv,Gft.pv,Nte.pv,Nte.cells,Ev.n_l,Ev.ptr_l,Id.all_z,Id.ptr_z,Int.natCast_zero] at g0 g1 g2 re e2 ⊢
 clear hl l3 l4 l5 l6 l7
 generalize (u8 6::(u8 f::(u8 t::(g.bytes++(txt (pack (evBits ev))++(vnum L.length++(entB L++[])))))))=p0 at*
 generalize (u8 f::(u8 t::(g.bytes++(txt (pack (evBits ev))++(vnum L.length++(entB L++[]))))))=p1 at*
 generalize (u8 t::(g.bytes++(txt (pack (evBits ev))++(vnum L.length++(entB L++[])))))=p2 at*
 generalize (g.bytes++(txt (pack (evBits ev))++(vnum L.length++(entB L++[]))))=p3 at*
 generalize (txt (pack (evBits ev))++(vnum L.length++(entB L++[])))=p4 at*
 generalize (vnum L.length++(entB L++[]))=p5 at*
 generalize (entB L++[])=p6 at*
 generalize ([]:List UInt8)=pe at*
 clear gs gd gn gf1 gt1 gno
 generalize ev.n=en at*
 generalize ev.ptr=ep at*
 generalize pack (evBits ev)=eq at*
 have hc:(LV.p (entP (Ent.row false) 5 L)).cells=some [.p (entP (Ent.row false) 5 L)]:=by unfold entP;split<;>rfl
 generalize entP (Ent.row false) 5 L=EP at*
 generalize g.no=gn0 at*
 generalize g.fr=gf0 at*
 generalize g.to=gt0 at*
 generalize g.sh.all=ga0 at*
 generalize g.sh.ptr=gp0 at*
 refine aH (ir:=ir47) (by kernel_rfl) ?_;simp +contextual (maxSteps:=1000000) [ir47,ssL,↓ssM,ao,ssU,ssR,b0,b1,b2,re,g0,g1,g2,wf,wt,wks,e2,gk,hasK,iC,bG,bsz,hc]
end
end Go.Proofs.YtppeggedcaabkaaGreatDoor
end

section
namespace Go.Proofs.YtppeggedcaabkaaGreatDoor
open Go Go.Sx
structure Nte.RF (n:Nte):Prop where
 ses:n.ses<2^64
 no:n.no<2^64
 gno:n.gift.no<2^64
 norm:n.ev.norm
 max:n.ev.max≤2^20
 depth:n.ev.depth≤16
 pk:(pack (evBits n.ev)).length≤4096
 ents : ∀ e∈n.ents,e.Fit
 len:n.ents.length<2^31
 gn:n.gift.sh.norm
 gd:n.gift.sh.depth≤16
 gs:(pack (idBits n.gift.sh)).length≤4096
 size:n.body.length<2^20
theorem mM {n:Nte} (hr:n.right=true):n.kind=1∨n.kind=2∨n.kind=3∨n.kind=4∨n.kind=5∨n.kind=6∨n.kind=7:=by
 unfold Nte.right hasK at hr
 rcases Int.lt_or_le n.kind 1 with h|h
 ·simp [show n.kind≠1 by omega,show n.kind≠2 by omega,show n.kind≠3 by omega,show n.kind≠4 by omega,show n.kind≠5 by omega,show n.kind≠6 by omega,show n.kind≠7 by omega] at hr
 ·rcases Int.lt_or_le 7 n.kind with h2|h2
  ·simp [show n.kind≠1 by omega,show n.kind≠2 by omega,show n.kind≠3 by omega,show n.kind≠4 by omega,show n.kind≠5 by omega,show n.kind≠6 by omega,show n.kind≠7 by omega] at hr
  ·omega
theorem n6 {n:Nte} (hn:n.ev.norm) (hr:n.right=true):zB (hasK n.kind) (decide (n.ses=0)) (decide (n.seq=0)) (!n.last) (decide (n.ev = .leaf 0)) n.ents.isEmpty (plainB n.gift) (decide (n.no=0))=true:=by
 have h:n.zeroB (hasK n.kind)=true:=by
  simp only [Nte.right,Bool.and_eq_true] at hr
  exact hr.2.1.1.1.1
 rw [←s7 _ hn]
 exact h
theorem dE {g:Gft} (h:plainB g=true):g=⟨0,0,0,.zero⟩:=by
 obtain ⟨a,b,c,d⟩:=g
 simp only [plainB,Bool.and_eq_true,decide_eq_true_eq] at h
 obtain ⟨rfl,rfl,rfl,rfl⟩:=h
 rfl
theorem jz {n:Nte} (hr:n.right=true) (hk:n.kind=6):n.gift.fr=n.fr∧n.gift.to=n.to:=by
 simp only [Nte.right,Bool.and_eq_true,hk] at hr
 have:=hr.2.2
 simp at this
 exact ⟨this.1.2,this.2⟩
theorem uW (n:Nte) (fl:Bool) (hr:n.right=true) (hf:n.RF):Φ 47 [.ref 0 0] [wi fl n.body 0]=some (.p (n.pv false),[wi fl [] 0]):=by
 have hz:=n6 hf.norm hr
 obtain ⟨⟨f0,f1⟩,⟨t0,t1⟩,⟨s0,s1⟩⟩:=bE hr
 have hg:=jz hr
 have hl:n.body.length<2^31:=by have:=hf.size;omega
 have hk:=mM hr
 obtain ⟨h1,h2,h3,h4,h5,h6,h7,h8,h9,h10,h11,h12,h13⟩:=hf
 obtain ⟨kind,f,t,ses,sq,la,ev,L,g,no⟩:=n
 simp only [] at hz f0 f1 t0 t1 s0 s1 hg hk h1 h2 h3 h4 h5 h6 h7 h8 h9 h10 h11 h12
 clear hr h13
 unfold Nte.body Nte.rest at hl ⊢
 simp only [] at hl ⊢
 rcases hk with rfl|rfl|rfl|rfl|rfl|rfl|rfl
 ·rw [show hasK 1=9 from rfl,yl] at hz
  simp only [Bool.and_eq_true,decide_eq_true_eq,Bool.not_eq_true',List.isEmpty_iff] at hz
  obtain ⟨⟨⟨⟨rfl,rfl⟩,rfl⟩,hp⟩,rfl⟩:=hz
  rw [dE hp]
  have:=vQ fl f t f0 f1 t0 t1 1 (.inl rfl) ses h1 ev h4 h5 h6 h7
  simp only [List.append_nil] at this
  exact this hl
 ·rw [show hasK 2=9 from rfl,yl] at hz
  simp only [Bool.and_eq_true,decide_eq_true_eq,Bool.not_eq_true',List.isEmpty_iff] at hz
  obtain ⟨⟨⟨⟨rfl,rfl⟩,rfl⟩,hp⟩,rfl⟩:=hz
  rw [dE hp]
  have:=vQ fl f t f0 f1 t0 t1 2 (.inr rfl) ses h1 ev h4 h5 h6 h7
  simp only [List.append_nil] at this
  exact this hl
 ·rw [show hasK 3=31 from rfl,yi] at hz
  simp only [Bool.and_eq_true,decide_eq_true_eq,Bool.not_eq_true',List.isEmpty_iff] at hz
  obtain ⟨hp,rfl⟩:=hz
  rw [dE hp]
  have:=yp fl f t f0 f1 t0 t1 ses h1 sq s0 s1 la ev h4 h5 h6 h7 L h8 h9
  simp only [List.append_nil] at this
  simp at hl ⊢
  simp at this
  exact this hl
 ·rw [show hasK 4=3 from rfl,yG] at hz
  simp only [Bool.and_eq_true,decide_eq_true_eq,Bool.not_eq_true',List.isEmpty_iff] at hz
  obtain ⟨⟨⟨⟨rfl,rfl⟩,rfl⟩,hp⟩,rfl⟩:=hz
  rw [dE hp]
  have:=yq fl f t f0 f1 t0 t1 ses h1 sq s0 s1
  exact this hl
 ·rw [show hasK 5=0 from rfl,yF] at hz
  simp only [Bool.and_eq_true,decide_eq_true_eq,Bool.not_eq_true',List.isEmpty_iff] at hz
  obtain ⟨⟨⟨⟨⟨⟨rfl,rfl⟩,rfl⟩,rfl⟩,rfl⟩,hp⟩,rfl⟩:=hz
  rw [dE hp]
  have:=yr fl f t f0 f1 t0 t1
  exact this hl
 ·rw [show hasK 6=44 from rfl,yj] at hz
  simp only [Bool.and_eq_true,decide_eq_true_eq,Bool.not_eq_true',List.isEmpty_iff] at hz
  obtain ⟨⟨⟨rfl,rfl⟩,rfl⟩,rfl⟩:=hz
  obtain ⟨g1,g2⟩:=hg rfl
  have:=yt fl f t f0 f1 t0 t1 g f.toNat t.toNat (by rw [g1];omega) (by rw [g2];omega) h3 (by omega) (by omega) h10 h11 h12 ev h4 h5 h6 h7 L h8 h9
  simp only [List.append_nil] at this
  simp at hl ⊢
  simp at this
  exact this hl
 ·rw [show hasK 7=64 from rfl,yk] at hz
  simp only [Bool.and_eq_true,decide_eq_true_eq,Bool.not_eq_true',List.isEmpty_iff] at hz
  obtain ⟨⟨⟨⟨⟨rfl,rfl⟩,rfl⟩,rfl⟩,rfl⟩,hp⟩:=hz
  rw [dE hp]
  have:=yu fl f t f0 f1 t0 t1 no h2
  simp only [List.append_nil] at this
  exact this hl
end Go.Proofs.YtppeggedcaabkaaGreatDoor
end

section
namespace Go.Proofs.YtppeggedcaabkaaGreatDoor
open Go Go.Sx
set_option maxHeartbeats 1000000
def zeroNote:Nte:=⟨0,0,0,0,0,false,.leaf 0,[],⟨0,0,0,.zero⟩,0⟩
end Go.Proofs.YtppeggedcaabkaaGreatDoor
end

section
namespace Go.Proofs.YtppeggedcaabkaaGreatDoor
open Go Go.Sx
theorem v6 (l:List Bool):8*(pack l).length<l.length+8:=by
 obtain ⟨k,hk,h⟩:=fB l
 have:=congrArg List.length h
 rw [dw,List.length_append,List.length_replicate] at this
 omega
theorem pB (x:Option (List UInt8)):(pack (evBits (mkEv 4 x).1)).length≤600:=by
 have h1:=eU x
 have h2:=v6 (evBits (mkEv 4 x).1)
 omega
theorem vd (x:Option (List UInt8)):(pack (idBits (mkId 4 x).1)).length≤20:=by
 have h1:=o8 x
 have h2:=v6 (idBits (mkId 4 x).1)
 omega
theorem qz (I:List Nat) (Ts:List (Option (List UInt8))) (j:Nat) (hi:I.getD j 0<2^32):(drawn I Ts j).Fit:=by
 obtain ⟨a,b,c⟩:=bK 4 (cutB 40 (Ts.getD j none))
 have hp:=pB (cutB 40 (Ts.getD j none))
 have hl:=ki (drawn I Ts j) hi (eU _)
 unfold Ent.bytes at hl
 rw [List.length_append,txt,List.length_append] at hl
 refine ⟨hi,⟨a,by show (mkEv 4 _).1.max≤_;omega,by show (mkEv 4 _).1.depth≤_;omega,by show (pack (evBits (mkEv 4 _).1)).length≤_;omega,?_⟩,by omega⟩
 intro h
 have h:decide (j%3=2)=true:=h
 show (!decide (j%3=2))=false
 rw [h];rfl
theorem qd {n:Nte} (h:n.Fit) (hr:n.right=true) (b1:(pack (evBits n.ev)).length≤600) (b2:(pack (idBits n.gift.sh)).length≤20) (b3:(entB n.ents).length≤40000):n.body.length<2^20:=by
 have h1:=az n.ses h.ses
 have h2:=az n.no h.no
 have h4:=az (pack (evBits n.ev)).length (by omega)
 have h5:=az n.ents.length (by have:=h.len;omega)
 have h6:=az n.gift.no h.gno
 have h8:=az (pack (idBits n.gift.sh)).length (by omega)
 have e1:(txt (pack (evBits n.ev))).length=(vnum (pack (evBits n.ev)).length).length+(pack (evBits n.ev)).length:=by rw [txt,List.length_append]
 have e2:(txt (pack (idBits n.gift.sh))).length=(vnum (pack (idBits n.gift.sh)).length).length+(pack (idBits n.gift.sh)).length:=by rw [txt,List.length_append]
 obtain ⟨p1,p2,p3⟩:=bE hr
 unfold Nte.body Nte.rest
 split
 ·simp only [List.length_append,List.length_cons,List.length_nil];omega
 split
 ·simp only [List.length_append,List.length_cons,List.length_nil];omega
 split
 ·simp only [List.length_append,List.length_cons,List.length_nil];omega
 split
 ·rename_i k6
  obtain ⟨g1,g2⟩:=jz hr k6
  have h9:=az n.gift.fr.toNat (by omega)
  have h10:=az n.gift.to.toNat (by omega)
  simp only [Gft.bytes,List.length_append,List.length_cons,List.length_nil];omega
 split
 ·simp only [List.length_append,List.length_cons,List.length_nil];omega
 ·simp
theorem Drw.Ok.rf {d:Drw} {I:List Nat} {Ts:List (Option (List UInt8))} (h:d.Ok I Ts) (hr:(d.note (drawnL I Ts)).right=true):(d.note (drawnL I Ts)).RF:=by
 have hf:=h.fit
 have hid : ∀ j,j<many I Ts→I.getD j 0<2^32:=by
  intro j hj
  have h1:j<I.length:=by unfold many at hj;omega
  rw [List.getD_eq_getElem?_getD,List.getElem?_eq_getElem h1]
  exact h.ids _ (List.getElem_mem h1)
 have g1:d.gift1.sh.norm∧d.gift1.sh.depth≤16∧(pack (idBits d.gift1.sh)).length≤20:=by
  unfold Drw.gift1
  split
  ·exact ⟨(fb 4 _).1,Nat.le_trans (fb 4 _).2 (by decide),vd _⟩
  ·exact ⟨trivial,by decide,by decide⟩
 have pe:=pB (cutB 30 d.tree)
 have he:(entB (drawnL I Ts)).length≤40000:=by
  have h1:=kh 4500 (drawnL I Ts) fun x hx=>by
   obtain ⟨j,hj,rfl⟩:=cS hx
   exact ki _ (hid j hj) (eU _)
  have h2:(drawnL I Ts).length<8:=by rw [cx];exact iG I Ts
  omega
 refine ⟨hf.ses,hf.no,hf.gno,hf.norm,?_,?_,?_,?_,?_,g1.1,g1.2.1,?_,qd hf hr pe g1.2.2 he⟩
 ·exact Nat.le_trans (bK 4 _).2.2 (by decide)
 ·exact Nat.le_trans (bK 4 _).2.1 (by decide)
 ·exact Nat.le_trans pe (by decide)
 ·intro x hx
  obtain ⟨j,hj,rfl⟩:=cS hx
  exact qz I Ts j (hid j hj)
 ·have:=hf.len;omega
 ·have:=g1.2.2
  show (pack (idBits d.gift1.sh)).length≤4096
  omega
end Go.Proofs.YtppeggedcaabkaaGreatDoor
end

section
namespace Go.Proofs.YtppeggedcaabkaaGreatDoor
open Go Go.Sx
section
variable (a:Drw) (M:Nte)
end
theorem eA {c:Ctx} {n:Nat} {a b d r:IRC} {st st':St} (h:runCS c n (.seq a (.seq b d)) st=some (.normal,st')):runCS c n (.seq a (.seq b (.seq d r))) st=runCS c n r st':=by
 rw [aL] at h ⊢
 cases q:runCS c n a st with
 | none=>rw [q] at h;cases h
 | some y=>
  obtain ⟨x,s⟩:=y
  rw [q] at h
  cases x with
  | normal=>exact dc h
  | exit i=>simp at h
  | ret=>simp at h
  | goto i=>simp at h
end Go.Proofs.YtppeggedcaabkaaGreatDoor
end

section
namespace Go.Proofs.YtppeggedcaabkaaGreatDoor
open Go Go.Sx
set_option maxHeartbeats 1000000
theorem m5 (a b c d:UInt8) (id off len cp:Nat) (ex:Bool) (H:Heap) (nx:Nat) (cs:List LV) (hl:H id=some (.cells cs)) (hid:id<nx) (h4:4≤len) (g0:cs[off]?=some (.int .u8 a.toNat)) (g1:cs[off+1]?=some (.int .u8 b.toNat)) (g2:cs[off+2]?=some (.int .u8 c.toNat)) (g3:cs[off+3]?=some (.int .u8 d.toNat)):
  Ω 94 [.arr id off len 1 cp ex] H nx=some (.int .u32 (nv (un4 a b c d)),[],[]):=by
 refine ae (ir:=ir94) (by kernel_rfl) 6 ?_
 have h0:0<len:=by omega
 have h1:1<len:=by omega
 have h2:2<len:=by omega
 have h3:3<len:=by omega
 simp [ir94,ir94_0,ssB,ssU,ssP,appO,iter,am,xX,xY,wb,wc,hP,pA,nT,un4,h0,h1,h2,h3,hl,hid,g0,g1,g2,g3]
theorem qs (pre l post:List UInt8) (cp:Nat) (ex:Bool) (h30:l.length<2^31):Ψ 95 [.arr 0 pre.length l.length 1 cp ex] [some (.cells (byt (pre++(l++post))))]=
  some (.p (.sl (bytP l) l.length 1 l.isEmpty)):=by
 have h41:l.length≤1099511627776:=by omega
 have hle:pre.length+l.length≤(byt (pre++(l++post))).length:=by simp [ak]
 have htk:List.take l.length (List.drop pre.length (byt (pre++(l++post))))=byt l:=by
  rw [aP,List.drop_left' (ak pre),aP,List.take_left' (ak l)]
 generalize byt (pre++(l++post))=Q at*
 cases l with
 | nil=>
  simp only [List.length_nil,Nat.add_zero,List.take_zero] at hle htk ⊢
  refine bV (ir:=ir95) (by kernel_rfl) ?_;simp +contextual (maxSteps:=1000000) [ir95,ssL,↓ssM,ao,ssU,ssR,hle,bu,bytP]
 | cons b l=>
  have hp : ¬(b::l)=[]:=by simp
  have hp' : ¬(b::l).length=0:=by simp
  have he:(b::l).isEmpty=false:=rfl
  generalize b::l=L at*
  refine bV (ir:=ir95) (by kernel_rfl) ?_;simp +contextual (maxSteps:=1000000) [ir95,ssL,↓ssM,ao,ssU,ssR,hle,htk,ak,aa,au,aE,aG,aD,aI,av,aA,hp,hp',he,h41]
section open'
variable (a b c d s0 s1 s2 s3:UInt8) (q:List UInt8) (cp:Nat) (ex:Bool)
abbrev eightC:List LV:=.int .u8 a.toNat :: .int .u8 b.toNat :: .int .u8 c.toNat :: .int .u8 d.toNat :: .int .u8 s0.toNat :: .int .u8 s1.toNat :: .int .u8 s2.toNat :: .int .u8 s3.toNat::byt q
theorem v5 (hq:q.length<2^30) (h:(un4 a b c d).toNat≤2^20) (hp:0<(un4 a b c d).toNat) (hs:(un4 a b c d).toNat≤q.length):
  Ψ 45 [.arr 0 0 (q.length+8) 1 cp ex] [some (.cells (eightC a b c d s0 s1 s2 s3 q))]=
  if un4 s0 s1 s2 s3=crc (a::b::c::d::q.take (un4 a b c d).toNat) then
   some (.tuple [.p (.sl (bytP (q.take (un4 a b c d).toNat)) (un4 a b c d).toNat 1 (q.take (un4 a b c d).toNat).isEmpty),.int .i64 (8+(un4 a b c d).toNat:Nat),.int .i64 0])
  else some (.tuple [.p (.s (.slice none 0 0)),.int .i64 0,.int .i64 13]):=by
 have h1:nv (un4 a b c d)≤1048576:=by rw [nv];omega
 have h8:(8:Int)≤(q.length:Int)+8:=by omega
 have hw:IntKind.i64.wrap (nv (un4 a b c d))=((un4 a b c d).toNat:Int):=am _ (by rw [nv];omega) (by rw [nv];omega)
 have hw8:IntKind.i64.wrap (8+((un4 a b c d).toNat:Int))=8+((un4 a b c d).toNat:Int):=am _ (by omega) (by omega)
 have hwq:IntKind.i64.wrap ((q.length:Int))=q.length:=am _ (by omega) (by omega)
 have h2:((un4 a b c d).toNat:Int)≤q.length:=by omega
 have ht:=fun len cp ex H nx=>m5 a b c d 0 0 len cp ex H nx (eightC a b c d s0 s1 s2 s3 q)
 have ht4:=fun len cp ex H nx=>m5 s0 s1 s2 s3 0 4 len cp ex H nx (eightC a b c d s0 s1 s2 s3 q)
 have hlen:(q.take (un4 a b c d).toNat).length=(un4 a b c d).toNat:=by simp;omega
 have hcl:=fun cp ex=>qs [a,b,c,d,s0,s1,s2,s3] (q.take (un4 a b c d).toNat) (q.drop (un4 a b c d).toNat) cp ex (by omega)
 simp only [List.take_append_drop,hlen] at hcl
 change ∀ (cp:Nat) (ex:Bool),Ψ _ [LV.arr 0 8 _ 1 cp ex] [some (.cells (eightC a b c d s0 s1 s2 s3 q))]=_ at hcl
 have hs4:=fun id cp ex H nx=>yb a b c d (q.take (un4 a b c d).toNat) (un4 a b c d).toNat hlen (by omega) id cp ex H nx
 have hge:(0:Int)≤8+((un4 a b c d).toNat:Int):=by omega
 have ht8:(8+((un4 a b c d).toNat:Int)).toNat=8+(un4 a b c d).toNat:=by omega
 have hle:8+(un4 a b c d).toNat≤q.length+8:=by omega
 have hne : ∀ X Y:BitVec 32,(nv X=nv Y)=(X=Y):=fun X Y=>propext nv_inj
 split
 all_goals
  rename_i hsum
  generalize hU:un4 a b c d=U at*
  generalize hR:q.take U.toNat=R at*
  have h0 : ¬U.toNat=0:=by omega
  have hR0:R.isEmpty=false:=by
   cases R with
   | nil=>simp at hlen;omega
   | cons x l=>rfl
  have h41:4+U.toNat≤1099511627776:=by omega
  have h42 : ¬1099511627776<4+U.toNat:=by omega
  have htk:List.take U.toNat (byt R)=byt R:=by rw [←hlen];exact au R
  refine bV (ir:=ir45) (by kernel_rfl) ?_;simp +contextual (maxSteps:=1000000) [ir45,ssL,↓ssM,ao,ssU,ssR,ht,ht4,h1,h8,hw,hwq,h2,hw8,hge,ht8,hle,gS,hR,hcl,hs4,aQ,ak,aa,au,aE,aG,aD,aI,av,aA,hlen,h0,h41,h42,hR0,hsum,htk,hne]
end open'
theorem ku (l z:List UInt8):frame l++z=low (BitVec.ofNat 32 l.length)::low (BitVec.ofNat 32 l.length >>> 8)::low (BitVec.ofNat 32 l.length >>> 16)::low (BitVec.ofNat 32 l.length >>> 24)::
   low (crc (le4 (BitVec.ofNat 32 l.length)++l))::low (crc (le4 (BitVec.ofNat 32 l.length)++l) >>> 8)::low (crc (le4 (BitVec.ofNat 32 l.length)++l) >>> 16)::low (crc (le4 (BitVec.ofNat 32 l.length)++l) >>> 24)::(l++z):=by
 unfold frame le4
 simp only [List.append_assoc,List.cons_append,List.nil_append]
theorem tq (l z:List UInt8) (cp:Nat) (ex:Bool) (h0:0<l.length) (h:l.length≤2^20) (hz:z.length<2^20):Ψ 45 [.arr 0 0 (frame l++z).length 1 cp ex] [some (.cells (byt (frame l++z)))]=
  some (.tuple [.p (.sl (bytP l) l.length 1 l.isEmpty),.int .i64 (8+l.length:Nat),.int .i64 0]):=by
 have hU:(BitVec.ofNat 32 l.length).toNat=l.length:=by rw [BitVec.toNat_ofNat];omega
 have ht:(l++z).take l.length=l:=by rw [List.take_append_of_le_length (Nat.le_refl _),List.take_length]
 have g:=v5 (low (BitVec.ofNat 32 l.length)) (low (BitVec.ofNat 32 l.length >>> 8)) (low (BitVec.ofNat 32 l.length >>> 16)) (low (BitVec.ofNat 32 l.length >>> 24))
  (low (crc (le4 (BitVec.ofNat 32 l.length)++l))) (low (crc (le4 (BitVec.ofNat 32 l.length)++l) >>> 8)) (low (crc (le4 (BitVec.ofNat 32 l.length)++l) >>> 16)) (low (crc (le4 (BitVec.ofNat 32 l.length)++l) >>> 24)) (l++z) cp ex
  (by rw [List.length_append];omega) (by rw [cd,hU];exact h) (by rw [cd,hU];exact h0) (by rw [cd,hU,List.length_append];omega)
 rw [cd (BitVec.ofNat 32 l.length),hU,ht,if_pos (by rw [cd];rfl)] at g
 rw [ku]
 exact g
theorem kL (l m:List UInt8) (k:Nat) (b c:UInt8) (cp:Nat) (ex:Bool) (h0:0<l.length) (h:l.length≤2^20) (h4:4≤k) (hk:(frame l)[k]?=some b) (hb:b≠c) (hm:m=(frame l).set k c):
  Ψ 45 [.arr 0 0 m.length 1 cp ex] [some (.cells (byt m))]=some (.tuple [.p (.s (.slice none 0 0)),.int .i64 0,.int .i64 13]):=by
 have hU:(BitVec.ofNat 32 l.length).toNat=l.length:=by rw [BitVec.toNat_ofNat];omega
 have g:=fun s0 s1 s2 s3 q (hq3:q.length<2^30) hq=>v5 (low (BitVec.ofNat 32 l.length)) (low (BitVec.ofNat 32 l.length >>> 8)) (low (BitVec.ofNat 32 l.length >>> 16)) (low (BitVec.ofNat 32 l.length >>> 24))
  s0 s1 s2 s3 q cp ex hq3 (by rw [cd,hU];exact h) (by rw [cd,hU];exact h0) (by rw [cd,hU];exact hq)
 have f8:=ku l []
 rw [List.append_nil,List.append_nil] at f8
 rw [f8] at hk hm
 have S : ∀ s0 s1 s2 s3 q,q.length=l.length→un4 s0 s1 s2 s3≠crc (low (BitVec.ofNat 32 l.length)::low (BitVec.ofNat 32 l.length >>> 8)::low (BitVec.ofNat 32 l.length >>> 16)::low (BitVec.ofNat 32 l.length >>> 24)::q) →
   Ψ 45 [.arr 0 0 (q.length+8) 1 cp ex] [some (.cells (eightC (low (BitVec.ofNat 32 l.length)) (low (BitVec.ofNat 32 l.length >>> 8)) (low (BitVec.ofNat 32 l.length >>> 16)) (low (BitVec.ofNat 32 l.length >>> 24)) s0 s1 s2 s3 q))]=some (.tuple [.p (.s (.slice none 0 0)),.int .i64 0,.int .i64 13]):=by
  intro s0 s1 s2 s3 q hq hs
  have:=g s0 s1 s2 s3 q (by omega) (by omega)
  rwa [cd,hU,show List.take l.length q=q by rw [←hq,List.take_length],if_neg hs] at this
 have e:=cd (crc (le4 (BitVec.ofNat 32 l.length)++l))
 have le:le4 (BitVec.ofNat 32 l.length)++l=low (BitVec.ofNat 32 l.length)::low (BitVec.ofNat 32 l.length >>> 8)::low (BitVec.ofNat 32 l.length >>> 16)::low (BitVec.ofNat 32 l.length >>> 24)::l:=rfl
 rw [le] at e hk hm
 generalize low (BitVec.ofNat 32 l.length)=a0 at*
 generalize low (BitVec.ofNat 32 l.length >>> 8)=a1 at*
 generalize low (BitVec.ofNat 32 l.length >>> 16)=a2 at*
 generalize low (BitVec.ofNat 32 l.length >>> 24)=a3 at*
 generalize hC:crc (a0::a1::a2::a3::l)=C at*
 generalize low C=t0 at*
 generalize low (C >>> 8)=t1 at*
 generalize low (C >>> 16)=t2 at*
 generalize low (C >>> 24)=t3 at*
 have X : ∀ s0 s1 s2 s3,¬(s0=t0∧s1=t1∧s2=t2∧s3=t3)→un4 s0 s1 s2 s3≠crc (a0::a1::a2::a3::l):=fun s0 s1 s2 s3 hn hu=>hn (by rw [hC,←e] at hu;exact vD hu)
 subst hm
 match k,h4 with
 | 4,_=>obtain rfl:=Option.some.inj hk;exact S c t1 t2 t3 l rfl (X _ _ _ _ fun h=>hb h.1.symm)
 | 5,_=>obtain rfl:=Option.some.inj hk;exact S t0 c t2 t3 l rfl (X _ _ _ _ fun h=>hb h.2.1.symm)
 | 6,_=>obtain rfl:=Option.some.inj hk;exact S t0 t1 c t3 l rfl (X _ _ _ _ fun h=>hb h.2.2.1.symm)
 | 7,_=>obtain rfl:=Option.some.inj hk;exact S t0 t1 t2 c l rfl (X _ _ _ _ fun h=>hb h.2.2.2.symm)
 | j+8,_=>
  have hj:l[j]?=some b:=hk
  obtain ⟨hlt,rfl⟩:=List.getElem?_eq_some_iff.1 hj
  have es:l.set j c=l.take j++c::l.drop (j+1):=List.set_eq_take_append_cons_drop.trans (if_pos hlt)
  have el:l=l.take j++l[j]::l.drop (j+1):=(List.take_append_drop j l).symm.trans (by rw [List.drop_eq_getElem_cons hlt])
  refine S t0 t1 t2 t3 (l.set j c) (by simp) ?_
  rw [e,←hC,es]
  conv=>lhs;rw [el]
  exact nk (a0::a1::a2::a3::l.take j) _ hb
end Go.Proofs.YtppeggedcaabkaaGreatDoor
end

section
namespace Go.Proofs.YtppeggedcaabkaaGreatDoor
open Go Go.Sx
set_option maxHeartbeats 1000000
theorem fx (x:LV) (l:List (Ob)) (c:Int) (hc:c≠0) (hx:(∃ p n fl,x = .p (.sl p n 1 fl)∧l=[])∨∃ n cp ex cs,x = .arr 0 0 n 1 cp ex∧l=[some (.cells (byt cs))])
  (o:Ψ 45 [x] l=some (.tuple [.p (.s (.slice none 0 0)),.int .i64 0,.int .i64 c])):Ψ 14 [x] l=some (.tuple [.p (zeroNote.pv false),.int .i64 c]):=by
 simp only [Nte.pv,Nte.cells,zeroNote,Ev.n_l,Ev.ptr_l,Id.all_z,Id.ptr_z,entP,if_true]
 rcases hx with ⟨p,n,fl,rfl,rfl⟩|⟨n,cp,ex,cs,rfl,rfl⟩
 all_goals
  refine bV (ir:=ir14) (by kernel_rfl) ?_;simp +contextual (maxSteps:=1000000) [ir14,ssL,↓ssM,ao,ssU,ssR,o,hc,ak,aa,au,aE,aG,aD,aI,av,aA]
theorem nZ (F B pe:List UInt8) (cp m:Nat) (ex fl2:Bool) (x0 x1 x2 x3 x4 x5 x6 x7 x8 x9 y0 y1 y2 y3 y4:PV)
  (o:Ψ 45 [.arr 0 0 m 1 cp ex] [some (.cells (byt F))]=some (.tuple [.p (.sl (bytP B) B.length 1 fl2),.int .i64 (8+B.length:Nat),.int .i64 0])) (w : ∀ fl,Φ 46 [sB fl B] []=some (.ref 0 0,[wi fl2 B 0]))
  (g : ∀ fl,Φ 47 [.ref 0 0] [wi fl B 0]=some (.p (.agg [x0,x1,x2,x3,x4,x5,x6,x7,x8,x9,y0,y1,y2,y3,y4]),[wi fl pe 0])) (h1 : ¬(8+(B.length:Int)=(m:Int))):
  Ψ 14 [.arr 0 0 m 1 cp ex] [some (.cells (byt F))]=some (.tuple [.p (zeroNote.pv false),.int .i64 6]):=by
 simp only [Nte.pv,Nte.cells,zeroNote,Ev.n_l,Ev.ptr_l,Id.all_z,Id.ptr_z,entP,if_true]
 refine bV (ir:=ir14) (by kernel_rfl) ?_;simp +contextual (maxSteps:=1000000) [ir14,ssL,↓ssM,ao,ssU,ssR,o,w,g,h1,ak,aa,au,aE,aG,aD,aI,av,aA]
theorem jq (n:Nte) (z:List UInt8) (cp:Nat) (ex:Bool) (hr:n.right=true) (hf:n.RF) (h0:0<n.body.length) (hz:z≠[]) (hz2:z.length<2^20):
  Ψ 14 [.arr 0 0 (frame n.body++z).length 1 cp ex] [some (.cells (byt (frame n.body++z)))]=some (.tuple [.p (zeroNote.pv false),.int .i64 6]):=by
 have hs:=hf.size
 have o:=tq n.body z cp ex h0 (by omega) hz2
 have w:=fun fl=>xA fl n.body (by omega)
 have g:=fun fl=>uW n fl hr hf
 have hzl:0<z.length:=List.length_pos_iff.2 hz
 have hlen:(frame n.body++z).length=8+n.body.length+z.length:=by rw [List.length_append,eV]
 refine nZ _ _ _ _ _ _ _ _ _ _ _ _ _ _ _ _ _ _ _ _ _ _ o w g ?_
 rw [hlen]
 omega
theorem u9 (l:List UInt8) (k:Nat) (fl:Bool) (h:l.length≤2^20) (hk:k<8+l.length):Ψ 45 [.p (.sl (bytP ((frame l).take k)) k 1 fl)] []=
  some (.tuple [.p (.s (.slice none 0 0)),.int .i64 0,.int .i64 6]):=by
 by_cases h8:k<8
 ·have:(k:Int)<8:=by omega
  have t2 : ¬(8:Int)≤k:=by omega
  refine bV (ir:=ir45) (by kernel_rfl) ?_;simp +contextual (maxSteps:=1000000) [ir45,ssL,↓ssM,ao,ssU,ssR,this,t2]
 ·obtain ⟨j,rfl⟩ : ∃ j,k=j+8:=⟨k-8,by omega⟩
  have hU:(BitVec.ofNat 32 l.length).toNat=l.length:=by rw [BitVec.toNat_ofNat];omega
  have f8:=ku l []
  rw [List.append_nil,List.append_nil] at f8
  have hl:(l.take j).length=j:=by rw [List.length_take];omega
  have g:=nR (low (BitVec.ofNat 32 l.length)) (low (BitVec.ofNat 32 l.length >>> 8)) (low (BitVec.ofNat 32 l.length >>> 16)) (low (BitVec.ofNat 32 l.length >>> 24))
   (low (crc (le4 (BitVec.ofNat 32 l.length)++l))) (low (crc (le4 (BitVec.ofNat 32 l.length)++l) >>> 8)) (low (crc (le4 (BitVec.ofNat 32 l.length)++l) >>> 16)) (low (crc (le4 (BitVec.ofNat 32 l.length)++l) >>> 24)) (l.take j) fl
   (by rw [cd,hU];exact h) (by rw [cd,hU,hl];omega)
  rw [hl] at g
  rw [f8]
  exact g
end Go.Proofs.YtppeggedcaabkaaGreatDoor
end

section
namespace Go.Proofs.YtppeggedcaabkaaGreatDoor
open Go Go.Sx
set_option maxHeartbeats 1000000
theorem pH (x:LV) (m:List UInt8) (id n cp:Nat) (ex:Bool) (r:LV) (H:Heap) (nx:Nat) (hl:H id=some (.cells (byt m))) (hid:id<nx) (h:Ψ 14 [.arr 0 0 n 1 cp ex] [some (.cells (byt m))]=some (.tuple [.p (zeroNote.pv false),r])) (hr:bk [id] nx r=r):
  Ω 14 [.arr id 0 n 1 cp ex] H nx=some (.tuple [.p (zeroNote.pv false),r],[],[]):=by
 generalize zeroNote.pv false=z at*
 simp [ssL,↓ssM,ao,ssU,ssR,ak,aa,au,aE,aG,aD,aI,av,aA,hl,h,hr]
theorem vj (p:List PV) (n:Nat) (fl:Bool) (c:Int) (h:Ψ 14 [.p (.sl p n 1 fl)] []=some (.tuple [.p (zeroNote.pv false),.int .i64 c])) (H:Heap) (nx:Nat):
  Ω 14 [.p (.sl p n 1 fl)] H nx=some (.tuple [.p (zeroNote.pv false),.int .i64 c],[],[]):=by
 generalize zeroNote.pv false=z at*
 simp [ssL,↓ssM,ao,ssU,ssR,h]
theorem tI (l:List UInt8) (h0:l≠[]) (h30:l.length<2^31) (H:Heap) (nx:Nat):Ω 15 [.p (.sl (bytP l) l.length 1 false)] H nx=some (.arr nx 0 l.length 1 l.length false,[],[some (.cells (byt l))]):=by
 refine ae (ir:=ir15) (by kernel_rfl) 0 ?_
 have h41:l.length≤1099511627776:=by omega
 have h42 : ¬1099511627776<l.length:=by omega
 have hp : ¬l.length=0:=by simpa using h0
 simp [ir15,ssB,ssU,ssP,appO,ak,aa,au,aE,aG,aD,aI,av,aA,aQ,hp,h0,h41,h42]
theorem xg (a b:UInt8):binI .xor .u8 (a.toNat:Int) (b.toNat:Int)=some (.int .u8 ((a ^^^ b).toNat:Nat)):=by
 have e:(BitVec.ofInt 8 (a.toNat:Int) ^^^ BitVec.ofInt 8 (b.toNat:Int)).toNat=(a ^^^ b).toNat:=by
  rw [BitVec.ofInt_natCast,BitVec.ofInt_natCast,UInt8.toNat_xor,BitVec.toNat_xor,BitVec.toNat_ofNat,BitVec.toNat_ofNat,Nat.mod_eq_of_lt a.toNat_lt,Nat.mod_eq_of_lt b.toNat_lt]
 have h:=(a ^^^ b).toNat_lt
 show some (Value.int .u8 (IntKind.u8.wrap ((BitVec.ofInt 8 (a.toNat:Int) ^^^ BitVec.ofInt 8 (b.toNat:Int)).toNat:Int)))=_
 rw [e]
 generalize (a ^^^ b).toNat=k at*
 congr 2
 simp [IntKind.wrap,IntKind.signed,IntKind.bits];omega
abbrev ntB:IRC:=ir6.body
theorem s8:ir6=⟨[0,1,2,3],.seq (stC 0 ntB) (.seq (stC 1 ntB) (.seq (stC 2 ntB) (.seq (stC 3 ntB) (.seq (stC 4 ntB) (.seq (stC 5 ntB) (.seq (stC 6 ntB) (.seq (stC 7 ntB) (.seq (stC 8 ntB) (.seq (stC 9 ntB) (.seq (stC 10 ntB) (.seq (stC 11 ntB) .ret))))))))))),[(8,none)],false⟩:=rfl
section
variable (a:Drw) (M:Nte) (at' t cut:Int)
theorem wJ:runCS apc 0 (.seq (stC 0 ntB) (.seq (stC 1 ntB) (stC 2 ntB))) ⟨[(0,.p (.agg a.cells)),(1,.int .u16 at'),(2,.int .u8 t),(3,.int .u16 cut)],⟨[],[]⟩⟩=
  some (.normal,⟨[(1,.int .u16 at'),(2,.int .u8 t),(3,.int .u16 cut),(4,.ref 0 0)],⟨[],[some (.cells (pc (Drw.cells { a with plain:=true })))]⟩⟩):=by
 have aw:=t7
 simp only [Drw.cells,aN,bf]
 simp +contextual (maxSteps:=1000000) [ntB,ir6,stC,ssI,↓ssJ,ssU,ssP,appO,aw]
theorem yw (hA : ∀ H,Ω 8 [.p (.agg (Drw.cells { a with plain:=true }))] H 1=some (.tuple [.p (M.pv false),.p (M.rv true)],[],[])):
  runCS apc 0 (stC 3 ntB) ⟨[(1,.int .u16 at'),(2,.int .u8 t),(3,.int .u16 cut),(4,.ref 0 0)],⟨[],[some (.cells (pc (Drw.cells { a with plain:=true })))]⟩⟩=
   some (.normal,⟨[(1,.int .u16 at'),(2,.int .u8 t),(3,.int .u16 cut),(9,.p (.imm (M.cells false) 0))],⟨[],[]⟩⟩):=by
 simp only [Drw.cells,Nte.pv,Nte.rv,Nte.cells,Nte.rcells,aN,bf] at hA ⊢
 simp +contextual (maxSteps:=1000000) [ntB,ir6,stC,ssI,↓ssJ,ssU,ssP,appO,hA]
theorem xG (p:LV) (e:Int) (hM : ∀ H nx,Ω 9 [.p (M.pv false)] H nx=some (.tuple [p,.int .i64 e],[],[])):
  runCS apc 0 (stC 4 ntB) ⟨[(1,.int .u16 at'),(2,.int .u8 t),(3,.int .u16 cut),(9,.p (.imm (M.cells false) 0))],⟨[],[]⟩⟩=
   some (.normal,⟨[(1,.int .u16 at'),(2,.int .u8 t),(3,.int .u16 cut),(11,p),(12,.int .i64 e)],⟨[],[]⟩⟩):=by
 simp only [Nte.pv,Nte.cells] at hM ⊢
 simp +contextual (maxSteps:=1000000) [ntB,ir6,stC,ssI,↓ssJ,ssU,ssP,appO,hM]
theorem vY (p:LV) (e:Int) (h : ¬(e=0∧t≠0)):runCS apc 0 (stC 5 ntB) ⟨[(1,.int .u16 at'),(2,.int .u8 t),(3,.int .u16 cut),(11,p),(12,.int .i64 e)],⟨[],[]⟩⟩=some (.ret,⟨[(8,.bool true)],⟨[],[]⟩⟩):=by
 by_cases he:e=0
 ·have ht:t=0:=by simpa [he] using h
  simp +contextual (maxSteps:=1000000) [ntB,ir6,stC,ssI,↓ssJ,ssU,ssP,appO,he,ht]
 ·simp +contextual (maxSteps:=1000000) [ntB,ir6,stC,ssI,↓ssJ,ssU,ssP,appO,he]
theorem yx (p:LV) (ht:t≠0):runCS apc 0 (stC 5 ntB) ⟨[(1,.int .u16 at'),(2,.int .u8 t),(3,.int .u16 cut),(11,p),(12,.int .i64 0)],⟨[],[]⟩⟩=
  some (.normal,⟨[(1,.int .u16 at'),(2,.int .u8 t),(3,.int .u16 cut),(11,p),(38,.bool false)],⟨[],[]⟩⟩):=by
 simp +contextual (maxSteps:=1000000) [ntB,ir6,stC,ssI,↓ssJ,ssU,ssP,appO,ht]
end
section
variable (F:List UInt8) (at' cut:Nat) (t:UInt8) (h8:8<F.length) (h20:F.length<2^30) (hat:at'<2^16) (hcut:cut<2^16)
include h8 h20 hat hcut
theorem xH (b:UInt8) (hb:F[4+at'%(F.length-4)]?=some b):runCS apc 0 (.seq (stC 6 ntB) (stC 7 ntB)) ⟨[(1,.int .u16 at'),(2,.int .u8 t.toNat),(3,.int .u16 cut),(11,.p (.sl (bytP F) F.length 1 false)),(38,.bool false)],⟨[],[]⟩⟩=
  some (.normal,⟨[(2,.int .u8 t.toNat),(3,.int .u16 cut),(11,.p (.sl (bytP F) F.length 1 false)),(13,.arr 0 0 F.length 1 F.length false)],⟨[],[some (.cells (byt (F.set (4+at'%(F.length-4)) (b ^^^ t))))]⟩⟩):=by
 have c1:=fun H nx=>tI F (by intro e;rw [e] at h8;simp at h8) (by omega) H nx
 have x:=xg b t
 have e1:IntKind.i64.wrap ((F.length:Int)-4)=(F.length-4:Nat):=by rw [am _ (by omega) (by omega)];omega
 have hlt:at'%(F.length-4)<F.length-4:=Nat.mod_lt _ (by omega)
 have e0 : ¬((F.length-4:Nat):Int)=0:=by omega
 have e2:(at':Int).tmod ((F.length-4:Nat):Int)=(at'%(F.length-4):Nat):=rfl
 have e3:IntKind.i64.wrap (4+((at'%(F.length-4):Nat):Int))=((4+at'%(F.length-4):Nat):Int):=by rw [am _ (by omega) (by omega)];omega
 have e4:IntKind.i64.wrap (at':Int)=at':=am _ (by omega) (by omega)
 have e6:binI .rem .i64 (at':Int) ((F.length-4:Nat):Int)=some (.int .i64 (at'%(F.length-4):Nat)):=by
  show (if ((F.length-4:Nat):Int)=0 then none else some (Value.int .i64 ((at':Int).tmod ((F.length-4:Nat):Int))))=_
  rw [if_neg e0,e2]
 obtain ⟨k,hk⟩ : ∃ k,k=4+at'%(F.length-4):=⟨_,rfl⟩
 have e5:k<F.length:=by omega
 have g1:(byt F)[k]?=some (.int .u8 b.toNat):=by rw [←hk] at hb;simp only [byt,List.getElem?_map,hb];rfl
 have g2:List.take k (byt F)++LV.int .u8 (b ^^^ t).toNat::List.drop (k+1) (byt F)=byt (F.set k (b ^^^ t)):=by
  rw [List.set_eq_take_append_cons_drop,if_pos e5]
  simp only [byt,List.map_append,List.map_cons,List.map_take,List.map_drop]
 have g3 : ∀ h,(byt F)[k]'h=LV.int .u8 b.toNat:=fun h=>by rw [List.getElem?_eq_getElem h] at g1;exact Option.some.inj g1
 rw [←hk] at e3 ⊢
 generalize ((at'%(F.length-4):Nat):Int)=r at*
 generalize ((F.length-4:Nat):Int)=n4 at*
 have hn:((k:Nat):Int).toNat=k:=rfl
 have hg:(0:Int)≤k:=by omega
 simp +contextual (maxSteps:=1000000) [ntB,ir6,stC,ssI,↓ssJ,ssU,ssP,appO,c1,ak,aa,au,aE,aG,aD,aI,av,aA,e0,e1,e3,e4,e5,e6,g1,g3,x,hn,hg]
 rw [UInt8.toNat_xor] at g2
 exact ⟨e5,g2⟩
theorem yy (m:List UInt8) (hm:m.length=F.length) (rd : ∀ cp ex,Ψ 14 [.arr 0 0 m.length 1 cp ex] [some (.cells (byt m))]=some (.tuple [.p (zeroNote.pv false),.int .i64 13])):
  runCS apc 0 (stC 8 ntB) ⟨[(2,.int .u8 t.toNat),(3,.int .u16 cut),(11,.p (.sl (bytP F) F.length 1 false)),(13,.arr 0 0 F.length 1 F.length false)],⟨[],[some (.cells (byt m))]⟩⟩=
   some (.normal,⟨[(2,.int .u8 t.toNat),(3,.int .u16 cut),(11,.p (.sl (bytP F) F.length 1 false)),(15,.int .i64 13)],⟨[],[]⟩⟩):=by
 have r:=fun H nx h1 h2=>pH (.int .i64 13) m 0 F.length F.length false (.int .i64 13) H nx h1 h2 (by rw [←hm];exact rd _ _) rfl
 simp only [zeroNote,Nte.pv,Nte.cells,Ev.n_l,Ev.ptr_l,Id.all_z,Id.ptr_z,entP,if_true] at r
 simp +contextual (maxSteps:=1000000) [ntB,ir6,stC,ssI,↓ssJ,ssU,ssP,appO,ak,aa,au,aE,aG,aD,aI,av,aA,r]
theorem yz (rd : ∀ fl k,k<F.length→Ψ 14 [.p (.sl (bytP (F.take k)) k 1 fl)] []=some (.tuple [.p (zeroNote.pv false),.int .i64 6])):
  runCS apc 0 (stC 9 ntB) ⟨[(2,.int .u8 t.toNat),(3,.int .u16 cut),(11,.p (.sl (bytP F) F.length 1 false)),(15,.int .i64 13)],⟨[],[]⟩⟩=
   some (.normal,⟨[(2,.int .u8 t.toNat),(11,.p (.sl (bytP F) F.length 1 false)),(15,.int .i64 13),(17,.int .i64 6)],⟨[],[]⟩⟩):=by
 have hlt:cut%F.length<F.length:=Nat.mod_lt _ (by omega)
 have r:=fun fl H nx=>vj _ _ fl 6 (rd fl (cut%F.length) hlt) H nx
 have e0 : ¬(F.length:Int)=0:=by omega
 have e4:IntKind.i64.wrap (cut:Int)=cut:=am _ (by omega) (by omega)
 have e6:binI .rem .i64 (cut:Int) (F.length:Int)=some (.int .i64 (cut%F.length:Nat)):=by
  show (if (F.length:Int)=0 then none else some (Value.int .i64 ((cut:Int).tmod (F.length:Int))))=_
  rw [if_neg e0];rfl
 have e7:=gS (cut%F.length) F
 generalize cut%F.length=k at*
 have hn:((k:Nat):Int).toNat=k:=rfl
 have hg:(0:Int)≤k:=by omega
 have hk:k≤F.length:=by omega
 simp only [zeroNote,Nte.pv,Nte.cells,Ev.n_l,Ev.ptr_l,Id.all_z,Id.ptr_z,entP,if_true] at r
 simp +contextual (maxSteps:=1000000) [ntB,ir6,stC,ssI,↓ssJ,ssU,ssP,appO,ak,aa,au,aE,aG,aD,aI,av,aA,r,e4,e6,e7,hn,hg,hk]
theorem xE (rd : ∀ cp ex,Ψ 14 [.arr 0 0 (F++[t]).length 1 cp ex] [some (.cells (byt (F++[t])))]=some (.tuple [.p (zeroNote.pv false),.int .i64 6])):
  runCS apc 0 (stC 10 ntB) ⟨[(2,.int .u8 t.toNat),(11,.p (.sl (bytP F) F.length 1 false)),(15,.int .i64 13),(17,.int .i64 6)],⟨[],[]⟩⟩=
   some (.normal,⟨[(15,.int .i64 13),(17,.int .i64 6),(19,.int .i64 6)],⟨[],[]⟩⟩):=by
 have c1:=fun H nx=>tI F (by intro e;rw [e] at h8;simp at h8) (by omega) H nx
 have e1:byt (F++[t])=byt F++[.int .u8 t.toNat]:=by rw [aP];rfl
 have r:=fun cp ex H nx h1 h2=>pH (.int .i64 13) (F++[t]) 1 (F.length+1) cp ex (.int .i64 6) H nx h1 h2 (by have:=rd cp ex;rwa [List.length_append,List.length_singleton] at this) rfl
 have h41:F.length+1≤1099511627776:=by omega
 have h42 : ¬1099511627776<F.length+1:=by omega
 simp only [zeroNote,Nte.pv,Nte.cells,Ev.n_l,Ev.ptr_l,Id.all_z,Id.ptr_z,entP,if_true,e1] at r
 simp +contextual (maxSteps:=1000000) [ntB,ir6,stC,ssI,↓ssJ,ssU,ssP,appO,c1,ak,aa,au,aE,aG,aD,aI,av,aA,r,h41,h42]
end
theorem xF:runCS apc 0 (stC 11 ntB) ⟨[(15,.int .i64 13),(17,.int .i64 6),(19,.int .i64 6)],⟨[],[]⟩⟩=some (.normal,⟨[(8,.bool true)],⟨[],[]⟩⟩):=by
 simp +contextual (maxSteps:=1000000) [ntB,ir6,stC,ssI,↓ssJ,ssU,ssP,appO]
theorem okP {a:Drw} {I:List Nat} {T:List (Option (List UInt8))} (h:a.Ok I T):Drw.Ok { a with plain:=true } I T:=by
 obtain ⟨⟨l1,l2,l3,l4⟩,h2,h3,h4,h5,h6⟩:=h
 exact ⟨⟨l1,l2,l3,l4⟩,h2,h3,h4,h5,h6⟩
theorem ms (a:Drw) (I:List Nat) (T:List (Option (List UInt8))) (ha0:a.Ok I T) (at' cut:Nat) (t:UInt8) (hat:at'<2^16) (hcut:cut<2^16):
  Ω 6 [.p (.agg a.cells),.int .u16 at',.int .u8 t.toNat,.int .u16 cut] noH 0=some (.bool true,[],[]):=by
 have ha:=okP ha0
 have hA : ∀ H,Ω 8 [.p (.agg (Drw.cells { a with plain:=true }))] H 1=some (.tuple [.p (((Drw.made { a with plain:=true }).note (drawnL I (Drw.mTs { a with plain:=true } T))).pv false),.p (((Drw.made { a with plain:=true }).note (drawnL I (Drw.mTs { a with plain:=true } T))).rv true)],[],[]):=
  fun H=>xC _ I _ ha.made.lists ha.made.tree ha.share H 1 xp wh xj xk yv
 have hM:=ha.made.fit
 have hRF:=ha.made.rf
 generalize (Drw.made { a with plain:=true }).note (drawnL I (Drw.mTs { a with plain:=true } T))=M at*
 have m1:=fun H nx=>nJ M false hM H nx
 simp only [Nte.ans] at m1
 refine ae (ir:=ir6) (by kernel_rfl) 0 ?_
 rw [runF_I,s8]
 refine (if_pos rfl).trans ?_
 show bindK (runCS _ 0 _ ⟨[(0,LV.p (.agg a.cells)),(1,.int .u16 at'),(2,.int .u8 t.toNat),(3,.int .u16 cut)],⟨[],[]⟩⟩) _=_
 rw [eA (wJ a _ _ _),bn (yw a M _ _ _ hA)]
 by_cases hr:M.right=true
 ·have hf:=hRF hr
  have hs:=hf.size
  have b0:0<M.body.length:=by
   simp only [Nte.body,List.length_append,List.length_cons];omega
  simp only [if_pos hr] at m1
  rw [bn (xG M _ _ _ _ _ m1)]
  by_cases ht:t=0
  ·rw [aL,vY _ _ _ _ _ (by simp [ht])]
   simp [ssI,↓ssJ,ssU,ssP,appO]
  ·have ht':((t.toNat:Nat):Int)≠0:=fun e=>ht (UInt8.toNat_inj.1 (by simpa using e))
   have lF:(frame M.body).length=8+M.body.length:=eV M.body
   have h8:8<(frame M.body).length:=by omega
   have hlt:at'%((frame M.body).length-4)<(frame M.body).length-4:=Nat.mod_lt _ (by omega)
   have hb:=List.getElem?_eq_getElem (l:=frame M.body) (i:=4+at'%((frame M.body).length-4)) (by omega)
   have bad : ∀ b:UInt8,b≠b ^^^ t:=by
    intro b e
    apply ht
    have:b ^^^ (b ^^^ t)=0:=by rw [←e];simp
    rw [←UInt8.xor_assoc] at this
    simpa using this
   have hm:(List.set (frame M.body) (4+at'%((frame M.body).length-4)) ((frame M.body)[4+at'%((frame M.body).length-4)] ^^^ t)).length=(frame M.body).length:=List.length_set ..
   rw [bn (yx _ _ _ _ ht'),dc (xH (frame M.body) at' cut t h8 (by omega) hat hcut _ hb),
    bn (yy (frame M.body) at' cut t h8 (by omega) hat hcut _ hm fun cp ex=>fx _ _ 13 (by decide) (.inr ⟨_,_,_,_,rfl,rfl⟩) (kL M.body _ _ _ _ cp ex b0 (by omega) (by omega) hb (bad _) rfl)),
    bn (yz (frame M.body) at' cut t h8 (by omega) hat hcut fun fl k hk=>fx _ _ 6 (by decide) (.inl ⟨_,_,_,rfl,rfl⟩) (u9 M.body k fl (by omega) (by omega))),
    bn (xE (frame M.body) at' cut t h8 (by omega) hat hcut fun cp ex=>jq M [t] cp ex hr hf b0 (by simp) (by simp)),bn xF]
   simp [ssI,↓ssJ,ssU,ssP,appO]
 ·simp only [if_neg hr] at m1
  rw [bn (xG M _ _ _ _ _ m1),aL,vY _ _ _ _ _ (by simp)]
  simp [ssI,↓ssJ,ssU,ssP,appO]
end Go.Proofs.YtppeggedcaabkaaGreatDoor
end
