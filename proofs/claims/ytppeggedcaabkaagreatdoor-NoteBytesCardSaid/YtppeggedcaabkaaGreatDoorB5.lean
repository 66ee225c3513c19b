/- What the proof of the claim leans on, part 5 of 5: the value machine, the functions as it has them, their specifications. No condition. -/
import Derived.Test.YtppeggedcaabkaaGreatDoorB4
set_option linter.all false
set_option linter.unnecessarySimpa false
set_option linter.unusedSimpArgs false
set_option linter.unusedVariables false
set_option linter.constructorNameAsVariable false
set_option maxHeartbeats 4000000
section
namespace Go.Proofs.YtppeggedcaabkaaGreatDoor
open Go Go.Sx
theorem zZ (H:Heap) (nx:Nat):Ω 68 [.p annF] H nx=some (.int .i64 0,[],[]):=by
 have h:Ψ 68 [.p annF] []=some (.int .i64 0):=cQ (n:=20) (by kernel_rfl)
 simp [ssL,↓ssM,aA,ssU,ssR,h]
theorem zY (H:Heap) (nx:Nat):Ω 24 [.p (.sl ann 1 3 true)] H nx=some (.tuple [.p (.agg [.sl ann 1 3 false]),.int .i64 0],[],[]):=by
 have h:Ψ 24 [.p (.sl ann 1 3 true)] []=some (.tuple [.p (.agg [.sl ann 1 3 false]),.int .i64 0]):=cQ (n:=40) (by kernel_rfl)
 simp [ssL,↓ssM,aA,ssU,ssR,h]
theorem noC (H:Heap) (nx:Nat):Ω 24 [.p (.s (.slice none 0 0))] H nx=some (.tuple [.p (.agg [.s (.slice none 0 0)]),.int .i64 0],[],[]):=by
 have h:Ψ 24 [.p (.s (.slice none 0 0))] []=some (.tuple [.p (.agg [.s (.slice none 0 0)]),.int .i64 0]):=cQ (n:=40) (by kernel_rfl)
 simp [ssL,↓ssM,aA,ssU,ssR,h]
end Go.Proofs.YtppeggedcaabkaaGreatDoor
end

section
namespace Go.Proofs.YtppeggedcaabkaaGreatDoor
open Go Go.Sx
structure Drw where
 kind:Int
 fr:Int
 to:Int
 ses:Nat
 no:Nat
 seq:Int
 last:Bool
 plain:Bool
 tree:Option (List UInt8)
 share:Option (List UInt8)
 ids:PV
 trees:PV
abbrev Drw.cells (d:Drw):List PV:=[.s (.int .i64 d.kind),.s (.int .i64 d.fr),.s (.int .i64 d.to),.s (.int .u64 d.ses),.s (.int .u64 d.no),.s (.int .i64 d.seq),.s (.bool d.last),.s (.bool d.plain),obP false d.tree,obP false d.share,d.ids,d.trees]
def Drw.made (d:Drw):Drw:=if d.plain=true then
  { d with ses:=if 4<d.kind∨d.kind<1 then 0 else d.ses,seq:=if d.kind=3∨d.kind=4 then d.seq else 0,last:=d.last&&decide (d.kind=3),tree:=if d.kind=4∨d.kind=5∨d.kind=7 then none else d.tree,trees:=if d.kind=3∨d.kind=6 then d.trees else .s (.slice none 0 0) }
 else d
section
variable {H:Heap} {nx:Nat} (N:Nat) (d:Drw) (A B:Ob)
set_option maxHeartbeats 2000000 in
theorem xq (v2 v3:LV):runCS ⟨Ω,noG,H,nx⟩ N (.seq (stC 1 ir8.body) (stC 2 ir8.body)) ⟨[(1,.ref nx 0),(2,v2),(3,v3)],⟨[],[some (.cells (pc d.cells)),A,B]⟩⟩=
  some (.normal,⟨[(1,.ref nx 0),(2,v2),(3,v3),(4,.ref (nx+3) 0)],⟨[],[some (.cells (pc d.made.cells)),A,B,some (.cells (pc (Nte.rcells false ⟨d.kind,d.fr,d.to,0,0,false,.leaf 0,[],⟨0,0,0,.zero⟩,0⟩)))]⟩⟩):=by
 obtain ⟨k,f,t,ses,no,sq,last,plain,tr,sh,ids,trs⟩:=d
 have nw:=fun H nx=>AG k f t H nx
 simp only [Nte.rv,Nte.rcells,Ev.rv_l,Id.rv_z] at nw
 simp only [Drw.cells,Drw.made,Nte.rcells,aS,bd,Ev.rv_l,Id.rv_z]
 cases plain with
 | false=>
  simp +contextual (maxSteps:=1000000) [ir8,stC,ssI,↓ssJ,ssU,ssP,appO,nw,entP,cZ]
 | true=>
  by_cases h1:k=1
  ·subst h1
   simp +contextual (maxSteps:=1000000) [ir8,stC,ssI,↓ssJ,ssU,ssP,appO,nw,entP,cZ]
  by_cases h2:k=2
  ·subst h2
   simp +contextual (maxSteps:=1000000) [ir8,stC,ssI,↓ssJ,ssU,ssP,appO,nw,entP,cZ]
  by_cases h3:k=3
  ·subst h3
   simp +contextual (maxSteps:=1000000) [ir8,stC,ssI,↓ssJ,ssU,ssP,appO,nw,entP,cZ]
  by_cases h4:k=4
  ·subst h4
   simp +contextual (maxSteps:=1000000) [ir8,stC,ssI,↓ssJ,ssU,ssP,appO,nw,entP,cZ]
  by_cases h5:k=5
  ·subst h5
   simp +contextual (maxSteps:=1000000) [ir8,stC,ssI,↓ssJ,ssU,ssP,appO,nw,entP,cZ]
  by_cases h6:k=6
  ·subst h6
   simp +contextual (maxSteps:=1000000) [ir8,stC,ssI,↓ssJ,ssU,ssP,appO,nw,entP,cZ]
  by_cases h7:k=7
  ·subst h7
   simp +contextual (maxSteps:=1000000) [ir8,stC,ssI,↓ssJ,ssU,ssP,appO,nw,entP,cZ]
  by_cases h8:k<1
  ·have a1:k≤4:=by omega
   have a2 : ¬1≤k:=by omega
   simp +contextual (maxSteps:=1000000) [ir8,stC,ssI,↓ssJ,ssU,ssP,appO,nw,entP,cZ,h1,h2,h3,h4,h5,h6,h7,h8,a1,a2]
  ·have a1 : ¬k≤4:=by omega
   have a2:1≤k:=by omega
   have a3:4<k:=by omega
   simp +contextual (maxSteps:=1000000) [ir8,stC,ssI,↓ssJ,ssU,ssP,appO,nw,entP,cZ,h1,h2,h3,h4,h5,h6,h7,h8,a1,a2,a3]
abbrev Drw.ev (d:Drw):Ev:=(mkEv 4 (cutB 30 d.tree)).1
abbrev Drw.note0 (d:Drw):Nte:=⟨d.kind,d.fr,d.to,d.ses,d.seq,d.last,d.ev,[],⟨0,0,0,.zero⟩,0⟩
theorem iM (x:Option (List UInt8)) (H:Heap) (nx:Nat):Ω 20 [.p (mkEv 4 x).1.rv] H nx=some (.p (mkEv 4 x).1.pv,[],[]):=by
 obtain ⟨a,b,c⟩:=bP 4 x
 exact wg _ a (by omega) (by omega) H nx
theorem iJ (k:Nat) (hk:k<100) (x:Option (List UInt8)) (hx:shl x):(x=none∧cutB k x=none)∨(∃ l,x=some l∧l.length≤k∧cutB k x=some l)∨(∃ l,x=some l∧¬l.length≤k∧cutB k x=some (l.take k)∧(l.take k).length=k∧bytP (l.take k)=(bytP l).take k):=by
 cases x with
 | none=>exact .inl ⟨rfl,rfl⟩
 | some l=>
  by_cases h:l.length≤k
  ·exact .inr (.inl ⟨l,rfl,h,by simp [cutB,List.take_of_length_le h]⟩)
  ·exact .inr (.inr ⟨l,rfl,h,rfl,by simp;omega,by simp [bytP]⟩)
set_option maxHeartbeats 1000000 in
theorem uX (v2 v3:LV) (hx:shl d.tree):runCS ⟨Ω,noG,H,nx⟩ N (.seq (stC 3 ir8.body) (.seq (stC 4 ir8.body) (stC 5 ir8.body)))
   ⟨[(1,.ref nx 0),(2,v2),(3,v3),(4,.ref (nx+3) 0)],⟨[],[some (.cells (pc d.cells)),A,B,some (.cells (pc (Nte.rcells false ⟨d.kind,d.fr,d.to,0,0,false,.leaf 0,[],⟨0,0,0,.zero⟩,0⟩)))]⟩⟩=
  some (.normal,⟨[(1,.ref nx 0),(2,v2),(3,v3),(4,.ref (nx+3) 0),(5,.ref (nx+4) 0)],⟨[],[some (.cells (pc d.cells)),A,B,some (.cells (pc (d.note0.rcells false))),some (.cells (pc (d.note0.cells false)))]⟩⟩):=by
 obtain ⟨k,f,t,ses,no,sq,last,plain,tr,sh,ids,trs⟩:=d
 have h1:short (cutB 30 tr):=by
  intro l hl
  cases tr with
  | none=>cases hl
  | some y=>simp [cutB] at hl;rw [←hl];have:=hx y rfl;simp;omega
 have m:=fun fl H nx=>jp 4 (cutB 30 tr) fl (by omega) h1 H nx
 have tre:=fun H nx=>iM (cutB 30 tr) H nx
 have c4:((4:Nat):Int)=4:=rfl
 simp only [Drw.cells,Nte.rcells,Nte.cells,Drw.ev,aS,bd,Ev.rv_l,Id.rv_z,Id.all_z,Id.ptr_z]
 generalize hE2:(mkEv 4 (cutB 30 tr)).2=E2 at*
 generalize hE:(mkEv 4 (cutB 30 tr)).1=E at*
 obtain ⟨es,he⟩:=Ev.rv_imm E
 have hp:E.pv = .agg [.s (.int .u64 E.n),E.ptr]:=rfl
 rw [hp] at tre
 rw [he] at tre ⊢
 simp only [he,c4] at m
 rcases iJ 30 (by omega) tr hx with ⟨rfl,e1⟩|⟨l,rfl,e0,e1⟩|⟨l,rfl,e0,e1,e2,e3⟩
 ·rw [e1] at m
  have m1:=m false
  rw [cZ] at m1
  simp +contextual (maxSteps:=1000000) [ir8,stC,ssI,↓ssJ,ssU,ssP,appO,m1,tre,entP,cZ]
 ·rw [e1] at m
  have m1:=m false
  rw [cf] at m1
  have g1 : ¬(30:Int)<l.length:=by omega
  have g2:=bZ l
  simp +contextual (maxSteps:=1000000) [ir8,stC,ssI,↓ssJ,ssU,ssP,appO,m1,tre,entP,cf,g1,g2,ah]
 ·rw [e1] at m
  have m1:=m false
  rw [cf,e2,e3] at m1
  have g1:(30:Int)<l.length:=by omega
  have g4:30≤l.length:=by omega
  simp +contextual (maxSteps:=1000000) [ir8,stC,ssI,↓ssJ,ssU,ssP,appO,m1,tre,entP,cf,g1,g4,ah]
end
end Go.Proofs.YtppeggedcaabkaaGreatDoor
end

section
namespace Go.Proofs.YtppeggedcaabkaaGreatDoor
open Go Go.Sx
abbrev Drw.sh (d:Drw):Id:=(mkId 4 (cutB 20 d.share)).1
abbrev Drw.no1 (d:Drw):Nat:=if d.plain=false∨d.kind=7 then d.no else 0
abbrev Drw.gift1 (d:Drw):Gft:=if d.plain=false∨d.kind=6 then ⟨d.no,d.fr,d.to,d.sh⟩ else ⟨0,0,0,.zero⟩
abbrev Drw.note (d:Drw) (L:List Ent):Nte:=⟨d.kind,d.fr,d.to,d.ses,d.seq,d.last,d.ev,L,d.gift1,d.no1⟩
theorem pw (x:Option (List UInt8)) (H:Heap) (nx:Nat):Ω 22 [.p (mkId 4 x).1.rv] H nx=some (.p (mkId 4 x).1.pv,[],[]):=by
 obtain ⟨a,b⟩:=fG 4 x
 exact pZ _ a (by omega) H nx
def Lst (n:Nat) (x:PV):Prop:=(x = .s (.slice none 0 0)∧n=0)∨∃ ts,x = .sl ts n 1 false
section
variable {H:Heap} {nx:Nat} (N:Nat) (d:Drw) (A B:Ob)
set_option maxHeartbeats 4000000 in
theorem xr (v2 v3:LV) (hx:shl d.share) (n:Nat) (ht:Lst n d.trees):runCS ⟨Ω,noG,H,nx⟩ N (.seq (stC 6 ir8.body) (.seq (stC 7 ir8.body) (hdC (stC 8 ir8.body))))
   ⟨[(1,.ref nx 0),(2,v2),(3,v3),(4,.ref (nx+3) 0),(5,.ref (nx+4) 0)],⟨[],[some (.cells (pc d.cells)),A,B,some (.cells (pc (d.note0.rcells false))),some (.cells (pc (d.note0.cells false)))]⟩⟩=
  some (.normal,⟨[(1,.ref nx 0),(2,v2),(3,v3),(4,.ref (nx+3) 0),(5,.ref (nx+4) 0),(162,.p d.trees),(163,.int .i64 n),(164,.int .i64 0)],⟨[],[some (.cells (pc d.cells)),A,B,some (.cells (pc ((d.note []).rcells false))),some (.cells (pc ((d.note []).cells false)))]⟩⟩):=by
 obtain ⟨k,f,t,ses,no,sq,last,plain,tr,sh,ids,trs⟩:=d
 have h1:short (cutB 20 sh):=by
  intro l hl
  cases sh with
  | none=>cases hl
  | some y=>simp [cutB] at hl;rw [←hl];have:=hx y rfl;simp;omega
 have m:=fun fl H nx=>pK 4 (cutB 20 sh) fl (by omega) h1 H nx
 have shr:=fun H nx=>pw (cutB 20 sh) H nx
 have c4:((4:Nat):Int)=4:=rfl
 simp only [Drw.cells,Nte.rcells,Nte.cells,Drw.ev,Drw.gift1,Drw.no1,Drw.sh,aS,bd,Id.rv_z,Id.all_z,Id.ptr_z]
 generalize (mkEv 4 (cutB 30 tr)).1=E at*
 generalize hE2:(mkId 4 (cutB 20 sh)).2=E2 at*
 generalize hE:(mkId 4 (cutB 20 sh)).1=S at*
 obtain ⟨a1,b1,he⟩:=Id.rv_imm S
 have hp:S.pv = .agg [.s (.bool S.all),S.ptr]:=rfl
 rw [hp] at shr
 rw [he] at shr
 simp only [he,c4] at m
 have key : ∀ (q:Bool),(q=decide (k=6)∨plain=false)→True:=fun _ _=>trivial
 rcases ht with ⟨e,e'⟩|⟨ts,e⟩
 all_goals
  simp only at e
  subst e
  try subst e'
  cases plain with
  | true=>
   by_cases h6:k=6
   ·subst h6
    rcases iJ 20 (by omega) sh hx with ⟨rfl,e1⟩|⟨l,rfl,e0,e1⟩|⟨l,rfl,e0,e1,e2,e3⟩
    ·have m1:=m false
     rw [e1,cZ] at m1
     simp +contextual (maxSteps:=1000000) [ir8,stC,hdC,ssI,↓ssJ,ssU,ssP,appO,m1,shr,he,entP,cZ]
    ·have m1:=m false
     rw [e1,cf] at m1
     have g1 : ¬(20:Int)<l.length:=by omega
     have g2:=bZ l
     simp +contextual (maxSteps:=1000000) [ir8,stC,hdC,ssI,↓ssJ,ssU,ssP,appO,m1,shr,he,entP,cf,g1,g2,ah]
    ·have m1:=m false
     rw [e1,cf,e2,e3] at m1
     have g1:(20:Int)<l.length:=by omega
     have g4:20≤l.length:=by omega
     simp +contextual (maxSteps:=1000000) [ir8,stC,hdC,ssI,↓ssJ,ssU,ssP,appO,m1,shr,he,entP,cf,g1,g4,ah]
   ·by_cases h7:k=7
    ·subst h7
     simp +contextual (maxSteps:=1000000) [ir8,stC,hdC,ssI,↓ssJ,ssU,ssP,appO,entP,Id.rv_z,Id.all_z,Id.ptr_z]
    ·simp +contextual (maxSteps:=1000000) [ir8,stC,hdC,ssI,↓ssJ,ssU,ssP,appO,entP,h6,h7,Id.rv_z,Id.all_z,Id.ptr_z]
  | false=>
   rcases iJ 20 (by omega) sh hx with ⟨rfl,e1⟩|⟨l,rfl,e0,e1⟩|⟨l,rfl,e0,e1,e2,e3⟩
   ·have m1:=m false
    rw [e1,cZ] at m1
    simp +contextual (maxSteps:=1000000) [ir8,stC,hdC,ssI,↓ssJ,ssU,ssP,appO,m1,shr,he,entP,cZ]
   ·have m1:=m false
    rw [e1,cf] at m1
    have g1 : ¬(20:Int)<l.length:=by omega
    have g2:=bZ l
    simp +contextual (maxSteps:=1000000) [ir8,stC,hdC,ssI,↓ssJ,ssU,ssP,appO,m1,shr,he,entP,cf,g1,g2,ah]
   ·have m1:=m false
    rw [e1,cf,e2,e3] at m1
    have g1:(20:Int)<l.length:=by omega
    have g4:20≤l.length:=by omega
    simp +contextual (maxSteps:=1000000) [ir8,stC,hdC,ssI,↓ssJ,ssU,ssP,appO,m1,shr,he,entP,cf,g1,g4,ah]
end
end Go.Proofs.YtppeggedcaabkaaGreatDoor
end

section
namespace Go.Proofs.YtppeggedcaabkaaGreatDoor
open Go Go.Sx
theorem lu (nx:Nat) (s:List Nat) (l:List PV) (m:List LV):ren.go nx s (pc l++m)=match ren.go nx s m with
  | some r=>some (pc l++r)
  | none=>none:=by
 induction l with
 | nil=>rw [bd,List.nil_append];cases ren.go nx s m<;>rfl
 | cons x l ih=>rw [aS,List.cons_append,ren.go,ih];cases ren.go nx s m<;>rfl
abbrev ncl (n:Nte) (y:LV):List LV:=[.int .i64 n.kind,.int .i64 n.fr,.int .i64 n.to,.int .u64 n.ses,.int .i64 n.seq,.bool n.last,.int .u64 n.ev.n,.p n.ev.ptr,y,
 .int .u64 n.gift.no,.int .i64 n.gift.fr,.int .i64 n.gift.to,.bool n.gift.sh.all,.p n.gift.sh.ptr,.int .u64 n.no]
abbrev rcl (n:Nte) (y:LV):List LV:=[.int .i64 n.kind,.int .i64 n.fr,.int .i64 n.to,.int .u64 n.ses,.int .i64 n.seq,.bool n.last,.p n.ev.rv,y,
 .int .u64 n.gift.no,.int .i64 n.gift.fr,.int .i64 n.gift.to,.p n.gift.sh.rv,.int .u64 n.no,.p (.s (.slice none 0 0))]
section
variable {H:Heap} {nx:Nat} (N:Nat) (d:Drw) (zA zB:List PV) (w:Nte)
abbrev mEnv (nx k:Nat) (d:Drw) (n j:Nat):Env:=[(1,.ref nx 0),(2,.ref (nx+1) 0),(3,.ref (nx+2) 0),(4,.ref (nx+3) 0),(5,.ref (nx+k) 0),(162,.p d.trees),(163,.int .i64 n),(164,.int .i64 j)]
abbrev mT0 (nx:Nat) (d:Drw) (zA zB:List PV) (w:Nte) (n:Nat):St:=⟨mEnv nx 4 d n 0,⟨[],[some (.cells (pc d.cells)),some (.cells (pc zA)),some (.cells (pc zB)),some (.cells (rcl w (.p (.s (.slice none 0 0))))),some (.cells (ncl w (.p (.s (.slice none 0 0)))))]⟩⟩
abbrev mT1 (nx:Nat) (d:Drw) (zA zB:List PV) (w:Nte) (n j:Nat) (X Y:List LV):St:=⟨mEnv nx 5 d n j,⟨[],[some (.cells (pc d.cells)),some (.cells (pc zA)),some (.cells (pc zB)),some (.cells (rcl w (.arr (nx+4) 0 j 4 j false))),some (.cells X),some (.cells (ncl w (.arr (nx+6) 0 j 5 j false))),some (.cells Y)]⟩⟩
structure Here (nx:Nat) (d:Drw) (n j:Nat) (t:Option (List UInt8)) (i:Nat):Prop where
 ts : ∃ ts,d.trees = .sl ts n 1 false∧ts[j]?=some (obP false t)
 is : ∃ is m,d.ids = .sl is m 1 false∧is[j]?=some (.s (.int .u32 i))∧j<m
 lt:j<n
 seven:j<7
 sh:shl t
 big:n<2^63
set_option maxHeartbeats 4000000 in
theorem pt (n:Nat) (t:Option (List UInt8)) (i:Nat) (h:Here nx d n 0 t i) (hR : ∀ H,Ω 68 [.p annF] H (nx+7)=some (.int .i64 0,[],[]))
  (hC : ∀ H,Ω 24 [.p (.sl ann 1 3 true)] H (nx+5)=some (.tuple [.p (.agg [.sl ann 1 3 false]),.int .i64 0],[],[])):
  runCS ⟨Ω,noG,H,nx⟩ N (.seq (tlC ir8_0) (hdC ir8_0)) (mT0 nx d zA zB w n)=
   some (.normal,mT1 nx d zA zB w n 1 (pc (Ent.rrow true ⟨i,⟨(mkEv 4 (cutB 40 t)).1,true,false⟩⟩)) (pc (Ent.row false ⟨i,⟨(mkEv 4 (cutB 40 t)).1,true,false⟩⟩))):=by
 obtain ⟨⟨ts,e1,e2⟩,⟨is,m,e3,e4,e5⟩,e6,e7,e8,e9⟩:=h
 have mk:=fun H=>ol t false false e8 H (nx+5) hR
 have tre:=fun H nx=>iM (cutB 40 t) H nx
 simp only [mT0,mT1,mEnv,Drw.cells,ncl,rcl,e1,e3,aS,bd,eM,eL,Bool.not_false,Ent.row,Ent.rrow] at mk ⊢
 generalize (mkEv 4 (cutB 40 t)).1=E at*
 obtain ⟨es,he⟩:=Ev.rv_imm E
 have hp:E.pv = .agg [.s (.int .u64 E.n),E.ptr]:=rfl
 rw [hp] at tre
 rw [he] at tre mk ⊢
 have g0 : ¬n=0:=by omega
 have g1:0<n:=by omega
 have g2 : ¬m=0:=by omega
 have g3:0<m:=by omega
 have rm:binI .rem .i64 0 3=some (.int .i64 0):=rfl
 simp +contextual (maxSteps:=1000000) [ir8_0,hdC,tlC,ssI,↓ssJ,ssU,ssP,appO,e2,e4,e7,g0,g1,g2,g3,mk,tre,hC,rm,eS,eY]
 rfl
set_option maxHeartbeats 4000000 in
theorem pu (n j:Nat) (t:Option (List UInt8)) (i:Nat) (hj:0<j) (X Y:List PV) (hX:X.length=j*4) (hY:Y.length=j*5) (h:Here nx d n j t i) (hR : ∀ H,Ω 68 [.p annF] H (nx+9)=some (.int .i64 0,[],[]))
  (hC : ∀ H,Ω 24 [.p (.sl ann 1 3 true)] H (nx+7)=some (.tuple [.p (.agg [.sl ann 1 3 false]),.int .i64 0],[],[]))
  (hD : ∀ H,Ω 24 [.p (.s (.slice none 0 0))] H (nx+7)=some (.tuple [.p (.agg [.s (.slice none 0 0)]),.int .i64 0],[],[])):
  runCS ⟨Ω,noG,H,nx⟩ N (.seq (tlC ir8_0) (hdC ir8_0)) (mT1 nx d zA zB w n j (pc X) (pc Y))=
   some (.normal,mT1 nx d zA zB w n (j+1) (pc X++pc (Ent.rrow true ⟨i,⟨(mkEv 4 (cutB 40 t)).1,!decide (j%3=2),decide (j%3=2)⟩⟩)) (pc Y++pc (Ent.row false ⟨i,⟨(mkEv 4 (cutB 40 t)).1,!decide (j%3=2),decide (j%3=2)⟩⟩))):=by
 obtain ⟨⟨ts,e1,e2⟩,⟨is,m,e3,e4,e5⟩,e6,e7,e8,e9⟩:=h
 have mk:=fun gone H=>ol t false gone e8 H (nx+7) hR
 have tre:=fun H nx=>iM (cutB 40 t) H nx
 simp only [mT1,mEnv,Drw.cells,ncl,rcl,e1,e3,aS,bd,Ent.row,Ent.rrow]
 generalize (mkEv 4 (cutB 40 t)).1=E at*
 obtain ⟨es,he⟩:=Ev.rv_imm E
 have hp:E.pv = .agg [.s (.int .u64 E.n),E.ptr]:=rfl
 rw [hp] at tre
 rw [he] at tre ⊢
 simp only [he] at mk
 have g0 : ¬n≤j:=by omega
 have g1 : ¬m≤j:=by omega
 have g2 : ¬7≤j:=by omega
 have g3 : ¬(7:Int)≤j:=by omega
 have q1 : ¬1099511627776<(j+1)*56:=by omega
 have q2 : ¬1099511627776<(j+1)*48:=by omega
 have rm:binI .rem .i64 j 3=some (.int .i64 (j%3:Nat)):=by
  have:binI .rem .i64 (j:Int) 3=some (.int .i64 ((j:Int).tmod 3)):=by simp [binI]
  rw [this,Int.tmod_eq_emod_of_nonneg (by omega)]
  norm_cast
 have w1:IntKind.i64.wrap ((j:Int)+1)=(j:Int)+1:=am _ (by omega) (by omega)
 obtain ⟨r,hr⟩ : ∃ r:Int,r=((j%3:Nat):Int):=⟨_,rfl⟩
 rw [←hr] at rm
 have hXl:(pc X).length=j*4:=by rw [cv,hX]
 have hYl:(pc Y).length=j*5:=by rw [cv,hY]
 have t1:List.take (j*4) (pc X)=pc X:=by rw [←hXl,List.take_length]
 have t2:List.take (j*5) (pc Y)=pc Y:=by rw [←hYl,List.take_length]
 have mkt:=mk true
 have mkf:=mk false
 simp only [Bool.not_true,Bool.not_false,eM,eL] at mkt mkf
 by_cases hg:j%3=2
 ·have hd:decide (j%3=2)=true:=by simpa using hg
  rw [hd]
  simp only [Bool.not_true,eL]
  have hr2:r=2:=by omega
  rw [hr2] at rm
  simp +contextual (maxSteps:=1000000) [ir8_0,hdC,tlC,ssI,↓ssJ,ssU,ssP,appO,e2,e4,e5,e6,e7,g0,g1,g2,g3,mkt,tre,hD,rm,eS,eY,aI,lu,hXl,hYl,t1,t2,q1,q2,w1]
 ·have hd:decide (j%3=2)=false:=by simpa using hg
  rw [hd]
  simp only [Bool.not_false,eM]
  have hr2 : ¬r=2:=by omega
  simp +contextual (maxSteps:=1000000) [ir8_0,hdC,tlC,ssI,↓ssJ,ssU,ssP,appO,e2,e4,e5,e6,e7,g0,g1,g2,g3,mkf,tre,hC,rm,hr2,eS,eY,aI,lu,hXl,hYl,t1,t2,q1,q2,w1]
end
end Go.Proofs.YtppeggedcaabkaaGreatDoor
end

section
namespace Go.Proofs.YtppeggedcaabkaaGreatDoor
open Go Go.Sx
def drawn (I:List Nat) (Ts:List (Option (List UInt8))) (j:Nat):Ent:=⟨I.getD j 0,⟨(mkEv 4 (cutB 40 (Ts.getD j none))).1,!decide (j%3=2),decide (j%3=2)⟩⟩
def many (I:List Nat) (Ts:List (Option (List UInt8))):Nat:=min 7 (min I.length Ts.length)
def drawnL (I:List Nat) (Ts:List (Option (List UInt8))):List Ent:=(List.range (many I Ts)).map (drawn I Ts)
theorem cN (I:List Nat) (Ts:List (Option (List UInt8))):(drawnL I Ts).length=many I Ts:=by simp [drawnL]
theorem oB (f:Ent→List PV) (a b:List Ent):rows f (a++b)=rows f a++rows f b:=by
 induction a with
 | nil=>rfl
 | cons x a ih=>rw [List.cons_append,rows,rows,ih,List.append_assoc]
theorem oC (f:Ent→List PV) (x:Ent):rows f [x]=f x:=by simp [rows]
theorem pb (I:List Nat) (Ts:List (Option (List UInt8))) (j:Nat) (h:j<many I Ts):(drawnL I Ts).take (j+1)=(drawnL I Ts).take j++[drawn I Ts j]:=by
 have hl:j<(drawnL I Ts).length:=by rw [cN];exact h
 rw [List.take_succ_eq_append_getElem hl]
 congr 2
 simp [drawnL]
structure Lists (d:Drw) (I:List Nat) (Ts:List (Option (List UInt8))):Prop where
 ids:(d.ids = .s (.slice none 0 0)∧I=[])∨d.ids = .sl (I.map fun i:Nat=>PV.s (.int .u32 (i:Int))) I.length 1 false
 trees:(d.trees = .s (.slice none 0 0)∧Ts=[])∨d.trees = .sl (Ts.map (obP false)) Ts.length 1 false
 sh : ∀ t∈Ts,shl t
 big:Ts.length<2^63
theorem Lists.here {d:Drw} {I:List Nat} {Ts:List (Option (List UInt8))} (h:Lists d I Ts) (nx j:Nat) (hj:j<many I Ts):Here nx d Ts.length j (Ts.getD j none) (I.getD j 0):=by
 unfold many at hj
 have h1:j<I.length:=by omega
 have h2:j<Ts.length:=by omega
 refine ⟨?_,?_,h2,by omega,?_,h.big⟩
 ·rcases h.trees with ⟨e,e'⟩|e
  ·rw [e'] at h2;cases h2
  ·exact ⟨_,e,by simp [h2]⟩
 ·rcases h.ids with ⟨e,e'⟩|e
  ·rw [e'] at h1;cases h1
  ·exact ⟨_,_,e,by simp [h1],h1⟩
 ·rw [List.getD_eq_getElem?_getD,List.getElem?_eq_getElem h2];exact h.sh _ (List.getElem_mem h2)
section
variable {H:Heap} {nx:Nat} (N:Nat) (d:Drw) (zA zB:List PV) (w:Nte) (I:List Nat) (Ts:List (Option (List UInt8)))
def mT (nx:Nat) (d:Drw) (zA zB:List PV) (w:Nte) (I:List Nat) (Ts:List (Option (List UInt8))) (j:Nat):St:=
 if j=0 then mT0 nx d zA zB w Ts.length else mT1 nx d zA zB w Ts.length j (pc (rows (Ent.rrow true) ((drawnL I Ts).take j))) (pc (rows (Ent.row false) ((drawnL I Ts).take j)))
theorem th (hl:Lists d I Ts) (hR7 : ∀ H,Ω 68 [.p annF] H (nx+7)=some (.int .i64 0,[],[])) (hR9 : ∀ H,Ω 68 [.p annF] H (nx+9)=some (.int .i64 0,[],[]))
  (hC5 : ∀ H,Ω 24 [.p (.sl ann 1 3 true)] H (nx+5)=some (.tuple [.p (.agg [.sl ann 1 3 false]),.int .i64 0],[],[]))
  (hC7 : ∀ H,Ω 24 [.p (.sl ann 1 3 true)] H (nx+7)=some (.tuple [.p (.agg [.sl ann 1 3 false]),.int .i64 0],[],[]))
  (hD7 : ∀ H,Ω 24 [.p (.s (.slice none 0 0))] H (nx+7)=some (.tuple [.p (.agg [.s (.slice none 0 0)]),.int .i64 0],[],[])) (j:Nat) (hj:j<many I Ts):
  runCS ⟨Ω,noG,H,nx⟩ N (.seq (tlC ir8_0) (hdC ir8_0)) (mT nx d zA zB w I Ts j)=some (.normal,mT nx d zA zB w I Ts (j+1)):=by
 have hh:=hl.here nx j hj
 have ht:=pb I Ts j hj
 unfold mT
 rw [if_neg (by omega : ¬j+1=0),ht,oB,oB,oC,oC]
 by_cases h0:j=0
 ·subst h0
  rw [if_pos rfl,List.take_zero]
  exact pt N d zA zB w Ts.length _ _ hh hR7 hC5
 ·rw [if_neg h0,ms,ms]
  have hlen:((drawnL I Ts).take j).length=j:=by rw [List.length_take,cN];omega
  exact pu N d zA zB w Ts.length j _ _ (by omega) _ _ (by rw [bM _ 4 (fun _=>rfl),hlen]) (by rw [bM _ 5 (fun _=>rfl),hlen]) hh hR9 hC7 hD7
theorem tf (hl:Lists d I Ts) : ∃ E':Env,runCS ⟨Ω,noG,H,nx⟩ N (tlC ir8_0) (mT nx d zA zB w I Ts (many I Ts))=some (.exit 0,⟨(mT nx d zA zB w I Ts (many I Ts)).env.take 5++E',(mT nx d zA zB w I Ts (many I Ts)).h⟩):=by
 have hm:many I Ts=min 7 (min I.length Ts.length):=rfl
 generalize hK:many I Ts=K at*
 have hts:(d.trees = .s (.slice none 0 0)∧Ts.length=0)∨∃ ts,d.trees = .sl ts Ts.length 1 false∧ts.length=Ts.length:=by
  rcases hl.trees with ⟨e,e'⟩|e
  ·exact .inl ⟨e,by rw [e'];rfl⟩
  ·exact .inr ⟨_,e,by simp⟩
 have his:(d.ids = .s (.slice none 0 0)∧I.length=0)∨∃ is,d.ids = .sl is I.length 1 false:=by
  rcases hl.ids with ⟨e,e'⟩|e
  ·exact .inl ⟨e,by rw [e'];rfl⟩
  ·exact .inr ⟨_,e⟩
 have hob : ∀ (ts:List PV),ts.length=Ts.length→K<Ts.length→∃ x,ts[K]?=some x:=fun ts h1 h2=>⟨ts[K],by simp [h1,h2]⟩
 unfold mT
 generalize rows (Ent.rrow true) ((drawnL I Ts).take K)=X
 generalize rows (Ent.row false) ((drawnL I Ts).take K)=Y
 by_cases hn:K=Ts.length
 ·
  have g1 : ¬K<Ts.length:=by omega
  have g2:Ts.length≤K:=by omega
  by_cases h0:K=0
  ·have e0:Ts.length=0:=by omega
   rw [if_pos h0]
   refine ⟨[(162,.p d.trees),(163,.int .i64 Ts.length),(164,.int .i64 0),(165,.bool false)],?_⟩
   rw [e0]
   simp only [mT0,mEnv,Drw.cells,ncl,rcl,aS,bd]
   simp +contextual (maxSteps:=1000000) [ir8_0,tlC,ssI,↓ssJ,ssU,ssP,appO]
  ·rw [if_neg h0]
   refine ⟨[(162,.p d.trees),(163,.int .i64 K),(164,.int .i64 K),(165,.bool false)],?_⟩
   rw [←hn]
   simp only [mT1,mEnv,Drw.cells,ncl,rcl,aS,bd]
   simp +contextual (maxSteps:=1000000) [ir8_0,tlC,ssI,↓ssJ,ssU,ssP,appO]
 ·have g1:K<Ts.length:=by clear hts his hob;omega
  have g2 : ¬Ts.length≤K:=by omega
  have g0 : ¬Ts.length=0:=by omega
  rcases hts with ⟨_,e⟩|⟨ts,e,e2⟩
  ·exact absurd e g0
  obtain ⟨x,hx⟩:=hob ts e2 g1
  by_cases h0:K=0
  ·have i0:I.length=0:=by omega
   have hx0:ts[0]?=some x:=by rw [←h0];exact hx
   have g3:0<Ts.length:=by omega
   rw [if_pos h0]
   refine ⟨[(8,.int .i64 0),(9,.p x),(162,.p d.trees),(163,.int .i64 Ts.length),(164,.int .i64 0),(177,.bool true)],?_⟩
   rcases his with ⟨e3,_⟩|⟨is,e3⟩
   ·simp only [mT0,mEnv,Drw.cells,ncl,rcl,aS,bd,e,e3]
    simp +contextual (maxSteps:=1000000) [ir8_0,tlC,ssI,↓ssJ,ssU,ssP,appO,g0,g3,hx0]
   ·rw [i0] at e3
    simp only [mT0,mEnv,Drw.cells,ncl,rcl,aS,bd,e,e3]
    simp +contextual (maxSteps:=1000000) [ir8_0,tlC,ssI,↓ssJ,ssU,ssP,appO,g0,g3,hx0]
  ·rw [if_neg h0]
   refine ⟨[(8,.int .i64 K),(9,.p x),(162,.p d.trees),(163,.int .i64 Ts.length),(164,.int .i64 K),(177,.bool true)],?_⟩
   rcases his with ⟨e3,e4⟩|⟨is,e3⟩
   ·exact absurd (show K=0 by rw [hm,e4];simp) h0
   ·simp only [mT1,mEnv,Drw.cells,ncl,rcl,aS,bd,e,e3]
    by_cases h7:K=7
    ·have g5:(7:Int)≤K:=by omega
     simp +contextual (maxSteps:=1000000) [ir8_0,tlC,ssI,↓ssJ,ssU,ssP,appO,g0,g1,g2,hx,g5]
    ·have g5 : ¬(7:Int)≤K:=by omega
     have g6:I.length≤K:=by omega
     simp +contextual (maxSteps:=1000000) [ir8_0,tlC,ssI,↓ssJ,ssU,ssP,appO,g0,g1,g2,hx,g5,g6]
end
end Go.Proofs.YtppeggedcaabkaaGreatDoor
end

section
namespace Go.Proofs.YtppeggedcaabkaaGreatDoor
open Go Go.Sx
abbrev madeB:IRC:=ir8.body
theorem pq:ir8=⟨[0],.seq (stC 0 madeB) (.seq (stC 1 madeB) (.seq (stC 2 madeB) (.seq (stC 3 madeB) (.seq (stC 4 madeB) (.seq (stC 5 madeB) (.seq (stC 6 madeB) (.seq (stC 7 madeB) (.seq (.seq (hdC (stC 8 madeB)) (.block 0 (.loop ir8_0))) (.seq (stC 9 madeB) .ret))))))))),[(2,some (15,true)),(3,some (14,true))],false⟩:=rfl
def zeroN:List PV:=[.s (.int .i64 0),.s (.int .i64 0),.s (.int .i64 0),.s (.int .u64 0),.s (.int .i64 0),.s (.bool false),.s (.int .u64 0),.s (.pointer none),.s (.slice none 0 0),.s (.int .u64 0),.s (.int .i64 0),.s (.int .i64 0),.s (.bool false),.s (.pointer none),.s (.int .u64 0)]
def zeroR:List PV:=[.s (.int .i64 0),.s (.int .i64 0),.s (.int .i64 0),.s (.int .u64 0),.s (.int .i64 0),.s (.bool false),.s (.pointer none),.s (.slice none 0 0),.s (.int .u64 0),.s (.int .i64 0),.s (.int .i64 0),.s (.pointer none),.s (.int .u64 0),.s (.slice none 0 0)]
section
variable {H:Heap} {nx:Nat} (N:Nat) (d:Drw)
theorem zd:runCS ⟨Ω,noG,H,nx⟩ N (stC 0 madeB) ⟨[(0,.p (.agg d.cells))],⟨[],[]⟩⟩=
  some (.normal,⟨[(1,.ref nx 0),(2,.ref (nx+1) 0),(3,.ref (nx+2) 0)],⟨[],[some (.cells (pc d.cells)),some (.cells (pc zeroN)),some (.cells (pc zeroR))]⟩⟩):=by
 simp only [Drw.cells,zeroN,zeroR,aS,bd]
 simp +contextual (maxSteps:=1000000) [madeB,ir8,stC,ssI,↓ssJ,ssU,ssP,appO]
theorem tg (n:Nat) (w:Nte):runCS ⟨Ω,noG,H,nx⟩ N (hdC ir8_0) (mT0 nx d zeroN zeroR w n)=some (.normal,mT0 nx d zeroN zeroR w n):=by
 simp only [mT0,mEnv,Drw.cells,ncl,rcl,zeroN,zeroR,aS,bd]
 simp +contextual (maxSteps:=1000000) [ir8_0,hdC,ssI,↓ssJ,ssU,ssP,appO]
def Drw.pair (d:Drw) (I:List Nat) (Ts:List (Option (List UInt8))):LV:=.tuple [.p ((d.note (drawnL I Ts)).pv false),.p ((d.note (drawnL I Ts)).rv true)]
theorem uY (f:IRF) (hf:f.results=[(2,some (15,true)),(3,some (14,true))]∧f.own=false) (I:List Nat) (Ts:List (Option (List UInt8))) (E':Env):bindK (runCS ⟨Ω,noG,H,nx⟩ N (.seq (stC 9 madeB) .ret) ⟨(mT nx d zeroN zeroR (d.note []) I Ts (many I Ts)).env.take 5++E',(mT nx d zeroN zeroR (d.note []) I Ts (many I Ts)).h⟩) (finK f H nx)=some (d.pair I Ts,[],[]):=by
 obtain ⟨hf1,hf2⟩:=hf
 have hl:=cN I Ts
 unfold Drw.pair
 by_cases h0:many I Ts=0
 ·unfold mT
  rw [if_pos h0]
  have hL:drawnL I Ts=[]:=List.eq_nil_of_length_eq_zero (by rw [hl,h0])
  rw [hL]
  simp only [mT0,mEnv,Drw.cells,ncl,rcl,zeroN,zeroR,Nte.pv,Nte.rv,Nte.cells,Nte.rcells,aS,bd]
  generalize d.gift1=g
  generalize d.no1=no1
  generalize d.ev=E
  simp +contextual (maxSteps:=1000000) [madeB,ir8,stC,ssI,↓ssJ,ssU,ssP,appO,hf1,hf2,entP]
 ·unfold mT
  rw [if_neg h0]
  have hL:drawnL I Ts≠[]:=by intro e;rw [e] at hl;exact h0 hl.symm
  have e1:=bM (Ent.row false) 5 (fun _=>rfl) (drawnL I Ts)
  have e2:=bM (Ent.rrow true) 4 (fun _=>rfl) (drawnL I Ts)
  have ht:(drawnL I Ts).take (many I Ts)=drawnL I Ts:=by rw [←hl,List.take_length]
  simp only [mT1,mEnv,Drw.cells,ncl,rcl,zeroN,zeroR,Nte.pv,Nte.rv,Nte.cells,Nte.rcells,aS,bd,entP,if_neg hL,ht,hl]
  rw [hl] at e1 e2
  generalize rows (Ent.row false) (drawnL I Ts)=Y at*
  generalize rows (Ent.rrow true) (drawnL I Ts)=X at*
  generalize many I Ts=K at*
  generalize d.gift1=g
  generalize d.no1=no1
  generalize d.ev=E
  have hXl:(pc X).length=K*4:=by rw [cv,e2]
  have hYl:(pc Y).length=K*5:=by rw [cv,e1]
  have t1:List.take (K*4) (pc X)=pc X:=by rw [←hXl,List.take_length]
  have t2:List.take (K*5) (pc Y)=pc Y:=by rw [←hYl,List.take_length]
  simp +contextual (maxSteps:=1000000) [madeB,ir8,stC,ssI,↓ssJ,ssU,ssP,appO,hf1,hf2,hXl,hYl,t1,t2,lJ,eS,eY]
end
end Go.Proofs.YtppeggedcaabkaaGreatDoor
end

section
namespace Go.Proofs.YtppeggedcaabkaaGreatDoor
open Go Go.Sx
theorem oH {c:Ctx} {n:Nat} {a b d e r:IRC} {st st':St} (h:runCS c n (.seq a (.seq b d)) st=some (.normal,st')):runCS c n (.seq a (.seq b (.seq (.seq d e) r))) st=runCS c n (.seq e r) st':=by
 rw [aU] at h ⊢
 cases q:runCS c n a st with
 | none=>rw [q] at h;cases h
 | some y=>
  obtain ⟨x,s⟩:=y
  rw [q] at h
  cases x with
  | normal=>
   simp only [] at h ⊢
   rw [aU] at h ⊢
   cases q2:runCS c n b s with
   | none=>rw [q2] at h;cases h
   | some y=>
    obtain ⟨x,s⟩:=y
    rw [q2] at h
    cases x with
    | normal=>simp only [] at h ⊢;rw [oG,cS h]
    | exit i=>simp at h
    | ret=>simp at h
    | goto i=>simp at h
  | exit i=>simp at h
  | ret=>simp at h
  | goto i=>simp at h
theorem Drw.made_k (d:Drw):d.made.kind=d.kind∧d.made.fr=d.fr∧d.made.to=d.to∧d.made.share=d.share:=by
 unfold Drw.made
 split<;>exact ⟨rfl,rfl,rfl,rfl⟩
theorem pn:ir8_0 = .seq (hdC ir8_0) (tlC ir8_0):=rfl
theorem jn (I:List Nat) (Ts:List (Option (List UInt8))):many I Ts<8:=by unfold many;omega
theorem Aj (d:Drw) (I:List Nat) (Ts:List (Option (List UInt8))) (hl:Lists d.made I Ts) (hT:shl d.made.tree) (hS:shl d.share) (H:Heap) (nx:Nat)
  (hR7 : ∀ H,Ω 68 [.p annF] H (nx+7)=some (.int .i64 0,[],[])) (hR9 : ∀ H,Ω 68 [.p annF] H (nx+9)=some (.int .i64 0,[],[]))
  (hC5 : ∀ H,Ω 24 [.p (.sl ann 1 3 true)] H (nx+5)=some (.tuple [.p (.agg [.sl ann 1 3 false]),.int .i64 0],[],[]))
  (hC7 : ∀ H,Ω 24 [.p (.sl ann 1 3 true)] H (nx+7)=some (.tuple [.p (.agg [.sl ann 1 3 false]),.int .i64 0],[],[]))
  (hD7 : ∀ H,Ω 24 [.p (.s (.slice none 0 0))] H (nx+7)=some (.tuple [.p (.agg [.s (.slice none 0 0)]),.int .i64 0],[],[])):
  Ω 8 [.p (.agg d.cells)] H nx=some (d.made.pair I Ts,[],[]):=by
 refine af (ir:=ir8) (by kernel_rfl) 8 ?_
 rw [runF_I,pq]
 refine (if_pos rfl).trans ?_
 obtain ⟨k1,k2,k3,k4⟩:=d.made_k
 have a0:=zd (H:=H) (nx:=nx) 8 d
 have a1:=xq (H:=H) (nx:=nx) 8 d (some (.cells (pc zeroN))) (some (.cells (pc zeroR))) (.ref (nx+1) 0) (.ref (nx+2) 0)
 have a2:=uX (H:=H) (nx:=nx) 8 d.made (some (.cells (pc zeroN))) (some (.cells (pc zeroR))) (.ref (nx+1) 0) (.ref (nx+2) 0) hT
 rw [k1,k2,k3] at a2
 have hL:Lst Ts.length d.made.trees:=by
  rcases hl.trees with ⟨e,e'⟩|e
  ·exact .inl ⟨e,by rw [e'];rfl⟩
  ·exact .inr ⟨_,e⟩
 have a3:=xr (H:=H) (nx:=nx) 8 d.made (some (.cells (pc zeroN))) (some (.cells (pc zeroR))) (.ref (nx+1) 0) (.ref (nx+2) 0) (by rw [k4];exact hS) _ hL
 have eT:mT0 nx d.made zeroN zeroR (d.made.note []) Ts.length=mT nx d.made zeroN zeroR (d.made.note []) I Ts 0:=by unfold mT;rw [if_pos rfl]
 have h0:=tg (H:=H) (nx:=nx) 8 d.made Ts.length (d.made.note [])
 obtain ⟨E',he⟩:=tf (H:=H) (nx:=nx) 8 d.made zeroN zeroR (d.made.note []) I Ts hl
 have lp:=s9 pn (by rw [eT] at h0;exact h0) (fun j hj=>th (H:=H) (nx:=nx) 8 d.made zeroN zeroR (d.made.note []) I Ts hl hR7 hR9 hC5 hC7 hD7 j hj) he (by intro e;cases e) (jn I Ts)
 have en:=fun f hf=>uY (H:=H) (nx:=nx) 8 d.made f hf I Ts E'
 rw [←eT] at lp
 have z:[0].zip [LV.p (.agg d.cells)]=[(0,.p (.agg d.cells))]:=rfl
 show bindK (runCS _ 8 _ ⟨[0].zip [LV.p (.agg d.cells)],⟨[],[]⟩⟩) _=_
 rw [z,cS a0,c7 a1,dC a2,oH a3,aU,c6,cR]
 have rcz:pc ((d.made.note []).rcells false)=rcl (d.made.note []) (.p (.s (.slice none 0 0))):=by simp [rcl,Nte.rcells,entP,aS,bd]
 have ncz:pc ((d.made.note []).cells false)=ncl (d.made.note []) (.p (.s (.slice none 0 0))):=by simp [ncl,Nte.cells,entP,aS,bd]
 rw [rcz,ncz]
 have lp2:iter (runCS ⟨Ω,noG,H,nx⟩ 8 ir8_0) 8 _=_:=lp
 unfold mT0 mEnv at lp2
 rw [show ((0:Nat):Int)=0 from rfl] at lp2
 rw [lp2]
 exact en _ ⟨rfl,rfl⟩
end Go.Proofs.YtppeggedcaabkaaGreatDoor
end

section
namespace Go.Proofs.YtppeggedcaabkaaGreatDoor
open Go Go.Sx
section same
variable {H:Heap} {nx:Nat} {F G:List UInt8} {x y:LV}
theorem xV {n:Nat} (g1:Bs H nx x F) (g2:Bs H nx y G) (h62:F.length<2^62) {j:Nat} {a b:UInt8} (ha:F[j]?=some a) (hb:G[j]?=some b) (e:a=b):
  runCS ⟨Ω,noG,H,nx⟩ n ir11_0 ⟨[(0,x),(1,y),(12,.int .i64 F.length),(13,.int .i64 j)],⟨[],[]⟩⟩=
   some (.normal,⟨[(0,x),(1,y),(12,.int .i64 F.length),(13,.int .i64 (j+1:Nat))],⟨[],[]⟩⟩):=by
 obtain ⟨hlt,_⟩:=List.getElem?_eq_some_iff.1 ha
 obtain ⟨hlt2,_⟩:=List.getElem?_eq_some_iff.1 hb
 have h8 : ¬(F.length:Int)≤j:=by omega
 have hw:IntKind.i64.wrap ((j:Int)+1)=(j:Int)+1:=am _ (by omega) (by omega)
 have hba:=bV ha
 have hbb:=bV hb
 subst e
 cases g1 with
 | nil=>simp at ha
 | sl _ fl=>
  cases g2 with
  | nil=>simp at hb
  | sl _ fl=>simp [ir11_0,ssB,ssU,ssP,appO,h8,hw,hlt,hlt2,hba,hbb,aF]
  | arr _ G' id off cp ex h1 h2 h3 h4=>
   have hb2:=bV (eA h4 hb)
   simp [ir11_0,ssB,ssU,ssP,appO,h8,hw,hlt,hlt2,hba,hb2,aF,h1,h2]
 | arr _ F' id' off' cp' ex' k1 k2 k3 k4=>
  have ha2:=bV (eA k4 ha)
  cases g2 with
  | nil=>simp at hb
  | sl _ fl=>simp [ir11_0,ssB,ssU,ssP,appO,h8,hw,hlt,hlt2,ha2,hbb,aF,k1,k2]
  | arr _ G' id off cp ex h1 h2 h3 h4=>
   have hb2:=bV (eA h4 hb)
   simp [ir11_0,ssB,ssU,ssP,appO,h8,hw,hlt,hlt2,ha2,hb2,aF,h1,h2,k1,k2]
theorem xW {n:Nat} (g1:Bs H nx x F) (g2:Bs H nx y G) {j:Nat} {a b:UInt8} (ha:F[j]?=some a) (hb:G[j]?=some b) (e:a≠b):
  runCS ⟨Ω,noG,H,nx⟩ n ir11_0 ⟨[(0,x),(1,y),(12,.int .i64 F.length),(13,.int .i64 j)],⟨[],[]⟩⟩=
   some (.ret,⟨[(4,.bool false)],⟨[],[]⟩⟩):=by
 obtain ⟨hlt,_⟩:=List.getElem?_eq_some_iff.1 ha
 obtain ⟨hlt2,_⟩:=List.getElem?_eq_some_iff.1 hb
 have h8 : ¬(F.length:Int)≤j:=by omega
 have hba:=bV ha
 have hbb:=bV hb
 have e' : ¬a.toNat=b.toNat:=fun h=>e (UInt8.toNat_inj.1 h)
 have e2 : ¬(a.toNat:Int)=b.toNat:=fun h=>e' (by omega)
 cases g1 with
 | nil=>simp at ha
 | sl _ fl=>
  cases g2 with
  | nil=>simp at hb
  | sl _ fl=>simp [ir11_0,ssB,ssU,ssP,appO,h8,hlt,hlt2,hba,hbb,aF,e',e2]
  | arr _ G' id off cp ex h1 h2 h3 h4=>
   have hb2:=bV (eA h4 hb)
   simp [ir11_0,ssB,ssU,ssP,appO,h8,hlt,hlt2,hba,hb2,aF,h1,h2,e',e2]
 | arr _ F' id' off' cp' ex' k1 k2 k3 k4=>
  have ha2:=bV (eA k4 ha)
  cases g2 with
  | nil=>simp at hb
  | sl _ fl=>simp [ir11_0,ssB,ssU,ssP,appO,h8,hlt,hlt2,ha2,hbb,aF,k1,k2,e',e2]
  | arr _ G' id off cp ex h1 h2 h3 h4=>
   have hb2:=bV (eA h4 hb)
   simp [ir11_0,ssB,ssU,ssP,appO,h8,hlt,hlt2,ha2,hb2,aF,h1,h2,k1,k2,e',e2]
theorem v5 {n len:Nat} : runCS ⟨Ω,noG,H,nx⟩ n ir11_0 ⟨[(0,x),(1,y),(12,.int .i64 len),(13,.int .i64 len)],⟨[],[]⟩⟩=
  some (.exit 0,⟨[(0,x),(1,y),(12,.int .i64 len),(13,.int .i64 len),(14,.bool false)],⟨[],[]⟩⟩):=by
 simp [ir11_0,ssB,ssU,ssP,appO]
theorem vZ {n:Nat} (g1:Bs H nx x F) (g2:Bs H nx y G) (hl:F.length=G.length) (h62:F.length<2^62) : ∀ (k q j:Nat),j+k=F.length→k<q →
  iter (runCS ⟨Ω,noG,H,nx⟩ n ir11_0) q ⟨[(0,x),(1,y),(12,.int .i64 F.length),(13,.int .i64 j)],⟨[],[]⟩⟩=
   if F.drop j=G.drop j then some (.exit 0,⟨[(0,x),(1,y),(12,.int .i64 F.length),(13,.int .i64 F.length),(14,.bool false)],⟨[],[]⟩⟩) else some (.ret,⟨[(4,.bool false)],⟨[],[]⟩⟩):=by
 intro k
 induction k with
 | zero=>
  intro q j hj hq
  obtain ⟨q,rfl⟩ : ∃ r,q=r+1:=⟨q-1,by omega⟩
  obtain rfl:j=F.length:=by omega
  rw [aN v5 (by simp),if_pos (by rw [List.drop_length,hl,List.drop_length])]
 | succ k ih=>
  intro q j hj hq
  obtain ⟨q,rfl⟩ : ∃ r,q=r+1:=⟨q-1,by omega⟩
  have h1:j<F.length:=by omega
  have h2:j<G.length:=by omega
  have hiff:(F.drop j=G.drop j)↔(F[j]=G[j]∧F.drop (j+1)=G.drop (j+1)):=by rw [List.drop_eq_getElem_cons h1,List.drop_eq_getElem_cons h2,List.cons.injEq]
  by_cases e:F[j]=G[j]
  ·rw [aP (xV g1 g2 h62 (List.getElem?_eq_getElem h1) (List.getElem?_eq_getElem h2) e),ih q (j+1) (by omega) (by omega)]
   simp only [hiff,e,true_and]
  ·rw [aN (xW g1 g2 (List.getElem?_eq_getElem h1) (List.getElem?_eq_getElem h2) e) (by simp),if_neg (fun h=>e (hiff.1 h).1)]
theorem vW (g1:Bs H nx x F) (g2:Bs H nx y G) (h62:F.length<2^62):Ω 11 [x,y] H nx=some (.bool (decide (F=G)),[],[]):=by
 refine af (ir:=ir11) (by kernel_rfl) (F.length+1) ?_
 by_cases hl:F.length=G.length
 ·have hs:=vZ (n:=F.length+1) g1 g2 hl h62 F.length (F.length+1) 0 (by omega) (by omega)
  simp only [Int.natCast_zero,Int.ofNat_zero,List.drop_zero] at hs
  have hb:((F.length:Int) != (G.length:Int))=false:=by simp [hl]
  have hb0:F=[]→(G.length:Int)=0:=fun e=>by subst e;simp at hl;omega
  obtain ⟨D,hD⟩ : ∃ D,decide (F=G)=D:=⟨_,rfl⟩
  have hs2:iter (runCS ⟨Ω,noG,H,nx⟩ (F.length+1) ir11_0) (F.length+1) ⟨[(0,x),(1,y),(12,.int .i64 F.length),(13,.int .i64 0)],⟨[],[]⟩⟩=
    if D=true then some (.exit 0,⟨[(0,x),(1,y),(12,.int .i64 F.length),(13,.int .i64 F.length),(14,.bool false)],⟨[],[]⟩⟩) else some (.ret,⟨[(4,.bool false)],⟨[],[]⟩⟩):=by
   rw [hs,←hD]
   by_cases e:F=G
   ·rw [if_pos e];simp [e]
   ·rw [if_neg e];simp [e]
  rw [hD]
  clear hs hD
  cases g1 with
  | nil=>
   have hb1:=hb0 rfl
   clear hb hb0
   simp only [List.length_nil,Int.natCast_zero,Int.ofNat_zero] at hs2
   cases g2<;>cases D<;>simp [ir11,ssB,ssU,ssP,appO,hs2,hb1]
  | sl _ fl=>
   clear hb0
   cases g2 with
   | nil=>
    obtain rfl:F=[]:=List.eq_nil_of_length_eq_zero hl
    simp only [List.length_nil,Int.natCast_zero,Int.ofNat_zero] at hs2
    cases D<;>simp [ir11,ssB,ssU,ssP,appO,hs2]
   | _=>cases D<;>simp [ir11,ssB,ssU,ssP,appO,hs2,hb]
  | arr _ F' id' off' cp' ex' k1 k2 k3 k4=>
   clear hb0
   cases g2 with
   | nil=>
    obtain rfl:F=[]:=List.eq_nil_of_length_eq_zero hl
    simp only [List.length_nil,Int.natCast_zero,Int.ofNat_zero] at hs2
    cases D<;>simp [ir11,ssB,ssU,ssP,appO,hs2]
   | _=>cases D<;>simp [ir11,ssB,ssU,ssP,appO,hs2,hb]
 ·have e : ¬F=G:=fun e=>hl (by rw [e])
  have hb:((F.length:Int) != (G.length:Int))=true:=by simp;omega
  have e':decide (F=G)=false:=by simpa using e
  rw [e']
  have hl' : ¬(F.length:Int)=G.length:=by omega
  cases g1 with
  | nil=>
   simp only [List.length_nil,Int.natCast_zero,Int.ofNat_zero] at hl'
   cases g2<;>simp [ir11,ssB,ssU,ssP,appO,hl']<;>simp at hl
  | sl _ fl=>
   cases g2 with
   | nil=>
    have hF : ¬F=[]:=fun e=>hl (by rw [e])
    simp [ir11,ssB,ssU,ssP,appO,hF]
   | _=>simp [ir11,ssB,ssU,ssP,appO,hb,hl',hl]
  | arr _ F' id' off' cp' ex' k1 k2 k3 k4=>
   cases g2 with
   | nil=>
    have hF : ¬F=[]:=fun e=>hl (by rw [e])
    simp [ir11,ssB,ssU,ssP,appO,hF]
   | _=>simp [ir11,ssB,ssU,ssP,appO,hb,hl',hl]
end same
end Go.Proofs.YtppeggedcaabkaaGreatDoor
end

section
namespace Go.Proofs.YtppeggedcaabkaaGreatDoor
open Go Go.Sx
theorem xY (F G:List UInt8) (h62:F.length<2^62) (H:Heap) (nx:Nat):Ω 11 [.p (.sl (bytP F) F.length 1 false),.p (.sl (bytP G) G.length 1 false)] H nx=some (.bool (decide (F=G)),[],[]):=
 vW (.sl F false) (.sl G false) h62
theorem xX (H:Heap) (nx:Nat):Ω 11 [.p (.s (.slice none 0 0)),.p (.s (.slice none 0 0))] H nx=some (.bool true,[],[]):=by
 rw [vW .nil .nil (by simp)];rfl
noncomputable abbrev apc:Ctx:=⟨Ω,noG,noH,0⟩
section
variable (a b:Drw) (M N:Nte) (same:Bool)
end
end Go.Proofs.YtppeggedcaabkaaGreatDoor
end

section
namespace Go.Proofs.YtppeggedcaabkaaGreatDoor
open Go Go.Sx
structure Drw.Ok (d:Drw) (I:List Nat) (Ts:List (Option (List UInt8))):Prop where
 lists:Lists d I Ts
 tree:shl d.tree
 share:shl d.share
 ses:d.ses<2^64
 no:d.no<2^64
 ids : ∀ i∈I,i<2^32
def Drw.mTs (d:Drw) (Ts:List (Option (List UInt8))):List (Option (List UInt8)):=if d.plain=true∧¬(d.kind=3∨d.kind=6) then [] else Ts
theorem Drw.Ok.made {d:Drw} {I:List Nat} {Ts:List (Option (List UInt8))} (h:d.Ok I Ts):d.made.Ok I (d.mTs Ts):=by
 obtain ⟨⟨l1,l2,l3,l4⟩,h2,h3,h4,h5,h6⟩:=h
 unfold Drw.made Drw.mTs
 cases hp:d.plain with
 | false=>
  simp only [Bool.false_eq_true,if_false,false_and]
  exact ⟨⟨l1,l2,l3,l4⟩,h2,h3,h4,h5,h6⟩
 | true=>
  simp only [if_true,true_and]
  have ht:shl (if d.kind=4∨d.kind=5∨d.kind=7 then none else d.tree):=by
   split
   ·intro l e;cases e
   ·exact h2
  have hs:(if 4<d.kind∨d.kind<1 then 0 else d.ses)<2^64:=by split<;>omega
  by_cases hk:d.kind=3∨d.kind=6
  ·have e:(if ¬(d.kind=3∨d.kind=6) then [] else Ts)=Ts:=if_neg (by simp [hk])
   rw [e]
   exact ⟨⟨l1,by simpa [hk] using l2,l3,l4⟩,ht,h3,hs,h5,h6⟩
  ·have e:(if ¬(d.kind=3∨d.kind=6) then [] else Ts)=[]:=if_pos hk
   rw [e]
   exact ⟨⟨l1,.inl ⟨by simp [hk],rfl⟩,by simp,by simp⟩,ht,h3,hs,h5,h6⟩
theorem fA (x:Option (List UInt8)):(evBits (mkEv 4 x).1).length≤4340:=by
 obtain ⟨a,b,c⟩:=bP 4 x
 have h1:=gh (mkEv 4 x).1
 have h2:2^(mkEv 4 x).1.depth≤2^4:=Nat.pow_le_pow_right (by omega) b
 omega
theorem rq (x:Option (List UInt8)):(idBits (mkId 4 x).1).length≤93:=by
 obtain ⟨a,b⟩:=fG 4 x
 have h1:=gl (mkId 4 x).1
 have h2:2^(mkId 4 x).1.depth≤2^4:=Nat.pow_le_pow_right (by omega) b
 omega
theorem lQ (x:Ent) (h:x.id<2^32) (hb:(evBits x.v.ev).length≤4340):x.bytes.length≤4500:=by
 unfold Ent.bytes Vsn.bytes
 have h1:=ai x.id (by omega)
 have h2:=aV (evBits x.v.ev)
 have h3:(if x.v.gone then [1] else 0::crdB x.v.nm).length≤10:=by
  cases x.v.gone<;>cases x.v.nm<;>simp [crdB]
 have h4:=ai (pack (evBits x.v.ev)).length (by omega)
 have e1:(txt (pack (evBits x.v.ev))).length=(vnum (pack (evBits x.v.ev)).length).length+(pack (evBits x.v.ev)).length:=by rw [txt,List.length_append]
 rw [List.length_append,txt,List.length_append]
 have h5:=ai (txt (pack (evBits x.v.ev))++(if x.v.gone then [1] else 0::crdB x.v.nm)).length (by rw [List.length_append];omega)
 rw [List.length_append] at h5 ⊢
 omega
theorem lP (k:Nat) : ∀ (L:List Ent),(∀ x∈L,x.bytes.length≤k)→(entB L).length≤L.length*k
 | [],_=>by simp [entB]
 | x::L,h=>by
  have h1:=lP k L fun y hy=>h y (List.mem_cons_of_mem _ hy)
  have h2:=h x List.mem_cons_self
  rw [entB,List.length_append,List.length_cons,Nat.succ_mul]
  omega
theorem de {I:List Nat} {Ts:List (Option (List UInt8))} {x:Ent} (h:x∈drawnL I Ts) : ∃ j,j<many I Ts∧x=drawn I Ts j:=by
 unfold drawnL at h
 obtain ⟨j,hj,rfl⟩:=List.mem_map.1 h
 exact ⟨j,List.mem_range.1 hj,rfl⟩
theorem Drw.Ok.fit {d:Drw} {I:List Nat} {Ts:List (Option (List UInt8))} (h:d.Ok I Ts):(d.note (drawnL I Ts)).Fit:=by
 have hid : ∀ j,j<many I Ts→I.getD j 0<2^32:=by
  intro j hj
  have h1:j<I.length:=by unfold many at hj;omega
  rw [List.getD_eq_getElem?_getD,List.getElem?_eq_getElem h1]
  exact h.ids _ (List.getElem_mem h1)
 have g1:(d.gift1.no<2^64)∧(idBits d.gift1.sh).length<2^16:=by
  unfold Drw.gift1
  split
  ·exact ⟨h.no,Nat.lt_of_le_of_lt (rq _) (by decide)⟩
  ·exact ⟨by decide,by simp [idBits,ae]⟩
 refine ⟨h.ses,?_,g1.1,g1.2,?_,?_,(bP 4 _).1,?_,?_,?_,?_,?_⟩
 ·show (if d.plain=false∨d.kind=7 then d.no else 0)<2^64
  have:=h.no
  split<;>omega
 ·exact Nat.lt_of_le_of_lt (bP 4 _).2.2 (by decide)
 ·exact Nat.lt_of_le_of_lt (fA _) (by decide)
 ·show (drawnL I Ts).length<50
  rw [cN];have:=jn I Ts;omega
 ·intro x hx
  obtain ⟨j,hj,rfl⟩:=de hx
  exact ⟨hid j hj,Nat.lt_of_le_of_lt (bP 4 _).2.2 (by decide),Nat.lt_of_le_of_lt (fA _) (by decide)⟩
 ·intro x hx
  obtain ⟨j,hj,rfl⟩:=de hx
  exact Nat.lt_of_le_of_lt (bP 4 _).2.2 (by decide)
 ·have h1:=lP 4500 (drawnL I Ts) fun x hx=>by
   obtain ⟨j,hj,rfl⟩:=de hx
   exact lQ _ (hid j hj) (fA _)
  have h2:(drawnL I Ts).length<8:=by rw [cN];exact jn I Ts
  show (entB (drawnL I Ts)).length<2^19
  omega
 ·intro x hx
  obtain ⟨j,hj,rfl⟩:=de hx
  exact (bP 4 _).1
theorem tW {n:Nte} (h:n.Fit) (hr:n.right=true):n.body.length<2^21:=by
 have h1:=ai n.ses h.ses
 have h2:=ai n.no h.no
 have h3:=aV (evBits n.ev)
 have b1:=h.bits
 have b2:=h.size
 have b3:=h.gsh
 have h4:=ai (pack (evBits n.ev)).length (by omega)
 have h5:=ai n.ents.length (by have:=h.len;omega)
 have h6:=ai n.gift.no h.gno
 have h7:=aV (idBits n.gift.sh)
 have h8:=ai (pack (idBits n.gift.sh)).length (by omega)
 have e1:(txt (pack (evBits n.ev))).length=(vnum (pack (evBits n.ev)).length).length+(pack (evBits n.ev)).length:=by rw [txt,List.length_append]
 have e2:(txt (pack (idBits n.gift.sh))).length=(vnum (pack (idBits n.gift.sh)).length).length+(pack (idBits n.gift.sh)).length:=by rw [txt,List.length_append]
 obtain ⟨p1,p2,p3⟩:=aW hr
 unfold Nte.body Nte.rest
 split
 ·simp only [List.length_append,List.length_cons,List.length_nil];omega
 split
 ·simp only [List.length_append,List.length_cons,List.length_nil];omega
 split
 ·simp only [List.length_append,List.length_cons,List.length_nil];omega
 split
 ·rename_i k6
  have:n.gift.fr=n.fr∧n.gift.to=n.to:=by
   simp only [Nte.right,k6,Bool.and_eq_true] at hr
   have z:=(show _∧_ from ⟨hr.2.1.2,hr.2.2⟩)
   simp [and_assoc] at z
   exact z.2.2
  have h9:=ai n.gift.fr.toNat (by omega)
  have h10:=ai n.gift.to.toNat (by omega)
  simp only [Gft.bytes,List.length_append,List.length_cons,List.length_nil];omega
 split
 ·simp only [List.length_append,List.length_cons,List.length_nil];omega
 ·simp
end Go.Proofs.YtppeggedcaabkaaGreatDoor
end

section
namespace Go.Proofs.YtppeggedcaabkaaGreatDoor
open Go Go.Sx Go.ChangeShapes Go.WideShapes
section
variable {W:World}
theorem kC {k:IntKind} {v:Value} {x:PV} (h:RV W (.k (.int k)) v x) : ∃ n:Int,x = .s (.int k n)∧k.min≤n∧n≤k.max:=by
 cases h with
 | k h=>
  cases v<;>simp only [SK.fits] at h
  obtain ⟨rfl,h⟩:=h
  exact ⟨_,rfl,by simpa [Lit.wf] using h⟩
theorem su {v:Value} {x:PV} (h:RV W (.k .bool) v x) : ∃ b:Bool,x = .s (.bool b):=by
 cases h with
 | k h=>cases v<;>first|exact ⟨_,rfl⟩|exact absurd h (by simp [SK.fits])
theorem mM {k:IntKind} (h0:k.min=0) {v:Value} {x:PV} (h:RV W (.k (.int k)) v x) : ∃ n:Nat,x = .s (.int k n)∧(n:Int)≤k.max:=by
 obtain ⟨n,rfl,h1,h2⟩:=kC h
 rw [h0] at h1
 exact ⟨n.toNat,by rw [Int.toNat_of_nonneg h1],by omega⟩
theorem xU {v:Value} {x:PV} (h:RV W (.k (.int .u8)) v x) : ∃ b:UInt8,x = .s (.int .u8 b.toNat)∧True:=by
 obtain ⟨n,rfl,h⟩:=mM rfl h
 have:n<256:=by have e:IntKind.u8.max=255:=rfl;omega
 exact ⟨UInt8.ofNat n,by simp [Nat.mod_eq_of_lt this],trivial⟩
theorem kB {v:Value} {x:PV} (h:RV W (.sl [.k (.int .u8)]) v x) : ∃ o:Option (List UInt8),x=obP false o∧shl o:=by
 rcases mg (f:=fun b:UInt8=>PV.s (.int .u8 b.toNat)) (Q:=fun _=>True) (fun v x h=>xU h) h with rfl|⟨L,rfl,_,h2⟩
 ·exact ⟨none,rfl,fun l h=>by cases h⟩
 ·exact ⟨some L,rfl,fun l h=>by cases h;exact h2⟩
theorem all_cons {c:CT} {ks:List CT} {cs:List Value} {xs:List PV} (h:AllR W (c::ks) cs xs) : ∃ v vs x ys,cs=v::vs∧xs=x::ys∧RV W c v x∧AllR W ks vs ys:=by
 obtain ⟨h1,h2,h3⟩:=h
 cases cs with
 | nil=>cases h1
 | cons v vs=>
  cases xs with
  | nil=>cases h2
  | cons x ys=>exact ⟨v,vs,x,ys,rfl,rfl,h3 0 c v x rfl rfl rfl,by simpa using h1,by simpa using h2,fun j c v x a b d=>h3 (j+1) c v x a b d⟩
theorem all_nil {cs:List Value} {xs:List PV} (h:AllR W [] cs xs):cs=[]∧xs=[]:=⟨List.eq_nil_of_length_eq_zero h.1,List.eq_nil_of_length_eq_zero h.2.1⟩
theorem AllR.pr {ks:List CT} {a:Array Value} {xs:List PV} (h:AllR W ks a.toList xs):PR (fun b=>b<W.heap.size) W (.agg xs) (.agg a):=by
 obtain ⟨h1,h2,h3⟩:=h
 refine .agg xs a (by simpa [h2] using h1) ?_ ?_
 ·intro u hu
  obtain ⟨j,hj,rfl⟩:=List.getElem_of_mem hu
  exact (h3 j (ks[j]'(by omega)) a.toList[j] (xs[j]'(by omega)) (by simp [←h1,hj]) (by simp [hj]) (by simp [h2,←h1,hj])).one
 ·intro j l u hl hu
  have hj:j<xs.length:=(List.getElem?_eq_some_iff.1 hl).1
  exact (h3 j (ks[j]'(by omega)) u l (by simp [←h2,hj]) (by simpa using hu) hl).pr
def drawK:List CT:=[.k (.int .i64),.k (.int .i64),.k (.int .i64),.k (.int .u64),.k (.int .u64),.k (.int .i64),.k .bool,.k .bool,.sl [.k (.int .u8)],.sl [.k (.int .u8)],.sl [.k (.int .u32)],.sl [.sl [.k (.int .u8)]]]
theorem wK {cs:List Value} {xs:List PV} (h:AllR W drawK cs xs) : ∃ (d:Drw) (I:List Nat) (Ts:List (Option (List UInt8))),d.Ok I Ts∧xs=d.cells:=by
 obtain ⟨_,_,_,_,rfl,rfl,r1,h⟩:=all_cons h
 obtain ⟨_,_,_,_,rfl,rfl,r2,h⟩:=all_cons h
 obtain ⟨_,_,_,_,rfl,rfl,r3,h⟩:=all_cons h
 obtain ⟨_,_,_,_,rfl,rfl,r4,h⟩:=all_cons h
 obtain ⟨_,_,_,_,rfl,rfl,r5,h⟩:=all_cons h
 obtain ⟨_,_,_,_,rfl,rfl,r6,h⟩:=all_cons h
 obtain ⟨_,_,_,_,rfl,rfl,r7,h⟩:=all_cons h
 obtain ⟨_,_,_,_,rfl,rfl,r8,h⟩:=all_cons h
 obtain ⟨_,_,_,_,rfl,rfl,r9,h⟩:=all_cons h
 obtain ⟨_,_,_,_,rfl,rfl,r10,h⟩:=all_cons h
 obtain ⟨_,_,x11,_,rfl,rfl,r11,h⟩:=all_cons h
 obtain ⟨_,_,x12,_,rfl,rfl,r12,h⟩:=all_cons h
 obtain ⟨rfl,rfl⟩:=all_nil h
 obtain ⟨a1,rfl,_⟩:=kC r1
 obtain ⟨a2,rfl,_⟩:=kC r2
 obtain ⟨a3,rfl,_⟩:=kC r3
 obtain ⟨a4,rfl,b4⟩:=mM rfl r4
 obtain ⟨a5,rfl,b5⟩:=mM rfl r5
 obtain ⟨a6,rfl,_⟩:=kC r6
 obtain ⟨a7,rfl⟩:=su r7
 obtain ⟨a8,rfl⟩:=su r8
 obtain ⟨a9,rfl,b9⟩:=kB r9
 obtain ⟨a10,rfl,b10⟩:=kB r10
 have u64:IntKind.u64.max=2^64-1:=rfl
 rw [u64] at b4 b5
 obtain ⟨I,hI,hI2⟩ : ∃ I:List Nat,((x11=PV.s (.slice none 0 0)∧I=[])∨x11 = .sl (I.map fun i:Nat=>PV.s (.int .u32 (i:Int))) I.length 1 false)∧∀ i∈I,i<2^32:=by
  rcases mg (f:=fun n:Nat=>PV.s (.int .u32 n)) (Q:=fun n=>(n:Int)≤IntKind.u32.max) (fun v x h=>mM rfl h) r11 with e|⟨L,e,h1,_⟩
  ·exact ⟨[],.inl ⟨e,rfl⟩,by simp⟩
  ·exact ⟨L,.inr e,fun i hi=>by have:=h1 i hi;have e:IntKind.u32.max=2^32-1:=rfl;omega⟩
 obtain ⟨Ts,hT,hT2,hT3⟩ : ∃ Ts:List (Option (List UInt8)),((x12=PV.s (.slice none 0 0)∧Ts=[])∨x12 = .sl (Ts.map (obP false)) Ts.length 1 false)∧(∀ t∈Ts,shl t)∧Ts.length<2^63:=by
  rcases mg (f:=obP false) (Q:=shl) (fun v x h=>kB h) r12 with e|⟨L,e,h1,h2⟩
  ·exact ⟨[],.inl ⟨e,rfl⟩,by simp,by simp⟩
  ·exact ⟨L,.inr e,h1,h2⟩
 exact ⟨⟨a1,a2,a3,a4,a5,a6,a7,a8,a9,a10,x11,x12⟩,I,Ts,⟨⟨hI,hT,hT2,hT3⟩,b9,b10,by show a4<2^64;omega,by show a5<2^64;omega,hI2⟩,rfl⟩
end
end Go.Proofs.YtppeggedcaabkaaGreatDoor
end

section
namespace Go.Proofs.YtppeggedcaabkaaGreatDoor
open Go Go.Sx
theorem sO {p:List UInt8} (h : ¬p=[]):(bytP p)[0]?=some (.s (.int .u8 (p.headD 0).toNat)):=by
 cases p with
 | nil=>exact absurd rfl h
 | cons b r=>rfl
theorem zn {α:Type} (l:List α):1≤l.length ↔ ¬l=[]:=by cases l<;>simp
theorem sP (l:List UInt8):List.take (l.length-1) (bytP l).tail=bytP l.tail:=by
 rw [←List.drop_one,iH,List.drop_one]
def wByte (p:List UInt8) (e:Int):UInt8 × List UInt8 × Int:=if e=0 then (p.headD 0,p.tail,if p=[] then 6 else 0) else (0,p,e)
theorem y7 (fl p e):Φ 96 [.ref 0 0] [wi fl p e]=some (.int .u8 (wByte p e).1.toNat,[wi fl (wByte p e).2.1 (wByte p e).2.2]):=by
 unfold wByte
 by_cases h:e=0<;>by_cases h2:p=[]
 ·have h4:=eq_true h2;refine aL (ir:=ir96) (by kernel_rfl) ?_;simp +contextual (maxSteps:=1000000) [ir96,ssL,↓ssM,aA,ssU,ssR,bG,cd,h,h4];simp [h2]
 ·refine aL (ir:=ir96) (by kernel_rfl) ?_;simp +contextual (maxSteps:=1000000) [ir96,ssL,↓ssM,aA,ssU,ssR,bG,cd,sP,ah,zn,-List.length_tail,List.length_pos_iff,sO,h2,h];obtain ⟨b,r,rfl⟩:=List.exists_cons_of_ne_nil h2;simp [bytP]
 ·have h4:=eq_true h2;refine aL (ir:=ir96) (by kernel_rfl) ?_;simp +contextual (maxSteps:=1000000) [ir96,ssL,↓ssM,aA,ssU,ssR,bG,cd,h,h4]
 ·refine aL (ir:=ir96) (by kernel_rfl) ?_;simp +contextual (maxSteps:=1000000) [ir96,ssL,↓ssM,aA,ssU,ssR,bG,cd,h,h2]
theorem sx (k:Nat) (p:List UInt8) (fl:Bool):PV.sl (bytP (p.drop k)) (p.length-k) 1 fl = .sl (bytP (p.drop k)) (p.drop k).length 1 fl:=by rw [List.length_drop]
theorem jZ (fl:Bool) (p:List UInt8) (h30:p.length<2^31) : ∀ (r:List UInt8) (i n:Nat),p.drop i=r→i≤9→n<2^64→run ⟨Ω,noG,hpL [wi fl p 0],1⟩ (.loop ir98_0) ⟨[(0,.ref 0 0),(3,.int .u64 n),(12,sB fl p),(13,.int .i64 p.length),(14,.int .i64 i)],⟨[],[]⟩⟩=
  match rnum i n r with
  | none=>some (.exit 0,⟨[(0,.ref 0 0)],⟨[],[]⟩⟩)
  | some (v,rest)=>some (.ret,⟨[(2,.int .u64 v)],⟨[(0,wi fl rest 0)],[]⟩⟩)
 | [],i,n,hr,hi,hn=>by
  rw [cm]
  have h1 : ¬i<p.length:=by simpa using hr
  have h2:p.length≤i:=by omega
  simp +contextual (maxSteps:=1000000) [ir98_0,ssL,↓ssM,aA,ssU,ssR,h1,h2,rnum]
 | b::r,i,n,hr,hi,hn=>by
  rw [cm]
  have h1:i<p.length:=by
   rcases Nat.lt_or_ge i p.length with h|h
   ·exact h
   ·rw [List.drop_of_length_le h] at hr;cases hr
  have h2 : ¬p.length≤i:=by omega
  have hb:p[i]?=some b:=by rw [←List.head?_drop,hr];rfl
  have hg:=bV hb
  have hr':p.drop (i+1)=r:=by rw [←List.drop_drop,hr];rfl
  have a1:IntKind.i64.wrap (7*(i:Int))=7*i:=am _ (by omega) (by omega)
  have a2:=mO (b.toNat%128) (7*i) (by omega)
  rw [show ((7*i:Nat):Int)=7*(i:Int) by omega] at a2
  have a3:=cn (b.toNat%128) (by omega)
  have hlt:=Nat.mod_lt (b.toNat%128*2^(7*i)) (show 0<2^64 by decide)
  have a4:=vw n (b.toNat%128*2^(7*i)%2^64) hn hlt
  have hn':=Nat.or_lt_two_pow hn hlt
  have a5:=t4 b
  have a6:IntKind.i64.wrap ((i:Int)+1)=i+1:=am _ (by omega) (by omega)
  have a7:i+1≤p.length:=by omega
  have a8:(0:Int)≤i+1:=by omega
  have c1:(decide ((i:Int)=9)&&!decide ((b.toNat:Int)≤1)||decide (b.toNat=0)&&!decide (i=0))=decide ((i=9∧1<b.toNat)∨(b=0∧0<i)):=by
   have hb0:b=0↔b.toNat=0:=by rw [←UInt8.toNat_inj];rfl
   rw [Bool.eq_iff_iff]
   simp only [Bool.or_eq_true,Bool.and_eq_true,decide_eq_true_eq,Bool.not_eq_true',decide_eq_false_iff_not,hb0]
   omega
  have c2:(!decide ((128:Int)≤b.toNat))=decide (b.toNat<128):=by
   rw [Bool.eq_iff_iff]
   simp only [decide_eq_true_eq,Bool.not_eq_true',decide_eq_false_iff_not]
   omega
  have ih:=fun h=>jZ fl p h30 r (i+1) (n ||| (b.toNat%128*2^(7*i))%2^64) hr' h hn'
  rw [rnum]
  generalize n ||| b.toNat%128*2^(7*i)%2^64=n' at*
  generalize b.toNat%128*2^(7*i)%2^64=y at*
  generalize b.toNat%128=z at*
  simp only [Int.natCast_add,Int.natCast_one] at ih
  generalize IRC.loop ir98_0=LB at*
  simp +contextual (maxSteps:=1000000) [ir98_0,ssL,↓ssM,aA,ssU,ssR,h1,h2,ah,aF,hg,iH,sx,hr',-List.length_drop,a1,a2,a3,a4,a5,a6,a7,a8,c1,c2]
  by_cases d1:(i=9∧1<b.toNat)∨(b=0∧0<i)
  ·simp [d1,iteK]
  ·by_cases d2:b.toNat<128
   ·have hlen:p.length-(i+1)=r.length:=by rw [←hr',List.length_drop]
    simp [d1,d2,iteK,hlen]
   ·rw [ih (by omega)]
    simp [d1,d2,iteK]
def wNum (p:List UInt8) (e:Int):Nat × List UInt8 × Int:=if e=0 then (match rnum 0 0 p with
 | none=>(0,p,6)
 | some (v,r)=>(v,r,0)) else (0,p,e)
theorem yy (fl p e) (h30:p.length<2^31):Φ 98 [.ref 0 0] [wi fl p e]=some (.int .u64 (wNum p e).1,[wi fl (wNum p e).2.1 (wNum p e).2.2]):=by
 have hl:=jZ fl p h30 p 0 0 rfl (by omega) (by decide)
 simp only [Int.natCast_zero] at hl
 unfold wNum
 by_cases he:e=0
 ·subst he
  cases hr:rnum 0 0 p with
  | none=>rw [hr] at hl;refine aL (ir:=ir98) (by kernel_rfl) ?_;simp +contextual (maxSteps:=1000000) [ir98,ssL,↓ssM,aA,ssU,ssR,cd,bG,hl]
  | some q=>obtain ⟨v,r⟩:=q;rw [hr] at hl;refine aL (ir:=ir98) (by kernel_rfl) ?_;simp +contextual (maxSteps:=1000000) [ir98,ssL,↓ssM,aA,ssU,ssR,cd,bG,hl]
 ·refine aL (ir:=ir98) (by kernel_rfl) ?_;simp +contextual (maxSteps:=1000000) [ir98,ssL,↓ssM,aA,ssU,ssR,cd,he]
theorem sg : ∀ (p:List UInt8) (i n v:Nat) (r:List UInt8),rnum i n p=some (v,r)→r.length<p.length∧(n<2^64→v<2^64)
 | [],i,n,v,r,h=>by cases h
 | b::l,i,n,v,r,h=>by
  have hlt:=Nat.mod_lt (b.toNat%128*2^(7*i)) (show 0<2^64 by decide)
  rw [rnum] at h
  split at h
  ·cases h
  ·split at h
   ·obtain ⟨rfl,rfl⟩:_=v∧_=r:=by simpa using h
    exact ⟨by simp,fun hn=>Nat.or_lt_two_pow hn hlt⟩
   ·have:=sg l _ _ _ _ h
    exact ⟨by simp;omega,fun hn=>this.2 (Nat.or_lt_two_pow hn hlt)⟩
theorem yj (p e):(wNum p e).2.1.length≤p.length∧(wNum p e).1<2^64:=by
 unfold wNum
 split
 ·split
  ·simp
  ·rename_i v r h
   have:=sg _ _ _ _ _ h
   exact ⟨by simp;omega,by simpa using this.2 (by decide)⟩
 ·simp
theorem t5 (l:List UInt8):bytesL ((bytP l).map .p)=some l:=by rw [aF,aO]
def wText (most:Nat) (p:List UInt8) (e:Int):List UInt8 × List UInt8 × Int:=if e=0 then (if (wNum p 0).2.2=0 then (if most<(wNum p 0).1 then ([],p,9) else if (wNum p 0).2.1.length<(wNum p 0).1 then ([],p,6) else ((wNum p 0).2.1.take (wNum p 0).1,(wNum p 0).2.1.drop (wNum p 0).1,0)) else ([],p,(wNum p 0).2.2)) else ([],p,e)
theorem y9 (fl) (most:Nat) (p e) (h30:p.length<2^31) (hm:most<2^31):Φ 101 [.ref 0 0,.int .i64 most] [wi fl p e]=some (.str ⟨(wText most p e).1.toArray⟩,[wi fl (wText most p e).2.1 (wText most p e).2.2]):=by
 unfold wText
 by_cases he:e=0
 ·subst he
  have hn:=yy fl p 0 h30
  obtain ⟨hq,h64⟩:=yj p 0
  generalize wNum p 0=x at*
  obtain ⟨n,q,e1⟩:=x
  simp only at hn hq h64 ⊢
  have a1:=cn most (by omega)
  have a3:=Int.natCast_nonneg most
  have a4 : ¬(most:Int)<0:=by omega
  have a2:=cn q.length (by omega)
  by_cases h1:e1=0
  ·subst h1
   by_cases h2:most<n
   ·have h2' : ¬n≤most:=by omega
    refine aL (ir:=ir101) (by kernel_rfl) ?_;simp +contextual (maxSteps:=1000000) [ir101,ssL,↓ssM,aA,ssU,ssR,cd,bG,hn,a1,a2,a3,a4,h2,h2']
   ·have h2':n≤most:=by omega
    by_cases h3:q.length<n
    ·have h3' : ¬n≤q.length:=by omega
     refine aL (ir:=ir101) (by kernel_rfl) ?_;simp +contextual (maxSteps:=1000000) [ir101,ssL,↓ssM,aA,ssU,ssR,cd,bG,hn,a1,a2,a3,a4,h2,h2',h3,h3']
    ·have h3':n≤q.length:=by omega
     refine aL (ir:=ir101) (by kernel_rfl) ?_;simp +contextual (maxSteps:=1000000) [ir101,ssL,↓ssM,aA,ssU,ssR,cd,bG,hn,a1,a2,a3,a4,h2,h2',h3,h3',iI,iH,t5,ah,sx,-List.length_drop,-List.length_take]
     simp [h3']
  ·refine aL (ir:=ir101) (by kernel_rfl) ?_;simp +contextual (maxSteps:=1000000) [ir101,ssL,↓ssM,aA,ssU,ssR,cd,bG,hn,a1,a2,a3,a4,h1]
 ·refine aL (ir:=ir101) (by kernel_rfl) ?_;simp +contextual (maxSteps:=1000000) [ir101,ssL,↓ssM,aA,ssU,ssR,cd,he]
theorem Ag (fl p) (h30:p.length<2^31):Φ 46 [sB fl p] []=some (.ref 0 0,[wi p.isEmpty p 0]):=by
 refine aL (ir:=ir46) (by kernel_rfl) ?_;simp +contextual (maxSteps:=1000000) [ir46,ssL,↓ssM,aA,ssU,ssR,lO p fl h30]
end Go.Proofs.YtppeggedcaabkaaGreatDoor
end

section
namespace Go.Proofs.YtppeggedcaabkaaGreatDoor
open Go Go.Sx
section number
variable {c:Ctx}
end number
end Go.Proofs.YtppeggedcaabkaaGreatDoor
end

section
namespace Go.Proofs.YtppeggedcaabkaaGreatDoor
open Go Go.Sx
theorem pI {n x i:Nat} (hn:n<2^i) (hx:x*2^i<2^64):n ||| x*2^i%2^64=n+x*2^i:=by
 rw [Nat.mod_eq_of_lt hx,Nat.or_comm,Nat.mul_comm x,←Nat.two_pow_add_eq_or_of_lt hn,Nat.add_comm]
section
variable {P p:List UInt8}
end
end Go.Proofs.YtppeggedcaabkaaGreatDoor
end

section
namespace Go.Proofs.YtppeggedcaabkaaGreatDoor
open Go Go.Sx
def bitN (p:List UInt8) (i:Nat):Nat:=(p.getD (i/8) 0).toNat/2^(7-i%8)%2
def getN (p:List UInt8) (i:Nat):Nat→Nat→Nat
 | 0,v=>v
 | k+1,v=>getN p (i+1) k (2*v+bitN p i)
theorem lL (p:List UInt8) (i:Nat):bitN p i<2:=Nat.mod_lt _ (by decide)
theorem zL (x k:Nat) (hk:k≤8):shI .shr .u8 x k=some (.int .u8 (x/2^k:Nat)):=by
 have:shI .shr .u8 (x:Int) k=some (.int .u8 ((x:Int).fdiv (2^(min k 8)))):=by
  simp only [shI]
  rw [if_neg (by omega)]
  rfl
 rw [this,Int.fdiv_eq_ediv_of_nonneg _ (Int.le_of_lt (Int.pow_pos (by decide))),Nat.min_eq_left hk]
 norm_cast
theorem wv (y:Nat):binI .and .u8 y 1=some (.int .u8 (y%2:Nat)):=by
 have:binI .and .u8 (y:Int) 1=some (.int .u8 (IntKind.u8.wrap (BitVec.ofInt 8 (y:Int) &&& BitVec.ofInt 8 1).toNat)):=rfl
 rw [this,BitVec.ofInt_natCast,BitVec.toNat_and,BitVec.toNat_ofNat]
 have e:(BitVec.ofInt 8 1).toNat=1:=by decide
 rw [e,Nat.and_one_is_mod]
 have e2:y%2^8%2=y%2:=by omega
 rw [e2]
 simp [IntKind.wrap,IntKind.signed,IntKind.bits]
 omega
theorem zq (a b:Nat) (hb:b<2):2*a ||| b=2*a+b:=by
 have h:=Nat.two_pow_add_eq_or_of_lt (i:=1) (b:=b) (by omega) a
 rw [←h]
def bvA (v:Nat):List Bool→Nat
 | []=>v
 | b::r=>bvA (2*v+b.toNat) r
theorem tZ : ∀ (l:List Bool) (v k:Nat),v<2^k→bvA v l<2^(k+l.length)
 | [],v,k,h=>h
 | b::r,v,k,h=>by
  have:=tZ r (2*v+b.toNat) (k+1) (by have:=Bool.toNat_lt b;rw [Nat.pow_succ];omega)
  rw [show k+(b::r).length=k+1+r.length by simp;omega]
  exact this
def bitsB (p:List UInt8):List Bool:=(List.range (8*p.length)).map fun i=>bitN p i==1
theorem dS (p):(bitsB p).length=8*p.length:=by simp [bitsB]
theorem sK {p:List UInt8} {i:Nat} (h:i<8*p.length):(bitsB p)[i]?=some (bitN p i==1):=by simp [bitsB,h]
theorem wA (p i):(bitN p i==1).toNat=bitN p i:=by
 have:=lL p i
 rcases (show bitN p i=0∨bitN p i=1 by omega) with h|h<;>rw [h]<;>rfl
theorem rl (p:List UInt8) : ∀ (k n v:Nat),n+k≤8*p.length→getN p n k v=bvA v (((bitsB p).drop n).take k)
 | 0,n,v,h=>by simp [getN,bvA]
 | k+1,n,v,h=>by
  have hg:=sK (p:=p) (i:=n) (by omega)
  obtain ⟨hlt,he⟩:=List.getElem?_eq_some_iff.1 hg
  rw [getN,rl p k (n+1) _ (by omega),List.drop_eq_getElem_cons hlt,List.take_succ_cons,bvA,he,wA]
abbrev brn (fl:Bool) (P:List UInt8) (n:Nat) (e:Int):Ob:=some (.cells [sB fl P,.int .i64 n,.int .i64 e])
theorem eO (fl P n e):Ψ 218 [.ref 0 0] [brn fl P n e]=some (.int .i64 e):=by
 refine cK (ir:=ir218) (by kernel_rfl) ?_;simp +contextual (maxSteps:=1000000) [ir218,ssL,↓ssM,aA,ssU,ssR]
theorem tY (fl) (P:List UInt8) (n e) (h28:P.length<2^28) (hn:n≤8*P.length):Ψ 219 [.ref 0 0] [brn fl P n e]=some (.int .i64 (8*P.length-n:Nat)):=by
 have w1:IntKind.i64.wrap (8*(P.length:Int))=8*(P.length:Int):=am _ (by omega) (by omega)
 have w2:IntKind.i64.wrap (8*(P.length:Int)-n)=((8*P.length-n:Nat):Int):=by rw [am _ (by omega) (by omega)];omega
 refine cK (ir:=ir219) (by kernel_rfl) ?_;simp +contextual (maxSteps:=1000000) [ir219,ssL,↓ssM,aA,ssU,ssR,w1,w2]
theorem bR (fl P n e):Φ 221 [.ref 0 0] [brn fl P n e]=some (.int .u64 0,[brn fl P n (if e=0 then 6 else e)]):=by
 by_cases h:e=0
 all_goals
 refine aL (ir:=ir221) (by kernel_rfl) ?_;simp +contextual (maxSteps:=1000000) [ir221,ssL,↓ssM,aA,ssU,ssR,h]
theorem o7 (fl) (P:List UInt8) (n k j v:Nat) (x0:Ob) (u:Upd) (h28:P.length<2^28) (hn:n<8*P.length) (hk:k≤64) (hj:j<k) (hv:v<2^j) (hu:(u=[]∧x0=brn fl P n 0)∨u=[(0,brn fl P n 0)]):
  run ⟨Ω,noG,hpL [x0],1⟩ ir220_0 ⟨[(0,.ref 0 0),(5,.int .u64 v),(20,.int .i64 k),(21,.int .i64 j)],⟨u,[]⟩⟩=
   some (.normal,⟨[(0,.ref 0 0),(5,.int .u64 (2*v+bitN P n:Nat)),(20,.int .i64 k),(21,.int .i64 (j+1:Nat))],⟨[(0,brn fl P (n+1) 0)],[]⟩⟩):=by
 have hm:n/8<P.length:=by omega
 have q1:binI .quo .i64 (n:Int) 8=some (.int .i64 (n/8:Nat)):=fJ .i64 n 8 (by decide) (fun z hz=>am _ (by omega) (by omega))
 have q2:binI .rem .i64 (n:Int) 8=some (.int .i64 (n%8:Nat)):=by
  rw [ft _ _ _ (by decide),Int.tmod_eq_emod_of_nonneg (by omega)]
  norm_cast
 have q3:IntKind.i64.wrap (7-((n%8:Nat):Int))=((7-n%8:Nat):Int):=by rw [am _ (by omega) (by omega)];omega
 have hg:(byt P)[n/8]?=some (.int .u8 (P.getD (n/8) 0).toNat):=by simp [byt,hm]
 have q4:=zL (P.getD (n/8) 0).toNat (7-n%8) (by omega)
 have q5:=wv ((P.getD (n/8) 0).toNat/2^(7-n%8))
 have e0:(P.getD (n/8) 0).toNat/2^(7-n%8)%2=bitN P n:=rfl
 rw [e0] at q5
 have hbl:=lL P n
 have q6:=cn (bitN P n) (by omega)
 have hj2:2^j≤2^63:=Nat.pow_le_pow_right (by decide) (by omega)
 have q7:shI .shl .u64 (v:Int) 1=some (.int .u64 (2*v:Nat)):=by
  rw [show ((1:Int))=((1:Nat):Int) from rfl,mO _ 1 (by decide)]
  congr 3;omega
 have q8:=vw (2*v) (bitN P n) (by omega) (by omega)
 rw [zq _ _ hbl] at q8
 have q9:IntKind.i64.wrap ((n:Int)+1)=(n:Int)+1:=am _ (by omega) (by omega)
 have q10:IntKind.i64.wrap ((j:Int)+1)=(j:Int)+1:=am _ (by omega) (by omega)
 have hj' : ¬k≤j:=by omega
 generalize bitN P n=bt at*
 generalize 2*v+bt=v1 at*
 generalize 2*v=v2 at*
 generalize (P.getD (n/8) 0).toNat/2^(7-n%8)=y1 at*
 generalize (P.getD (n/8) 0).toNat=y0 at*
 generalize 7-n%8=d3 at*
 generalize n%8=d2 at*
 generalize n/8=d1 at*
 clear hv
 rcases hu with ⟨rfl,rfl⟩|rfl
 all_goals simp +contextual (maxSteps:=1000000) [ir220_0,ssL,↓ssM,aA,ssU,ssR,hj',hj,q1,q2,q3,hg,q4,q5,q6,q7,q8,q9,q10,hm,aF]
theorem jH (fl) (P:List UInt8) (k:Nat) (x0:Ob) (h28:P.length<2^28) (hk:k≤64) : ∀ (t n j v:Nat) (u:Upd),t+j=k→n+t≤8*P.length→v<2^j→((u=[]∧x0=brn fl P n 0)∨u=[(0,brn fl P n 0)]) →
  run ⟨Ω,noG,hpL [x0],1⟩ (.loop ir220_0) ⟨[(0,.ref 0 0),(5,.int .u64 v),(20,.int .i64 k),(21,.int .i64 j)],⟨u,[]⟩⟩=
   some (.exit 0,⟨[(5,.int .u64 (getN P n t v))],⟨if t=0 then u else [(0,brn fl P (n+t) 0)],[]⟩⟩)
 | 0,n,j,v,u,hj,hn,hv,hu=>by
  have h1 : ¬j<k:=by omega
  have h2:k≤j:=by omega
  rw [cm]
  rcases hu with ⟨rfl,rfl⟩|rfl
  all_goals simp +contextual (maxSteps:=1000000) [ir220_0,ssL,↓ssM,aA,ssU,ssR,h1,h2,getN]
 | t+1,n,j,v,u,hj,hn,hv,hu=>by
  have hb:=lL P n
  rw [cm,o7 fl P n k j v x0 u h28 (by omega) hk (by omega) hv hu,bA,bm,
   jH fl P k x0 h28 hk t (n+1) (j+1) _ _ (by omega) (by omega) (by rw [Nat.pow_succ];omega) (.inr rfl),getN,if_neg (by omega : ¬t+1=0),show n+1+t=n+(t+1) by omega]
  cases t<;>simp
def wGet (k:Nat) (b:List Bool) (e:Int):Nat × List Bool × Int:=if e=0 then (if b.length<k then (0,b,6) else (bvA 0 (b.take k),b.drop k,0)) else (0,b,e)
abbrev br (fl:Bool) (P:List UInt8) (b:List Bool) (e:Int):Ob:=brn fl P (8*P.length-b.length) e
theorem mS {P:List UInt8} {b:List Bool} (hb:b <:+ bitsB P):b.length≤8*P.length:=by rw [←dS];exact hb.length_le
theorem we {P:List UInt8} {b:List Bool} (hb:b <:+ bitsB P):(bitsB P).drop (8*P.length-b.length)=b:=by rw [←dS];exact (List.suffix_iff_eq_drop.1 hb).symm
theorem qv (fl) (P:List UInt8) (k:Nat) (b:List Bool) (e) (h28:P.length<2^28) (hk:k≤64) (hb:b <:+ bitsB P):
  Φ 220 [.ref 0 0,.int .i64 k] [br fl P b e]=some (.int .u64 (wGet k b e).1,[br fl P (wGet k b e).2.1 (wGet k b e).2.2]):=by
 unfold wGet
 have hl:=mS hb
 have hw:=sF k hk
 have lf:=tY fl P (8*P.length-b.length) e h28 (by omega)
 rw [show 8*P.length-(8*P.length-b.length)=b.length by omega] at lf
 by_cases he:e=0
 ·subst he
  by_cases h:b.length<k
  ·have h' : ¬k≤b.length:=by omega
   refine aL (ir:=ir220) (by kernel_rfl) ?_;simp +contextual (maxSteps:=1000000) [ir220,ssL,↓ssM,aA,ssU,ssR,hw,eO,lf,bR,h,h']
  ·have h':k≤b.length:=by omega
   have lp:=jH fl P k (br fl P b 0) h28 hk k (8*P.length-b.length) 0 0 [] rfl (by omega) (by decide) (.inl ⟨rfl,rfl⟩)
   rw [rl _ _ _ _ (by omega),we hb] at lp
   simp only [Int.natCast_zero] at lp
   rw [if_neg h]
   have e1:8*P.length-(b.drop k).length=8*P.length-b.length+k:=by rw [List.length_drop];omega
   have e2:br fl P (b.drop k) 0=brn fl P (8*P.length-b.length+k) 0:=by rw [←e1]
   simp only [e2]
   by_cases hk0:k=0
   ·rw [if_pos hk0] at lp
    refine aL (ir:=ir220) (by kernel_rfl) ?_;simp +contextual (maxSteps:=1000000) [ir220,ssL,↓ssM,aA,ssU,ssR,hw,eO,lf,h,h',lp];omega
   ·rw [if_neg hk0] at lp
    refine aL (ir:=ir220) (by kernel_rfl) ?_;simp +contextual (maxSteps:=1000000) [ir220,ssL,↓ssM,aA,ssU,ssR,hw,eO,lf,bR,h,h',lp];omega
 ·by_cases h:b.length<k
  all_goals
  refine aL (ir:=ir220) (by kernel_rfl) ?_;simp +contextual (maxSteps:=1000000) [ir220,ssL,↓ssM,aA,ssU,ssR,hw,eO,lf,bR,he,h]
end Go.Proofs.YtppeggedcaabkaaGreatDoor
end

section
namespace Go.Proofs.YtppeggedcaabkaaGreatDoor
open Go Go.Sx
def boP (l:List Bool):List PV:=l.map fun b=>.s (.bool b)
abbrev bS (fl:Bool) (l:List Bool):LV:=.p (.sl (boP l) l.length 1 fl)
abbrev rr (fl:Bool) (l:List Bool) (e:Int):Ob:=some (.cells [bS fl l,.int .i64 e])
theorem m5 : ∀ (b:List Bool) (v:Nat),bvA v b=0↔v=0∧b.any id=false
 | [],v=>by simp [bvA]
 | x::r,v=>by
  rw [bvA,m5 r]
  cases x<;>simp<;>omega
def wEnd (b:List Bool) (e:Int):Int:=if e=0 then (if 8≤b.length∨b.any id=true then 6 else 0) else e
theorem ym (fl) (P:List UInt8) (b:List Bool) (e) (h28:P.length<2^28) (hb:b <:+ bitsB P):Φ 183 [.ref 0 0] [br fl P b e]=some (.int .i64 (wEnd b e),[br fl P b (wEnd b e)]):=by
 unfold wEnd
 have hl:=mS hb
 have lf:=tY fl P (8*P.length-b.length) e h28 (by omega)
 rw [show 8*P.length-(8*P.length-b.length)=b.length by omega] at lf
 by_cases he:e=0
 ·subst he
  by_cases h:8≤b.length
  ·have h' : ¬b.length<8:=by omega
   have h2:(8:Int)≤b.length:=by omega
   refine aL (ir:=ir183) (by kernel_rfl) ?_;simp +contextual (maxSteps:=1000000) [ir183,ssL,↓ssM,aA,ssU,ssR,eO,lf,bR,h,h',h2]
  ·have h':b.length<8:=by omega
   have h2 : ¬(8:Int)≤b.length:=by omega
   have g:=qv fl P b.length b 0 h28 (by omega) hb
   unfold wGet at g
   simp only [if_true,Nat.lt_irrefl,if_false,List.take_length] at g
   have hz:=m5 b 0
   simp only [true_and] at hz
   generalize bvA 0 b=v at*
   cases ha:b.any id with
   | false=>
    have hv:v=0:=hz.2 ha
    subst hv
    refine aL (ir:=ir183) (by kernel_rfl) ?_;simp +contextual (maxSteps:=1000000) [ir183,ssL,↓ssM,aA,ssU,ssR,eO,lf,bR,h,h',h2,g]
   | true=>
    have hv : ¬v=0:=fun e=>by rw [hz.1 e] at ha;cases ha
    refine aL (ir:=ir183) (by kernel_rfl) ?_;simp +contextual (maxSteps:=1000000) [ir183,ssL,↓ssM,aA,ssU,ssR,eO,lf,bR,h,h',h2,g,hv]
 ·refine aL (ir:=ir183) (by kernel_rfl) ?_;simp +contextual (maxSteps:=1000000) [ir183,ssL,↓ssM,aA,ssU,ssR,eO,lf,bR,he]
end Go.Proofs.YtppeggedcaabkaaGreatDoor
end

section
namespace Go.Proofs.YtppeggedcaabkaaGreatDoor
open Go Go.Sx
def numF (w base:Nat) (r:List Bool):Option (Nat × List Bool):=if r.length<w then none else if 2^64≤base+bvA 0 (r.take w) then none else some (base+bvA 0 (r.take w),r.drop w)
def numR:Nat→Nat→Nat→List Bool→Option (Nat × List Bool)
 | _,_,_,[]=>none
 | _,w,base,false::r=>numF w base r
 | 0,_,_,true::_=>none
 | m+1,w,base,true::r=>numR m (w+1) (base+2^w) r
theorem n6 : ∀ (b:List Bool) (m w base v:Nat) (r:List Bool),numR m w base b=some (v,r)→r <:+ b∧v<2^64
 | [],m,w,base,v,r,h=>by cases m<;>cases h
 | false::b,m,w,base,v,r,h=>by
  have h':numF w base b=some (v,r):=by cases m<;>exact h
  unfold numF at h'
  split at h'
  ·cases h'
  ·split at h'
   ·cases h'
   ·obtain ⟨rfl,rfl⟩:_=v∧_=r:=by simpa using h'
    exact ⟨(List.drop_suffix _ _).trans (List.suffix_cons _ _),by omega⟩
 | true::b,0,w,base,v,r,h=>by cases h
 | true::b,m+1,w,base,v,r,h=>by
  have:=n6 b m _ _ _ _ h
  exact ⟨this.1.trans (List.suffix_cons _ _),this.2⟩
def wBNum (b:List Bool) (e:Int):Nat × List Bool × Int:=if e=0 then (match numR 62 2 0 b with
 | none=>(0,b,6)
 | some (v,r)=>(v,r,0)) else (0,b,e)
theorem v9 (w:Nat) (hw:w<64):shI .shl .u64 1 w=some (.int .u64 (2^w:Nat)):=by
 rw [show (1:Int)=((1:Nat):Int) from rfl,mO 1 w (by omega),Nat.one_mul,Nat.mod_eq_of_lt (Nat.pow_lt_pow_right (by decide) hw)]
def scB:IRC→IRC
 | .scope _ _ b=>b
 | .seq _ b=>scB b
 | c=>c
theorem cD (fl) (P:List UInt8) (k:Nat) (b:List Bool) (e:Int) (v:Nat) (b':List Bool) (e':Int) (h28:P.length<2^28) (hk:k≤64) (hb:b <:+ bitsB P) (hw:wGet k b e=(v,b',e')):
  Φ 220 [.ref 0 0,.int .i64 k] [brn fl P (8*P.length-b.length) e]=some (.int .u64 v,[brn fl P (8*P.length-b'.length) e']):=by
 have:=qv fl P k b e h28 hk hb
 rwa [hw] at this
theorem o3 (k:Nat) (hk:0<k):wGet k [] 0=(0,[],6):=by simp [wGet,hk]
theorem cy (x:Bool) (r:List Bool):wGet 1 (x::r) 0=(x.toNat,r,0):=by simp [wGet,bvA]
theorem qd (k:Nat) (b:List Bool):wGet k b 6=(0,b,6):=by simp [wGet]
set_option maxHeartbeats 1000000 in
theorem jI (fl) (P:List UInt8) (n0:Nat) (x0:Ob) (h28:P.length<2^28) : ∀ (b:List Bool) (m w base:Nat) (u:Upd) (xs:Env),m+1+w=64→2≤w→base+4=2^w→b <:+ bitsB P→((u=[]∧x0=br fl P b 0)∨u=[(0,br fl P b 0)]) →
  run ⟨Ω,noG,hpL [x0],1⟩ (.scope .skip 0 (scB ir236.body)) ⟨(0,.ref 0 0)::(3,.int .i64 n0)::(4,.int .i64 w)::(5,.int .u64 base)::xs,⟨u,[]⟩⟩=
   (match numR (m+1) w base b with
   | none=>some (.ret,⟨[(2,.int .u64 0)],⟨[(0,brn fl P n0 6)],[]⟩⟩)
   | some (v,r)=>some (.ret,⟨[(2,.int .u64 v)],⟨[(0,br fl P r 0)],[]⟩⟩))
 | [],m,w,base,u,xs,hm,hw,hba,hb,hu=>by
  have g1:=cD fl P 1 [] 0 0 [] 6 h28 (by decide) hb (o3 1 (by decide))
  have g2:=cD fl P w [] 6 0 [] 6 h28 (by omega) hb (qd w [])
  simp only [Int.natCast_one,Int.natCast_zero] at g1 g2
  rw [ib]
  unfold br at hu
  generalize 8*P.length-([]:List Bool).length=N at*
  rcases hu with ⟨rfl,rfl⟩|rfl
  all_goals simp +contextual (maxSteps:=1000000) [ir236,scB,ssL,↓ssM,aA,ssU,ssR,g1,g2,bR,gotK,numR]
 | false::r,m,w,base,u,xs,hm,hw,hba,hb,hu=>by
  have hr:r <:+ bitsB P:=(List.suffix_cons _ _).trans hb
  have hl:=mS hr
  have g1:=cD fl P 1 (false::r) 0 0 r 0 h28 (by decide) hb (cy false r)
  simp only [Int.natCast_one,Int.natCast_zero] at g1
  have hwl:2^w≤2^63:=Nat.pow_le_pow_right (by decide) (by omega)
  have a1:IntKind.u64.wrap (18446744073709551615-(base:Int))=((18446744073709551615-base:Nat):Int):=by rw [show (18446744073709551615:Int)-base=((18446744073709551615-base:Nat):Int) by omega,cn _ (by omega)]
  rw [ib]
  unfold br at hu
  generalize hN:8*P.length-(false::r).length=N at*
  by_cases h1:r.length<w
  ·have g2:=cD fl P w r 0 0 r 6 h28 (by omega) hr (by simp [wGet,h1])
   simp only [Int.natCast_zero] at g2
   generalize hN1:8*P.length-r.length=N1 at*
   rcases hu with ⟨rfl,rfl⟩|rfl
   all_goals simp +contextual (maxSteps:=1000000) [ir236,scB,ssL,↓ssM,aA,ssU,ssR,g1,g2,bR,gotK,numR,numF,h1]
  ·have g2:=cD fl P w r 0 (bvA 0 (r.take w)) (r.drop w) 0 h28 (by omega) hr (by simp [wGet,h1])
   have hv:=tZ (r.take w) 0 0 (by decide)
   have hv2:bvA 0 (r.take w)<2^64:=Nat.lt_of_lt_of_le hv (Nat.pow_le_pow_right (by decide) (by rw [List.length_take];omega))
   generalize hN1:8*P.length-r.length=N1 at*
   unfold br
   by_cases h2:2^64≤base+bvA 0 (r.take w)
   ·have h3 : ¬bvA 0 (r.take w)≤18446744073709551615-base:=by omega
    have e:numR (m+1) w base (false::r)=none:=by simp only [numR,numF,if_neg h1,if_pos h2]
    rw [e]
    generalize bvA 0 (r.take w)=v at*
    generalize 8*P.length-(r.drop w).length=N2 at*
    generalize 18446744073709551615-base=bb at*
    rcases hu with ⟨rfl,rfl⟩|rfl
    all_goals simp +contextual (maxSteps:=1000000) [ir236,scB,ssL,↓ssM,aA,ssU,ssR,g1,g2,bR,gotK,a1,h3]
   ·have h3:bvA 0 (r.take w)≤18446744073709551615-base:=by omega
    have e:numR (m+1) w base (false::r)=some (base+bvA 0 (r.take w),r.drop w):=by simp only [numR,numF,if_neg h1,if_neg h2]
    have a2:IntKind.u64.wrap ((base:Int)+(bvA 0 (r.take w):Int))=((base+bvA 0 (r.take w):Nat):Int):=by rw [show (base:Int)+(bvA 0 (r.take w):Int)=((base+bvA 0 (r.take w):Nat):Int) by omega,cn _ (by omega)]
    rw [e]
    simp only []
    generalize base+bvA 0 (r.take w)=v' at*
    generalize bvA 0 (r.take w)=v at*
    generalize 8*P.length-(r.drop w).length=N2 at*
    generalize 18446744073709551615-base=bb at*
    rcases hu with ⟨rfl,rfl⟩|rfl
    all_goals simp +contextual (maxSteps:=1000000) [ir236,scB,ssL,↓ssM,aA,ssU,ssR,g1,g2,bR,gotK,a1,a2,h3]
 | true::r,m,w,base,u,xs,hm,hw,hba,hb,hu=>by
  have hr:r <:+ bitsB P:=(List.suffix_cons _ _).trans hb
  have g1:=cD fl P 1 (true::r) 0 1 r 0 h28 (by decide) hb (cy true r)
  simp only [Int.natCast_one,Int.natCast_zero] at g1
  have hwl:2^w≤2^63:=Nat.pow_le_pow_right (by decide) (by omega)
  have a1:=v9 w (by omega)
  have a2:IntKind.u64.wrap ((base:Int)+((2^w:Nat):Int))=((base+2^w:Nat):Int):=by rw [show (base:Int)+((2^w:Nat):Int)=((base+2^w:Nat):Int) by omega,cn _ (by omega)]
  have a3:IntKind.i64.wrap ((w:Int)+1)=(w:Int)+1:=am _ (by omega) (by omega)
  have hb':base+2^w+4=2^(w+1):=by rw [Nat.pow_succ];omega
  rw [ib]
  cases m with
  | succ m=>
   have h1:(w:Int)+1<64:=by omega
   have h1' : ¬(64:Int)≤(w:Int)+1:=by omega
   have ih:=jI fl P n0 x0 h28 r m (w+1) (base+2^w) [(0,br fl P r 0)] [] (by omega) (by omega) hb' hr (.inr rfl)
   rw [show ((w+1:Nat):Int)=(w:Int)+1 by omega] at ih
   rw [show numR (m+1+1) w base (true::r)=numR (m+1) (w+1) (base+2^w) r from rfl,←ih]
   clear ih
   unfold br at hu ⊢
   generalize hN:8*P.length-(true::r).length=N at*
   generalize hN1:8*P.length-r.length=N1 at*
   generalize base+2^w=base' at*
   generalize hw2:2^w=w2 at*
   generalize hLB:IRC.scope .skip 0 (scB ir236.body)=LB
   rcases hu with ⟨rfl,rfl⟩|rfl
   all_goals simp +contextual (maxSteps:=1000000) [ir236,scB,ssL,↓ssM,aA,ssU,ssR,g1,gotK,a1,a2,a3,h1,h1']
  | zero=>
   obtain rfl:w=63:=by omega
   obtain rfl:base=9223372036854775804:=by omega
   have a1':shI .shl .u64 1 63=some (.int .u64 9223372036854775808):=rfl
   have a2':IntKind.u64.wrap 18446744073709551612=18446744073709551612:=rfl
   have a4:IntKind.u64.wrap 3=3:=rfl
   have a5:IntKind.i64.wrap 64=64:=rfl
   rw [show numR (0+1) 63 9223372036854775804 (true::r)=numR 0 64 18446744073709551612 r from rfl]
   unfold br at hu ⊢
   generalize hN:8*P.length-(true::r).length=N at*
   cases r with
   | nil=>
    have g2:=cD fl P 1 [] 0 0 [] 6 h28 (by decide) hr (o3 1 (by decide))
    have g3:=cD fl P 64 [] 6 0 [] 6 h28 (by decide) hr (qd 64 [])
    simp only [Int.natCast_one,Int.natCast_zero,Int.cast_ofNat_Int] at g2 g3
    generalize hN1:8*P.length-([]:List Bool).length=N1 at*
    rcases hu with ⟨rfl,rfl⟩|rfl
    all_goals simp +contextual (maxSteps:=1000000) [ir236,scB,ssL,↓ssM,aA,ssU,ssR,g1,g2,g3,bR,gotK,numR,a1',a2',a4,a5]
   | cons x r2=>
    have hr2:r2 <:+ bitsB P:=(List.suffix_cons _ _).trans hr
    have g2:=cD fl P 1 (x::r2) 0 x.toNat r2 0 h28 (by decide) hr (cy x r2)
    cases x with
    | true=>
     have g3:=cD fl P 64 r2 6 0 r2 6 h28 (by decide) hr2 (qd 64 r2)
     simp only [Int.natCast_one,Int.natCast_zero,Int.cast_ofNat_Int,Bool.toNat_true] at g2 g3
     generalize hN1:8*P.length-(true::r2).length=N1 at*
     generalize hN2:8*P.length-r2.length=N2 at*
     rcases hu with ⟨rfl,rfl⟩|rfl
     all_goals simp +contextual (maxSteps:=1000000) [ir236,scB,ssL,↓ssM,aA,ssU,ssR,g1,g2,g3,bR,gotK,numR,a1',a2',a4,a5]
    | false=>
     simp only [Int.natCast_one,Int.natCast_zero,Bool.toNat_false] at g2
     rw [show numR 0 64 18446744073709551612 (false::r2)=numF 64 18446744073709551612 r2 from rfl]
     generalize hN1:8*P.length-(false::r2).length=N1 at*
     generalize hN2:8*P.length-r2.length=N2 at*
     by_cases h1:r2.length<64
     ·have g3:=cD fl P 64 r2 0 0 r2 6 h28 (by decide) hr2 (by simp [wGet,h1])
      simp only [Int.natCast_zero,Int.cast_ofNat_Int,hN2] at g3
      rcases hu with ⟨rfl,rfl⟩|rfl
      all_goals simp +contextual (maxSteps:=1000000) [ir236,scB,ssL,↓ssM,aA,ssU,ssR,g1,g2,g3,bR,gotK,numF,h1,a1',a2',a4,a5]
     ·have g3:=cD fl P 64 r2 0 (bvA 0 (r2.take 64)) (r2.drop 64) 0 h28 (by decide) hr2 (by simp [wGet,h1])
      simp only [Int.cast_ofNat_Int,hN2] at g3
      by_cases h2:2^64≤18446744073709551612+bvA 0 (r2.take 64)
      ·have h3 : ¬(bvA 0 (r2.take 64):Int)≤3:=by omega
       rw [show numF 64 18446744073709551612 r2=none by simp only [numF,if_neg h1,if_pos h2]]
       generalize bvA 0 (r2.take 64)=v at*
       generalize 8*P.length-(r2.drop 64).length=N3 at*
       rcases hu with ⟨rfl,rfl⟩|rfl
       all_goals simp +contextual (maxSteps:=1000000) [ir236,scB,ssL,↓ssM,aA,ssU,ssR,g1,g2,g3,bR,gotK,a1',a2',a4,a5,h3]
      ·have h3:(bvA 0 (r2.take 64):Int)≤3:=by omega
       have a6:IntKind.u64.wrap (18446744073709551612+(bvA 0 (r2.take 64):Int))=((18446744073709551612+bvA 0 (r2.take 64):Nat):Int):=by rw [show (18446744073709551612:Int)+(bvA 0 (r2.take 64):Int)=((18446744073709551612+bvA 0 (r2.take 64):Nat):Int) by omega,cn _ (by omega)]
       rw [show numF 64 18446744073709551612 r2=some (18446744073709551612+bvA 0 (r2.take 64),r2.drop 64) by simp only [numF,if_neg h1,if_neg h2]]
       simp only []
       generalize 18446744073709551612+bvA 0 (r2.take 64)=v' at*
       generalize bvA 0 (r2.take 64)=v at*
       generalize 8*P.length-(r2.drop 64).length=N3 at*
       rcases hu with ⟨rfl,rfl⟩|rfl
       all_goals simp +contextual (maxSteps:=1000000) [ir236,scB,ssL,↓ssM,aA,ssU,ssR,g1,g2,g3,bR,gotK,a1',a2',a4,a5,a6,h3]
theorem z6 (fl) (P:List UInt8) (b:List Bool) (e) (h28:P.length<2^28) (hb:b <:+ bitsB P):Φ 236 [.ref 0 0] [br fl P b e]=some (.int .u64 (wBNum b e).1,[br fl P (wBNum b e).2.1 (wBNum b e).2.2]):=by
 unfold wBNum
 by_cases he:e=0
 ·subst he
  have lp:=jI fl P (8*P.length-b.length) (br fl P b 0) h28 b 61 2 0 [] [] rfl (by decide) (by decide) hb (.inl ⟨rfl,rfl⟩)
  simp only [Int.natCast_zero,Int.cast_ofNat_Int,ir236,scB] at lp
  cases hr:numR 62 2 0 b with
  | none=>
   rw [hr] at lp
   refine aL (ir:=ir236) (by kernel_rfl) ?_;simp +contextual (maxSteps:=1000000) [ir236,ssL,↓ssM,aA,ssU,ssR,iV,scoK,lp]
  | some q=>
   obtain ⟨v,r⟩:=q
   rw [hr] at lp
   refine aL (ir:=ir236) (by kernel_rfl) ?_;simp +contextual (maxSteps:=1000000) [ir236,ssL,↓ssM,aA,ssU,ssR,iV,scoK,lp]
 ·have g:=qv fl P 1 b e h28 (by decide) hb
  have g2:=qv fl P 2 b e h28 (by decide) hb
  unfold wGet at g g2
  simp only [if_neg he,Int.natCast_one,Int.natCast_zero,Int.cast_ofNat_Int] at g g2
  have lp:run ⟨Ω,noG,hpL [br fl P b e],1⟩ (.scope .skip 0 (scB ir236.body)) ⟨[(0,.ref 0 0),(3,.int .i64 (8*P.length-b.length:Nat)),(4,.int .i64 2),(5,.int .u64 0)],⟨[],[]⟩⟩=some (.ret,⟨[(2,.int .u64 0)],⟨[(0,br fl P b e)],[]⟩⟩):=by
   rw [ib]
   simp +contextual (maxSteps:=1000000) [ir236,scB,ssL,↓ssM,aA,ssU,ssR,gotK,g,g2,bR,he]
  simp only [ir236,scB] at lp
  refine aL (ir:=ir236) (by kernel_rfl) ?_;simp +contextual (maxSteps:=1000000) [ir236,ssL,↓ssM,aA,ssU,ssR,iV,scoK,lp]
  simp [he]
end Go.Proofs.YtppeggedcaabkaaGreatDoor
end

section
namespace Go.Proofs.YtppeggedcaabkaaGreatDoor
open Go Go.Sx
end Go.Proofs.YtppeggedcaabkaaGreatDoor
end

section
namespace Go.Proofs.YtppeggedcaabkaaGreatDoor
open Go Go.Sx
abbrev so (se:Int):Ob:=some (.cells [.ref 1 0,.int .i64 se])
theorem bD (fl P n e k se):Φ 214 [.ref 0 0,.int .i64 k] [so se,brn fl P n e]=some (.tuple [],[so (if se=0 then k else se),brn fl P n e]):=by
 by_cases h:se=0
 all_goals
 refine aL (ir:=ir214) (by kernel_rfl) ?_;simp +contextual (maxSteps:=1000000) [ir214,ssL,↓ssM,aA,ssU,ssR,h]
theorem d4 (fl P n):Φ 216 [.ref 0 0] [so 0,brn fl P n 0]=some (.bool true,[so 0,brn fl P n 0]):=by
 refine aL (ir:=ir216) (by kernel_rfl) ?_;simp +contextual (maxSteps:=1000000) [ir216,ssL,↓ssM,aA,ssU,ssR,eO,bD]
theorem sy (fl P n):Φ 216 [.ref 0 0] [so 0,brn fl P n 6]=some (.bool false,[so 6,brn fl P n 6]):=by
 refine aL (ir:=ir216) (by kernel_rfl) ?_;simp +contextual (maxSteps:=1000000) [ir216,ssL,↓ssM,aA,ssU,ssR,eO,bD]
theorem cH (fl P n e se) (h:se≠0):Φ 216 [.ref 0 0] [so se,brn fl P n e]=some (.bool false,[so se,brn fl P n e]):=by
 by_cases he:e=0
 all_goals
 refine aL (ir:=ir216) (by kernel_rfl) ?_;simp +contextual (maxSteps:=1000000) [ir216,ssL,↓ssM,aA,ssU,ssR,eO,bD,h,he]
theorem bo (fl P n e se) (x:Bool):Φ 215 [.ref 0 0,.bool x] [so se,brn fl P n e]=some (.tuple [],[so (if x=true then se else if se=0 then 6 else se),brn fl P n e]):=by
 cases x
 all_goals
 refine aL (ir:=ir215) (by kernel_rfl) ?_;simp +contextual (maxSteps:=1000000) [ir215,ssL,↓ssM,aA,ssU,ssR,bD]
theorem dm (fl) (P:List UInt8) (k:Nat) (b:List Bool) (v:Nat) (b':List Bool) (h28:P.length<2^28) (hk:k≤64) (hb:b <:+ bitsB P) (hw:wGet k b 0=(v,b',0)):
  Φ 212 [.ref 0 0,.int .i64 k] [so 0,brn fl P (8*P.length-b.length) 0]=some (.int .u64 v,[so 0,brn fl P (8*P.length-b'.length) 0]):=by
 have g:=cD fl P k b 0 v b' 0 h28 hk hb hw
 refine aL (ir:=ir212) (by kernel_rfl) ?_;simp +contextual (maxSteps:=1000000) [ir212,ssL,↓ssM,aA,ssU,ssR,d4,g]
theorem gC (fl) (P:List UInt8) (k:Nat) (b:List Bool) (h28:P.length<2^28) (hk:k≤64) (hb:b <:+ bitsB P) (hw:b.length<k):
  Φ 212 [.ref 0 0,.int .i64 k] [so 0,brn fl P (8*P.length-b.length) 0]=some (.int .u64 0,[so 6,brn fl P (8*P.length-b.length) 6]):=by
 have g:=cD fl P k b 0 0 b 6 h28 hk hb (by simp [wGet,hw])
 refine aL (ir:=ir212) (by kernel_rfl) ?_;simp +contextual (maxSteps:=1000000) [ir212,ssL,↓ssM,aA,ssU,ssR,d4,sy,g]
theorem gD (fl P n e se k) (h:se≠0):Φ 212 [.ref 0 0,.int .i64 k] [so se,brn fl P n e]=some (.int .u64 0,[so se,brn fl P n e]):=by
 refine aL (ir:=ir212) (by kernel_rfl) ?_;simp +contextual (maxSteps:=1000000) [ir212,ssL,↓ssM,aA,ssU,ssR,cH,h]
theorem wd (fl P n e se) (h:se≠0):Φ 213 [.ref 0 0] [so se,brn fl P n e]=some (.int .u64 0,[so se,brn fl P n e]):=by
 refine aL (ir:=ir213) (by kernel_rfl) ?_;simp +contextual (maxSteps:=1000000) [ir213,ssL,↓ssM,aA,ssU,ssR,cH,h]
theorem wc (fl) (P:List UInt8) (b:List Bool) (h28:P.length<2^28) (hb:b <:+ bitsB P):
  Φ 213 [.ref 0 0] [so 0,brn fl P (8*P.length-b.length) 0]=(match numR 62 2 0 b with
  | none=>some (.int .u64 0,[so 6,brn fl P (8*P.length-b.length) 6])
  | some (v,r)=>if v≤2^20 then some (.int .u64 v,[so 0,brn fl P (8*P.length-r.length) 0]) else some (.int .u64 v,[so 4,brn fl P (8*P.length-r.length) 0])):=by
 have g:=z6 fl P b 0 h28 hb
 unfold wBNum at g
 simp only [if_true] at g
 cases hr:numR 62 2 0 b with
 | none=>
  rw [hr] at g
  refine aL (ir:=ir213) (by kernel_rfl) ?_;simp +contextual (maxSteps:=1000000) [ir213,ssL,↓ssM,aA,ssU,ssR,d4,sy,g]
 | some q=>
  obtain ⟨v,r⟩:=q
  rw [hr] at g
  by_cases h:v≤2^20
  ·have h':(v:Int)≤1048576:=by omega
   simp only [if_pos h]
   refine aL (ir:=ir213) (by kernel_rfl) ?_;simp +contextual (maxSteps:=1000000) [ir213,ssL,↓ssM,aA,ssU,ssR,d4,sy,bD,g,h']
  ·have h' : ¬(v:Int)≤1048576:=by omega
   simp only [if_neg h]
   refine aL (ir:=ir213) (by kernel_rfl) ?_;simp +contextual (maxSteps:=1000000) [ir213,ssL,↓ssM,aA,ssU,ssR,d4,sy,bD,g,h']
end Go.Proofs.YtppeggedcaabkaaGreatDoor
end

section
namespace Go.Proofs.YtppeggedcaabkaaGreatDoor
open Go Go.Sx
inductive Rd (α:Type) where
 | ok (x:α) (r:List Bool)
 | bad (c:Int)
def Rd.then {α β:Type} (x:Rd α) (f:α→List Bool→Rd β):Rd β:=match x with
 | .ok a r=>f a r
 | .bad c=>.bad c
def getN20 (b:List Bool):Rd Nat:=match numR 62 2 0 b with
 | none=>.bad 6
 | some (v,r)=>if v≤2^20 then .ok v r else .bad 4
def hdE:List Bool→Rd (Bool × Bool × Nat)
 | true::true::true::r=>(getN20 r).then fun v r=>if v=0 then .bad 6 else .ok (true,true,v) r
 | true::true::false::w::r=>(getN20 r).then fun v r=>if v=0 then .bad 6 else .ok (w,!w,v) r
 | true::true::_=>.bad 6
 | y::z::r=>.ok (y||z,y||!z,0) r
 | _=>.bad 6
def okE (le ri:Bool) (l r:Ev):Bool:=(decide (l = .leaf 0)==!le)&&(decide (r = .leaf 0)==!ri)&&decide (Min.min l.n r.n=0)&&!(l.isLeaf&&r.isLeaf&&decide (l.n=r.n))
def getE:Nat→List Bool→Rd Ev
 | _,[]=>.bad 6
 | _,true::r=>(getN20 r).then fun v r=>.ok (.leaf v) r
 | 0,false::_=>.bad 3
 | k+1,false::r=>(hdE r).then fun h r=>(if h.1=true then getE k r else .ok (.leaf 0) r).then fun x r=>(if h.2.1=true then getE k r else .ok (.leaf 0) r).then fun y r=>
   if okE h.1 h.2.1 x y=true then (if (Ev.node h.2.2 x y).max≤2^20 then .ok (.node h.2.2 x y) r else .bad 4) else .bad 6
theorem Rd.then_ok {α β:Type} {x:Rd α} {f:α→List Bool→Rd β} {y:β} {r:List Bool} (h:x.then f = .ok y r) : ∃ a s,x = .ok a s∧f a s = .ok y r:=by
 cases x with
 | ok a s=>exact ⟨a,s,rfl,h⟩
 | bad c=>cases h
theorem iL {b:List Bool} {v:Nat} {r:List Bool} (h:getN20 b = .ok v r):v≤2^20∧r <:+ b:=by
 unfold getN20 at h
 split at h
 ·cases h
 ·rename_i v' r' hr
  split at h
  ·cases h;exact ⟨by assumption,(n6 _ _ _ _ _ _ hr).1⟩
  ·cases h
theorem uH {b:List Bool} {x:Bool × Bool × Nat} {r:List Bool} (h:hdE b = .ok x r):x.2.2≤2^20∧r <:+ b∧(x.1=true∨x.2.1=true):=by
 unfold hdE at h
 split at h
 ·rename_i q
  obtain ⟨v,s,h1,h2⟩:=Rd.then_ok h
  have:=iL h1
  split at h2
  ·cases h2
  ·cases h2
   exact ⟨this.1,this.2.trans ((List.suffix_cons _ _).trans ((List.suffix_cons _ _).trans (List.suffix_cons _ _))),.inl rfl⟩
 ·rename_i w q
  obtain ⟨v,s,h1,h2⟩:=Rd.then_ok h
  have:=iL h1
  split at h2
  ·cases h2
  ·cases h2
   exact ⟨this.1,this.2.trans ((List.suffix_cons _ _).trans ((List.suffix_cons _ _).trans ((List.suffix_cons _ _).trans (List.suffix_cons _ _)))),by cases w<;>simp⟩
 ·cases h
 ·rename_i y z q _ _ _
  cases h
  exact ⟨Nat.zero_le _,(List.suffix_cons _ _).trans (List.suffix_cons _ _),by cases y<;>cases z<;>simp⟩
 ·cases h
theorem gM : ∀ (k:Nat) (b:List Bool) (x:Ev) (r:List Bool),getE k b = .ok x r→x.norm∧x.max≤2^20∧x.depth≤k∧r <:+ b
 | k,[],x,r,h=>by cases k<;>cases h
 | k,true::b,x,r,h=>by
  have h':(getN20 b).then (fun v r=>.ok (Ev.leaf v) r) = .ok x r:=by cases k<;>exact h
  obtain ⟨v,s,h1,h2⟩:=Rd.then_ok h'
  cases h2
  have:=iL h1
  exact ⟨trivial,this.1,Nat.zero_le _,this.2.trans (List.suffix_cons _ _)⟩
 | 0,false::b,x,r,h=>by cases h
 | k+1,false::b,x,r,h=>by
  obtain ⟨hd,s1,h1,h2⟩:=Rd.then_ok h
  obtain ⟨l,s2,h3,h4⟩:=Rd.then_ok h2
  obtain ⟨rr,s3,h5,h6⟩:=Rd.then_ok h4
  have e1:=uH h1
  have key : ∀ (c:Bool) (s:List Bool) (y:Ev) (s':List Bool),(if c=true then getE k s else Rd.ok (.leaf 0) s) = .ok y s'→y.norm∧y.max≤2^20∧y.depth≤k∧s' <:+ s:=by
   intro c s y s' hq
   cases c with
   | true=>exact gM k s y s' hq
   | false=>cases hq;exact ⟨trivial,by decide,Nat.zero_le _,List.suffix_refl _⟩
  have e2:=key _ _ _ _ h3
  have e3:=key _ _ _ _ h5
  split at h6
  ·rename_i hok
   split at h6
   ·rename_i hm
    cases h6
    unfold okE at hok
    simp only [Bool.and_eq_true,Bool.not_eq_true',decide_eq_true_eq] at hok
    refine ⟨⟨e2.1,e3.1,by have:=hok.1.2;omega,fun hc => ?_⟩,hm,?_,e3.2.2.2.trans (e2.2.2.2.trans (e1.2.1.trans (List.suffix_cons _ _)))⟩
    ·have:=hok.2
     simp [hc.1,hc.2.1,hc.2.2] at this
    ·simp only [Ev.depth]
     have:=e2.2.2.1;have:=e3.2.2.1
     omega
   ·cases h6
  ·cases h6
theorem gk {b:List Bool} {c:Int} (h:getN20 b = .bad c):c≠0:=by
 unfold getN20 at h
 split at h
 ·cases h;decide
 ·split at h<;>cases h;decide
theorem Rd.then_bad {α β:Type} {x:Rd α} {f:α→List Bool→Rd β} {c:Int} (h:x.then f = .bad c):x = .bad c∨∃ a s,x = .ok a s∧f a s = .bad c:=by
 cases x with
 | ok a s=>exact .inr ⟨a,s,rfl,h⟩
 | bad c=>left;cases h;rfl
theorem wW {b:List Bool} {c:Int} (h:hdE b = .bad c):c≠0:=by
 unfold hdE at h
 split at h
 ·rcases Rd.then_bad h with h|⟨v,s,h1,h2⟩
  ·exact gk h
  ·split at h2<;>cases h2;decide
 ·rcases Rd.then_bad h with h|⟨v,s,h1,h2⟩
  ·exact gk h
  ·split at h2<;>cases h2;decide
 ·cases h;decide
 ·cases h
 ·cases h;decide
theorem dU : ∀ (k:Nat) (b:List Bool) (c:Int),getE k b = .bad c→c≠0
 | k,[],c,h=>by cases k<;>cases h<;>decide
 | k,true::b,c,h=>by
  have h':(getN20 b).then (fun v r=>.ok (Ev.leaf v) r) = .bad c:=by cases k<;>exact h
  rcases Rd.then_bad h' with h|⟨v,s,h1,h2⟩
  ·exact gk h
  ·cases h2
 | 0,false::b,c,h=>by cases h;decide
 | k+1,false::b,c,h=>by
  have key : ∀ (q:Bool) (s:List Bool),(if q=true then getE k s else Rd.ok (.leaf 0) s) = .bad c→c≠0:=by
   intro q s hq
   cases q with
   | true=>exact dU k s c hq
   | false=>cases hq
  rcases Rd.then_bad h with h|⟨hd,s1,h1,h2⟩
  ·exact wW h
  ·rcases Rd.then_bad h2 with h|⟨l,s2,h3,h4⟩
   ·exact key _ _ h
   ·rcases Rd.then_bad h4 with h|⟨rr,s3,h5,h6⟩
    ·exact key _ _ h
    ·split at h6
     ·split at h6<;>cases h6;decide
     ·cases h6;decide
theorem wM (n:Nat) (h : ¬n≤2^20) (H:Heap) (nx:Nat):Ω 62 [.int .u64 n] H nx=some (.tuple [.p (Ev.leaf 0).pv,.int .i64 4],[],[]):=by
 refine af (ir:=ir62) (by kernel_rfl) 0 ?_
 have h1 : ¬(n:Int)≤1048576:=by omega
 simp [ir62,Ev.n_l,Ev.ptr_l,ssB,ssU,ssP,appO,h1]
theorem wO (n:Nat) (l r:Ev) (hn:n≤2^20) (h1 : ¬(Ev.mk n l r).err=0) (h2:l.n≤2^21) (h3:r.n≤2^21) (hd:(Ev.mk n l r).depth<2^62) (hm:(Ev.mk n l r).max<2^64) (H:Heap) (nx:Nat):
  Ω 63 [.int .u64 n,.p l.pv,.p r.pv] H nx=some (.tuple [.p (Ev.leaf 0).pv,.int .i64 (Ev.mk n l r).err],[],[]):=by
 refine af (ir:=ir63) (by kernel_rfl) 0 ?_
 have hmin : ¬(2097152:Int)<n:=by omega
 have e1:=qW n l r (by omega) (by omega)
 have e2:=kQ _ hd hm
 generalize Ev.mk n l r=e at*
 have h1' : ¬((e.err:Nat):Int)=0:=by omega
 simp [ir63,ssB,ssU,ssP,appO,e1,e2,hmin,h1,h1',Ev.n_l,Ev.ptr_l]
end Go.Proofs.YtppeggedcaabkaaGreatDoor
end

section
namespace Go.Proofs.YtppeggedcaabkaaGreatDoor
open Go Go.Sx
theorem zM (fl P n) (v:Nat) (l r:Ev) (hv:v≤2^20) (hn:(Ev.node v l r).norm) (hd:(Ev.node v l r).depth≤16) (hl:l.max≤2^20) (hr:r.max≤2^20):
  Φ 217 [.ref 0 0,.int .u64 v,.p l.pv,.p r.pv] [so 0,brn fl P n 0]=if (Ev.node v l r).max≤2^20 then some (.p (Ev.node v l r).pv,[so 0,brn fl P n 0]) else some (.p (Ev.leaf 0).pv,[so 4,brn fl P n 0]):=by
 have hid:=Ev.mk_id hn
 have hm:(Ev.node v l r).max≤v+2^20:=Nat.add_le_add_left (Nat.max_le.2 ⟨hl,hr⟩) v
 have ln:=Ev.n_max l
 have rn:=Ev.n_max r
 by_cases h:(Ev.node v l r).max≤2^20
 ·have he:(Ev.mk v l r).err=0:=by
   rw [hid];unfold Ev.err
   rw [if_neg (by omega),if_neg (by omega)]
  have nd:=qG v l r hv he (by omega) (by omega) (by rw [hid];omega) (by rw [hid];omega)
  rw [hid] at nd
  rw [if_pos h]
  simp only [Ev.pv] at nd ⊢
  generalize (Ev.node v l r).ptr=p at*
  generalize (Ev.node v l r).n=m at*
  generalize l.ptr=p1 at*
  generalize r.ptr=p2 at*
  refine aL (ir:=ir217) (by kernel_rfl) ?_;simp +contextual (maxSteps:=1000000) [ir217,ssL,↓ssM,aA,List.idxOf?_cons,Go.Sx.LV.undef,Go.undef,Go.Sx.splice,Go.Sx.push,Go.Sx.setObj,Go.Sx.setU,Go.Sx.setAll,Go.Sx.leI_eq,ltF,nd,bD]
 ·have he:(Ev.mk v l r).err=4:=by
   rw [hid];unfold Ev.err
   rw [if_neg (by omega),if_pos (by omega)]
  have nd:=wO v l r hv (by rw [he];decide) (by omega) (by omega) (by rw [hid];omega) (by rw [hid];omega)
  rw [he] at nd
  rw [if_neg h]
  simp only [Ev.pv,Ev.n_l,Ev.ptr_l] at nd ⊢
  generalize l.ptr=p1 at*
  generalize r.ptr=p2 at*
  refine aL (ir:=ir217) (by kernel_rfl) ?_;simp +contextual (maxSteps:=1000000) [ir217,ssL,↓ssM,aA,List.idxOf?_cons,Go.Sx.LV.undef,Go.undef,Go.Sx.splice,Go.Sx.push,Go.Sx.setObj,Go.Sx.setU,Go.Sx.setAll,Go.Sx.leI_eq,ltF,nd,bD]
theorem Am (x:Ev):okE true false x (.leaf 0)=(!decide (x = .leaf 0)&&!(x.isLeaf&&decide (x.n=0))):=by
 unfold okE;rw [Bool.eq_iff_iff];simp [Ev.n_l,show (Ev.leaf 0).isLeaf=true from rfl]
 exact fun _=>or_congr Iff.rfl decide_eq_false_iff_not
theorem Ao (x:Ev):okE false true (.leaf 0) x=(!decide (x = .leaf 0)&&!(x.isLeaf&&decide (0=x.n))):=by
 unfold okE;rw [Bool.eq_iff_iff];simp [Ev.n_l,show (Ev.leaf 0).isLeaf=true from rfl]
 exact fun _=>or_congr Iff.rfl decide_eq_false_iff_not
abbrev zE:Ob:=some (.cells [.int .u64 0,.p (.s (.pointer none))])
noncomputable abbrev TL (fl:Bool) (P:List UInt8) (x1:Ob) (d:Int) (le ri:Bool) (base N:Nat) (e se:Int):Option (LV × List (Ob)):=
 bindK (bindK (run ⟨Ω,noG,hpL [so 0,x1],2⟩ (rsC 8 ir182.body) ⟨[(0,.ref 0 0),(1,.int .i64 d),(4,.ref 2 0),(7,.ref 3 0),(8,.ref 4 0),(9,.int .u64 base),(11,.bool le),(12,.bool ri)],⟨[(1,brn fl P N e),(0,so se)],[zE,zE,zE]⟩⟩) (finK ir182 (hpL [so 0,x1]) 2)) (outW [so 0,x1])
section
variable (fl:Bool) (P:List UInt8) (x1:Ob) (d:Int) (base N:Nat) (hw:IntKind.i64.wrap (d+1)=d+1)
theorem zT (le ri:Bool) (e se:Int) (h:se≠0):TL fl P x1 d le ri base N e se=some (.p (Ev.leaf 0).pv,[so se,brn fl P N e]):=by
 unfold TL
 have z0:=bI (.leaf 0)
 have i0:=bw (.leaf 0)
 have b0:=bO (.leaf 0)
 simp only [Ev.pv,Ev.ptr_l,Ev.n_l,Int.natCast_zero,decide_true,show (Ev.leaf 0).isLeaf=true from rfl] at*
 cases le<;>cases ri<;>simp +contextual (maxSteps:=1000000) [ir182,rsC,ssL,↓ssM,aA,List.idxOf?_cons,Go.Sx.LV.undef,Go.undef,Go.Sx.splice,Go.Sx.push,Go.Sx.setObj,Go.Sx.setU,Go.Sx.setAll,Go.Sx.leI_eq,ltF,cH,bo,h,z0,i0,b0]
include hw
theorem zU (ri:Bool) (c:Int) (n:Nat) (e:Int) (hc:c≠0) (hl:Φ 182 [.ref 0 0,.int .i64 (d+1)] [so 0,brn fl P N 0]=some (.p (Ev.leaf 0).pv,[so c,brn fl P n e])):
  TL fl P x1 d true ri base N 0 0=some (.p (Ev.leaf 0).pv,[so c,brn fl P n e]):=by
 unfold TL
 have z0:=bI (.leaf 0)
 have i0:=bw (.leaf 0)
 have b0:=bO (.leaf 0)
 simp only [Ev.pv,Ev.ptr_l,Ev.n_l,Int.natCast_zero,decide_true,show (Ev.leaf 0).isLeaf=true from rfl] at*
 cases ri<;>simp +contextual (maxSteps:=1000000) [ir182,rsC,ssL,↓ssM,aA,List.idxOf?_cons,Go.Sx.LV.undef,Go.undef,Go.Sx.splice,Go.Sx.push,Go.Sx.setObj,Go.Sx.setU,Go.Sx.setAll,Go.Sx.leI_eq,ltF,d4,cH,bo,hc,z0,i0,b0,hl,hw]
theorem zV (x:Ev) (N1:Nat) (c:Int) (n:Nat) (e:Int) (hc:c≠0) (hl:Φ 182 [.ref 0 0,.int .i64 (d+1)] [so 0,brn fl P N 0]=some (.p x.pv,[so 0,brn fl P N1 0]))
  (hr:Φ 182 [.ref 0 0,.int .i64 (d+1)] [so 0,brn fl P N1 0]=some (.p (Ev.leaf 0).pv,[so c,brn fl P n e])):
  TL fl P x1 d true true base N 0 0=some (.p (Ev.leaf 0).pv,[so c,brn fl P n e]):=by
 unfold TL
 have z0:=bI (.leaf 0)
 have i0:=bw (.leaf 0)
 have b0:=bO (.leaf 0)
 have zx:=bI x
 have ix:=bw x
 have bx:=bO x
 simp only [Ev.pv,Ev.ptr_l,Ev.n_l,Int.natCast_zero,decide_true,show (Ev.leaf 0).isLeaf=true from rfl] at*
 generalize x.ptr=px at*
 generalize x.n=nx' at*
 generalize decide (x = .leaf 0)=zlx at*
 generalize x.isLeaf=lx at*
 simp +contextual (maxSteps:=1000000) [ir182,rsC,ssL,↓ssM,aA,List.idxOf?_cons,Go.Sx.LV.undef,Go.undef,Go.Sx.splice,Go.Sx.push,Go.Sx.setObj,Go.Sx.setU,Go.Sx.setAll,Go.Sx.leI_eq,ltF,d4,cH,bo,hc,z0,i0,b0,zx,ix,bx,hl,hr,hw]
theorem yg (c:Int) (n:Nat) (e:Int) (hc:c≠0) (hr:Φ 182 [.ref 0 0,.int .i64 (d+1)] [so 0,brn fl P N 0]=some (.p (Ev.leaf 0).pv,[so c,brn fl P n e])):
  TL fl P x1 d false true base N 0 0=some (.p (Ev.leaf 0).pv,[so c,brn fl P n e]):=by
 unfold TL
 have z0:=bI (.leaf 0)
 have i0:=bw (.leaf 0)
 have b0:=bO (.leaf 0)
 simp only [Ev.pv,Ev.ptr_l,Ev.n_l,Int.natCast_zero,decide_true,show (Ev.leaf 0).isLeaf=true from rfl] at*
 simp +contextual (maxSteps:=1000000) [ir182,rsC,ssL,↓ssM,aA,List.idxOf?_cons,Go.Sx.LV.undef,Go.undef,Go.Sx.splice,Go.Sx.push,Go.Sx.setObj,Go.Sx.setU,Go.Sx.setAll,Go.Sx.leI_eq,ltF,d4,cH,bo,hc,z0,i0,b0,hr,hw]
theorem zS (x y:Ev) (N1 N2:Nat) (hl:Φ 182 [.ref 0 0,.int .i64 (d+1)] [so 0,brn fl P N 0]=some (.p x.pv,[so 0,brn fl P N1 0]))
  (hr:Φ 182 [.ref 0 0,.int .i64 (d+1)] [so 0,brn fl P N1 0]=some (.p y.pv,[so 0,brn fl P N2 0]))
  (z:Option (LV × List (Ob))) (hz:z=if okE true true x y=true then Φ 217 [.ref 0 0,.int .u64 base,.p x.pv,.p y.pv] [so 0,brn fl P N2 0] else some (.p (Ev.leaf 0).pv,[so 6,brn fl P N2 0]))
  (hzo:okE true true x y=true→∃ (v:Ev) (c:Int),z=some (.p v.pv,[so c,brn fl P N2 0])):
  TL fl P x1 d true true base N 0 0=z:=by
 unfold TL
 have zx:=bI x
 have ix:=bw x
 have bx:=bO x
 have zy:=bI y
 have iy:=bw y
 have by':=bO y
 unfold okE at hz hzo
 simp only [Ev.pv,Ev.ptr_l,Ev.n_l,Int.natCast_zero,decide_true,show (Ev.leaf 0).isLeaf=true from rfl] at*
 generalize x.ptr=px at*
 generalize x.n=nx' at*
 generalize decide (x = .leaf 0)=zlx at*
 generalize x.isLeaf=lx at*
 generalize y.ptr=py at*
 generalize y.n=ny at*
 generalize decide (y = .leaf 0)=zly at*
 generalize y.isLeaf=ly at*
 have hC:(((zlx=false∧zly=false)∧(if ny<nx' then (ny:Int) else nx')=0)∧((lx=false∨ly=false)∨¬(nx':Int)=ny))=(((zlx==!true)&&(zly==!true)&&decide (Min.min nx' ny=0)&&!(lx&&ly&&decide (nx'=ny)))=true):=by
  have e1:(if ny<nx' then (ny:Int) else nx')=0↔Min.min nx' ny=0:=by split<;>omega
  have e2:(nx':Int)=ny↔nx'=ny:=by omega
  simp only [e1,e2]
  generalize Min.min nx' ny=mm
  cases zlx<;>cases zly<;>cases lx<;>cases ly<;>simp
 by_cases hok:((zlx==!true)&&(zly==!true)&&decide (Min.min nx' ny=0)&&!(lx&&ly&&decide (nx'=ny)))=true
 ·rw [if_pos hok] at hz
  obtain ⟨v,c,hv⟩:=hzo hok
  rw [hv] at hz ⊢
  rw [eq_true hok] at hC
  have hz':=hz.symm
  simp +contextual (maxSteps:=1000000) [ir182,rsC,ssL,↓ssM,aA,List.idxOf?_cons,Go.Sx.LV.undef,Go.undef,Go.Sx.splice,Go.Sx.push,Go.Sx.setObj,Go.Sx.setU,Go.Sx.setAll,Go.Sx.leI_eq,ltF,d4,cH,bo,zx,ix,bx,zy,iy,by',hl,hr,hw,hC,hz']
 ·rw [if_neg hok] at hz
  rw [eq_false hok] at hC
  subst hz
  simp +contextual (maxSteps:=1000000) [ir182,rsC,ssL,↓ssM,aA,List.idxOf?_cons,Go.Sx.LV.undef,Go.undef,Go.Sx.splice,Go.Sx.push,Go.Sx.setObj,Go.Sx.setU,Go.Sx.setAll,Go.Sx.leI_eq,ltF,d4,cH,bo,zx,ix,bx,zy,iy,by',hl,hr,hw,hC]
theorem tlL (x:Ev) (N1:Nat) (hl:Φ 182 [.ref 0 0,.int .i64 (d+1)] [so 0,brn fl P N 0]=some (.p x.pv,[so 0,brn fl P N1 0]))
  (z:Option (LV × List (Ob))) (hz:z=if okE true false x (.leaf 0)=true then Φ 217 [.ref 0 0,.int .u64 base,.p x.pv,.p (Ev.leaf 0).pv] [so 0,brn fl P N1 0] else some (.p (Ev.leaf 0).pv,[so 6,brn fl P N1 0]))
  (hzo:okE true false x (.leaf 0)=true→∃ (v:Ev) (c:Int),z=some (.p v.pv,[so c,brn fl P N1 0])):
  TL fl P x1 d true false base N 0 0=z:=by
 unfold TL
 have z0:=bI (.leaf 0)
 have i0:=bw (.leaf 0)
 have b0:=bO (.leaf 0)
 have zx:=bI x
 have ix:=bw x
 have bx:=bO x
 rw [Am] at hz hzo
 simp only [Ev.pv,Ev.ptr_l,Ev.n_l,Int.natCast_zero,decide_true,show (Ev.leaf 0).isLeaf=true from rfl] at*
 generalize x.ptr=px at*
 generalize x.n=nx' at*
 generalize decide (x = .leaf 0)=zlx at*
 generalize x.isLeaf=lx at*
 have hC:(zlx=false∧(lx=false∨¬nx'=0))=((!zlx&&!(lx&&decide (nx'=0)))=true):=by
  cases zlx<;>cases lx<;>simp
 by_cases hok:(!zlx&&!(lx&&decide (nx'=0)))=true
 ·rw [if_pos hok] at hz
  obtain ⟨v,c,hv⟩:=hzo hok
  rw [hv] at hz ⊢
  rw [eq_true hok] at hC
  have hz':=hz.symm
  simp +contextual (maxSteps:=1000000) [ir182,rsC,ssL,↓ssM,aA,List.idxOf?_cons,Go.Sx.LV.undef,Go.undef,Go.Sx.splice,Go.Sx.push,Go.Sx.setObj,Go.Sx.setU,Go.Sx.setAll,Go.Sx.leI_eq,ltF,d4,cH,bo,zx,ix,bx,z0,i0,b0,hl,hw,hC,hz']
 ·rw [if_neg hok] at hz
  rw [eq_false hok] at hC
  subst hz
  simp +contextual (maxSteps:=1000000) [ir182,rsC,ssL,↓ssM,aA,List.idxOf?_cons,Go.Sx.LV.undef,Go.undef,Go.Sx.splice,Go.Sx.push,Go.Sx.setObj,Go.Sx.setU,Go.Sx.setAll,Go.Sx.leI_eq,ltF,d4,cH,bo,zx,ix,bx,z0,i0,b0,hl,hw,hC]
theorem tlR (y:Ev) (N2:Nat) (hr:Φ 182 [.ref 0 0,.int .i64 (d+1)] [so 0,brn fl P N 0]=some (.p y.pv,[so 0,brn fl P N2 0]))
  (z:Option (LV × List (Ob))) (hz:z=if okE false true (.leaf 0) y=true then Φ 217 [.ref 0 0,.int .u64 base,.p (Ev.leaf 0).pv,.p y.pv] [so 0,brn fl P N2 0] else some (.p (Ev.leaf 0).pv,[so 6,brn fl P N2 0]))
  (hzo:okE false true (.leaf 0) y=true→∃ (v:Ev) (c:Int),z=some (.p v.pv,[so c,brn fl P N2 0])):
  TL fl P x1 d false true base N 0 0=z:=by
 unfold TL
 have z0:=bI (.leaf 0)
 have i0:=bw (.leaf 0)
 have b0:=bO (.leaf 0)
 have zy:=bI y
 have iy:=bw y
 have by':=bO y
 rw [Ao] at hz hzo
 simp only [Ev.pv,Ev.ptr_l,Ev.n_l,Int.natCast_zero,decide_true,show (Ev.leaf 0).isLeaf=true from rfl] at*
 generalize y.ptr=py at*
 generalize y.n=ny at*
 generalize decide (y = .leaf 0)=zly at*
 generalize y.isLeaf=ly at*
 have hC:(zly=false∧(ly=false∨¬(0:Int)=ny))=((!zly&&!(ly&&decide (0=ny)))=true):=by
  have e2:(0:Int)=ny↔0=ny:=by omega
  simp only [e2]
  cases zly<;>cases ly<;>simp
 by_cases hok:(!zly&&!(ly&&decide (0=ny)))=true
 ·rw [if_pos hok] at hz
  obtain ⟨v,c,hv⟩:=hzo hok
  rw [hv] at hz ⊢
  rw [eq_true hok] at hC
  have hz':=hz.symm
  simp +contextual (maxSteps:=1000000) [ir182,rsC,ssL,↓ssM,aA,List.idxOf?_cons,Go.Sx.LV.undef,Go.undef,Go.Sx.splice,Go.Sx.push,Go.Sx.setObj,Go.Sx.setU,Go.Sx.setAll,Go.Sx.leI_eq,ltF,d4,cH,bo,zy,iy,by',z0,i0,b0,hr,hw,hC,hz']
 ·rw [if_neg hok] at hz
  rw [eq_false hok] at hC
  subst hz
  simp +contextual (maxSteps:=1000000) [ir182,rsC,ssL,↓ssM,aA,List.idxOf?_cons,Go.Sx.LV.undef,Go.undef,Go.Sx.splice,Go.Sx.push,Go.Sx.setObj,Go.Sx.setU,Go.Sx.setAll,Go.Sx.leI_eq,ltF,d4,cH,bo,zy,iy,by',z0,i0,b0,hr,hw,hC]
end
end Go.Proofs.YtppeggedcaabkaaGreatDoor
end

section
namespace Go.Proofs.YtppeggedcaabkaaGreatDoor
open Go Go.Sx
def tkC:Nat→IRC→IRC
 | n+1,.seq a b=>.seq a (tkC n b)
 | _,_=>.skip
theorem sn (c:Ctx) : ∀ (k:Nat) (B:IRC) (st:St),run c B st=bindK (run c (tkC k B) st) fun p=>seqK p fun s=>run c (rsC k B) s
 | 0,B,st=>by rw [tkC,dZ,bA,bm,rsC];intros;contradiction
 | k+1,.seq a b,st=>by
  rw [tkC,jr,jr,rsC]
  cases run c a st with
  | none=>rfl
  | some p=>
   obtain ⟨ex,s⟩:=p
   cases ex with
   | normal=>rw [bA,bm,bA,bm];exact sn c k b s
   | _=>rfl
 | k+1,.skip,st=>by rw [tkC,dZ,bA,bm,rsC,dZ]<;>(intros;first|contradiction|rename_i h;cases h)
 | k+1,.region _ _ _,st|k+1,.regq _ _ _,st|k+1,.cond _ _ _,st|k+1,.block _ _,st|k+1,.loop _,st|k+1,.exit _,st|k+1,.ret,st|k+1,.bad,st|k+1,.label _ _,st|k+1,.goto _,st|k+1,.scope _ _ _,st|k+1,.tidy _ _,st=>by
  rw [tkC,dZ,bA,bm,rsC]
  all_goals (intros;first|contradiction|rename_i h;cases h|skip)
theorem wn (k:Nat) {f:FuncId} {ir:IRF} {a:List LV} {l:List (Ob)} {st:St} {x:LV × List (Ob)} (hf:findF irs f=some ir) (ha:a.length=ir.params.length)
  (h1:run ⟨Ω,noG,hpL l,l.length⟩ (tkC k ir.body) ⟨ir.params.zip a,⟨[],[]⟩⟩=some (.normal,st)) (h2:bindK (bindK (run ⟨Ω,noG,hpL l,l.length⟩ (rsC k ir.body) st) (finK ir (hpL l) l.length)) (outW l)=some x):Φ f a l=some x:=by
 refine aL hf ?_
 unfold runL
 rw [if_pos ha,sn _ k,h1,bA,bm]
 exact h2
section
variable (fl:Bool) (P:List UInt8) (d:Int)
theorem stA (N0:Nat) (x:LV × List (Ob)) (le ri:Bool) (base N:Nat) (e se:Int) (hT:TL fl P (brn fl P N0 0) d le ri base N e se=some x)
  (h:run ⟨Ω,noG,hpL [so 0,brn fl P N0 0],2⟩ (tkC 8 ir182.body) ⟨[(0,.ref 0 0),(1,.int .i64 d)],⟨[],[]⟩⟩=
   some (.normal,⟨[(0,.ref 0 0),(1,.int .i64 d),(4,.ref 2 0),(7,.ref 3 0),(8,.ref 4 0),(9,.int .u64 base),(11,.bool le),(12,.bool ri)],⟨[(1,brn fl P N e),(0,so se)],[zE,zE,zE]⟩⟩)):
  Φ 182 [.ref 0 0,.int .i64 d] [so 0,brn fl P N0 0]=some x:=
 wn 8 (ir:=ir182) (by kernel_rfl) rfl h hT
end
def EvSpec (fl:Bool) (P:List UInt8) (d:Int) (b:List Bool):Rd Ev→Prop
 | .ok x r=>Φ 182 [.ref 0 0,.int .i64 d] [so 0,brn fl P (8*P.length-b.length) 0]=some (.p x.pv,[so 0,brn fl P (8*P.length-r.length) 0])
 | .bad c=>∃ n e,Φ 182 [.ref 0 0,.int .i64 d] [so 0,brn fl P (8*P.length-b.length) 0]=some (.p (Ev.leaf 0).pv,[so c,brn fl P n e])
section
variable {fl:Bool} {P:List UInt8} {d:Int} {b:List Bool} (h28:P.length<2^28) (hb:b <:+ bitsB P)
include h28 hb
theorem dw (le ri:Bool) (base n:Nat) (e c:Int) (hc:c≠0) (h:run ⟨Ω,noG,hpL [so 0,brn fl P (8*P.length-b.length) 0],2⟩ (tkC 8 ir182.body) ⟨[(0,.ref 0 0),(1,.int .i64 d)],⟨[],[]⟩⟩=
   some (.normal,⟨[(0,.ref 0 0),(1,.int .i64 d),(4,.ref 2 0),(7,.ref 3 0),(8,.ref 4 0),(9,.int .u64 base),(11,.bool le),(12,.bool ri)],⟨[(1,brn fl P n e),(0,so c)],[zE,zE,zE]⟩⟩)):EvSpec fl P d b (.bad c):=
 ⟨n,e,stA fl P d _ _ le ri base n e c (zT fl P _ d base n le ri e c hc) h⟩
theorem yZ (hnil:b=[]):EvSpec fl P d b (.bad 6):=by
 subst hnil
 have g1:=gC fl P 1 [] h28 (by decide) hb (by decide)
 simp only [Int.natCast_one] at g1
 refine dw h28 hb false true 0 (8*P.length-([]:List Bool).length) 6 6 (by decide) ?_
 generalize 8*P.length-([]:List Bool).length=N at*
 by_cases hd:d=16
 all_goals simp +contextual (maxSteps:=1000000) [ir182,tkC,ssL,↓ssM,aA,ssU,ssR,g1,gD,bD,hd]
theorem wS (r:List Bool) (hbr:b=true::r):EvSpec fl P d b ((getN20 r).then fun v r=>.ok (.leaf v) r):=by
 subst hbr
 have hr:r <:+ bitsB P:=(List.suffix_cons _ _).trans hb
 have g1:=dm fl P 1 (true::r) 1 r h28 (by decide) hb (cy true r)
 have g2:=wc fl P r h28 hr
 simp only [Int.natCast_one] at g1
 unfold getN20 EvSpec
 generalize 8*P.length-(true::r).length=N at*
 generalize 8*P.length-r.length=N1 at*
 cases hn:numR 62 2 0 r with
 | none=>
  rw [hn] at g2
  have lf:=lS 0 (by decide)
  simp only [Rd.then,Ev.n_l,Ev.ptr_l,Int.natCast_zero] at g2 lf ⊢
  refine ⟨N1,6,?_⟩
  refine aL (ir:=ir182) (by kernel_rfl) ?_;simp +contextual (maxSteps:=1000000) [ir182,ssL,↓ssM,aA,ssU,ssR,g1,g2,lf,Ev.n_l,Ev.ptr_l]
 | some q=>
  obtain ⟨v,s⟩:=q
  rw [hn] at g2
  by_cases h:v≤2^20
  ·simp only [if_pos h] at g2 ⊢
   have lf:=lS v h
   simp only [Rd.then,Ev.n_l,Ev.ptr_l] at lf ⊢
   generalize 8*P.length-s.length=N2 at*
   refine aL (ir:=ir182) (by kernel_rfl) ?_;simp +contextual (maxSteps:=1000000) [ir182,ssL,↓ssM,aA,ssU,ssR,g1,g2,lf,Ev.n_l,Ev.ptr_l]
  ·simp only [if_neg h] at g2 ⊢
   have lf:=wM v h
   simp only [Rd.then,Ev.n_l,Ev.ptr_l,Int.natCast_zero] at lf ⊢
   refine ⟨8*P.length-s.length,0,?_⟩
   generalize 8*P.length-s.length=N2 at*
   refine aL (ir:=ir182) (by kernel_rfl) ?_;simp +contextual (maxSteps:=1000000) [ir182,ssL,↓ssM,aA,ssU,ssR,g1,g2,lf,Ev.n_l,Ev.ptr_l]
theorem wR (r:List Bool) (hbr:b=false::r) (hd:d=16):EvSpec fl P d b (.bad 3):=by
 subst hbr
 have g1:=dm fl P 1 (false::r) 0 r h28 (by decide) hb (cy false r)
 simp only [Int.natCast_one,Int.natCast_zero] at g1
 refine dw h28 hb false true 0 (8*P.length-r.length) 0 3 (by decide) ?_
 generalize 8*P.length-(false::r).length=N at*
 generalize 8*P.length-r.length=N1 at*
 simp +contextual (maxSteps:=1000000) [ir182,tkC,ssL,↓ssM,aA,ssU,ssR,g1,gD,bD,hd]
theorem sY (r:List Bool) (hbr:b=false::r) (hd:d≠16) (c:Int) (hh:hdE r = .bad c):EvSpec fl P d b (.bad c):=by
 subst hbr
 have hr:r <:+ bitsB P:=(List.suffix_cons _ _).trans hb
 have g1:=dm fl P 1 (false::r) 0 r h28 (by decide) hb (cy false r)
 simp only [Int.natCast_one,Int.natCast_zero] at g1
 match r,hr with
 | [],hr=>
  cases hh
  have g2:=gC fl P 2 [] h28 (by decide) hr (by decide)
  simp only [Int.cast_ofNat_Int] at g2
  refine dw h28 hb false true 0 (8*P.length-([]:List Bool).length) 6 6 (by decide) ?_
  generalize 8*P.length-([false]:List Bool).length=N at*
  generalize 8*P.length-([]:List Bool).length=N1 at*
  simp +contextual (maxSteps:=1000000) [ir182,tkC,ssL,↓ssM,aA,ssU,ssR,g1,g2,gD,bD,hd]
 | [y],hr=>
  have:hdE [y] = .bad 6:=by cases y<;>rfl
  rw [this] at hh
  cases hh
  have g2:=gC fl P 2 [y] h28 (by decide) hr (by simp)
  simp only [Int.cast_ofNat_Int] at g2
  refine dw h28 hb false true 0 (8*P.length - [y].length) 6 6 (by decide) ?_
  generalize 8*P.length - [false,y].length=N at*
  generalize 8*P.length - [y].length=N1 at*
  simp +contextual (maxSteps:=1000000) [ir182,tkC,ssL,↓ssM,aA,ssU,ssR,g1,g2,gD,bD,hd]
 | y::z::r2,hr=>
  have hr2:r2 <:+ bitsB P:=((List.suffix_cons _ _).trans (List.suffix_cons _ _)).trans hr
  cases y with
  | false=>cases z<;>cases hh
  | true=>
   cases z with
   | false=>cases hh
   | true=>
    have g2:=dm fl P 2 (true::true::r2) 3 r2 h28 (by decide) hr (by simp [wGet,bvA])
    simp only [Int.cast_ofNat_Int] at g2
    generalize hN:8*P.length-(false::true::true::r2).length=N at*
    generalize hN1:8*P.length-(true::true::r2).length=N1 at*
    have num : ∀ (r4:List Bool) (le ri:Bool),r4 <:+ bitsB P→((getN20 r4).then fun v r=>if v=0 then Rd.bad 6 else Rd.ok (le,ri,v) r) = .bad c→∃ (v n:Nat) (e:Int),
      Φ 213 [.ref 0 0] [so 0,brn fl P (8*P.length-r4.length) 0]=some (.int .u64 v,[so (if v=0∧e=0 then 0 else c),brn fl P n e])∧(v=0→c=6)∧c≠0:=by
     intro r4 le ri h4 hq
     have g:=wc fl P r4 h28 h4
     unfold getN20 at hq
     cases hn:numR 62 2 0 r4 with
     | none=>
      rw [hn] at g hq
      cases hq
      exact ⟨0,_,6,g,fun _=>rfl,by decide⟩
     | some q=>
      obtain ⟨v,s⟩:=q
      rw [hn] at g hq
      by_cases h:v≤2^20
      ·simp only [if_pos h,Rd.then] at g hq
       by_cases h0:v=0
       ·subst h0
        simp only [if_true] at hq
        cases hq
        exact ⟨0,_,0,g,fun _=>rfl,by decide⟩
       ·rw [if_neg h0] at hq;cases hq
      ·simp only [if_neg h,Rd.then] at g hq
       cases hq
       have h0 : ¬v=0:=by omega
       refine ⟨v,8*P.length-s.length,0,?_,fun e=>absurd e h0,by decide⟩
       rw [if_neg (by simp [h0])]
       exact g
    match r2,hr2 with
    | [],hr2=>
     cases hh
     have g3:=gC fl P 1 [] h28 (by decide) hr2 (by decide)
     simp only [Int.natCast_one] at g3
     refine dw h28 hb false true 0 (8*P.length-([]:List Bool).length) 6 6 (by decide) ?_
     rw [hN]
     generalize 8*P.length-([]:List Bool).length=N2 at*
     simp +contextual (maxSteps:=1000000) [ir182,tkC,ssL,↓ssM,aA,ssU,ssR,g1,g2,g3,gD,wd,bo,bD,hd]
    | [false],hr2=>
     cases hh
     have g3:=dm fl P 1 [false] 0 [] h28 (by decide) hr2 (cy false [])
     have g4:=gC fl P 1 [] h28 (by decide) ((List.suffix_cons _ _).trans hr2) (by decide)
     simp only [Int.natCast_one,Int.natCast_zero] at g3 g4
     refine dw h28 hb false true 0 (8*P.length-([]:List Bool).length) 6 6 (by decide) ?_
     rw [hN]
     generalize 8*P.length-([false]:List Bool).length=N3 at*
     generalize 8*P.length-([]:List Bool).length=N2 at*
     simp +contextual (maxSteps:=1000000) [ir182,tkC,ssL,↓ssM,aA,ssU,ssR,g1,g2,g3,g4,gD,wd,bo,bD,hd]
    | true::r3,hr2=>
     have hr3:r3 <:+ bitsB P:=(List.suffix_cons _ _).trans hr2
     have g3:=dm fl P 1 (true::r3) 1 r3 h28 (by decide) hr2 (cy true r3)
     simp only [Int.natCast_one] at g3
     obtain ⟨v,n,e,g4,h1,h2⟩:=num r3 true true hr3 hh
     refine dw h28 hb true true v n e c h2 ?_
     rw [hN]
     generalize 8*P.length-(true::r3).length=N3 at*
     generalize 8*P.length-r3.length=N2 at*
     by_cases h0:v=0
     ·have hc:=h1 h0
      subst h0 hc
      by_cases he:e=0
      all_goals
      simp only [he,and_self,and_false,if_true,if_false,Int.natCast_zero] at g4
      simp +contextual (maxSteps:=1000000) [ir182,tkC,ssL,↓ssM,aA,ssU,ssR,g1,g2,g3,g4,bo,bD,hd,he]
     ·have h0':0<v:=by omega
      simp only [h0,false_and,if_false] at g4
      simp +contextual (maxSteps:=1000000) [ir182,tkC,ssL,↓ssM,aA,ssU,ssR,g1,g2,g3,g4,bo,bD,hd,h0,h0',h2]
    | false::w::r4,hr2=>
     have hr3:w::r4 <:+ bitsB P:=(List.suffix_cons _ _).trans hr2
     have hr4:r4 <:+ bitsB P:=(List.suffix_cons _ _).trans hr3
     have g3:=dm fl P 1 (false::w::r4) 0 (w::r4) h28 (by decide) hr2 (cy false (w::r4))
     have g5:=dm fl P 1 (w::r4) w.toNat r4 h28 (by decide) hr3 (cy w r4)
     simp only [Int.natCast_one,Int.natCast_zero] at g3 g5
     obtain ⟨v,n,e,g4,h1,h2⟩:=num r4 w (!w) hr4 hh
     refine dw h28 hb w (!w) v n e c h2 ?_
     rw [hN]
     generalize 8*P.length-(false::w::r4).length=N3 at*
     generalize 8*P.length-(w::r4).length=N4 at*
     generalize 8*P.length-r4.length=N2 at*
     by_cases h0:v=0
     ·have hc:=h1 h0
      subst h0 hc
      by_cases he:e=0
      all_goals
      simp only [he,and_self,and_false,if_true,if_false,Int.natCast_zero] at g4
      cases w<;>simp +contextual (maxSteps:=1000000) [ir182,tkC,ssL,↓ssM,aA,ssU,ssR,g1,g2,g3,g4,g5,bo,bD,hd,he]
     ·have h0':0<v:=by omega
      simp only [h0,false_and,if_false] at g4
      cases w<;>simp +contextual (maxSteps:=1000000) [ir182,tkC,ssL,↓ssM,aA,ssU,ssR,g1,g2,g3,g4,g5,bo,bD,hd,h0,h0',h2]
theorem ut (r:List Bool) (hbr:b=false::r) (hd:d≠16) (le ri:Bool) (base:Nat) (s:List Bool) (hh:hdE r = .ok (le,ri,base) s) (x:LV × List (Ob))
  (hT:TL fl P (brn fl P (8*P.length-b.length) 0) d le ri base (8*P.length-s.length) 0 0=some x):Φ 182 [.ref 0 0,.int .i64 d] [so 0,brn fl P (8*P.length-b.length) 0]=some x:=by
 subst hbr
 have hr:r <:+ bitsB P:=(List.suffix_cons _ _).trans hb
 have g1:=dm fl P 1 (false::r) 0 r h28 (by decide) hb (cy false r)
 simp only [Int.natCast_one,Int.natCast_zero] at g1
 refine stA fl P d _ x le ri base _ 0 0 hT ?_
 clear hT
 have num : ∀ (r4:List Bool),r4 <:+ bitsB P→((getN20 r4).then fun v r=>if v=0 then Rd.bad 6 else Rd.ok (le,ri,v) r) = .ok (le,ri,base) s →
   Φ 213 [.ref 0 0] [so 0,brn fl P (8*P.length-r4.length) 0]=some (.int .u64 base,[so 0,brn fl P (8*P.length-s.length) 0])∧0<base:=by
  intro r4 h4 hq
  have g:=wc fl P r4 h28 h4
  unfold getN20 at hq
  cases hn:numR 62 2 0 r4 with
  | none=>rw [hn] at hq;cases hq
  | some q=>
   obtain ⟨v,t⟩:=q
   rw [hn] at g hq
   by_cases h:v≤2^20
   ·simp only [if_pos h,Rd.then] at g hq
    by_cases h0:v=0
    ·rw [if_pos h0] at hq;cases hq
    ·rw [if_neg h0] at hq;cases hq
     exact ⟨g,by omega⟩
   ·simp only [if_neg h,Rd.then] at g hq
    cases hq
 match r,hr with
 | [],_=>cases hh
 | [y],_=>cases y<;>cases hh
 | y::z::r2,hr=>
  have hr2:r2 <:+ bitsB P:=((List.suffix_cons _ _).trans (List.suffix_cons _ _)).trans hr
  have g2:=dm fl P 2 (y::z::r2) (2*y.toNat+z.toNat) r2 h28 (by decide) hr (by simp [wGet,bvA])
  simp only [Int.cast_ofNat_Int] at g2
  by_cases h3:y=true∧z=true
  ·obtain ⟨rfl,rfl⟩:=h3
   simp only [Bool.toNat_true,show ((2*1+1:Nat):Int)=3 from rfl] at g2
   generalize hN:8*P.length-(false::true::true::r2).length=N at*
   generalize hN1:8*P.length-(true::true::r2).length=N1 at*
   match r2,hr2 with
   | [],_=>cases hh
   | [false],_=>cases hh
   | true::r3,hr2=>
    have hr3:r3 <:+ bitsB P:=(List.suffix_cons _ _).trans hr2
    have g3:=dm fl P 1 (true::r3) 1 r3 h28 (by decide) hr2 (cy true r3)
    simp only [Int.natCast_one] at g3
    obtain ⟨rfl,rfl⟩:le=true∧ri=true:=by
     obtain ⟨v,t,_,h2⟩:=Rd.then_ok hh
     split at h2
     ·cases h2
     ·cases h2;exact ⟨rfl,rfl⟩
    obtain ⟨g4,h0⟩:=num r3 hr3 hh
    have h0' : ¬base=0:=by omega
    try rw [hN]
    generalize 8*P.length-(true::r3).length=N3 at*
    generalize 8*P.length-r3.length=N2 at*
    generalize 8*P.length-s.length=N5 at*
    simp +contextual (maxSteps:=1000000) [ir182,tkC,ssL,↓ssM,aA,ssU,ssR,g1,g2,g3,g4,bo,bD,hd,h0,h0']
   | false::w::r4,hr2=>
    have hr3:w::r4 <:+ bitsB P:=(List.suffix_cons _ _).trans hr2
    have hr4:r4 <:+ bitsB P:=(List.suffix_cons _ _).trans hr3
    have g3:=dm fl P 1 (false::w::r4) 0 (w::r4) h28 (by decide) hr2 (cy false (w::r4))
    have g5:=dm fl P 1 (w::r4) w.toNat r4 h28 (by decide) hr3 (cy w r4)
    simp only [Int.natCast_one,Int.natCast_zero] at g3 g5
    obtain ⟨rfl,rfl⟩:le=w∧ri=!w:=by
     obtain ⟨v,t,_,h2⟩:=Rd.then_ok hh
     split at h2
     ·cases h2
     ·cases h2;exact ⟨rfl,rfl⟩
    obtain ⟨g4,h0⟩:=num r4 hr4 hh
    have h0' : ¬base=0:=by omega
    try rw [hN]
    generalize 8*P.length-(false::le::r4).length=N3 at*
    generalize 8*P.length-(le::r4).length=N4 at*
    generalize 8*P.length-r4.length=N2 at*
    generalize 8*P.length-s.length=N5 at*
    cases le<;>simp +contextual (maxSteps:=1000000) [ir182,tkC,ssL,↓ssM,aA,ssU,ssR,g1,g2,g3,g4,g5,bo,bD,hd,h0,h0']
  ·have e:hdE (y::z::r2) = .ok (y||z,y||!z,0) r2:=by cases y<;>cases z<;>first|rfl|exact absurd ⟨rfl,rfl⟩ h3
   rw [e] at hh
   cases hh
   generalize hN:8*P.length-(false::y::z::s).length=N at*
   generalize hN1:8*P.length-(y::z::s).length=N1 at*
   generalize 8*P.length-s.length=N2 at*
   cases y<;>cases z
   case true.true=>exact absurd ⟨rfl,rfl⟩ h3
   all_goals
   simp only [Bool.toNat_true,Bool.toNat_false,Nat.mul_zero,Nat.mul_one,Nat.add_zero,Nat.zero_add,Int.natCast_zero,Int.natCast_one,Int.cast_ofNat_Int] at g2
   simp +contextual (maxSteps:=1000000) [ir182,tkC,ssL,↓ssM,aA,ssU,ssR,g1,g2,bo,bD,hd]
end
theorem yp {fl:Bool} {P:List UInt8} (h28:P.length<2^28) : ∀ (k:Nat) (b:List Bool),k≤16→b <:+ bitsB P→EvSpec fl P (16-k:Nat) b (getE k b)
 | k,[],hk,hb=>by
  have e:getE k [] = .bad 6:=by cases k<;>rfl
  rw [e];exact yZ h28 hb rfl
 | k,true::r,hk,hb=>by
  have e:getE k (true::r)=(getN20 r).then fun v r=>.ok (.leaf v) r:=by cases k<;>rfl
  rw [e];exact wS h28 hb r rfl
 | 0,false::r,hk,hb=>wR h28 hb r rfl rfl
 | k+1,false::r,hk,hb=>by
  have hr:r <:+ bitsB P:=(List.suffix_cons _ _).trans hb
  have hd:((16-(k+1):Nat):Int)≠16:=by omega
  cases hh:hdE r with
  | bad c=>
   have e:getE (k+1) (false::r) = .bad c:=by rw [getE,hh];rfl
   rw [e];exact sY h28 hb r rfl hd c hh
  | ok q s=>
   obtain ⟨le,ri,base⟩:=q
   obtain ⟨hbase,hs,hlr⟩:=uH hh
   have hs':=hs.trans hr
   have go:=ut (fl:=fl) h28 hb r rfl hd le ri base s hh
   have hw:IntKind.i64.wrap (((16-(k+1):Nat):Int)+1)=((16-(k+1):Nat):Int)+1:=am _ (by omega) (by omega)
   have hd1:((16-k:Nat):Int)=((16-(k+1):Nat):Int)+1:=by omega
   have ih:=fun (b:List Bool) (hb:b <:+ bitsB P)=>yp (fl:=fl) h28 k b (by omega) hb
   rw [hd1] at ih
   generalize ((16-(k+1):Nat):Int)=d at*
   have fin : ∀ (x y:Ev) (t:List Bool),x.norm→y.norm→x.max≤2^20→y.max≤2^20→x.depth≤k→y.depth≤k→okE le ri x y=true →
     Φ 217 [.ref 0 0,.int .u64 base,.p x.pv,.p y.pv] [so 0,brn fl P (8*P.length-t.length) 0]=if (Ev.node base x y).max≤2^20 then some (.p (Ev.node base x y).pv,[so 0,brn fl P (8*P.length-t.length) 0]) else some (.p (Ev.leaf 0).pv,[so 4,brn fl P (8*P.length-t.length) 0]):=by
    intro x y t nx ny mx my dx dy hok
    unfold okE at hok
    simp only [Bool.and_eq_true,Bool.not_eq_true',decide_eq_true_eq] at hok
    refine zM fl P _ base x y hbase ⟨nx,ny,by have:=hok.1.2;omega,fun hc => ?_⟩ (by simp only [Ev.depth];omega) mx my
    have:=hok.2
    simp [hc.1,hc.2.1,hc.2.2] at this
   have ends : ∀ (x y:Ev) (t:List Bool),(∀ z,z=(if okE le ri x y=true then (if (Ev.node base x y).max≤2^20 then some ((.p (Ev.node base x y).pv:LV),[so 0,brn fl P (8*P.length-t.length) 0]) else some (.p (Ev.leaf 0).pv,[so 4,brn fl P (8*P.length-t.length) 0])) else some (.p (Ev.leaf 0).pv,[so 6,brn fl P (8*P.length-t.length) 0])) →
     TL fl P (brn fl P (8*P.length-(false::r).length) 0) d le ri base (8*P.length-s.length) 0 0=z) →
     EvSpec fl P d (false::r) (if okE le ri x y=true then (if (Ev.node base x y).max≤2^20 then .ok (.node base x y) t else .bad 4) else .bad 6):=by
    intro x y t hz
    by_cases h1:okE le ri x y=true
    ·by_cases h2:(Ev.node base x y).max≤2^20
     ·rw [if_pos h1,if_pos h2];exact go _ (hz _ (by rw [if_pos h1,if_pos h2]))
     ·rw [if_pos h1,if_neg h2];exact ⟨_,_,go _ (hz _ (by rw [if_pos h1,if_neg h2]))⟩
    ·rw [if_neg h1];exact ⟨_,_,go _ (hz _ (by rw [if_neg h1]))⟩
   have hl0:(Ev.leaf 0).norm∧(Ev.leaf 0).max≤2^20∧(Ev.leaf 0).depth≤k:=⟨trivial,by decide,Nat.zero_le _⟩
   have ex : ∀ (x y:Ev) (t:List Bool),∃ (v:Ev) (c:Int),(if (Ev.node base x y).max≤2^20 then some ((.p (Ev.node base x y).pv:LV),[so 0,brn fl P (8*P.length-t.length) 0]) else some (.p (Ev.leaf 0).pv,[so 4,brn fl P (8*P.length-t.length) 0]))=some (.p v.pv,[so c,brn fl P (8*P.length-t.length) 0]):=by
    intro x y t
    split
    ·exact ⟨_,_,rfl⟩
    ·exact ⟨_,_,rfl⟩
   rw [getE,hh]
   simp only [Rd.then]
   cases le with
   | true=>
    have hx:=ih s hs'
    cases hgx:getE k s with
    | bad c=>
     rw [hgx] at hx
     obtain ⟨n,e,hx⟩:=hx
     simp only [if_true]
     exact ⟨_,_,go _ (zU fl P _ d base _ hw ri c n e (dU _ _ _ hgx) hx)⟩
    | ok x t=>
     rw [hgx] at hx
     obtain ⟨nx,mx,dx,tx⟩:=gM _ _ _ _ hgx
     simp only [if_true]
     cases ri with
     | true=>
      have hy:=ih t (tx.trans hs')
      cases hgy:getE k t with
      | bad c=>
       rw [hgy] at hy
       obtain ⟨n,e,hy⟩:=hy
       simp only [if_true]
       exact ⟨_,_,go _ (zV fl P _ d base _ hw x _ c n e (dU _ _ _ hgy) hx hy)⟩
      | ok y u=>
       rw [hgy] at hy
       obtain ⟨ny,my,dy,uy⟩:=gM _ _ _ _ hgy
       simp only [if_true]
       refine ends x y u fun z hz => ?_
       refine zS fl P _ d base _ hw x y _ _ hx hy z ?_ ?_
       ·rw [hz]
        by_cases hok:okE true true x y=true
        ·rw [if_pos hok,if_pos hok,fin x y u nx ny mx my dx dy hok]
        ·rw [if_neg hok,if_neg hok]
       ·intro hok;rw [hz,if_pos hok];exact ex x y u
     | false=>
      simp only [Bool.false_eq_true,if_false]
      refine ends x (.leaf 0) t fun z hz => ?_
      refine tlL fl P _ d base _ hw x _ hx z ?_ ?_
      ·rw [hz]
       by_cases hok:okE true false x (.leaf 0)=true
       ·rw [if_pos hok,if_pos hok,fin x _ t nx hl0.1 mx hl0.2.1 dx hl0.2.2 hok]
       ·rw [if_neg hok,if_neg hok]
      ·intro hok;rw [hz,if_pos hok];exact ex x _ t
   | false=>
    obtain rfl:ri=true:=by simpa using hlr
    have hy:=ih s hs'
    simp only [Bool.false_eq_true,if_false,if_true]
    cases hgy:getE k s with
    | bad c=>
     rw [hgy] at hy
     obtain ⟨n,e,hy⟩:=hy
     exact ⟨_,_,go _ (yg fl P _ d base _ hw c n e (dU _ _ _ hgy) hy)⟩
    | ok y u=>
     rw [hgy] at hy
     obtain ⟨ny,my,dy,uy⟩:=gM _ _ _ _ hgy
     refine ends (.leaf 0) y u fun z hz => ?_
     refine tlR fl P _ d base _ hw y _ hy z ?_ ?_
     ·rw [hz]
      by_cases hok:okE false true (.leaf 0) y=true
      ·rw [if_pos hok,if_pos hok,fin _ y u hl0.1 ny hl0.2.1 my hl0.2.2 dy hok]
      ·rw [if_neg hok,if_neg hok]
     ·intro hok;rw [hz,if_pos hok];exact ex _ y u
end Go.Proofs.YtppeggedcaabkaaGreatDoor
end

section
namespace Go.Proofs.YtppeggedcaabkaaGreatDoor
open Go Go.Sx
def okI (le ri:Bool) (l r:Id):Bool:=(decide (l = .zero)==!le)&&(decide (r = .zero)==!ri)&&!(decide (l = .one)&&decide (r = .one))
def getI:Nat→List Bool→Rd Id
 | _,false::false::x::r=>.ok (if x=true then .one else .zero) r
 | _,false::false::[]=>.bad 6
 | _,[]=>.bad 6
 | _,[_]=>.bad 6
 | 0,_=>.bad 3
 | k+1,y::z::r=>(if (y||!z)=true then getI k r else .ok .zero r).then fun i r=>(if (!y||z)=true then getI k r else .ok .zero r).then fun j r=>if okI (y||!z) (!y||z) i j=true then .ok (.node i j) r else .bad 6
theorem fC (k:Nat) (y z:Bool) (r:List Bool) (h : ¬(y=false∧z=false)):getI (k+1) (y::z::r)=(if (y||!z)=true then getI k r else .ok .zero r).then fun i r=>(if (!y||z)=true then getI k r else .ok .zero r).then fun j r=>if okI (y||!z) (!y||z) i j=true then .ok (.node i j) r else .bad 6:=by
 cases y<;>cases z
 ·exact absurd ⟨rfl,rfl⟩ h
 all_goals (cases r<;>rfl)
theorem pi (y z:Bool) (r:List Bool) (h : ¬(y=false∧z=false)):getI 0 (y::z::r) = .bad 3:=by
 cases y<;>cases z
 ·exact absurd ⟨rfl,rfl⟩ h
 all_goals (cases r<;>rfl)
theorem gN : ∀ (k:Nat) (b:List Bool) (x:Id) (r:List Bool),getI k b = .ok x r→x.depth≤k∧r <:+ b
 | k,[],x,r,h=>by cases k<;>cases h
 | k,[y],x,r,h=>by cases k<;>cases y<;>cases h
 | k,y::z::s,x,r,h=>by
  by_cases hyz:y=false∧z=false
  ·obtain ⟨rfl,rfl⟩:=hyz
   cases s with
   | nil=>cases k<;>cases h
   | cons w s=>
    have h':Rd.ok (if w=true then Id.one else .zero) s = .ok x r:=by cases k<;>exact h
    cases h'
    exact ⟨by cases w<;>exact Nat.zero_le _,(List.suffix_cons _ _).trans ((List.suffix_cons _ _).trans (List.suffix_cons _ _))⟩
  ·cases k with
   | zero=>rw [pi _ _ _ hyz] at h;cases h
   | succ k=>
    rw [fC _ _ _ _ hyz] at h
    obtain ⟨i,s1,h3,h4⟩:=Rd.then_ok h
    obtain ⟨j,s2,h5,h6⟩:=Rd.then_ok h4
    have key : ∀ (c:Bool) (s:List Bool) (y:Id) (s':List Bool),(if c=true then getI k s else Rd.ok .zero s) = .ok y s'→y.depth≤k∧s' <:+ s:=by
     intro c s y s' hq
     cases c with
     | true=>exact gN k s y s' hq
     | false=>cases hq;exact ⟨Nat.zero_le _,List.suffix_refl _⟩
    have e2:=key _ _ _ _ h3
    have e3:=key _ _ _ _ h5
    split at h6
    ·cases h6
     refine ⟨?_,e3.2.trans (e2.2.trans ((List.suffix_cons _ _).trans (List.suffix_cons _ _)))⟩
     simp only [Id.depth]
     omega
    ·cases h6
theorem dV : ∀ (k:Nat) (b:List Bool) (c:Int),getI k b = .bad c→c≠0
 | k,[],c,h=>by cases k<;>cases h<;>decide
 | k,[y],c,h=>by cases k<;>cases y<;>cases h<;>decide
 | k,y::z::s,c,h=>by
  by_cases hyz:y=false∧z=false
  ·obtain ⟨rfl,rfl⟩:=hyz
   cases s with
   | nil=>cases k<;>cases h<;>decide
   | cons w s=>cases k<;>cases h
  ·cases k with
   | zero=>rw [pi _ _ _ hyz] at h;cases h;decide
   | succ k=>
    rw [fC _ _ _ _ hyz] at h
    have key : ∀ (q:Bool) (s:List Bool),(if q=true then getI k s else Rd.ok .zero s) = .bad c→c≠0:=by
     intro q s hq
     cases q with
     | true=>exact dV k s c hq
     | false=>cases hq
    rcases Rd.then_bad h with h|⟨l,s2,h3,h4⟩
    ·exact key _ _ h
    ·rcases Rd.then_bad h4 with h|⟨rr,s3,h5,h6⟩
     ·exact key _ _ h
     ·split at h6
      ·cases h6
      ·cases h6;decide
def pairR (l r:Id):Id:=if (Id.pair l r).depth≤16 then Id.pair l r else .zero
theorem c5 (l r:Id):(pairR l r).depth≤16:=by
 unfold pairR
 split
 ·assumption
 ·exact Nat.zero_le _
theorem pair_depth (l r:Id):(Id.pair l r).depth≤1+Max.max l.depth r.depth:=by
 unfold Id.pair
 split
 ·exact Nat.zero_le _
 ·split
  ·exact Nat.zero_le _
  ·exact Nat.le_refl _
theorem jB (l r:Id) (hl:l.depth≤16) (hr:r.depth≤16) (H:Heap) (nx:Nat):Ω 67 [.p l.pv,.p r.pv] H nx=some (.tuple [.p (pairR l r).pv,.int .i64 (if (Id.pair l r).depth≤16 then 0 else 3)],[],[]):=by
 rw [yl l r (by have:=pair_depth l r;omega)]
 unfold pairR
 split<;>rfl
abbrev cI (i:Id):Ob:=some (.cells [.bool i.all,.p i.ptr])
noncomputable abbrev TI (fl:Bool) (P:List UInt8) (x1:Ob) (d kind:Int) (N:Nat) (e se:Int):Option (LV × List (Ob)):=
 bindK (bindK (run ⟨Ω,noG,hpL [so 0,x1],2⟩ (rsC 5 ir211.body) ⟨[(0,.ref 0 0),(1,.int .i64 d),(4,.ref 2 0),(5,.ref 3 0),(6,.ref 4 0),(7,.int .u64 kind)],⟨[(1,brn fl P N e),(0,so se)],[some (.cells [.bool false,.p (.s (.pointer none))]),cI .zero,cI .zero]⟩⟩) (finK ir211 (hpL [so 0,x1]) 2)) (outW [so 0,x1])
section
variable (fl:Bool) (P:List UInt8) (x1:Ob) (d:Int) (N:Nat) (hw:IntKind.i64.wrap (d+1)=d+1)
theorem zP (kind:Int) (e se:Int) (h:se≠0):TI fl P x1 d kind N e se=some (.p (pairR .zero .zero).pv,[so se,brn fl P N e]):=by
 unfold TI
 have p:=jB .zero .zero (Nat.zero_le _) (Nat.zero_le _)
 have z:=aR .zero
 have o:=bg .zero
 by_cases h1:kind=1<;>by_cases h2:kind=2
 all_goals simp +contextual (maxSteps:=1000000) [ir211,rsC,ssL,↓ssM,aA,List.idxOf?_cons,Go.Sx.LV.undef,Go.undef,Go.Sx.splice,Go.Sx.push,Go.Sx.setObj,Go.Sx.setU,Go.Sx.setAll,Go.Sx.leI_eq,ltF,cH,bo,h,p,z,o,h1,h2]
include hw
theorem tiL (x:Id) (N1:Nat) (hx:x.depth≤16) (hl:Φ 211 [.ref 0 0,.int .i64 (d+1)] [so 0,brn fl P N 0]=some (.p x.pv,[so 0,brn fl P N1 0])):
  TI fl P x1 d 2 N 0 0=some (.p (pairR x .zero).pv,[so (if okI true false x .zero=true then 0 else 6),brn fl P N1 0]):=by
 unfold TI
 have p:=jB x .zero hx (Nat.zero_le _)
 have z:=aR .zero
 have o:=bg .zero
 have zx:=aR x
 have ox:=bg x
 have hok:okI true false x .zero=!decide (x = .zero):=by unfold okI;cases x<;>simp
 rw [hok]
 simp +contextual (maxSteps:=1000000) [ir211,rsC,ssL,↓ssM,aA,List.idxOf?_cons,Go.Sx.LV.undef,Go.undef,Go.Sx.splice,Go.Sx.push,Go.Sx.setObj,Go.Sx.setU,Go.Sx.setAll,Go.Sx.leI_eq,ltF,d4,cH,bo,p,z,o,zx,ox,hl,hw]
theorem tiR (y:Id) (N2:Nat) (hy:y.depth≤16) (hr:Φ 211 [.ref 0 0,.int .i64 (d+1)] [so 0,brn fl P N 0]=some (.p y.pv,[so 0,brn fl P N2 0])):
  TI fl P x1 d 1 N 0 0=some (.p (pairR .zero y).pv,[so (if okI false true .zero y=true then 0 else 6),brn fl P N2 0]):=by
 unfold TI
 have p:=jB .zero y (Nat.zero_le _) hy
 have z:=aR .zero
 have o:=bg .zero
 have zy:=aR y
 have oy:=bg y
 have hok:okI false true .zero y=!decide (y = .zero):=by unfold okI;cases y<;>simp
 rw [hok]
 simp +contextual (maxSteps:=1000000) [ir211,rsC,ssL,↓ssM,aA,List.idxOf?_cons,Go.Sx.LV.undef,Go.undef,Go.Sx.splice,Go.Sx.push,Go.Sx.setObj,Go.Sx.setU,Go.Sx.setAll,Go.Sx.leI_eq,ltF,d4,cH,bo,p,z,o,zy,oy,hr,hw]
theorem tiB (x y:Id) (N1 N2:Nat) (hx:x.depth≤16) (hy:y.depth≤16) (hl:Φ 211 [.ref 0 0,.int .i64 (d+1)] [so 0,brn fl P N 0]=some (.p x.pv,[so 0,brn fl P N1 0]))
  (hr:Φ 211 [.ref 0 0,.int .i64 (d+1)] [so 0,brn fl P N1 0]=some (.p y.pv,[so 0,brn fl P N2 0])):
  TI fl P x1 d 3 N 0 0=some (.p (pairR x y).pv,[so (if okI true true x y=true then 0 else 6),brn fl P N2 0]):=by
 unfold TI
 have p:=jB x y hx hy
 have zx:=aR x
 have ox:=bg x
 have zy:=aR y
 have oy:=bg y
 have hok:okI true true x y=(!decide (x = .zero)&&!decide (y = .zero)&&!(decide (x = .one)&&decide (y = .one))):=by unfold okI;simp
 rw [hok]
 simp +contextual (maxSteps:=1000000) [ir211,rsC,ssL,↓ssM,aA,List.idxOf?_cons,Go.Sx.LV.undef,Go.undef,Go.Sx.splice,Go.Sx.push,Go.Sx.setObj,Go.Sx.setU,Go.Sx.setAll,Go.Sx.leI_eq,ltF,d4,cH,bo,p,zx,ox,zy,oy,hl,hr,hw]
theorem zQ (kind:Int) (hk:kind=2∨kind=3) (x:Id) (hx:x.depth≤16) (c:Int) (n:Nat) (e:Int) (hc:c≠0) (hl:Φ 211 [.ref 0 0,.int .i64 (d+1)] [so 0,brn fl P N 0]=some (.p x.pv,[so c,brn fl P n e])):
  TI fl P x1 d kind N 0 0=some (.p (pairR x .zero).pv,[so c,brn fl P n e]):=by
 unfold TI
 have p:=jB x .zero hx (Nat.zero_le _)
 have z:=aR .zero
 have o:=bg .zero
 have zx:=aR x
 have ox:=bg x
 rcases hk with rfl|rfl
 all_goals simp +contextual (maxSteps:=1000000) [ir211,rsC,ssL,↓ssM,aA,List.idxOf?_cons,Go.Sx.LV.undef,Go.undef,Go.Sx.splice,Go.Sx.push,Go.Sx.setObj,Go.Sx.setU,Go.Sx.setAll,Go.Sx.leI_eq,ltF,d4,cH,bo,p,z,o,zx,ox,hl,hw,hc]
theorem zR (x y:Id) (N1:Nat) (hx:x.depth≤16) (hy:y.depth≤16) (c:Int) (n:Nat) (e:Int) (hc:c≠0) (hl:Φ 211 [.ref 0 0,.int .i64 (d+1)] [so 0,brn fl P N 0]=some (.p x.pv,[so 0,brn fl P N1 0]))
  (hr:Φ 211 [.ref 0 0,.int .i64 (d+1)] [so 0,brn fl P N1 0]=some (.p y.pv,[so c,brn fl P n e])):
  TI fl P x1 d 3 N 0 0=some (.p (pairR x y).pv,[so c,brn fl P n e]):=by
 unfold TI
 have p:=jB x y hx hy
 have zx:=aR x
 have ox:=bg x
 have zy:=aR y
 have oy:=bg y
 simp +contextual (maxSteps:=1000000) [ir211,rsC,ssL,↓ssM,aA,List.idxOf?_cons,Go.Sx.LV.undef,Go.undef,Go.Sx.splice,Go.Sx.push,Go.Sx.setObj,Go.Sx.setU,Go.Sx.setAll,Go.Sx.leI_eq,ltF,d4,cH,bo,p,zx,ox,zy,oy,hl,hr,hw,hc]
theorem yf (y:Id) (hy:y.depth≤16) (c:Int) (n:Nat) (e:Int) (hc:c≠0) (hr:Φ 211 [.ref 0 0,.int .i64 (d+1)] [so 0,brn fl P N 0]=some (.p y.pv,[so c,brn fl P n e])):
  TI fl P x1 d 1 N 0 0=some (.p (pairR .zero y).pv,[so c,brn fl P n e]):=by
 unfold TI
 have p:=jB .zero y (Nat.zero_le _) hy
 have z:=aR .zero
 have o:=bg .zero
 have zy:=aR y
 have oy:=bg y
 simp +contextual (maxSteps:=1000000) [ir211,rsC,ssL,↓ssM,aA,List.idxOf?_cons,Go.Sx.LV.undef,Go.undef,Go.Sx.splice,Go.Sx.push,Go.Sx.setObj,Go.Sx.setU,Go.Sx.setAll,Go.Sx.leI_eq,ltF,d4,cH,bo,p,z,o,zy,oy,hr,hw,hc]
end
def ISpec (fl:Bool) (P:List UInt8) (d:Int) (b:List Bool):Rd Id→Prop
 | .ok x r=>Φ 211 [.ref 0 0,.int .i64 d] [so 0,brn fl P (8*P.length-b.length) 0]=some (.p x.pv,[so 0,brn fl P (8*P.length-r.length) 0])
 | .bad c=>∃ (x:Id) (n:Nat) (e:Int),x.depth≤16∧Φ 211 [.ref 0 0,.int .i64 d] [so 0,brn fl P (8*P.length-b.length) 0]=some (.p x.pv,[so c,brn fl P n e])
theorem rp {fl:Bool} {P:List UInt8} (h28:P.length<2^28) {b:List Bool} (hb:b <:+ bitsB P) (d:Int) (h2:b.length<2):ISpec fl P d b (.bad 6):=by
 have g1:=gC fl P 2 b h28 (by decide) hb h2
 simp only [Int.cast_ofNat_Int] at g1
 refine ⟨.zero,8*P.length-b.length,6,by decide,?_⟩
 generalize 8*P.length-b.length=N at*
 refine aL (ir:=ir211) (by kernel_rfl) ?_;simp +contextual (maxSteps:=1000000) [ir211,ssL,↓ssM,aA,List.idxOf?_cons,Go.Sx.LV.undef,Go.undef,Go.Sx.splice,Go.Sx.push,Go.Sx.setObj,Go.Sx.setU,Go.Sx.setAll,Go.Sx.leI_eq,ltF,g1,gD,cU,jY]
theorem yx {fl:Bool} {P:List UInt8} (h28:P.length<2^28) : ∀ (k:Nat) (b:List Bool),k≤16→b <:+ bitsB P→ISpec fl P (16-k:Nat) b (getI k b)
 | k,[],hk,hb=>by
  have e:getI k [] = .bad 6:=by cases k<;>rfl
  rw [e];exact rp h28 hb _ (by decide)
 | k,[y],hk,hb=>by
  have e:getI k [y] = .bad 6:=by cases k<;>cases y<;>rfl
  rw [e];exact rp h28 hb _ (by simp)
 | k,y::z::r,hk,hb=>by
  have hr:r <:+ bitsB P:=((List.suffix_cons _ _).trans (List.suffix_cons _ _)).trans hb
  have g1:=dm fl P 2 (y::z::r) (2*y.toNat+z.toNat) r h28 (by decide) hb (by simp [wGet,bvA])
  simp only [Int.cast_ofNat_Int] at g1
  by_cases hyz:y=false∧z=false
  ·obtain ⟨rfl,rfl⟩:=hyz
   simp only [Bool.toNat_false,Nat.mul_zero,Nat.add_zero,Int.natCast_zero] at g1
   cases r with
   | nil=>
    have e:getI k [false,false] = .bad 6:=by cases k<;>rfl
    have g2:=gC fl P 1 [] h28 (by decide) hr (by decide)
    simp only [Int.natCast_one] at g2
    rw [e]
    refine ⟨.zero,8*P.length-([]:List Bool).length,6,by decide,?_⟩
    generalize 8*P.length - [false,false].length=N at*
    generalize 8*P.length-([]:List Bool).length=N1 at*
    refine aL (ir:=ir211) (by kernel_rfl) ?_;simp +contextual (maxSteps:=1000000) [ir211,ssL,↓ssM,aA,List.idxOf?_cons,Go.Sx.LV.undef,Go.undef,Go.Sx.splice,Go.Sx.push,Go.Sx.setObj,Go.Sx.setU,Go.Sx.setAll,Go.Sx.leI_eq,ltF,g1,g2,cU,jY]
   | cons x r=>
    have e:getI k (false::false::x::r) = .ok (if x=true then .one else .zero) r:=by cases k<;>rfl
    have g2:=dm fl P 1 (x::r) x.toNat r h28 (by decide) hr (cy x r)
    simp only [Int.natCast_one] at g2
    rw [e]
    unfold ISpec
    simp only []
    generalize 8*P.length-(false::false::x::r).length=N at*
    generalize 8*P.length-(x::r).length=N1 at*
    generalize 8*P.length-r.length=N2 at*
    cases x
    all_goals
    simp only [Bool.toNat_false,Bool.toNat_true,Int.natCast_zero,Int.natCast_one,Bool.false_eq_true,if_false,if_true] at g2 ⊢
    refine aL (ir:=ir211) (by kernel_rfl) ?_;simp +contextual (maxSteps:=1000000) [ir211,ssL,↓ssM,aA,List.idxOf?_cons,Go.Sx.LV.undef,Go.undef,Go.Sx.splice,Go.Sx.push,Go.Sx.setObj,Go.Sx.setU,Go.Sx.setAll,Go.Sx.leI_eq,ltF,g1,g2,cU,jY]
  ·have hkind:2*y.toNat+z.toNat≠0:=by
    intro h;apply hyz;cases y<;>cases z<;>first|exact ⟨rfl,rfl⟩|(simp at h)
   cases k with
   | zero=>
    rw [pi _ _ _ hyz]
    refine ⟨_,_,_,c5 .zero .zero,wn 5 (ir:=ir211) (by kernel_rfl) rfl ?_ (zP fl P _ 16 (8*P.length-r.length) (2*y.toNat+z.toNat:Nat) 0 3 (by decide))⟩
    generalize 8*P.length-(y::z::r).length=N at*
    generalize 8*P.length-r.length=N1 at*
    generalize 2*y.toNat+z.toNat=kk at*
    simp +contextual (maxSteps:=1000000) [ir211,tkC,ssL,↓ssM,aA,List.idxOf?_cons,Go.Sx.LV.undef,Go.undef,Go.Sx.splice,Go.Sx.push,Go.Sx.setObj,Go.Sx.setU,Go.Sx.setAll,Go.Sx.leI_eq,ltF,g1,bD,hkind,cU]
   | succ k=>
    rw [fC _ _ _ _ hyz]
    have hd:((16-(k+1):Nat):Int)≠16:=by omega
    have hw:IntKind.i64.wrap (((16-(k+1):Nat):Int)+1)=((16-(k+1):Nat):Int)+1:=am _ (by omega) (by omega)
    have hd1:((16-k:Nat):Int)=((16-(k+1):Nat):Int)+1:=by omega
    have ih:=fun (b:List Bool) (hb:b <:+ bitsB P)=>yx (fl:=fl) h28 k b (by omega) hb
    rw [hd1] at ih
    generalize ((16-(k+1):Nat):Int)=d at*
    have go : ∀ x,TI fl P (brn fl P (8*P.length-(y::z::r).length) 0) d (2*y.toNat+z.toNat:Nat) (8*P.length-r.length) 0 0=some x→Φ 211 [.ref 0 0,.int .i64 d] [so 0,brn fl P (8*P.length-(y::z::r).length) 0]=some x:=by
     intro x hT
     refine wn 5 (ir:=ir211) (by kernel_rfl) rfl ?_ hT
     clear hT ih hw
     generalize 8*P.length-(y::z::r).length=N at*
     generalize 8*P.length-r.length=N1 at*
     generalize 2*y.toNat+z.toNat=kk at*
     simp +contextual (maxSteps:=1000000) [ir211,tkC,ssL,↓ssM,aA,List.idxOf?_cons,Go.Sx.LV.undef,Go.undef,Go.Sx.splice,Go.Sx.push,Go.Sx.setObj,Go.Sx.setU,Go.Sx.setAll,Go.Sx.leI_eq,ltF,g1,bD,hkind,cU,hd]
    clear g1
    have h16 : ∀ (s:List Bool) (x:Id) (t:List Bool),getI k s = .ok x t→x.depth≤16∧t <:+ s∧x.depth≤k:=fun s x t h=>⟨by have:=(gN _ _ _ _ h).1;omega,(gN _ _ _ _ h).2,(gN _ _ _ _ h).1⟩
    have hp : ∀ (le ri:Bool) (i j:Id),(le=true∨ri=true)→okI le ri i j=true→i.depth≤k→j.depth≤k→pairR i j = .node i j:=by
     intro le ri i j hlr hok di dj
     have hpr:Id.pair i j = .node i j:=by
      unfold okI at hok
      simp only [Bool.and_eq_true,beq_iff_eq,Bool.not_eq_true',Bool.and_eq_false_iff,decide_eq_false_iff_not] at hok
      unfold Id.pair
      rw [if_neg (fun h=>by
       rcases hlr with h1|h1
       ·have:=hok.1.1;rw [h1,h.1] at this;simp at this
       ·have:=hok.1.2;rw [h1,h.2] at this;simp at this),if_neg (fun h=>by rcases hok.2 with h2|h2;exact h2 h.1;exact h2 h.2)]
     unfold pairR
     rw [hpr,if_pos (by simp only [Id.depth];omega)]
    have fin : ∀ (le ri:Bool) (i j:Id) (t:List Bool),(le=true∨ri=true)→i.depth≤k→j.depth≤k →
      Φ 211 [.ref 0 0,.int .i64 d] [so 0,brn fl P (8*P.length-(y::z::r).length) 0]=some (.p (pairR i j).pv,[so (if okI le ri i j=true then 0 else 6),brn fl P (8*P.length-t.length) 0]) →
      ISpec fl P d (y::z::r) (if okI le ri i j=true then .ok (.node i j) t else .bad 6):=by
     intro le ri i j t hlr di dj h
     by_cases hok:okI le ri i j=true
     ·rw [if_pos hok] at h ⊢
      rw [hp le ri i j hlr hok di dj] at h
      exact h
     ·rw [if_neg hok] at h ⊢
      exact ⟨_,_,_,c5 i j,h⟩
    have z0:(Id.zero).depth≤16:=by decide
    cases y with
    | true=>
     have hx:=ih r hr
     simp only [Bool.true_or,if_true]
     cases hgx:getI k r with
     | bad c=>
      rw [hgx] at hx
      obtain ⟨x,n,e,dx,hx⟩:=hx
      exact ⟨_,_,_,c5 _ _,go _ (zQ fl P _ d _ hw _ (by cases z;exact .inl rfl;exact .inr rfl) x dx c n e (dV _ _ _ hgx) hx)⟩
     | ok x t=>
      rw [hgx] at hx
      obtain ⟨dx,tx,dxk⟩:=h16 _ _ _ hgx
      cases z with
      | true=>
       have hy:=ih t (tx.trans hr)
       simp only [Rd.then,Bool.or_true,if_true]
       cases hgy:getI k t with
       | bad c=>
        rw [hgy] at hy
        obtain ⟨y,n,e,dy,hy⟩:=hy
        exact ⟨_,_,_,c5 _ _,go _ (zR fl P _ d _ hw x y _ dx dy c n e (dV _ _ _ hgy) hx hy)⟩
       | ok y u=>
        rw [hgy] at hy
        obtain ⟨dy,uy,dyk⟩:=h16 _ _ _ hgy
        exact fin true true x y u (.inl rfl) dxk dyk (go _ (tiB fl P _ d _ hw x y _ _ dx dy hx hy))
      | false=>exact fin true false x .zero t (.inl rfl) dxk (Nat.zero_le _) (go _ (tiL fl P _ d _ hw x _ dx hx))
    | false=>
     obtain rfl:z=true:=by cases z;exact absurd ⟨rfl,rfl⟩ hyz;rfl
     have hy:=ih r hr
     simp only [Bool.false_or,Bool.not_true,Bool.false_eq_true,if_false,Rd.then,Bool.or_true,if_true]
     cases hgy:getI k r with
     | bad c=>
      rw [hgy] at hy
      obtain ⟨y,n,e,dy,hy⟩:=hy
      exact ⟨_,_,_,c5 _ _,go _ (yf fl P _ d _ hw y dy c n e (dV _ _ _ hgy) hy)⟩
     | ok y u=>
      rw [hgy] at hy
      obtain ⟨dy,uy,dyk⟩:=h16 _ _ _ hgy
      exact fin false true .zero y u (.inr rfl) (Nat.zero_le _) dyk (go _ (tiR fl P _ d _ hw y _ dy hy))
end Go.Proofs.YtppeggedcaabkaaGreatDoor
end

section
namespace Go.Proofs.YtppeggedcaabkaaGreatDoor
open Go Go.Sx
def bits8 (b:UInt8):List Bool:=(List.range 8).map fun i=>b.toNat/2^(7-i)%2==1
theorem o6 (b:UInt8) (p:List UInt8):bitsB (b::p)=bits8 b++bitsB p:=by
 unfold bitsB bits8
 rw [List.length_cons,show 8*(p.length+1)=8+8*p.length by omega,List.range_add,List.map_append,List.map_map]
 congr 1
 apply List.map_congr_left
 intro i hi
 simp only [Function.comp,bitN]
 rw [show (8+i)/8=i/8+1 by omega,show (8+i)%8=i%8 by omega,List.getD_cons_succ]
set_option maxRecDepth 100000 in
theorem tV : ∀ l:List Bool,l.length≤8→bits8 (UInt8.ofNat (valL 0 l*2^(8-l.length)))=l++List.replicate (8-l.length) false
 | [],_=>by decide
 | [a],_=>by revert a;decide
 | [a,b],_=>by revert a b;decide
 | [a,b,c],_=>by revert a b c;decide
 | [a,b,c,d],_=>by revert a b c d;decide
 | [a,b,c,d,e],_=>by revert a b c d e;decide
 | [a,b,c,d,e,f],_=>by revert a b c d e f;decide
 | [a,b,c,d,e,f,g],_=>by revert a b c d e f g;decide
 | [a,b,c,d,e,f,g,h],_=>by revert a b c d e f g h;decide
 | _::_::_::_::_::_::_::_::_::_,h=>by simp at h
theorem ll : ∀ f,packL f []=[]
 | 0=>rfl
 | f+1=>by rw [packL,if_pos rfl]
theorem i5 : ∀ (f:Nat) (l:List Bool),l.length≤8*f→∃ k,k<8∧bitsB (packL f l)=l++List.replicate k false
 | 0,l,h=>by
  obtain rfl:l=[]:=List.eq_nil_of_length_eq_zero (by omega)
  exact ⟨0,by decide,rfl⟩
 | f+1,l,h=>by
  by_cases hl:l=[]
  ·subst hl
   exact ⟨0,by decide,by rw [ll];rfl⟩
  have hpos:0<l.length:=List.length_pos_iff.2 hl
  rw [packL,if_neg hl]
  have hb:=tV (l.take 8) (by rw [List.length_take];omega)
  rw [o6,hb]
  by_cases h8:l.length<8
  ·rw [List.drop_of_length_le (by omega),ll,List.take_of_length_le (by omega)]
   exact ⟨8-l.length,by omega,by rw [show bitsB []=[] from rfl,List.append_nil]⟩
  ·obtain ⟨k,hk,e⟩:=i5 f (l.drop 8) (by rw [List.length_drop];omega)
   refine ⟨k,hk,?_⟩
   have e8:8-(l.take 8).length=0:=by rw [List.length_take];omega
   rw [e,e8,List.replicate_zero,List.append_nil,←List.append_assoc,List.take_append_drop]
theorem gb (l:List Bool) : ∃ k,k<8∧bitsB (pack l)=l++List.replicate k false:=by
 have h:=d6 (l.length+1) [] l (by omega)
 have e:pack l=packL (l.length+1) l:=by simpa [pack] using h
 rw [e]
 exact i5 _ _ (by omega)
theorem jJ : ∀ (k x v:Nat),bvA v (bitsOf x k)=v*2^k+x%2^k
 | 0,x,v=>by simp [bitsOf,bvA,Nat.mod_one]
 | k+1,x,v=>by
  rw [bitsOf,bvA,jJ k x,Nat.mod_pow_succ,Nat.pow_succ,Nat.testBit_eq_decide_div_mod_eq]
  have hb:x/2^k%2<2:=Nat.mod_lt _ (by decide)
  generalize x/2^k%2=b at*
  generalize x%2^k=r
  generalize 2^k=P
  rcases (by omega:b=0∨b=1) with rfl|rfl
  ·simp [Nat.mul_comm,Nat.mul_left_comm,Nat.mul_assoc]
  ·have e:(2*v+1)*P=v*(P*2)+P:=by rw [Nat.add_mul,Nat.one_mul,Nat.mul_comm 2 v,Nat.mul_assoc,Nat.mul_comm 2 P]
   simp;omega
theorem rI (w base v:Nat) (r:List Bool) (h:v<2^w) (h2:base+v<2^64):numF w base (bitsOf v w++r)=some (base+v,r):=by
 unfold numF
 have e1:(bitsOf v w++r).take w=bitsOf v w:=by rw [List.take_append_of_le_length (by rw [ae];exact Nat.le_refl _),List.take_of_length_le (by rw [ae];exact Nat.le_refl _)]
 have e2:(bitsOf v w++r).drop w=r:=by rw [List.drop_append_of_le_length (by rw [ae];exact Nat.le_refl _),List.drop_of_length_le (by rw [ae];exact Nat.le_refl _)];rfl
 rw [e1,e2,jJ,Nat.zero_mul,Nat.zero_add,Nat.mod_eq_of_lt h,if_neg (by rw [List.length_append,ae];omega),if_neg (by omega)]
theorem rJ : ∀ (m w base v:Nat) (r:List Bool),m+w=64→base+v<2^64→2^w≤base+4→numR m w base (numBits v w m++r)=some (base+v,r)
 | 0,w,base,v,r,hm,hv,hb=>by
  rw [numBits,List.cons_append,numR]
  exact rI w base v r (by have hw:w=64:=(by omega);subst hw;omega) hv
 | m+1,w,base,v,r,hm,hv,hb=>by
  rw [numBits]
  have hp:0<2^w:=Nat.two_pow_pos w
  have hs:0<v >>> w↔2^w≤v:=by
   rw [Nat.shiftRight_eq_div_pow]
   exact Nat.div_pos_iff.trans ⟨fun h=>h.2,fun h=>⟨hp,h⟩⟩
  by_cases h:0<v >>> w
  ·have h':=hs.1 h
   rw [if_pos h,List.cons_append,numR,rJ m (w+1) (base+2^w) (v-2^w) r (by omega) (by omega) (by rw [Nat.pow_succ];omega)]
   congr 2
   omega
  ·have h':v<2^w:=by
    have:=mt hs.2 h
    omega
   rw [if_neg h,List.cons_append,numR]
   exact rI w base v r h' hv
theorem lg (v:Nat) (h:v≤2^20) (r:List Bool):getN20 (numBits v 2 62++r) = .ok v r:=by
 unfold getN20
 rw [rJ 62 2 0 v r rfl (by omega) (by decide),Nat.zero_add]
 exact if_pos h
theorem lX : ∀ (e:Ev) (k:Nat) (r:List Bool),e.norm→e.max≤2^20→e.depth≤k→getE k (evBits e++r) = .ok e r
 | .leaf n,k,r,hn,hm,hd=>by
  have e:evBits (.leaf n)++r=true::(numBits n 2 62++r):=by rw [evBits,List.append_assoc];rfl
  have e2:getE k (true::(numBits n 2 62++r))=(getN20 (numBits n 2 62++r)).then fun v r=>.ok (.leaf v) r:=by cases k<;>rfl
  rw [e,e2,lg n hm]
  rfl
 | .node n x y,0,r,hn,hm,hd=>by simp only [Ev.depth] at hd;omega
 | .node n x y,k+1,r,hn,hm,hd=>by
  have dx:x.depth≤k:=by simp only [Ev.depth] at hd;omega
  have dy:y.depth≤k:=by simp only [Ev.depth] at hd;omega
  have mx:x.max≤2^20:=by have:=Ev.max_l n x y;omega
  have my:y.max≤2^20:=by have:=Ev.max_r n x y;omega
  have mn:n≤2^20:=by simp only [Ev.max] at hm;omega
  obtain ⟨nx,ny,h0,hs⟩:=hn
  have ix:=fun r=>lX x k r nx mx dx
  have iy:=fun r=>lX y k r ny my dy
  have hxy : ¬(x = .leaf 0∧y = .leaf 0):=by
   rintro ⟨rfl,rfl⟩
   exact hs ⟨rfl,rfl,rfl⟩
  have hh : ∀ s,hdE (evKind n (decide (x = .leaf 0)) (decide (y = .leaf 0))++((if n=0 then [] else numBits n 2 62)++s)) = .ok (!decide (x = .leaf 0),!decide (y = .leaf 0),n) s:=by
   intro s
   unfold evKind
   by_cases hn0:n=0
   ·subst hn0
    by_cases h1:x = .leaf 0
    ·have h2 : ¬y = .leaf 0:=fun h=>hxy ⟨h1,h⟩
     simp [h1,h2,bitsOf,hdE]
    ·by_cases h2:y = .leaf 0<;>simp [h1,h2,bitsOf,hdE,Nat.testBit]
   ·have g:=lg n mn s
    by_cases h1:x = .leaf 0
    ·have h2 : ¬y = .leaf 0:=fun h=>hxy ⟨h1,h⟩
     simp [h1,h2,bitsOf,hdE,hn0,Nat.testBit,g,Rd.then]
    ·by_cases h2:y = .leaf 0<;>simp [h1,h2,bitsOf,hdE,hn0,Nat.testBit,g,Rd.then]
  have eb:evBits (.node n x y)++r=false::(evKind n (decide (x = .leaf 0)) (decide (y = .leaf 0))++((if n=0 then [] else numBits n 2 62)++((if x = .leaf 0 then [] else evBits x)++((if y = .leaf 0 then [] else evBits y)++r)))):=by
   rw [evBits]
   simp only [List.append_assoc]
   rfl
  have ok:okE (!decide (x = .leaf 0)) (!decide (y = .leaf 0)) x y=true:=by
   unfold okE
   simp only [Bool.and_eq_true,Bool.not_not,beq_self_eq_true,true_and,Bool.not_eq_true',decide_eq_true_eq]
   refine ⟨by omega,?_⟩
   simpa using fun h1 h2 h3=>hs ⟨h1,h2,h3⟩
  rw [eb,getE,hh]
  simp only [Rd.then]
  by_cases h1:x = .leaf 0
  ·have h2 : ¬y = .leaf 0:=fun h=>hxy ⟨h1,h⟩
   simp only [h1,h2,decide_true,decide_false,Bool.not_true,Bool.not_false,Bool.false_eq_true,if_false,if_true,List.nil_append] at ok ⊢
   rw [iy]
   simp only [ok,if_true]
   rw [if_pos (by rw [←h1];exact hm)]
  ·simp only [h1,decide_false,Bool.not_false,if_true,if_false] at ok ⊢
   rw [ix]
   simp only []
   by_cases h2:y = .leaf 0
   ·simp only [h2,decide_true,Bool.not_true,Bool.false_eq_true,if_false,if_true,List.nil_append] at ok ⊢
    simp only [ok,if_true]
    rw [if_pos (by rw [←h2];exact hm)]
   ·simp only [h2,decide_false,Bool.not_false,if_true,if_false] at ok ⊢
    rw [iy]
    simp only [ok,if_true]
    rw [if_pos hm]
theorem lY : ∀ (i:Id) (k:Nat) (r:List Bool),i.norm→i.depth≤k→getI k (idBits i++r) = .ok i r
 | .zero,k,r,hn,hd=>by cases k<;>rfl
 | .one,k,r,hn,hd=>by cases k<;>rfl
 | .node x y,0,r,hn,hd=>by simp only [Id.depth] at hd;omega
 | .node x y,k+1,r,hn,hd=>by
  have dx:x.depth≤k:=by simp only [Id.depth] at hd;omega
  have dy:y.depth≤k:=by simp only [Id.depth] at hd;omega
  obtain ⟨nx,ny,h0,h1⟩:=hn
  have ix:=fun r=>lY x k r nx dx
  have iy:=fun r=>lY y k r ny dy
  have ok:okI (!decide (x = .zero)) (!decide (y = .zero)) x y=true:=by
   unfold okI
   simp only [Bool.and_eq_true,Bool.not_not,beq_self_eq_true,true_and,Bool.not_eq_true']
   simpa using fun h2 h3=>h1 ⟨h2,h3⟩
  rw [idBits]
  by_cases hx:x = .zero
  ·have hy : ¬y = .zero:=fun h=>h0 ⟨hx,h⟩
   rw [if_pos hx]
   have e:bitsOf 1 2++idBits y++r=false::true::(idBits y++r):=rfl
   rw [e,fC _ _ _ _ (by simp)]
   simp only [hx,hy,decide_true,decide_false,Bool.not_true,Bool.not_false,Bool.or_true,Bool.or_false,Bool.false_eq_true,if_false,if_true,Rd.then] at ok ⊢
   rw [iy]
   simp only [ok,if_true]
  ·rw [if_neg hx]
   by_cases hy:y = .zero
   ·rw [if_pos hy]
    have e:bitsOf 2 2++idBits x++r=true::false::(idBits x++r):=rfl
    rw [e,fC _ _ _ _ (by simp)]
    simp only [hx,hy,decide_true,decide_false,Bool.not_true,Bool.not_false,Bool.or_true,Bool.or_false,Bool.false_eq_true,if_false,if_true,Rd.then] at ok ⊢
    rw [ix]
    simp only [ok,if_true]
   ·rw [if_neg hy]
    have e:bitsOf 3 2++idBits x++idBits y++r=true::true::(idBits x++(idBits y++r)):=by simp only [List.append_assoc];rfl
    rw [e,fC _ _ _ _ (by simp)]
    simp only [hx,hy,decide_false,Bool.not_true,Bool.not_false,Bool.or_true,Bool.true_or,if_true,Rd.then] at ok ⊢
    rw [ix]
    simp only []
    rw [iy]
    simp only [ok,if_true]
theorem wl (k:Nat) (h:k<8):wEnd (List.replicate k false) 0=0:=by
 unfold wEnd
 rw [if_pos rfl,if_neg]
 simp
 omega
end Go.Proofs.YtppeggedcaabkaaGreatDoor
end

section
namespace Go.Proofs.YtppeggedcaabkaaGreatDoor
open Go Go.Sx
theorem yn (fl p) (h30:p.length<2^31):Φ 149 [sB fl p] []=some (.ref 0 0,[brn p.isEmpty p 0 0]):=by
 refine aL (ir:=ir149) (by kernel_rfl) ?_;simp +contextual (maxSteps:=1000000) [ir149,ssL,↓ssM,aA,ssU,ssR,lO p fl h30]
section
variable {fl:Bool} {P:List UInt8} (h28:P.length<2^28) {b:List Bool} (hb:b <:+ bitsB P)
include h28 hb
theorem Aa:(match getE 16 b with
  | .ok x r=>Φ 150 [.ref 0 0] [br fl P b 0]=some (.tuple [.p x.pv,.int .i64 0],[br fl P r 0])
  | .bad c=>∃ n e,Φ 150 [.ref 0 0] [br fl P b 0]=some (.tuple [.p (Ev.leaf 0).pv,.int .i64 c],[brn fl P n e])):=by
 have g:=yp (fl:=fl) h28 16 b (by decide) hb
 unfold EvSpec at g
 unfold br
 generalize 8*P.length-b.length=N at*
 cases hg:getE 16 b with
 | ok x r=>
  rw [hg] at g
  simp only [Nat.sub_self,Int.natCast_zero,Ev.pv] at g ⊢
  generalize 8*P.length-r.length=N1 at*
  generalize x.ptr=px at*
  generalize x.n=nx at*
  refine aL (ir:=ir150) (by kernel_rfl) ?_;simp +contextual (maxSteps:=1000000) [ir150,ssL,↓ssM,aA,ssU,ssR,g]
 | bad c=>
  have hc:=dU _ _ _ hg
  rw [hg] at g
  obtain ⟨n,e,g⟩:=g
  simp only [Nat.sub_self,Int.natCast_zero,Ev.pv,Ev.n_l,Ev.ptr_l] at g ⊢
  refine ⟨n,e,?_⟩
  refine aL (ir:=ir150) (by kernel_rfl) ?_;simp +contextual (maxSteps:=1000000) [ir150,ssL,↓ssM,aA,ssU,ssR,g,hc]
theorem Af:(match getI 16 b with
  | .ok x r=>Φ 180 [.ref 0 0] [br fl P b 0]=some (.tuple [.p x.pv,.int .i64 0],[br fl P r 0])
  | .bad c=>∃ n e,Φ 180 [.ref 0 0] [br fl P b 0]=some (.tuple [.p Id.zero.pv,.int .i64 c],[brn fl P n e])):=by
 have g:=yx (fl:=fl) h28 16 b (by decide) hb
 unfold ISpec at g
 unfold br
 generalize 8*P.length-b.length=N at*
 cases hg:getI 16 b with
 | ok x r=>
  rw [hg] at g
  simp only [Nat.sub_self,Int.natCast_zero,Id.pv] at g ⊢
  generalize 8*P.length-r.length=N1 at*
  generalize x.ptr=px at*
  generalize x.all=nx at*
  refine aL (ir:=ir180) (by kernel_rfl) ?_;simp +contextual (maxSteps:=1000000) [ir180,ssL,↓ssM,aA,ssU,ssR,g,cU]
 | bad c=>
  have hc:=dV _ _ _ hg
  rw [hg] at g
  obtain ⟨y,n,e,_,g⟩:=g
  simp only [Nat.sub_self,Int.natCast_zero,Id.pv,Id.all_z,Id.ptr_z] at g ⊢
  refine ⟨n,e,?_⟩
  refine aL (ir:=ir180) (by kernel_rfl) ?_;simp +contextual (maxSteps:=1000000) [ir180,ssL,↓ssM,aA,ssU,ssR,g,hc,cU,Id.all_z,Id.ptr_z]
theorem wQ (x:PV) (n:Int):Φ 151 [.ref 0 0,.p (.agg [.s (.int .u64 n),x]),.int .i64 0] [br fl P b 0]=if wEnd b 0=0 then some (.tuple [.p (.agg [.s (.int .u64 n),x]),.int .i64 0],[br fl P b 0]) else some (.tuple [.p (Ev.leaf 0).pv,.int .i64 (wEnd b 0)],[br fl P b (wEnd b 0)]):=by
 have g:=ym fl P b 0 h28 hb
 simp only [Ev.pv,Ev.n_l,Ev.ptr_l,Int.natCast_zero]
 unfold br at*
 generalize 8*P.length-b.length=N at*
 by_cases h:wEnd b 0=0
 ·rw [if_pos h];rw [h] at g
  refine aL (ir:=ir151) (by kernel_rfl) ?_;simp +contextual (maxSteps:=1000000) [ir151,ssL,↓ssM,aA,ssU,ssR,g]
 ·rw [if_neg h]
  generalize wEnd b 0=w at*
  refine aL (ir:=ir151) (by kernel_rfl) ?_;simp +contextual (maxSteps:=1000000) [ir151,ssL,↓ssM,aA,ssU,ssR,g,h]
theorem wY (x:PV) (n:Bool):Φ 181 [.ref 0 0,.p (.agg [.s (.bool n),x]),.int .i64 0] [br fl P b 0]=if wEnd b 0=0 then some (.tuple [.p (.agg [.s (.bool n),x]),.int .i64 0],[br fl P b 0]) else some (.tuple [.p Id.zero.pv,.int .i64 (wEnd b 0)],[br fl P b (wEnd b 0)]):=by
 have g:=ym fl P b 0 h28 hb
 simp only [Id.pv,Id.all_z,Id.ptr_z]
 unfold br at*
 generalize 8*P.length-b.length=N at*
 by_cases h:wEnd b 0=0
 ·rw [if_pos h];rw [h] at g
  refine aL (ir:=ir181) (by kernel_rfl) ?_;simp +contextual (maxSteps:=1000000) [ir181,ssL,↓ssM,aA,ssU,ssR,g]
 ·rw [if_neg h]
  generalize wEnd b 0=w at*
  refine aL (ir:=ir181) (by kernel_rfl) ?_;simp +contextual (maxSteps:=1000000) [ir181,ssL,↓ssM,aA,ssU,ssR,g,h]
end
theorem uk (fl P n e) (x:PV) (v c:Int) (hc:c≠0):Φ 151 [.ref 0 0,.p (.agg [.s (.int .u64 v),x]),.int .i64 c] [brn fl P n e]=some (.tuple [.p (Ev.leaf 0).pv,.int .i64 c],[brn fl P n e]):=by
 refine aL (ir:=ir151) (by kernel_rfl) ?_;simp +contextual (maxSteps:=1000000) [ir151,ssL,↓ssM,aA,ssU,ssR,hc,Ev.n_l,Ev.ptr_l]
theorem uK (fl P n e) (x:PV) (v:Bool) (c:Int) (hc:c≠0):Φ 181 [.ref 0 0,.p (.agg [.s (.bool v),x]),.int .i64 c] [brn fl P n e]=some (.tuple [.p Id.zero.pv,.int .i64 c],[brn fl P n e]):=by
 refine aL (ir:=ir181) (by kernel_rfl) ?_;simp +contextual (maxSteps:=1000000) [ir181,ssL,↓ssM,aA,ssU,ssR,hc,Id.all_z,Id.ptr_z]
def rdE (p:List UInt8):Ev × Int:=match getE 16 (bitsB p) with
 | .ok x r=>if wEnd r 0=0 then (x,0) else (.leaf 0,wEnd r 0)
 | .bad c=>(.leaf 0,c)
def rdI (p:List UInt8):Id × Int:=match getI 16 (bitsB p) with
 | .ok x r=>if wEnd r 0=0 then (x,0) else (.zero,wEnd r 0)
 | .bad c=>(.zero,c)
theorem fL (fl) (p:List UInt8) (h28:p.length<2^28):Ψ 100 [sB fl p] []=some (.tuple [.p (rdE p).1.pv,.int .i64 (rdE p).2]):=by
 have nw:=yn fl p (by omega)
 have g:=Aa (fl:=p.isEmpty) h28 (List.suffix_refl (bitsB p))
 have e0:8*p.length-(bitsB p).length=0:=by rw [dS];omega
 unfold rdE
 unfold br at g
 rw [e0] at g
 simp only [brn,Int.natCast_zero] at g nw
 cases hg:getE 16 (bitsB p) with
 | ok x r=>
  rw [hg] at g
  have hr:=(gM _ _ _ _ hg).2.2.2
  have w:=wQ (fl:=p.isEmpty) h28 hr
  unfold br at w
  simp only [Ev.pv,Id.pv] at g ⊢
  generalize 8*p.length-r.length=N1 at*
  by_cases h:wEnd r 0=0
  ·simp only [if_pos h] at w ⊢
   generalize x.ptr=px at*
   generalize x.n=nx at*
   refine cK (ir:=ir100) (by kernel_rfl) ?_;simp +contextual (maxSteps:=1000000) [ir100,ssL,↓ssM,aA,ssU,ssR,nw,g,w]
  ·simp only [if_neg h,Ev.pv,Ev.n_l,Ev.ptr_l,Int.natCast_zero] at w ⊢
   generalize x.ptr=px at*
   generalize x.n=nx at*
   generalize wEnd r 0=ww at*
   refine cK (ir:=ir100) (by kernel_rfl) ?_;simp +contextual (maxSteps:=1000000) [ir100,ssL,↓ssM,aA,ssU,ssR,nw,g,w]
 | bad c=>
  rw [hg] at g
  obtain ⟨n,e,g⟩:=g
  have w:=fun fl P n e x v=>uk fl P n e x v c (dU _ _ _ hg)
  simp only [Ev.pv,Ev.n_l,Ev.ptr_l,Int.natCast_zero] at g w ⊢
  refine cK (ir:=ir100) (by kernel_rfl) ?_;simp +contextual (maxSteps:=1000000) [ir100,ssL,↓ssM,aA,ssU,ssR,nw,g,w]
theorem zJ (fl) (p:List UInt8) (h28:p.length<2^28):Ψ 148 [sB fl p] []=some (.tuple [.p (rdI p).1.pv,.int .i64 (rdI p).2]):=by
 have nw:=yn fl p (by omega)
 have g:=Af (fl:=p.isEmpty) h28 (List.suffix_refl (bitsB p))
 have e0:8*p.length-(bitsB p).length=0:=by rw [dS];omega
 unfold rdI
 unfold br at g
 rw [e0] at g
 simp only [brn,Int.natCast_zero] at g nw
 cases hg:getI 16 (bitsB p) with
 | ok x r=>
  rw [hg] at g
  have hr:=(gN _ _ _ _ hg).2
  have w:=wY (fl:=p.isEmpty) h28 hr
  unfold br at w
  simp only [Ev.pv,Id.pv] at g ⊢
  generalize 8*p.length-r.length=N1 at*
  by_cases h:wEnd r 0=0
  ·simp only [if_pos h] at w ⊢
   generalize x.ptr=px at*
   generalize x.all=nx at*
   refine cK (ir:=ir148) (by kernel_rfl) ?_;simp +contextual (maxSteps:=1000000) [ir148,ssL,↓ssM,aA,ssU,ssR,nw,g,w]
  ·simp only [if_neg h,Id.pv,Id.all_z,Id.ptr_z] at w ⊢
   generalize x.ptr=px at*
   generalize x.all=nx at*
   generalize wEnd r 0=ww at*
   refine cK (ir:=ir148) (by kernel_rfl) ?_;simp +contextual (maxSteps:=1000000) [ir148,ssL,↓ssM,aA,ssU,ssR,nw,g,w]
 | bad c=>
  rw [hg] at g
  obtain ⟨n,e,g⟩:=g
  have w:=fun fl P n e x v=>uK fl P n e x v c (dV _ _ _ hg)
  simp only [Id.pv,Id.all_z,Id.ptr_z] at g w ⊢
  refine cK (ir:=ir148) (by kernel_rfl) ?_;simp +contextual (maxSteps:=1000000) [ir148,ssL,↓ssM,aA,ssU,ssR,nw,g,w]
end Go.Proofs.YtppeggedcaabkaaGreatDoor
end

section
namespace Go.Proofs.YtppeggedcaabkaaGreatDoor
open Go Go.Sx
theorem mE (e:Ev) (hn:e.norm) (hm:e.max≤2^20) (hd:e.depth≤16):rdE (pack (evBits e))=(e,0):=by
 obtain ⟨k,hk,h⟩:=gb (evBits e)
 unfold rdE
 rw [h,lX e 16 _ hn hm hd]
 simp only [wl k hk,if_true]
theorem zI (i:Id) (hn:i.norm) (hd:i.depth≤16):rdI (pack (idBits i))=(i,0):=by
 obtain ⟨k,hk,h⟩:=gb (idBits i)
 unfold rdI
 rw [h,lY i 16 _ hn hd]
 simp only [wl k hk,if_true]
theorem sE (n:Nat) (h:n<2^64) (r:List UInt8):wNum (vnum n++r) 0=(n,r,0):=by
 unfold wNum
 rw [if_pos rfl,xR n h]
theorem wm (most:Nat) (s r:List UInt8) (h:s.length≤most) (hm:most<2^31):wText most (txt s++r) 0=(s,r,0):=by
 unfold wText txt
 rw [if_pos rfl,List.append_assoc,sE _ (by omega)]
 simp only [if_true]
 rw [if_neg (by omega),if_neg (by rw [List.length_append];omega),List.take_append_of_le_length (Nat.le_refl _),List.take_length,List.drop_append_of_le_length (Nat.le_refl _),List.drop_length]
 rfl
theorem wk (b:UInt8) (r:List UInt8):wByte (b::r) 0=(b,r,0):=by simp [wByte]
theorem bL (l:List UInt8):(l.map fun x:UInt8=>PV.s (.int .u8 x.toNat))=bytP l:=rfl
theorem bsz (l:List UInt8):ByteArray.size ⟨l.toArray⟩=l.length:=rfl
section
variable (fl:Bool) (r:List UInt8)
theorem dH (n:Nat) (h:n<2^64) (hl:(vnum n++r).length<2^31):Φ 98 [.ref 0 0] [wi fl (vnum n++r) 0]=some (.int .u64 n,[wi fl r 0]):=by
 have g:=yy fl (vnum n++r) 0 hl
 rw [sE n h] at g
 exact g
theorem da (most:Nat) (s:List UInt8) (h:s.length≤most) (hm:most<2^31) (hl:(txt s++r).length<2^31):Φ 101 [.ref 0 0,.int .i64 most] [wi fl (txt s++r) 0]=some (.str ⟨s.toArray⟩,[wi fl r 0]):=by
 have g:=y9 fl most (txt s++r) 0 hl hm
 rw [wm most s r h hm] at g
 exact g
theorem gQ (b:UInt8):Φ 96 [.ref 0 0] [wi fl (b::r) 0]=some (.int .u8 b.toNat,[wi fl r 0]):=by
 have g:=y7 fl (b::r) 0
 rw [wk] at g
 exact g
end
end Go.Proofs.YtppeggedcaabkaaGreatDoor
end

section
namespace Go.Proofs.YtppeggedcaabkaaGreatDoor
open Go Go.Sx
section
variable (fl:Bool) (r:List UInt8)
theorem rK (n:Nat) (h:n<2^31) (hl:(vnum n++r).length<2^31):Φ 147 [.ref 0 0] [wi fl (vnum n++r) 0]=some (.int .i64 n,[wi fl r 0]):=by
 have g:=dH fl r n (by omega) hl
 have h1 : ¬2147483648≤n:=by omega
 have h2 : ¬(2147483648:Int)≤n:=by omega
 have h3:(n:Int)<2147483648:=by omega
 have h4:IntKind.i64.wrap (n:Int)=n:=am _ (by omega) (by omega)
 generalize vnum n++r=p at*
 generalize p.length=N at*
 generalize r.length=M at*
 refine aL (ir:=ir147) (by kernel_rfl) ?_;simp +contextual (maxSteps:=1000000) [ir147,ssL,↓ssM,aA,ssU,ssR,g,h1,h2,h3,h4]
theorem uG (g:Gft) (f t:Nat) (hf:g.fr=f) (ht:g.to=t) (h1:g.no<2^64) (h2:f<2^31) (h3:t<2^31) (hn:g.sh.norm) (hd:g.sh.depth≤16) (hs:(pack (idBits g.sh)).length≤4096) (hl:(g.bytes++r).length<2^31):
  Φ 99 [.ref 0 0] [wi fl (g.bytes++r) 0]=some (.p g.pv,[wi fl r 0]):=by
 obtain ⟨no,fr,to,sh⟩:=g
 subst hf ht
 have e:Gft.bytes ⟨no,f,t,sh⟩++r=vnum no++(vnum f++(vnum t++(txt (pack (idBits sh))++r))):=by simp [Gft.bytes]
 rw [e] at hl ⊢
 simp only [] at h1 hn hd hs
 have g1:=dH fl (vnum f++(vnum t++(txt (pack (idBits sh))++r))) no h1 hl
 have l1:(vnum f++(vnum t++(txt (pack (idBits sh))++r))).length<2^31:=by rw [List.length_append] at hl;omega
 have g2:=rK fl (vnum t++(txt (pack (idBits sh))++r)) f h2 l1
 have l2:(vnum t++(txt (pack (idBits sh))++r)).length<2^31:=by rw [List.length_append] at l1;omega
 have g3:=rK fl (txt (pack (idBits sh))++r) t h3 l2
 have l3:(txt (pack (idBits sh))++r).length<2^31:=by rw [List.length_append] at l2;omega
 have g4:=da fl r 4096 (pack (idBits sh)) hs (by decide) l3
 have g5:=fun fl=>zJ fl (pack (idBits sh)) (by omega)
 rw [zI sh hn hd] at g5
 simp only [Int.cast_ofNat_Int] at g4
 simp only [Gft.pv,Id.pv] at g5 ⊢
 clear e hl l1 l2 l3 hs
 generalize vnum no++(vnum f++(vnum t++(txt (pack (idBits sh))++r)))=p0 at*
 generalize vnum f++(vnum t++(txt (pack (idBits sh))++r))=p1 at*
 generalize vnum t++(txt (pack (idBits sh))++r)=p2 at*
 generalize txt (pack (idBits sh))++r=p3 at*
 generalize pack (idBits sh)=q at*
 generalize sh.ptr=ps at*
 generalize sh.all=al at*
 have e1:=cd fl r 0
 generalize p0.length=N0 at*
 generalize p1.length=N1 at*
 generalize p2.length=N2 at*
 generalize p3.length=N3 at*
 generalize r.length=N4 at*
 refine aL (ir:=ir99) (by kernel_rfl) ?_;simp +contextual (maxSteps:=1000000) [ir99,ssL,↓ssM,aA,ssU,ssR,g1,g2,g3,g4,g5,e1,bL,bsz]
end
end Go.Proofs.YtppeggedcaabkaaGreatDoor
end

section
namespace Go.Proofs.YtppeggedcaabkaaGreatDoor
open Go Go.Sx
theorem Ak (fl:Bool):Ψ 24 [.p (.sl ann 1 3 fl)] []=some (.tuple [.p (.agg [.sl ann 1 3 false]),.int .i64 0]):=by
 cases fl
 ·exact cQ (n:=40) (by kernel_rfl)
 ·exact cQ (n:=40) (by kernel_rfl)
theorem zg:Ψ 24 [.p (.s (.slice none 0 0))] []=some (.tuple [.p (.agg [.s (.slice none 0 0)]),.int .i64 0]):=cQ (n:=40) (by kernel_rfl)
theorem tO:Ψ 69 [.p (.agg ann)] []=some (.int .i64 0):=cQ (n:=40) (by kernel_rfl)
theorem w0:IntKind.u64.wrap 0=0:=rfl
theorem wi1:IntKind.i64.wrap 1=1:=rfl
theorem w1:IntKind.u64.wrap 1=1:=rfl
abbrev zC:Ob:=some (.cells [.p (.s (.slice none 0 0))])
abbrev annO:Ob:=some (.cells (ann.map .p))
theorem uC (c:Ctx) (hO:c.O=Ω) (hnx:c.nx=1) (fl:Bool) (r:List UInt8) (n:Nat) (x:LV) (l:List (Ob)) (hx:x = .p (.s (.slice none 0 0))∧n=0∧l=[zC]∨x = .arr 2 0 1 3 1 false∧n=1∧l=[zC,annO]):
  run c (.loop ir184_0) ⟨[(0,.ref 0 0),(2,.ref 1 0),(3,.int .u64 n),(4,x)],⟨[(0,wi fl r 0)],l⟩⟩=some (.exit 0,⟨[(0,.ref 0 0),(2,.ref 1 0),(4,x)],⟨[(0,wi fl r 0)],l⟩⟩):=by
 have e:=cd fl r 0
 rw [cm]
 generalize IRC.loop ir184_0=LB at*
 rcases hx with ⟨rfl,rfl,rfl⟩|⟨rfl,rfl,rfl⟩
 all_goals
 simp +contextual (maxSteps:=1000000) [ir184_0,ssL,↓ssM,aA,ssU,ssR,hO,hnx,e,w0,w1]
section
variable (fl:Bool) (r:List UInt8) (hl:(0::r).length<2^31) (hl':(crdB true++r).length<2^31)
include hl in
theorem uE:Φ 184 [.ref 0 0] [wi fl (0::r) 0]=some (.p (.agg [.s (.slice none 0 0)]),[wi fl r 0]):=by
 have g1:=dH fl r 0 (by decide) (by rw [←pa];exact hl)
 rw [←pa,show crdB false=[0] from rfl] at g1
 have lo:=uC ⟨Ω,noG,hpL [wi fl (0::r) 0],1⟩ rfl rfl fl r 0 _ _ (.inl ⟨rfl,rfl,rfl⟩)
 have e:=cd fl r 0
 simp only [Int.natCast_zero,List.singleton_append] at g1 lo
 generalize (0::r)=p0 at*
 refine aL (ir:=ir184) (by kernel_rfl) ?_;simp +contextual (maxSteps:=1000000) [ir184,ssL,↓ssM,aA,ssU,ssR,g1,lo,e,zg]
include hl' in
theorem uD:Φ 184 [.ref 0 0] [wi fl (crdB true++r) 0]=some (.p (.agg [.sl ann 1 3 false]),[wi fl r 0]):=by
 rw [t9] at hl' ⊢
 have e0:vnum 1++[1]++txt []++txt [65,110,110]++r=vnum 1++(1::(txt []++(txt [65,110,110]++r))):=by simp
 rw [e0] at hl' ⊢
 have l1:(txt []++(txt [65,110,110]++r)).length<2^31:=by rw [List.length_append,List.length_cons] at hl';omega
 have l2:(txt [65,110,110]++r).length<2^31:=by rw [List.length_append] at l1;omega
 have g1:=dH fl (1::(txt []++(txt [65,110,110]++r))) 1 (by decide) hl'
 have g2:=gQ fl (txt []++(txt [65,110,110]++r)) 1
 have g3:=da fl (txt [65,110,110]++r) 12 [] (by decide) (by decide) l1
 have g4:=da fl r 40 [65,110,110] (by decide) (by decide) l2
 have e1:=fun p=>cd fl p 0
 have lo:=fun c hO hnx=>uC c hO hnx fl r 1 _ _ (.inr ⟨rfl,rfl,rfl⟩)
 simp only [Int.natCast_one,Int.cast_ofNat_Int,show (1:UInt8).toNat=1 from rfl] at g1 g2 g3 g4 lo
 clear e0 hl' l1 l2
 generalize vnum 1++(1::(txt []++(txt [65,110,110]++r)))=p0 at*
 generalize 1::(txt []++(txt [65,110,110]++r))=p1 at*
 generalize txt []++(txt [65,110,110]++r)=p2 at*
 generalize txt [65,110,110]++r=p3 at*
 have lo':run ⟨Ω,noG,hpL [wi fl p0 0],1⟩ (.loop ir184_0) ⟨[(0,.ref 0 0),(2,.ref 1 0),(3,.int .u64 1),(4,.p (.s (.slice none 0 0)))],⟨[(0,wi fl p1 0)],[zC]⟩⟩=some (.exit 0,⟨[(0,.ref 0 0),(2,.ref 1 0),(4,.arr 2 0 1 3 1 false)],⟨[(0,wi fl r 0)],[zC,annO]⟩⟩):=by
  have lo:=lo ⟨Ω,noG,hpL [wi fl p0 0],1⟩ rfl rfl
  rw [cm]
  generalize IRC.loop ir184_0=LB at*
  simp +contextual (maxSteps:=1000000) [ir184_0,ssL,↓ssM,aA,ssU,ssR,g2,g3,g4,e1,w0,w1,wi1,tO]
  exact lo
 refine aL (ir:=ir184) (by kernel_rfl) ?_;simp +contextual (maxSteps:=1000000) [ir184,ssL,↓ssM,aA,ssU,ssR,g1,lo',e1,Ak]
end
end Go.Proofs.YtppeggedcaabkaaGreatDoor
end

section
namespace Go.Proofs.YtppeggedcaabkaaGreatDoor
open Go Go.Sx
theorem uF (a fl:Bool) (r:List UInt8) (hl:(crdB a++r).length<2^31):Φ 184 [.ref 0 0] [wi fl (crdB a++r) 0]=some (.p (.agg [crd a false]),[wi fl r 0]):=by
 cases a
 ·exact uE fl r hl
 ·exact uD fl r hl
structure Vsn.Fit (v:Vsn):Prop where
 n:v.ev.norm
 m:v.ev.max≤2^20
 d:v.ev.depth≤16
 l:(pack (evBits v.ev)).length≤4096
 g:v.gone=true→v.nm=false
theorem mF (v:Vsn) (fl:Bool) (hf:v.Fit):Ψ 152 [sB fl v.bytes] []=some (.tuple [.p (v.pv false),.int .i64 0]):=by
 obtain ⟨ev,nm,gone⟩:=v
 obtain ⟨hn,hm,hd,hp,hg⟩:=hf
 simp only [] at hn hm hd hp hg
 have lt:=io (pack (evBits ev)) (by omega)
 have lb:(Vsn.bytes ⟨ev,nm,gone⟩).length<2^31:=by
  unfold Vsn.bytes
  rw [List.length_append]
  have:(if gone=true then [1] else 0::crdB nm).length≤10:=by cases gone<;>cases nm<;>decide
  simp only [] at this ⊢
  omega
 have g0:=Ag fl _ lb
 have g2:=fun fl=>fL fl (pack (evBits ev)) (by omega)
 rw [mE ev hn hm hd] at g2
 cases gone with
 | true=>
  obtain rfl:=hg rfl
  have e:Vsn.bytes ⟨ev,false,true⟩=txt (pack (evBits ev))++[1]:=rfl
  rw [e] at g0 lb ⊢
  have g1:=fun fl=>da fl [1] 4096 (pack (evBits ev)) hp (by decide) lb
  have g3:=fun fl=>gQ fl [] 1
  have e1:=fun fl p=>cd fl p 0
  have e2:=fun fl p=>bG fl p 0 0
  have e3:=fun fl=>uL fl [] 0
  simp only [Int.cast_ofNat_Int,Vsn.pv,Ev.pv,show (1:UInt8).toNat=1 from rfl,ne_eq,not_true_eq_false,and_false,if_false,if_true,Int.natCast_one] at g1 g2 g3 e2 e3 ⊢
  clear e lb lt
  generalize (txt (pack (evBits ev))++[1]).isEmpty=fl2 at*
  generalize txt (pack (evBits ev))++[1]=p0 at*
  generalize [(1:UInt8)]=p1 at*
  generalize ([]:List UInt8)=p2 at*
  generalize pack (evBits ev)=q at*
  generalize ev.n=n at*
  generalize ev.ptr=x at*
  refine cK (ir:=ir152) (by kernel_rfl) ?_;simp +contextual (maxSteps:=1000000) [ir152,ssL,↓ssM,aA,ssU,ssR,g0,g1,g2,g3,e1,e2,e3,bL,bsz,eL]
 | false=>
  have e:Vsn.bytes ⟨ev,nm,false⟩=txt (pack (evBits ev))++(0::crdB nm):=rfl
  rw [e] at g0 lb ⊢
  have g1:=fun fl=>da fl (0::crdB nm) 4096 (pack (evBits ev)) hp (by decide) lb
  have g3:=fun fl=>gQ fl (crdB nm) 0
  have g4:=fun fl=>uF nm fl [] (by cases nm<;>decide)
  have e1:=fun fl p=>cd fl p 0
  have e2:=fun fl p=>bG fl p 0 0
  have e3:=fun fl=>uL fl [] 0
  simp only [Int.cast_ofNat_Int,Vsn.pv,Ev.pv,show (0:UInt8).toNat=0 from rfl,ne_eq,not_true_eq_false,and_false,if_false,if_true,Int.natCast_zero,List.append_nil] at g1 g2 g3 g4 e2 e3 ⊢
  clear e lb lt
  generalize (txt (pack (evBits ev))++(0::crdB nm)).isEmpty=fl2 at*
  generalize txt (pack (evBits ev))++(0::crdB nm)=p0 at*
  generalize 0::crdB nm=p1 at*
  generalize crdB nm=p2 at*
  generalize ([]:List UInt8)=p3 at*
  generalize pack (evBits ev)=q at*
  generalize ev.n=n at*
  generalize ev.ptr=x at*
  generalize crd nm false=cc at*
  refine cK (ir:=ir152) (by kernel_rfl) ?_;simp +contextual (maxSteps:=1000000) [ir152,ssL,↓ssM,aA,ssU,ssR,g0,g1,g2,g3,g4,e1,e2,e3,bL,bsz]
end Go.Proofs.YtppeggedcaabkaaGreatDoor
end

section
namespace Go.Proofs.YtppeggedcaabkaaGreatDoor
open Go Go.Sx
theorem lA (f:Ent→List PV) (x:Ent) : ∀ l,rows f (l++[x])=rows f l++f x
 | []=>by simp [rows]
 | y::l=>by rw [List.cons_append,rows,lA f x l,rows,List.append_assoc]
inductive GS (L:List Ent):LV→List (Ob)→Prop
 | nil:L=[]→GS L (.p (.s (.slice none 0 0))) []
 | one:L≠[]→GS L (.arr 1 0 L.length 5 L.length false) [some (.cells (pc (rows (Ent.row false) L)))]
 | two:L≠[]→GS L (.arr 2 0 L.length 5 L.length false) [none,some (.cells (pc (rows (Ent.row false) L)))]
structure Ent.Fit (x:Ent):Prop where
 i:x.id<2^32
 v:x.v.Fit
 l:x.v.bytes.length≤8192
section
variable (fl:Bool) (r:List UInt8) (p0:List UInt8)
theorem y6 (L0:List Ent) (x:LV) (l:List (Ob)) (g:GS L0 x l):
  ∃ x' l',run ⟨Ω,noG,hpL [wi fl p0 0],1⟩ (.loop ir102_0) ⟨[(0,.ref 0 0),(3,x),(4,.int .u64 0)],⟨[(0,wi fl r 0)],l⟩⟩=some (.exit 0,⟨[(0,.ref 0 0),(3,x')],⟨[(0,wi fl r 0)],l'⟩⟩)∧GS L0 x' l':=by
 have e:=cd fl r 0
 rw [cm]
 generalize IRC.loop ir102_0=LB at*
 have hlen:(rows (Ent.row false) L0).length=L0.length*5:=bM _ 5 (fun _=>rfl) _
 cases g with
 | nil h=>
  refine ⟨_,_,?_,GS.nil h⟩
  simp +contextual (maxSteps:=1000000) [ir102_0,ssL,↓ssM,aA,ssU,ssR,e,w0,w1]
 | one h=>
  refine ⟨_,_,?_,GS.one h⟩
  generalize rows (Ent.row false) L0=R at*
  generalize L0.length=n at*
  simp +contextual (maxSteps:=1000000) [ir102_0,ssL,↓ssM,aA,ssU,ssR,e,w0,w1,eS,eY]
 | two h=>
  refine ⟨_,_,?_,GS.one h⟩
  generalize rows (Ent.row false) L0=R at*
  generalize L0.length=n at*
  simp +contextual (maxSteps:=1000000) [ir102_0,ssL,↓ssM,aA,ssU,ssR,e,w0,w1,eS,eY]
theorem wV (e:Ent) (L0:List Ent) (hF:e.Fit) (h31:L0.length<2^31) (m:Nat) (hm:m<2^31) (hl:(e.bytes++r).length<2^31) (x:LV) (l:List (Ob)) (g:GS L0 x l):
  ∃ x' l',GS (L0++[e]) x' l'∧run ⟨Ω,noG,hpL [wi fl p0 0],1⟩ (.loop ir102_0) ⟨[(0,.ref 0 0),(3,x),(4,.int .u64 (m+1:Nat))],⟨[(0,wi fl (e.bytes++r) 0)],l⟩⟩=
   run ⟨Ω,noG,hpL [wi fl p0 0],1⟩ (.loop ir102_0) ⟨[(0,.ref 0 0),(3,x'),(4,.int .u64 m)],⟨[(0,wi fl r 0)],l'⟩⟩:=by
 obtain ⟨id,v⟩:=e
 obtain ⟨hi,hv,hb⟩:=hF
 simp only [] at hi hv hb
 have eb:Ent.bytes ⟨id,v⟩++r=vnum id++(txt v.bytes++r):=by unfold Ent.bytes;simp only [List.append_assoc]
 rw [eb] at hl ⊢
 have l1:(txt v.bytes++r).length<2^31:=by rw [List.length_append] at hl;omega
 have g1:=dH fl (txt v.bytes++r) id (by omega) hl
 have g2:=da fl r 8192 v.bytes hb (by decide) l1
 have g3:=fun fl=>mF v fl hv
 have e1:=fun p=>cd fl p 0
 have e2:=fun p=>bG fl p 0 0
 have h1 : ¬4294967295<id:=by omega
 have h2:IntKind.u32.wrap (id:Int)=id:=d5 _ (by omega)
 have h4:id≤4294967295:=by omega
 have h5:(id:Int)≤4294967295:=by omega
 have h6 : ¬(4294967295:Int)<id:=by omega
 have hk:0<(m:Int)+1:=by omega
 have hk' : ¬(m:Int)+1≤0:=by omega
 have h3:IntKind.u64.wrap (m:Int)=(m:Int):=cn _ (by omega)
 have hs:=lA (Ent.row false) (Ent.mk id v) L0
 have hne:L0++[Ent.mk id v]≠[]:=by simp
 have hlen:(rows (Ent.row false) L0).length=L0.length*5:=bM _ 5 (fun _=>rfl) _
 have hll:(L0++[Ent.mk id v]).length=L0.length+1:=by simp
 have i1:=GS.one hne
 have i2:=GS.two hne
 rw [hs,hll] at i1 i2
 simp only [Ent.row,Vsn.pv,ms,aS,bd,Int.cast_ofNat_Int,if_true] at g2 g3 e2 i1 i2
 clear eb hl l1 hs hll
 generalize vnum id++(txt v.bytes++r)=p1 at*
 generalize txt v.bytes++r=p2 at*
 generalize v.bytes=q at*
 generalize v.ev.n=vn at*
 generalize v.ev.ptr=vp at*
 generalize crd v.nm false=cc at*
 generalize v.gone=vg at*
 have c1:(L0.length+1)*56≤1099511627776:=by omega
 have c2 : ¬1099511627776<(L0.length+1)*56:=by omega
 cases g with
 | nil h=>
  subst h
  refine ⟨_,_,i1,?_⟩
  rw [cm]
  generalize IRC.loop ir102_0=LB at*
  simp +contextual (maxSteps:=1000000) [ir102_0,ssL,↓ssM,aA,ssU,ssR,e1,e2,g1,g2,g3,h1,h2,h3,h4,h5,h6,hk,hk',bL,bsz,rows,bd]
 | one h=>
  refine ⟨_,_,i2,?_⟩
  clear i1 i2
  rw [cm]
  generalize rows (Ent.row false) L0=R at*
  generalize L0.length=n at*
  generalize IRC.loop ir102_0=LB at*
  simp +contextual (maxSteps:=1000000) [ir102_0,ssL,↓ssM,aA,ssU,ssR,e1,e2,g1,g2,g3,h1,h2,h3,h4,h5,h6,hk,hk',bL,bsz,eS,eY,cv,hlen,c1,c2]
 | two h=>
  refine ⟨_,_,i2,?_⟩
  clear i1 i2
  rw [cm]
  generalize rows (Ent.row false) L0=R at*
  generalize L0.length=n at*
  generalize IRC.loop ir102_0=LB at*
  simp +contextual (maxSteps:=1000000) [ir102_0,ssL,↓ssM,aA,ssU,ssR,e1,e2,g1,g2,g3,h1,h2,h3,h4,h5,h6,hk,hk',bL,bsz,eS,eY,cv,hlen,c1,c2]
theorem rk : ∀ (L L0:List Ent) (x:LV) (l:List (Ob)),GS L0 x l→(∀ e∈L,e.Fit)→L0.length+L.length<2^31→(entB L++r).length<2^31 →
  ∃ x' l',run ⟨Ω,noG,hpL [wi fl p0 0],1⟩ (.loop ir102_0) ⟨[(0,.ref 0 0),(3,x),(4,.int .u64 L.length)],⟨[(0,wi fl (entB L++r) 0)],l⟩⟩=some (.exit 0,⟨[(0,.ref 0 0),(3,x')],⟨[(0,wi fl r 0)],l'⟩⟩)∧GS (L0++L) x' l'
 | [],L0,x,l,g,hF,h31,hl=>by
  have h:=y6 fl r p0 L0 x l g
  rw [List.append_nil]
  exact h
 | e::L,L0,x,l,g,hF,h31,hl=>by
  rw [List.length_cons] at h31
  have eb:entB (e::L)++r=e.bytes++(entB L++r):=by rw [entB,List.append_assoc]
  rw [eb] at hl ⊢
  obtain ⟨x1,l1,g1,h1⟩:=wV fl (entB L++r) p0 e L0 (hF e List.mem_cons_self) (by omega) L.length (by omega) hl x l g
  obtain ⟨x2,l2,h2,g2⟩:=rk L (L0++[e]) x1 l1 g1 (fun e he=>hF e (List.mem_cons_of_mem _ he)) (by rw [List.length_append,List.length_singleton];omega) (by rw [List.length_append] at hl;omega)
  rw [show L0++[e]++L=L0++e::L by simp] at g2
  exact ⟨x2,l2,by rw [List.length_cons,h1,h2],g2⟩
theorem jb (L:List Ent) (hF : ∀ e∈L,e.Fit) (h31:L.length<2^31) (hl:(vnum L.length++(entB L++r)).length<2^31):
  Φ 102 [.ref 0 0] [wi fl (vnum L.length++(entB L++r)) 0]=some (.p (entP (Ent.row false) 5 L),[wi fl r 0]):=by
 have l1:(entB L++r).length<2^31:=by rw [List.length_append] at hl;omega
 have g1:=dH fl (entB L++r) L.length (by omega) hl
 obtain ⟨x,l,h,g⟩:=rk fl r (vnum L.length++(entB L++r)) L [] _ _ (.nil rfl) hF (by simpa using h31) l1
 have e1:=cd fl r 0
 rw [List.nil_append] at g
 have hlen:(rows (Ent.row false) L).length=L.length*5:=bM _ 5 (fun _=>rfl) _
 clear hl l1 h31
 generalize vnum L.length++(entB L++r)=p0 at*
 generalize entB L++r=p1 at*
 have a1:allP (pc (rows (Ent.row false) L))=some (rows (Ent.row false) L):=lJ _
 have a2:List.take (L.length*5) (pc (rows (Ent.row false) L))=pc (rows (Ent.row false) L):=by rw [←hlen];exact ij _
 cases g with
 | nil h0=>
  unfold entP
  rw [if_pos h0]
  clear hF hlen a1 a2 h0
  generalize L.length=n at*
  refine aL (ir:=ir102) (by kernel_rfl) ?_;simp +contextual (maxSteps:=1000000) [ir102,ssL,↓ssM,aA,ssU,ssR,g1,h,e1]
 | one h0=>
  unfold entP
  rw [if_neg h0]
  clear hF h0
  generalize rows (Ent.row false) L=R at*
  generalize L.length=n at*
  refine aL (ir:=ir102) (by kernel_rfl) ?_;simp +contextual (maxSteps:=1000000) [ir102,ssL,↓ssM,aA,ssU,ssR,g1,h,e1,hlen,a1,a2,cv]
 | two h0=>
  unfold entP
  rw [if_neg h0]
  clear hF h0
  generalize rows (Ent.row false) L=R at*
  generalize L.length=n at*
  refine aL (ir:=ir102) (by kernel_rfl) ?_;simp +contextual (maxSteps:=1000000) [ir102,ssL,↓ssM,aA,ssU,ssR,g1,h,e1,hlen,a1,a2,cv]
end
end Go.Proofs.YtppeggedcaabkaaGreatDoor
end

section
namespace Go.Proofs.YtppeggedcaabkaaGreatDoor
open Go Go.Sx
theorem t7 (l:List UInt8) (n:Nat) (hn:l.length=n) (fl:Bool) (h30:n<2^31):Ψ 95 [.p (.sl (bytP l) n 1 fl)] []=some (.p (.sl (bytP l) n 1 l.isEmpty)):=by
 subst hn
 exact lO l fl h30
section open'
variable (a b c d s0 s1 s2 s3:UInt8) (q:List UInt8) (fl:Bool)
abbrev eight:List PV:=.s (.int .u8 a.toNat) :: .s (.int .u8 b.toNat) :: .s (.int .u8 c.toNat) :: .s (.int .u8 d.toNat) :: .s (.int .u8 s0.toNat) :: .s (.int .u8 s1.toNat) :: .s (.int .u8 s2.toNat) :: .s (.int .u8 s3.toNat)::bytP q
theorem AM (l:List UInt8) (n:Nat) (hn:l.length=n) (h30:n<2^31) (id cp:Nat) (ex:Bool) (H:Heap) (nx:Nat)
  (h1:H id=some (.cells (.int .u8 a.toNat :: .int .u8 b.toNat :: .int .u8 c.toNat :: .int .u8 d.toNat::byt l))) (h2:id<nx):
  Ω 78 [.arr id 0 (4+n) 1 cp ex] H nx=some (.int .u32 (nv (crc (a::b::c::d::l))),[],[]):=by
 have:=zN (a::b::c::d::l) (by simp;omega) id cp ex H nx h1 h2
 have e:(a::b::c::d::l).length=4+n:=by simp;omega
 rwa [e] at this
theorem xA (hq:q.length<2^30) (h:(un4 a b c d).toNat≤2^20) (hs:(un4 a b c d).toNat≤q.length) (hsum:un4 s0 s1 s2 s3=crc (a::b::c::d::q.take (un4 a b c d).toNat)):
  Ψ 45 [.p (.sl (eight a b c d s0 s1 s2 s3 q) (q.length+8) 1 fl)] []=
  some (.tuple [.p (.sl (bytP (q.take (un4 a b c d).toNat)) (un4 a b c d).toNat 1 (q.take (un4 a b c d).toNat).isEmpty),.int .i64 (8+(un4 a b c d).toNat:Nat),.int .i64 0]):=by
 have h1:nv (un4 a b c d)≤1048576:=by rw [nv];omega
 have h8:(8:Int)≤(q.length:Int)+8:=by omega
 have hw:IntKind.i64.wrap (nv (un4 a b c d))=((un4 a b c d).toNat:Int):=am _ (by rw [nv];omega) (by rw [nv];omega)
 have hw8:IntKind.i64.wrap (8+((un4 a b c d).toNat:Int))=8+((un4 a b c d).toNat:Int):=am _ (by omega) (by omega)
 have hwq:IntKind.i64.wrap ((q.length:Int))=q.length:=am _ (by omega) (by omega)
 have h2:((un4 a b c d).toNat:Int)≤q.length:=by omega
 have ht:=yO a b c d
 have ht4:=yO s0 s1 s2 s3
 have hlen:(q.take (un4 a b c d).toNat).length=(un4 a b c d).toNat:=by simp;omega
 have hcl:=fun fl=>t7 (q.take (un4 a b c d).toNat) (un4 a b c d).toNat hlen fl (by omega)
 have hs4:=fun id cp ex H nx=>AM a b c d (q.take (un4 a b c d).toNat) (un4 a b c d).toNat hlen (by omega) id cp ex H nx
 have hge:(0:Int)≤8+((un4 a b c d).toNat:Int):=by omega
 have ht8:(8+((un4 a b c d).toNat:Int)).toNat=8+(un4 a b c d).toNat:=by omega
 have hle:8+(un4 a b c d).toNat≤q.length+8:=by omega
 generalize hU:un4 a b c d=U at*
 generalize hR:q.take U.toNat=R at*
 by_cases h0:U.toNat=0
 ·have hR0:R=[]:=by cases R<;>simp_all
  have hs0:=fun fl H nx=>zO [a,b,c,d] (by simp) fl H nx
  simp only [bytP,List.map,List.length_cons,List.length_nil,Nat.zero_add] at hs0
  rw [hR0,h0] at hcl
  rw [hR0] at hsum hR
  rw [h0] at hR
  have hbp:bytP []=[]:=rfl
  simp only [bp,hbp,List.isEmpty_nil] at hcl
  refine cK (ir:=ir45) (by kernel_rfl) ?_;simp +contextual (maxSteps:=1000000) [ir45,ssL,↓ssM,aA,ssU,ssR,ht,ht4,h1,h8,hw,hwq,h2,hw8,hge,ht8,hle,iI,hR,hcl,au,ah,ay,aE,aJ,aI,aK,av,aD,h0,hsum,hs0,hR0,am,hbp]
 ·have hR0:R.isEmpty=false:=by
   cases R with
   | nil=>simp at hlen;omega
   | cons x l=>rfl
  have h41:4+U.toNat≤1099511627776:=by omega
  have h42 : ¬1099511627776<4+U.toNat:=by omega
  have htk:List.take U.toNat (byt R)=byt R:=by rw [←hlen];exact ay R
  refine cK (ir:=ir45) (by kernel_rfl) ?_;simp +contextual (maxSteps:=1000000) [ir45,ssL,↓ssM,aA,ssU,ssR,ht,ht4,h1,h8,hw,hwq,h2,hw8,hge,ht8,hle,iI,hR,hcl,hs4,aF,au,ah,ay,aE,aJ,aI,aK,av,aD,hlen,h0,h41,h42,hR0,hsum,htk]
end open'
end Go.Proofs.YtppeggedcaabkaaGreatDoor
end

section
namespace Go.Proofs.YtppeggedcaabkaaGreatDoor
open Go Go.Sx
set_option maxHeartbeats 4000000
theorem wZ (fl:Bool) (r:List UInt8) (b:Bool):Φ 96 [.ref 0 0] [wi fl (bit b::r) 0]=some (.int .u8 (if b=true then 1 else 0),[wi fl r 0]):=by
 have g:=gQ fl r (bit b)
 cases b<;>exact g
theorem wks:(IntKind.i64.wrap 1=1)∧(IntKind.i64.wrap 2=2)∧(IntKind.i64.wrap 3=3)∧(IntKind.i64.wrap 4=4)∧(IntKind.i64.wrap 5=5)∧(IntKind.i64.wrap 6=6)∧(IntKind.i64.wrap 7=7):=⟨rfl,rfl,rfl,rfl,rfl,rfl,rfl⟩
theorem AQ (x:Int) (h0:0≤x) (h1:x<256):((u8 x).toNat:Int)=x:=by
 unfold u8
 have:(UInt8.ofNat x.toNat).toNat=x.toNat:=UInt8.toNat_ofNat_of_lt' (by show x.toNat<256;omega)
 rw [this];omega
theorem bq (fl:Bool) (r:List UInt8) (x:Int) (h0:0≤x) (h1:x<256):Φ 96 [.ref 0 0] [wi fl (u8 x::r) 0]=some (.int .u8 x,[wi fl r 0]):=by
 have g:=gQ fl r (u8 x)
 rw [AQ x h0 h1] at g
 exact g
section
variable (fl:Bool) (f t:Int) (f0:0≤f) (f1:f<12) (t0:0≤t) (t1:t<12)
include f0 f1 t0 t1
theorem yv (k:Int) (hk:k=1∨k=2) (ses:Nat) (hs:ses<2^64) (ev:Ev) (hn:ev.norm) (hm:ev.max≤2^20) (hd:ev.depth≤16) (hp:(pack (evBits ev)).length≤4096) (hl:(u8 k::(u8 f::(u8 t::(vnum ses++(txt (pack (evBits ev))++[]))))).length<2^31):
  Φ 47 [.ref 0 0] [wi fl (u8 k::(u8 f::(u8 t::(vnum ses++(txt (pack (evBits ev))++[]))))) 0]=some (.p (Nte.pv false ⟨k,f,t,ses,0,false,ev,[],⟨0,0,0,.zero⟩,0⟩),[wi fl [] 0]):=by
 have l3:(vnum ses++(txt (pack (evBits ev))++[])).length<2^31:=by simp only [List.length_cons] at hl;omega
 have l4:(txt (pack (evBits ev))++[]).length<2^31:=by rw [List.length_append] at l3;omega
 have l5:([]:List UInt8).length<2^31:=by rw [List.length_append] at l4;omega
 have b0:=bq fl (u8 f::(u8 t::(vnum ses++(txt (pack (evBits ev))++[])))) k (by omega) (by omega)
 have b1:=bq fl (u8 t::(vnum ses++(txt (pack (evBits ev))++[]))) f f0 (by omega)
 have b2:=bq fl (vnum ses++(txt (pack (evBits ev))++[])) t t0 (by omega)
 have g0:=dH fl (txt (pack (evBits ev))++[]) ses hs l3
 have g1:=da fl ([]:List UInt8) 1048576 (pack (evBits ev)) (by omega) (by decide) l4
 have re:=by
  have:=fun fl=>fL fl (pack (evBits ev)) (by omega)
  rw [mE ev hn hm hd] at this
  exact this
 have wf:IntKind.i64.wrap f=f:=am _ (by omega) (by omega)
 have wt:IntKind.i64.wrap t=t:=am _ (by omega) (by omega)
 have e2:=fun p=>bG fl p 0 0
 simp only [Int.cast_ofNat_Int,if_true,Ev.pv,Gft.pv,Nte.pv,Nte.cells,Ev.n_l,Ev.ptr_l,Id.all_z,Id.ptr_z,Int.natCast_zero] at g0 g1 re e2 ⊢
 clear hl l3 l4 l5
 generalize (u8 k::(u8 f::(u8 t::(vnum ses++(txt (pack (evBits ev))++[])))))=p0 at*
 generalize (u8 f::(u8 t::(vnum ses++(txt (pack (evBits ev))++[]))))=p1 at*
 generalize (u8 t::(vnum ses++(txt (pack (evBits ev))++[])))=p2 at*
 generalize (vnum ses++(txt (pack (evBits ev))++[]))=p3 at*
 generalize (txt (pack (evBits ev))++[])=p4 at*
 generalize ([]:List UInt8)=pe at*
 generalize ev.n=en at*
 generalize ev.ptr=ep at*
 generalize pack (evBits ev)=eq at*
 rcases hk with rfl|rfl
 all_goals
 refine aL (ir:=ir47) (by kernel_rfl) ?_;simp +contextual (maxSteps:=1000000) [ir47,ssL,↓ssM,aA,ssU,ssR,b0,b1,b2,re,g0,g1,wf,wt,wks,e2,gP,hasK,jl,bL,bsz,entP]
theorem AY  (ses:Nat) (hs:ses<2^64) (sq:Int) (s0:0≤sq) (s1:sq<256) (hl:(u8 4::(u8 f::(u8 t::(vnum ses++(u8 sq::[]))))).length<2^31):
  Φ 47 [.ref 0 0] [wi fl (u8 4::(u8 f::(u8 t::(vnum ses++(u8 sq::[]))))) 0]=some (.p (Nte.pv false ⟨4,f,t,ses,sq,false,.leaf 0,[],⟨0,0,0,.zero⟩,0⟩),[wi fl [] 0]):=by
 have l3:(vnum ses++(u8 sq::[])).length<2^31:=by simp only [List.length_cons] at hl;omega
 have l4:(u8 sq::[]).length<2^31:=by rw [List.length_append] at l3;omega
 have l5:([]:List UInt8).length<2^31:=by rw [List.length_cons] at l4;omega
 have b0:=bq fl (u8 f::(u8 t::(vnum ses++(u8 sq::[])))) 4 (by omega) (by omega)
 have b1:=bq fl (u8 t::(vnum ses++(u8 sq::[]))) f f0 (by omega)
 have b2:=bq fl (vnum ses++(u8 sq::[])) t t0 (by omega)
 have g0:=dH fl (u8 sq::[]) ses hs l3
 have g1:=bq fl ([]:List UInt8) sq s0 s1
 have wf:IntKind.i64.wrap f=f:=am _ (by omega) (by omega)
 have wt:IntKind.i64.wrap t=t:=am _ (by omega) (by omega)
 have e2:=fun p=>bG fl p 0 0
 simp only [Int.cast_ofNat_Int,if_true,Ev.pv,Gft.pv,Nte.pv,Nte.cells,Ev.n_l,Ev.ptr_l,Id.all_z,Id.ptr_z,Int.natCast_zero] at g0 g1 e2 ⊢
 clear hl l3 l4 l5
 generalize (u8 4::(u8 f::(u8 t::(vnum ses++(u8 sq::[])))))=p0 at*
 generalize (u8 f::(u8 t::(vnum ses++(u8 sq::[]))))=p1 at*
 generalize (u8 t::(vnum ses++(u8 sq::[])))=p2 at*
 generalize (vnum ses++(u8 sq::[]))=p3 at*
 generalize (u8 sq::[])=p4 at*
 generalize ([]:List UInt8)=pe at*
 have ws:IntKind.i64.wrap sq=sq:=am _ (by omega) (by omega)
 refine aL (ir:=ir47) (by kernel_rfl) ?_;simp +contextual (maxSteps:=1000000) [ir47,ssL,↓ssM,aA,ssU,ssR,b0,b1,b2,g0,g1,wf,wt,wks,e2,gP,hasK,jl,bL,bsz,entP,ws]
theorem AZ   (hl:(u8 5::(u8 f::(u8 t::[]))).length<2^31):
  Φ 47 [.ref 0 0] [wi fl (u8 5::(u8 f::(u8 t::[]))) 0]=some (.p (Nte.pv false ⟨5,f,t,0,0,false,.leaf 0,[],⟨0,0,0,.zero⟩,0⟩),[wi fl [] 0]):=by
 have l3:([]:List UInt8).length<2^31:=by simp only [List.length_cons] at hl;omega
 have b0:=bq fl (u8 f::(u8 t::[])) 5 (by omega) (by omega)
 have b1:=bq fl (u8 t::[]) f f0 (by omega)
 have b2:=bq fl ([]:List UInt8) t t0 (by omega)
 have wf:IntKind.i64.wrap f=f:=am _ (by omega) (by omega)
 have wt:IntKind.i64.wrap t=t:=am _ (by omega) (by omega)
 have e2:=fun p=>bG fl p 0 0
 simp only [Int.cast_ofNat_Int,if_true,Ev.pv,Gft.pv,Nte.pv,Nte.cells,Ev.n_l,Ev.ptr_l,Id.all_z,Id.ptr_z,Int.natCast_zero] at  e2 ⊢
 clear hl l3
 generalize (u8 5::(u8 f::(u8 t::[])))=p0 at*
 generalize (u8 f::(u8 t::[]))=p1 at*
 generalize (u8 t::[])=p2 at*
 generalize ([]:List UInt8)=pe at*
 refine aL (ir:=ir47) (by kernel_rfl) ?_;simp +contextual (maxSteps:=1000000) [ir47,ssL,↓ssM,aA,ssU,ssR,b0,b1,b2,wf,wt,wks,e2,gP,hasK,jl,bL,bsz,entP]
theorem A1  (no:Nat) (hs:no<2^64) (hl:(u8 7::(u8 f::(u8 t::(vnum no++[])))).length<2^31):
  Φ 47 [.ref 0 0] [wi fl (u8 7::(u8 f::(u8 t::(vnum no++[])))) 0]=some (.p (Nte.pv false ⟨7,f,t,0,0,false,.leaf 0,[],⟨0,0,0,.zero⟩,no⟩),[wi fl [] 0]):=by
 have l3:(vnum no++[]).length<2^31:=by simp only [List.length_cons] at hl;omega
 have l4:([]:List UInt8).length<2^31:=by rw [List.length_append] at l3;omega
 have b0:=bq fl (u8 f::(u8 t::(vnum no++[]))) 7 (by omega) (by omega)
 have b1:=bq fl (u8 t::(vnum no++[])) f f0 (by omega)
 have b2:=bq fl (vnum no++[]) t t0 (by omega)
 have g0:=dH fl ([]:List UInt8) no hs l3
 have wf:IntKind.i64.wrap f=f:=am _ (by omega) (by omega)
 have wt:IntKind.i64.wrap t=t:=am _ (by omega) (by omega)
 have e2:=fun p=>bG fl p 0 0
 simp only [Int.cast_ofNat_Int,if_true,Ev.pv,Gft.pv,Nte.pv,Nte.cells,Ev.n_l,Ev.ptr_l,Id.all_z,Id.ptr_z,Int.natCast_zero] at g0 e2 ⊢
 clear hl l3 l4
 generalize (u8 7::(u8 f::(u8 t::(vnum no++[]))))=p0 at*
 generalize (u8 f::(u8 t::(vnum no++[])))=p1 at*
 generalize (u8 t::(vnum no++[]))=p2 at*
 generalize (vnum no++[])=p3 at*
 generalize ([]:List UInt8)=pe at*
 refine aL (ir:=ir47) (by kernel_rfl) ?_;simp +contextual (maxSteps:=1000000) [ir47,ssL,↓ssM,aA,ssU,ssR,b0,b1,b2,g0,wf,wt,wks,e2,gP,hasK,jl,bL,bsz,entP]
theorem AX  (ses:Nat) (hs:ses<2^64) (sq:Int) (s0:0≤sq) (s1:sq<256) (la:Bool) (ev:Ev) (hn:ev.norm) (hm:ev.max≤2^20) (hd:ev.depth≤16) (hp:(pack (evBits ev)).length≤4096) (L:List Ent) (hF : ∀ e∈L,e.Fit) (hL:L.length<2^31) (hl:(u8 3::(u8 f::(u8 t::(vnum ses++(u8 sq::(bit la::(txt (pack (evBits ev))++(vnum L.length++(entB L++[]))))))))).length<2^31):
  Φ 47 [.ref 0 0] [wi fl (u8 3::(u8 f::(u8 t::(vnum ses++(u8 sq::(bit la::(txt (pack (evBits ev))++(vnum L.length++(entB L++[]))))))))) 0]=some (.p (Nte.pv false ⟨3,f,t,ses,sq,la,ev,L,⟨0,0,0,.zero⟩,0⟩),[wi fl [] 0]):=by
 have l3:(vnum ses++(u8 sq::(bit la::(txt (pack (evBits ev))++(vnum L.length++(entB L++[])))))).length<2^31:=by simp only [List.length_cons] at hl;omega
 have l4:(u8 sq::(bit la::(txt (pack (evBits ev))++(vnum L.length++(entB L++[]))))).length<2^31:=by rw [List.length_append] at l3;omega
 have l5:(bit la::(txt (pack (evBits ev))++(vnum L.length++(entB L++[])))).length<2^31:=by rw [List.length_cons] at l4;omega
 have l6:(txt (pack (evBits ev))++(vnum L.length++(entB L++[]))).length<2^31:=by rw [List.length_cons] at l5;omega
 have l7:(vnum L.length++(entB L++[])).length<2^31:=by rw [List.length_append] at l6;omega
 have l8:(entB L++[]).length<2^31:=by rw [List.length_append] at l7;omega
 have l9:([]:List UInt8).length<2^31:=by rw [List.length_append] at l8;omega
 have b0:=bq fl (u8 f::(u8 t::(vnum ses++(u8 sq::(bit la::(txt (pack (evBits ev))++(vnum L.length++(entB L++[])))))))) 3 (by omega) (by omega)
 have b1:=bq fl (u8 t::(vnum ses++(u8 sq::(bit la::(txt (pack (evBits ev))++(vnum L.length++(entB L++[]))))))) f f0 (by omega)
 have b2:=bq fl (vnum ses++(u8 sq::(bit la::(txt (pack (evBits ev))++(vnum L.length++(entB L++[])))))) t t0 (by omega)
 have g0:=dH fl (u8 sq::(bit la::(txt (pack (evBits ev))++(vnum L.length++(entB L++[]))))) ses hs l3
 have g1:=bq fl (bit la::(txt (pack (evBits ev))++(vnum L.length++(entB L++[])))) sq s0 s1
 have g2:=wZ fl (txt (pack (evBits ev))++(vnum L.length++(entB L++[]))) la
 have g3:=da fl (vnum L.length++(entB L++[])) 1048576 (pack (evBits ev)) (by omega) (by decide) l6
 have g4:=jb fl [] L hF hL l7
 have re:=by
  have:=fun fl=>fL fl (pack (evBits ev)) (by omega)
  rw [mE ev hn hm hd] at this
  exact this
 have wf:IntKind.i64.wrap f=f:=am _ (by omega) (by omega)
 have wt:IntKind.i64.wrap t=t:=am _ (by omega) (by omega)
 have e2:=fun p=>bG fl p 0 0
 simp only [Int.cast_ofNat_Int,if_true,Ev.pv,Gft.pv,Nte.pv,Nte.cells,Ev.n_l,Ev.ptr_l,Id.all_z,Id.ptr_z,Int.natCast_zero] at g0 g1 g2 g3 g4 re e2 ⊢
 clear hl l3 l4 l5 l6 l7 l8 l9
 generalize (u8 3::(u8 f::(u8 t::(vnum ses++(u8 sq::(bit la::(txt (pack (evBits ev))++(vnum L.length++(entB L++[])))))))))=p0 at*
 generalize (u8 f::(u8 t::(vnum ses++(u8 sq::(bit la::(txt (pack (evBits ev))++(vnum L.length++(entB L++[]))))))))=p1 at*
 generalize (u8 t::(vnum ses++(u8 sq::(bit la::(txt (pack (evBits ev))++(vnum L.length++(entB L++[])))))))=p2 at*
 generalize (vnum ses++(u8 sq::(bit la::(txt (pack (evBits ev))++(vnum L.length++(entB L++[]))))))=p3 at*
 generalize (u8 sq::(bit la::(txt (pack (evBits ev))++(vnum L.length++(entB L++[])))))=p4 at*
 generalize (bit la::(txt (pack (evBits ev))++(vnum L.length++(entB L++[]))))=p5 at*
 generalize (txt (pack (evBits ev))++(vnum L.length++(entB L++[])))=p6 at*
 generalize (vnum L.length++(entB L++[]))=p7 at*
 generalize (entB L++[])=p8 at*
 generalize ([]:List UInt8)=pe at*
 have ws:IntKind.i64.wrap sq=sq:=am _ (by omega) (by omega)
 generalize ev.n=en at*
 generalize ev.ptr=ep at*
 generalize pack (evBits ev)=eq at*
 have hc:(LV.p (entP (Ent.row false) 5 L)).cells=some [.p (entP (Ent.row false) 5 L)]:=by unfold entP;split<;>rfl
 generalize entP (Ent.row false) 5 L=EP at*
 cases la
 all_goals
 refine aL (ir:=ir47) (by kernel_rfl) ?_;simp +contextual (maxSteps:=1000000) [ir47,ssL,↓ssM,aA,ssU,ssR,b0,b1,b2,re,g0,g1,g2,g3,g4,wf,wt,wks,e2,gP,hasK,jl,bL,bsz,ws,hc]
theorem A0  (g:Gft) (gf gt:Nat) (hgf:g.fr=gf) (hgt:g.to=gt) (gno:g.no<2^64) (gf1:gf<2^31) (gt1:gt<2^31) (gn:g.sh.norm) (gd:g.sh.depth≤16) (gs:(pack (idBits g.sh)).length≤4096) (ev:Ev) (hn:ev.norm) (hm:ev.max≤2^20) (hd:ev.depth≤16) (hp:(pack (evBits ev)).length≤4096) (L:List Ent) (hF : ∀ e∈L,e.Fit) (hL:L.length<2^31) (hl:(u8 6::(u8 f::(u8 t::(g.bytes++(txt (pack (evBits ev))++(vnum L.length++(entB L++[]))))))).length<2^31):
  Φ 47 [.ref 0 0] [wi fl (u8 6::(u8 f::(u8 t::(g.bytes++(txt (pack (evBits ev))++(vnum L.length++(entB L++[]))))))) 0]=some (.p (Nte.pv false ⟨6,f,t,0,0,false,ev,L,g,0⟩),[wi fl [] 0]):=by
 have l3:(g.bytes++(txt (pack (evBits ev))++(vnum L.length++(entB L++[])))).length<2^31:=by simp only [List.length_cons] at hl;omega
 have l4:(txt (pack (evBits ev))++(vnum L.length++(entB L++[]))).length<2^31:=by rw [List.length_append] at l3;omega
 have l5:(vnum L.length++(entB L++[])).length<2^31:=by rw [List.length_append] at l4;omega
 have l6:(entB L++[]).length<2^31:=by rw [List.length_append] at l5;omega
 have l7:([]:List UInt8).length<2^31:=by rw [List.length_append] at l6;omega
 have b0:=bq fl (u8 f::(u8 t::(g.bytes++(txt (pack (evBits ev))++(vnum L.length++(entB L++[])))))) 6 (by omega) (by omega)
 have b1:=bq fl (u8 t::(g.bytes++(txt (pack (evBits ev))++(vnum L.length++(entB L++[]))))) f f0 (by omega)
 have b2:=bq fl (g.bytes++(txt (pack (evBits ev))++(vnum L.length++(entB L++[])))) t t0 (by omega)
 have g0:=uG fl (txt (pack (evBits ev))++(vnum L.length++(entB L++[]))) g gf gt hgf hgt gno gf1 gt1 gn gd gs l3
 have g1:=da fl (vnum L.length++(entB L++[])) 1048576 (pack (evBits ev)) (by omega) (by decide) l4
 have g2:=jb fl [] L hF hL l5
 have re:=by
  have:=fun fl=>fL fl (pack (evBits ev)) (by omega)
  rw [mE ev hn hm hd] at this
  exact this
 have wf:IntKind.i64.wrap f=f:=am _ (by omega) (by omega)
 have wt:IntKind.i64.wrap t=t:=am _ (by omega) (by omega)
 have e2:=fun p=>bG fl p 0 0
 simp only [Int.cast_ofNat_Int,if_true,Ev.pv,Gft.pv,Nte.pv,Nte.cells,Ev.n_l,Ev.ptr_l,Id.all_z,Id.ptr_z,Int.natCast_zero] at g0 g1 g2 re e2 ⊢
 clear hl l3 l4 l5 l6 l7
 generalize (u8 6::(u8 f::(u8 t::(g.bytes++(txt (pack (evBits ev))++(vnum L.length++(entB L++[])))))))=p0 at*
 generalize (u8 f::(u8 t::(g.bytes++(txt (pack (evBits ev))++(vnum L.length++(entB L++[]))))))=p1 at*
 generalize (u8 t::(g.bytes++(txt (pack (evBits ev))++(vnum L.length++(entB L++[])))))=p2 at*
 generalize (g.bytes++(txt (pack (evBits ev))++(vnum L.length++(entB L++[]))))=p3 at*
 generalize (txt (pack (evBits ev))++(vnum L.length++(entB L++[])))=p4 at*
 generalize (vnum L.length++(entB L++[]))=p5 at*
 generalize (entB L++[])=p6 at*
 generalize ([]:List UInt8)=pe at*
 clear gs gd gn gf1 gt1 gno
 generalize ev.n=en at*
 generalize ev.ptr=ep at*
 generalize pack (evBits ev)=eq at*
 have hc:(LV.p (entP (Ent.row false) 5 L)).cells=some [.p (entP (Ent.row false) 5 L)]:=by unfold entP;split<;>rfl
 generalize entP (Ent.row false) 5 L=EP at*
 generalize g.no=gn0 at*
 generalize g.fr=gf0 at*
 generalize g.to=gt0 at*
 generalize g.sh.all=ga0 at*
 generalize g.sh.ptr=gp0 at*
 refine aL (ir:=ir47) (by kernel_rfl) ?_;simp +contextual (maxSteps:=1000000) [ir47,ssL,↓ssM,aA,ssU,ssR,b0,b1,b2,re,g0,g1,g2,wf,wt,wks,e2,gP,hasK,jl,bL,bsz,hc]
end
end Go.Proofs.YtppeggedcaabkaaGreatDoor
end

section
namespace Go.Proofs.YtppeggedcaabkaaGreatDoor
open Go Go.Sx
structure Nte.RF (n:Nte):Prop where
 ses:n.ses<2^64
 no:n.no<2^64
 gno:n.gift.no<2^64
 norm:n.ev.norm
 max:n.ev.max≤2^20
 depth:n.ev.depth≤16
 pk:(pack (evBits n.ev)).length≤4096
 ents : ∀ e∈n.ents,e.Fit
 len:n.ents.length<2^31
 gn:n.gift.sh.norm
 gd:n.gift.sh.depth≤16
 gs:(pack (idBits n.gift.sh)).length≤4096
 size:n.body.length<2^20
theorem oz {n:Nte} (hr:n.right=true):n.kind=1∨n.kind=2∨n.kind=3∨n.kind=4∨n.kind=5∨n.kind=6∨n.kind=7:=by
 unfold Nte.right hasK at hr
 rcases Int.lt_or_le n.kind 1 with h|h
 ·simp [show n.kind≠1 by omega,show n.kind≠2 by omega,show n.kind≠3 by omega,show n.kind≠4 by omega,show n.kind≠5 by omega,show n.kind≠6 by omega,show n.kind≠7 by omega] at hr
 ·rcases Int.lt_or_le 7 n.kind with h2|h2
  ·simp [show n.kind≠1 by omega,show n.kind≠2 by omega,show n.kind≠3 by omega,show n.kind≠4 by omega,show n.kind≠5 by omega,show n.kind≠6 by omega,show n.kind≠7 by omega] at hr
  ·omega
theorem pQ {n:Nte} (hn:n.ev.norm) (hr:n.right=true):zB (hasK n.kind) (decide (n.ses=0)) (decide (n.seq=0)) (!n.last) (decide (n.ev = .leaf 0)) n.ents.isEmpty (plainB n.gift) (decide (n.no=0))=true:=by
 have h:n.zeroB (hasK n.kind)=true:=by
  simp only [Nte.right,Bool.and_eq_true] at hr
  exact hr.2.1.1.1.1
 rw [←nU _ hn]
 exact h
theorem dY {g:Gft} (h:plainB g=true):g=⟨0,0,0,.zero⟩:=by
 obtain ⟨a,b,c,d⟩:=g
 simp only [plainB,Bool.and_eq_true,decide_eq_true_eq] at h
 obtain ⟨rfl,rfl,rfl,rfl⟩:=h
 rfl
theorem kv {n:Nte} (hr:n.right=true) (hk:n.kind=6):n.gift.fr=n.fr∧n.gift.to=n.to:=by
 simp only [Nte.right,Bool.and_eq_true,hk] at hr
 have:=hr.2.2
 simp at this
 exact ⟨this.1.2,this.2⟩
theorem xt (n:Nte) (fl:Bool) (hr:n.right=true) (hf:n.RF):Φ 47 [.ref 0 0] [wi fl n.body 0]=some (.p (n.pv false),[wi fl [] 0]):=by
 have hz:=pQ hf.norm hr
 obtain ⟨⟨f0,f1⟩,⟨t0,t1⟩,⟨s0,s1⟩⟩:=aW hr
 have hg:=kv hr
 have hl:n.body.length<2^31:=by have:=hf.size;omega
 have hk:=oz hr
 obtain ⟨h1,h2,h3,h4,h5,h6,h7,h8,h9,h10,h11,h12,h13⟩:=hf
 obtain ⟨kind,f,t,ses,sq,la,ev,L,g,no⟩:=n
 simp only [] at hz f0 f1 t0 t1 s0 s1 hg hk h1 h2 h3 h4 h5 h6 h7 h8 h9 h10 h11 h12
 clear hr h13
 unfold Nte.body Nte.rest at hl ⊢
 simp only [] at hl ⊢
 rcases hk with rfl|rfl|rfl|rfl|rfl|rfl|rfl
 ·rw [show hasK 1=9 from rfl,yk] at hz
  simp only [Bool.and_eq_true,decide_eq_true_eq,Bool.not_eq_true',List.isEmpty_iff] at hz
  obtain ⟨⟨⟨⟨rfl,rfl⟩,rfl⟩,hp⟩,rfl⟩:=hz
  rw [dY hp]
  have:=yv fl f t f0 f1 t0 t1 1 (.inl rfl) ses h1 ev h4 h5 h6 h7
  simp only [List.append_nil] at this
  exact this hl
 ·rw [show hasK 2=9 from rfl,yk] at hz
  simp only [Bool.and_eq_true,decide_eq_true_eq,Bool.not_eq_true',List.isEmpty_iff] at hz
  obtain ⟨⟨⟨⟨rfl,rfl⟩,rfl⟩,hp⟩,rfl⟩:=hz
  rw [dY hp]
  have:=yv fl f t f0 f1 t0 t1 2 (.inr rfl) ses h1 ev h4 h5 h6 h7
  simp only [List.append_nil] at this
  exact this hl
 ·rw [show hasK 3=31 from rfl,yQ] at hz
  simp only [Bool.and_eq_true,decide_eq_true_eq,Bool.not_eq_true',List.isEmpty_iff] at hz
  obtain ⟨hp,rfl⟩:=hz
  rw [dY hp]
  have:=AX fl f t f0 f1 t0 t1 ses h1 sq s0 s1 la ev h4 h5 h6 h7 L h8 h9
  simp only [List.append_nil] at this
  simp at hl ⊢
  simp at this
  exact this hl
 ·rw [show hasK 4=3 from rfl,AS] at hz
  simp only [Bool.and_eq_true,decide_eq_true_eq,Bool.not_eq_true',List.isEmpty_iff] at hz
  obtain ⟨⟨⟨⟨rfl,rfl⟩,rfl⟩,hp⟩,rfl⟩:=hz
  rw [dY hp]
  have:=AY fl f t f0 f1 t0 t1 ses h1 sq s0 s1
  exact this hl
 ·rw [show hasK 5=0 from rfl,AR] at hz
  simp only [Bool.and_eq_true,decide_eq_true_eq,Bool.not_eq_true',List.isEmpty_iff] at hz
  obtain ⟨⟨⟨⟨⟨⟨rfl,rfl⟩,rfl⟩,rfl⟩,rfl⟩,hp⟩,rfl⟩:=hz
  rw [dY hp]
  have:=AZ fl f t f0 f1 t0 t1
  exact this hl
 ·rw [show hasK 6=44 from rfl,yR] at hz
  simp only [Bool.and_eq_true,decide_eq_true_eq,Bool.not_eq_true',List.isEmpty_iff] at hz
  obtain ⟨⟨⟨rfl,rfl⟩,rfl⟩,rfl⟩:=hz
  obtain ⟨g1,g2⟩:=hg rfl
  have:=A0 fl f t f0 f1 t0 t1 g f.toNat t.toNat (by rw [g1];omega) (by rw [g2];omega) h3 (by omega) (by omega) h10 h11 h12 ev h4 h5 h6 h7 L h8 h9
  simp only [List.append_nil] at this
  simp at hl ⊢
  simp at this
  exact this hl
 ·rw [show hasK 7=64 from rfl,yS] at hz
  simp only [Bool.and_eq_true,decide_eq_true_eq,Bool.not_eq_true',List.isEmpty_iff] at hz
  obtain ⟨⟨⟨⟨⟨rfl,rfl⟩,rfl⟩,rfl⟩,rfl⟩,hp⟩:=hz
  rw [dY hp]
  have:=A1 fl f t f0 f1 t0 t1 no h2
  simp only [List.append_nil] at this
  exact this hl
end Go.Proofs.YtppeggedcaabkaaGreatDoor
end

section
namespace Go.Proofs.YtppeggedcaabkaaGreatDoor
open Go Go.Sx
set_option maxHeartbeats 1000000
theorem Ar (l z:List UInt8) (fl:Bool) (h:l.length≤2^20) (hz:z.length<2^20):Ψ 45 [.p (.sl (bytP (frame l++z)) (frame l++z).length 1 fl)] []=
  some (.tuple [.p (.sl (bytP l) l.length 1 l.isEmpty),.int .i64 (8+l.length:Nat),.int .i64 0]):=by
 have e1:frame l++z=low (BitVec.ofNat 32 l.length)::low (BitVec.ofNat 32 l.length >>> 8)::low (BitVec.ofNat 32 l.length >>> 16)::low (BitVec.ofNat 32 l.length >>> 24)::
   low (crc (le4 (BitVec.ofNat 32 l.length)++l))::low (crc (le4 (BitVec.ofNat 32 l.length)++l) >>> 8)::low (crc (le4 (BitVec.ofNat 32 l.length)++l) >>> 16)::low (crc (le4 (BitVec.ofNat 32 l.length)++l) >>> 24)::(l++z):=by
  unfold frame le4
  simp only [List.append_assoc,List.cons_append,List.nil_append]
 have hU:(BitVec.ofNat 32 l.length).toNat=l.length:=by rw [BitVec.toNat_ofNat];omega
 have ht:(l++z).take l.length=l:=by rw [List.take_append_of_le_length (Nat.le_refl _),List.take_length]
 have g:=xA (low (BitVec.ofNat 32 l.length)) (low (BitVec.ofNat 32 l.length >>> 8)) (low (BitVec.ofNat 32 l.length >>> 16)) (low (BitVec.ofNat 32 l.length >>> 24))
  (low (crc (le4 (BitVec.ofNat 32 l.length)++l))) (low (crc (le4 (BitVec.ofNat 32 l.length)++l) >>> 8)) (low (crc (le4 (BitVec.ofNat 32 l.length)++l) >>> 16)) (low (crc (le4 (BitVec.ofNat 32 l.length)++l) >>> 24)) (l++z) fl
  (by rw [List.length_append];omega) (by rw [ip,hU];exact h) (by rw [ip,hU,List.length_append];omega) (by rw [ip,ip,hU,ht];rfl)
 rw [ip,hU,ht] at g
 rw [e1]
 exact g
theorem n5 (n:Nte) (fl:Bool) (hr:n.right=true) (hf:n.RF):Ψ 14 [.p (.sl (bytP (frame n.body)) (frame n.body).length 1 fl)] []=some (.tuple [.p (n.pv false),.int .i64 0]):=by
 have hs:=hf.size
 have o:=fun fl=>Ar n.body [] fl (by omega) (by decide)
 have w:=fun fl=>Ag fl n.body (by omega)
 have g:=fun fl=>xt n fl hr hf
 have e:=fun fl=>uL fl [] 0
 have r:=fun H nx=>bJ n false (by have:=hf.len;omega) (fun x hx=>by have:=(hf.ents x hx).v.m;omega) (by have:=hf.max;omega) H nx
 have hlen:(frame n.body).length=8+n.body.length:=by rw [fB]
 rw [hr] at r
 simp only [List.append_nil,ne_eq,not_true_eq_false,and_false,if_false] at o e
 rw [hlen] at o ⊢
 simp only [Nte.pv,Nte.cells] at g r ⊢
 generalize frame n.body=F at*
 generalize n.body.isEmpty=fl2 at*
 generalize n.body=B at*
 generalize ([]:List UInt8)=pe at*
 have hc:(LV.p (entP (Ent.row false) 5 n.ents)).cells=some [.p (entP (Ent.row false) 5 n.ents)]:=by unfold entP;split<;>rfl
 generalize entP (Ent.row false) 5 n.ents=EP at*
 refine cK (ir:=ir14) (by kernel_rfl) ?_;simp +contextual (maxSteps:=1000000) [ir14,ssL,↓ssM,aA,ssU,ssR,o,w,g,e,r,hc]
end Go.Proofs.YtppeggedcaabkaaGreatDoor
end

section
namespace Go.Proofs.YtppeggedcaabkaaGreatDoor
open Go Go.Sx
theorem yG (l:List Bool):8*(pack l).length<l.length+8:=by
 obtain ⟨k,hk,h⟩:=gb l
 have:=congrArg List.length h
 rw [dS,List.length_append,List.length_replicate] at this
 omega
theorem rQ (x:Option (List UInt8)):(pack (evBits (mkEv 4 x).1)).length≤600:=by
 have h1:=fA x
 have h2:=yG (evBits (mkEv 4 x).1)
 omega
theorem xC (x:Option (List UInt8)):(pack (idBits (mkId 4 x).1)).length≤20:=by
 have h1:=rq x
 have h2:=yG (idBits (mkId 4 x).1)
 omega
theorem sX (I:List Nat) (Ts:List (Option (List UInt8))) (j:Nat) (hi:I.getD j 0<2^32):(drawn I Ts j).Fit:=by
 obtain ⟨a,b,c⟩:=bP 4 (cutB 40 (Ts.getD j none))
 have hp:=rQ (cutB 40 (Ts.getD j none))
 have hl:=lQ (drawn I Ts j) hi (fA _)
 unfold Ent.bytes at hl
 rw [List.length_append,txt,List.length_append] at hl
 refine ⟨hi,⟨a,by show (mkEv 4 _).1.max≤_;omega,by show (mkEv 4 _).1.depth≤_;omega,by show (pack (evBits (mkEv 4 _).1)).length≤_;omega,?_⟩,by omega⟩
 intro h
 have h:decide (j%3=2)=true:=h
 show (!decide (j%3=2))=false
 rw [h];rfl
theorem sL {n:Nte} (h:n.Fit) (hr:n.right=true) (b1:(pack (evBits n.ev)).length≤600) (b2:(pack (idBits n.gift.sh)).length≤20) (b3:(entB n.ents).length≤40000):n.body.length<2^20:=by
 have h1:=ai n.ses h.ses
 have h2:=ai n.no h.no
 have h4:=ai (pack (evBits n.ev)).length (by omega)
 have h5:=ai n.ents.length (by have:=h.len;omega)
 have h6:=ai n.gift.no h.gno
 have h8:=ai (pack (idBits n.gift.sh)).length (by omega)
 have e1:(txt (pack (evBits n.ev))).length=(vnum (pack (evBits n.ev)).length).length+(pack (evBits n.ev)).length:=by rw [txt,List.length_append]
 have e2:(txt (pack (idBits n.gift.sh))).length=(vnum (pack (idBits n.gift.sh)).length).length+(pack (idBits n.gift.sh)).length:=by rw [txt,List.length_append]
 obtain ⟨p1,p2,p3⟩:=aW hr
 unfold Nte.body Nte.rest
 split
 ·simp only [List.length_append,List.length_cons,List.length_nil];omega
 split
 ·simp only [List.length_append,List.length_cons,List.length_nil];omega
 split
 ·simp only [List.length_append,List.length_cons,List.length_nil];omega
 split
 ·rename_i k6
  obtain ⟨g1,g2⟩:=kv hr k6
  have h9:=ai n.gift.fr.toNat (by omega)
  have h10:=ai n.gift.to.toNat (by omega)
  simp only [Gft.bytes,List.length_append,List.length_cons,List.length_nil];omega
 split
 ·simp only [List.length_append,List.length_cons,List.length_nil];omega
 ·simp
theorem Drw.Ok.rf {d:Drw} {I:List Nat} {Ts:List (Option (List UInt8))} (h:d.Ok I Ts) (hr:(d.note (drawnL I Ts)).right=true):(d.note (drawnL I Ts)).RF:=by
 have hf:=h.fit
 have hid : ∀ j,j<many I Ts→I.getD j 0<2^32:=by
  intro j hj
  have h1:j<I.length:=by unfold many at hj;omega
  rw [List.getD_eq_getElem?_getD,List.getElem?_eq_getElem h1]
  exact h.ids _ (List.getElem_mem h1)
 have g1:d.gift1.sh.norm∧d.gift1.sh.depth≤16∧(pack (idBits d.gift1.sh)).length≤20:=by
  unfold Drw.gift1
  split
  ·exact ⟨(fG 4 _).1,Nat.le_trans (fG 4 _).2 (by decide),xC _⟩
  ·exact ⟨trivial,by decide,by decide⟩
 have pe:=rQ (cutB 30 d.tree)
 have he:(entB (drawnL I Ts)).length≤40000:=by
  have h1:=lP 4500 (drawnL I Ts) fun x hx=>by
   obtain ⟨j,hj,rfl⟩:=de hx
   exact lQ _ (hid j hj) (fA _)
  have h2:(drawnL I Ts).length<8:=by rw [cN];exact jn I Ts
  omega
 refine ⟨hf.ses,hf.no,hf.gno,hf.norm,?_,?_,?_,?_,?_,g1.1,g1.2.1,?_,sL hf hr pe g1.2.2 he⟩
 ·exact Nat.le_trans (bP 4 _).2.2 (by decide)
 ·exact Nat.le_trans (bP 4 _).2.1 (by decide)
 ·exact Nat.le_trans pe (by decide)
 ·intro x hx
  obtain ⟨j,hj,rfl⟩:=de hx
  exact sX I Ts j (hid j hj)
 ·have:=hf.len;omega
 ·have:=g1.2.2
  show (pack (idBits d.gift1.sh)).length≤4096
  omega
end Go.Proofs.YtppeggedcaabkaaGreatDoor
end

section
namespace Go.Proofs.YtppeggedcaabkaaGreatDoor
open Go Go.Sx
theorem wy (H:Heap):Ω 7 [] H 0=some (.bool true,[],[]):=pD (n:=60) (by kernel_rfl)
theorem pA (n:Nte) (hr:n.right=true) (hf:n.RF) (H:Heap) (nx:Nat):Ω 14 [.p (.sl (bytP (frame n.body)) (frame n.body).length 1 false)] H nx=some (.tuple [.p (n.pv false),.int .i64 0],[],[]):=by
 have h:=n5 n false hr hf
 simp only [Nte.pv,Nte.cells] at h ⊢
 generalize entP (Ent.row false) 5 n.ents=EP at*
 generalize (frame n.body).length=F at*
 generalize bytP (frame n.body)=G at*
 simp [ssL,↓ssM,aA,ssU,ssR,h]
abbrev nbB:IRC:=ir4.body
theorem u5:ir4=⟨[0],.seq (stC 0 nbB) (.seq (stC 1 nbB) (.seq (stC 2 nbB) (.seq (stC 3 nbB) (.seq (stC 4 nbB) (.seq (stC 5 nbB) (.seq (stC 6 nbB) (.seq (stC 7 nbB) (.seq (stC 8 nbB) (.seq (stC 9 nbB) .ret))))))))),[(2,none)],false⟩:=rfl
section
variable (a:Drw) (M:Nte)
theorem zh (hA : ∀ H,Ω 8 [.p (.agg a.cells)] H 0=some (.tuple [.p (M.pv false),.p (M.rv true)],[],[])):
  runCS apc 0 (.seq (stC 0 nbB) (.seq (stC 1 nbB) (stC 2 nbB))) ⟨[(0,.p (.agg a.cells))],⟨[],[]⟩⟩=some (.normal,⟨[(3,.p (.imm (M.cells false) 0)),(4,.p (.imm (M.rcells true) 0))],⟨[],[]⟩⟩):=by
 have aw:=wy
 simp only [Drw.cells,Nte.pv,Nte.rv,Nte.cells,Nte.rcells,aS,bd] at hA ⊢
 simp +contextual (maxSteps:=1000000) [nbB,ir4,stC,ssI,↓ssJ,ssU,ssP,appO,aw,hA]
theorem yD (p q:LV) (e f:Int) (hM : ∀ H nx,Ω 9 [.p (M.pv false)] H nx=some (.tuple [p,.int .i64 e],[],[])) (hM' : ∀ H nx,Ω 10 [.p (M.rv true)] H nx=some (.tuple [q,.int .i64 f],[],[])):
  runCS apc 0 (.seq (stC 3 nbB) (stC 4 nbB)) ⟨[(3,.p (.imm (M.cells false) 0)),(4,.p (.imm (M.rcells true) 0))],⟨[],[]⟩⟩=
   some (.normal,⟨[(3,.p (.imm (M.cells false) 0)),(4,.p (.imm (M.rcells true) 0)),(5,p),(6,.int .i64 e),(7,q),(8,.int .i64 f)],⟨[],[]⟩⟩):=by
 simp only [Nte.pv,Nte.rv,Nte.cells,Nte.rcells] at hM hM' ⊢
 simp +contextual (maxSteps:=1000000) [nbB,ir4,stC,ssI,↓ssJ,ssU,ssP,appO,hM,hM']
theorem Al (p q:LV) (hp:ids p=[]) (hq:ids q=[]) (e:Int) (r:Bool) (hR : ∀ H nx,Ω 12 [.p (M.pv false)] H nx=some (.bool r,[],[])) (hR' : ∀ H nx,Ω 13 [.p (M.rv true)] H nx=some (.bool r,[],[]))
  (hS : ∀ H nx,Ω 11 [p,q] H nx=some (.bool true,[],[])):
  runCS apc 0 (stC 5 nbB) ⟨[(3,.p (.imm (M.cells false) 0)),(4,.p (.imm (M.rcells true) 0)),(5,p),(6,.int .i64 e),(7,q),(8,.int .i64 e)],⟨[],[]⟩⟩=
   some (.normal,⟨[(3,.p (.imm (M.cells false) 0)),(5,p),(6,.int .i64 e),(45,.bool false)],⟨[],[]⟩⟩):=by
 simp only [Nte.pv,Nte.rv,Nte.cells,Nte.rcells] at hR hR' ⊢
 cases r<;>simp +contextual (maxSteps:=1000000) [nbB,ir4,stC,ssI,↓ssJ,ssU,ssP,appO,hR,hR',hS,hp,hq]
theorem A2 (p:LV) (hR : ∀ H nx,Ω 12 [.p (M.pv false)] H nx=some (.bool false,[],[])):runCS apc 0 (stC 6 nbB) ⟨[(3,.p (.imm (M.cells false) 0)),(5,p),(6,.int .i64 1),(45,.bool false)],⟨[],[]⟩⟩=some (.ret,⟨[(2,.bool true)],⟨[],[]⟩⟩):=by
 simp only [Nte.pv,Nte.rv,Nte.cells,Nte.rcells] at hR ⊢
 simp +contextual (maxSteps:=1000000) [nbB,ir4,stC,ssI,↓ssJ,ssU,ssP,appO,hR]
theorem zj (p:LV) (hp : ∀ s,ren 0 s p=some p) (hp2:ids p=[]) (hRd : ∀ H nx,Ω 14 [p] H nx=some (.tuple [.p (M.pv false),.int .i64 0],[],[])) (hM : ∀ H nx,Ω 9 [.p (M.pv false)] H nx=some (.tuple [p,.int .i64 0],[],[])):
  runCS apc 0 (.seq (stC 6 nbB) (.seq (stC 7 nbB) (stC 8 nbB))) ⟨[(3,.p (.imm (M.cells false) 0)),(5,p),(6,.int .i64 0),(45,.bool false)],⟨[],[]⟩⟩=
   some (.normal,⟨[(5,p),(10,.int .i64 0),(11,p),(12,.int .i64 0)],⟨[],[]⟩⟩):=by
 have hc:(LV.p (entP (Ent.row false) 5 M.ents)).cells=some [.p (entP (Ent.row false) 5 M.ents)]:=by unfold entP;split<;>rfl
 simp only [Nte.pv,Nte.rv,Nte.cells,Nte.rcells] at hRd hM ⊢
 generalize entP (Ent.row false) 5 M.ents=EP at*
 simp +contextual (maxSteps:=1000000) [nbB,ir4,stC,ssI,↓ssJ,ssU,ssP,appO,hRd,hM,hc,hp,hp2]
theorem A3 (p:LV) (hS : ∀ H nx,Ω 11 [p,p] H nx=some (.bool true,[],[])):runCS apc 0 (stC 9 nbB) ⟨[(5,p),(10,.int .i64 0),(11,p),(12,.int .i64 0)],⟨[],[]⟩⟩=some (.normal,⟨[(2,.bool true)],⟨[],[]⟩⟩):=by
 simp +contextual (maxSteps:=1000000) [nbB,ir4,stC,ssI,↓ssJ,ssU,ssP,appO,hS]
end
theorem dC {c:Ctx} {n:Nat} {a b d r:IRC} {st st':St} (h:runCS c n (.seq a (.seq b d)) st=some (.normal,st')):runCS c n (.seq a (.seq b (.seq d r))) st=runCS c n r st':=by
 rw [aU] at h ⊢
 cases q:runCS c n a st with
 | none=>rw [q] at h;cases h
 | some y=>
  obtain ⟨x,s⟩:=y
  rw [q] at h
  cases x with
  | normal=>exact c7 h
  | exit i=>simp at h
  | ret=>simp at h
  | goto i=>simp at h
theorem pB (a:Drw) (I:List Nat) (T:List (Option (List UInt8))) (ha:a.Ok I T):Ω 4 [.p (.agg a.cells)] noH 0=some (.bool true,[],[]):=by
 have hA : ∀ H,Ω 8 [.p (.agg a.cells)] H 0=some (.tuple [.p ((a.made.note (drawnL I (a.mTs T))).pv false),.p ((a.made.note (drawnL I (a.mTs T))).rv true)],[],[]):=
  fun H=>Aj a I (a.mTs T) ha.made.lists ha.made.tree ha.share H 0 (fun H=>zZ H 7) (fun H=>zZ H 9) (fun H=>zY H 5) (fun H=>zY H 7) (fun H=>noC H 7)
 have hM:=ha.made.fit
 have hRF:=ha.made.rf
 generalize a.made.note (drawnL I (a.mTs T))=M at*
 have m1:=fun H nx=>pz M false hM H nx
 have m2:=fun H nx=>oq M true hM H nx
 have r1:=fun H nx=>bJ M false (by have:=hM.len;omega) (fun x hx=>by have:=hM.max x hx;omega) (by have:=hM.ev;omega) H nx
 have r2:=fun H nx=>eW M true (by have:=hM.len;omega) (fun x hx=>by have:=hM.max x hx;omega) (by have:=hM.ev;omega) hM.norm H nx
 rw [iS M hM.norm] at r2
 simp only [Nte.ans] at m1 m2
 refine af (ir:=ir4) (by kernel_rfl) 0 ?_
 rw [runF_I,u5]
 refine (if_pos rfl).trans ?_
 show bindK (runCS _ 0 _ ⟨[(0,LV.p (.agg a.cells))],⟨[],[]⟩⟩) _=_
 rw [dC (zh a M hA)]
 by_cases hr:M.right=true
 ·have lM:(frame M.body).length<2^62:=by have:=tW hM hr;rw [fB];omega
  simp only [if_pos hr] at m1 m2
  rw [hr] at r1 r2
  have s:=fun H nx=>xY (frame M.body) (frame M.body) lM H nx
  simp only [decide_true] at s
  have rd:=fun H nx=>pA M hr (hRF hr) H nx
  rw [c7 (yD M _ _ 0 0 m1 m2),cS (Al M _ _ rfl rfl 0 true r1 r2 s),dC (zj M _ (fun _=>rfl) rfl rd m1),cS (A3 _ s)]
  simp [ssI,↓ssJ,ssU,ssP,appO]
 ·have hr':M.right=false:=by simpa using hr
  simp only [if_neg hr] at m1 m2
  rw [hr'] at r1 r2
  rw [c7 (yD M _ _ 1 1 m1 m2),cS (Al M _ _ rfl rfl 1 false r1 r2 xX),aU,A2 M _ r1]
  simp [ssI,↓ssJ,ssU,ssP,appO]
end Go.Proofs.YtppeggedcaabkaaGreatDoor
end
