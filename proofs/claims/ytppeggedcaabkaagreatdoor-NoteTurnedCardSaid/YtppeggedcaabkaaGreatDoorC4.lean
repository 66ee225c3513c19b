/- What the proof of the claim leans on, part 4 of 5: the value machine, the functions as it has them, their specifications. No condition. -/
import Derived.Test.YtppeggedcaabkaaGreatDoorC3
set_option linter.all false
set_option linter.unnecessarySimpa false
set_option linter.unusedSimpArgs false
set_option linter.unusedVariables false
set_option linter.constructorNameAsVariable false
set_option maxHeartbeats 4000000
section
namespace Go.Proofs.YtppeggedcaabkaaGreatDoor
open Go Go.Sx
theorem At.call {H:Heap} {nx wid P pid n:Nat} {h:Hp} {p:List UInt8} (g:At H nx h wid P pid p n) {u:Upd} {m:List (Ob)} {pid' n':Nat} {p':List UInt8} (e2:Post (Go.Sx.look H nx h) (nx+h.new.length) wid pid n u m pid' p' n'):
  At H nx (aft nx h u m) wid P pid' p' n'∧(∀ id,id<nx+h.new.length→id≠wid→(n=0∨id≠pid)→Go.Sx.look H nx (aft nx h u m) id=Go.Sx.look H nx h id)∧h.new.length≤(aft nx h u m).new.length∧(findU (aft nx h u m).upd wid).isSome=true∧(pid'=pid∨nx+h.new.length≤pid'):=by
 have hlook : ∀ id,Go.Sx.look H nx (aft nx h u m) id=Go.Sx.look (Go.Sx.look H nx h) (nx+h.new.length) ⟨u,m⟩ id:=fun id=>dD e2.keys id
 have hlen:(aft nx h u m).new.length=h.new.length+m.length:=by simp [aft,bp]
 have hfun:Go.Sx.look H nx (aft nx h u m)=Go.Sx.look (Go.Sx.look H nx h) (nx+h.new.length) ⟨u,m⟩:=funext hlook
 have hal:=UZ.all g.lt g.ne g.uz (pid:=if n=0 then nx+h.new.length+wid+1 else pid) (by
  by_cases h0:n=0
  ·rw [if_pos h0];exact .inr (by omega)
  ·rw [if_neg h0];exact g.pp.resolve_left h0) e2.form
 have hpp:pid'=pid∨nx+h.new.length≤pid':=by
  rcases e2.pp with ⟨a,b⟩|b
  ·exact .inl b
  ·exact .inr b
 refine ⟨⟨?_,g.lt,g.ne,?_,⟨hal.1.uf,hal.1.zz,hal.1.kk⟩⟩,fun id h1 h2 h3=>by rw [hlook];exact e2.frame id h1 h2 h3,by omega,hal.2,hpp⟩
 ·rw [hfun,hlen,←Nat.add_assoc]
  exact e2.wr
 ·rcases e2.pp with ⟨a,b⟩|b
  ·rw [b]
   rcases g.pp with h|h
   ·omega
   ·exact .inr h
  ·exact .inr (.inr (by omega))
structure Wk (H:Heap) (nx:Nat) (h:Hp) (wid P pid:Nat) (p:List UInt8) (n:Nat) (L:List (Ob)):Prop where
 a:At H nx h wid P pid p n
 k : ∀ (j:Nat) o,L[j]?=some (some o)→Go.Sx.look H nx h (nx+j)=some o
 kl:L.length≤h.new.length
 kp:n=0∨pid<nx∨nx+L.length≤pid
theorem Wk.init {H:Heap} {nx wid pid:Nat} {p:List UInt8} {n:Nat} (g:Wr H nx wid pid p n) (L:List (Ob)):Wk H nx ⟨[],L⟩ wid (if n=0 then nx+wid+1 else pid) pid p n L:=by
 have hlt:=g.lt
 have hl : ∀ id,id<nx→Go.Sx.look H nx ⟨[],L⟩ id=H id:=fun id h=>by simp [Go.Sx.look,findU,h]
 refine ⟨⟨⟨by simp;omega,g.len,g.small,?_⟩,hlt,?_,?_,⟨.u0,fun o h=>by simp [findU] at h,fun id o h=>by simp [findU] at h⟩⟩,?_,Nat.le_refl _,?_⟩
 ·rcases g.at' with ⟨h0,h1⟩|⟨h0,h1,h2,h3,h4⟩
  ·exact .inl ⟨h0,by rw [hl _ hlt];exact h1⟩
  ·exact .inr ⟨h0,by simp;omega,h2,by rw [hl _ hlt];exact h3,by rw [hl _ h1];exact h4⟩
 ·split
  ·omega
  ·rcases g.at' with ⟨h0,h1⟩|⟨h0,h1,h2,h3,h4⟩
   ·omega
   ·exact h2
 ·by_cases h0:n=0
  ·exact .inl h0
  ·rw [if_neg h0];exact .inr (.inl rfl)
 ·intro j o hj
  simp [Go.Sx.look,ltF,hj]
 ·rcases g.at' with ⟨h0,h1⟩|⟨h0,h1,h2,h3,h4⟩
  ·exact .inl h0
  ·exact .inr (.inl h1)
theorem Wk.call {H:Heap} {nx wid P pid n:Nat} {h:Hp} {p:List UInt8} {L:List (Ob)} (w:Wk H nx h wid P pid p n L) {u:Upd} {m:List (Ob)} {pid' n':Nat} {p':List UInt8} (e2:Post (Go.Sx.look H nx h) (nx+h.new.length) wid pid n u m pid' p' n'):
  Wk H nx (aft nx h u m) wid P pid' p' n' L∧(findU (aft nx h u m).upd wid).isSome=true:=by
 obtain ⟨a',hf,hlen,hw,_⟩:=w.a.call e2
 have hlt:=w.a.lt
 have hkl:=w.kl
 refine ⟨⟨a',fun j o hj => ?_,Nat.le_trans w.kl hlen,?_⟩,hw⟩
 ·have hjl:=(List.getElem?_eq_some_iff.1 hj).1
  rw [hf (nx+j) (by omega) (by omega) (by rcases w.kp with h|h|h;exact .inl h;exact .inr (by omega);exact .inr (by omega))]
  exact w.k j o hj
 ·rcases e2.pp with ⟨h0,rfl⟩|h0
  ·exact .inr (w.kp.resolve_left (by omega))
  ·exact .inr (.inr (by omega))
theorem Wk.put {H:Heap} {nx wid P pid n:Nat} {h:Hp} {p:List UInt8} {L:List (Ob)} (w:Wk H nx h wid P pid p n L) (x k:Nat) (hk0:0<k) (hk:k≤64) (hn:n+k<2^30):
  ∃ u m pid',Ω 136 [.ref wid 0,.int .u64 x,.int .i64 k] (Go.Sx.look H nx h) (nx+h.new.length)=some (.tuple [],u,m)∧Wk H nx (aft nx h u m) wid P pid' (addBits p n (bitsOf x k)) (n+k) L∧(findU (aft nx h u m).upd wid).isSome=true:=by
 obtain ⟨u,m,pid',e1,e2⟩:=wR w.a.wr x k hk0 hk hn
 exact ⟨u,m,pid',e1,w.call e2⟩
theorem Wk.num {H:Heap} {nx wid P pid n:Nat} {h:Hp} {p:List UInt8} {L:List (Ob)} (w:Wk H nx h wid P pid p n L) (v:Nat) (hv:v<2^64) (hn:n+200<2^30):
  ∃ u m pid',Ω 137 [.ref wid 0,.int .u64 v] (Go.Sx.look H nx h) (nx+h.new.length)=some (.tuple [],u,m)∧Wk H nx (aft nx h u m) wid P pid' (addBits p n (numBits v 2 62)) (n+(numBits v 2 62).length) L∧(findU (aft nx h u m).upd wid).isSome=true:=by
 obtain ⟨u,m,pid',e1,e2⟩:=vZ w.a.wr v hv hn
 exact ⟨u,m,pid',e1,w.call e2⟩
def seqL:IRC→IRC
 | .seq a _=>a
 | x=>x
def seqR:IRC→IRC
 | .seq _ b=>b
 | x=>x
def idBits:Id→List Bool
 | .zero=>bitsOf 0 2++bitsOf 0 1
 | .one=>bitsOf 0 2++bitsOf 1 1
 | .node l r=>if l = .zero then bitsOf 1 2++idBits r else if r = .zero then bitsOf 2 2++idBits l else bitsOf 3 2++idBits l++idBits r
theorem dP (i:Id):0<(idBits i).length:=by
 cases i with
 | node l r=>unfold idBits;split<;>(try split)<;>simp [aj]<;>omega
 | _=>simp [idBits,aj]
def pidA:IRC:=seqL ir132.body
def pidB:IRC:=seqL (seqR ir132.body)
def pidC:IRC:=seqR (seqR ir132.body)
abbrev idC (i:Id):Ob:=some (.cells [.bool i.all,.p i.ptr])
theorem xU (i:Id) (x:LV) (H:Heap) (nx n:Nat):runCS ⟨Ω,noG,H,nx⟩ n pidA ⟨[(0,x),(1,.p i.pv)],⟨[],[]⟩⟩=some (.normal,⟨[(0,x),(3,.ref nx 0)],⟨[],[idC i]⟩⟩):=by
 simp [pidA,seqL,ir132,ssB,ssU,ssP,appO]
theorem xV (i:Id) (x:LV) (H:Heap) (nx n:Nat):runCS ⟨Ω,noG,H,nx⟩ n pidB ⟨[(0,x),(3,.ref nx 0)],⟨[],[idC i]⟩⟩=some (.normal,⟨[(0,x),(3,.ref nx 0),(4,.ref (nx+1) 0),(5,.ref (nx+2) 0)],⟨[],[idC i,idC i.left,idC i.right]⟩⟩):=by
 have l1:=uC i
 have l2:=sL i
 generalize i.left=l at*
 generalize i.right=r at*
 simp [pidB,seqL,seqR,ir132,ssB,ssU,ssP,appO,l1,l2]
section
variable {H:Heap} {nx wid pid n:Nat} {p:List UInt8}
theorem iH {i:Id} {h:Hp} {u:Upd} {m:List (Ob)} {e:List (Nat × LV)} (N:Nat) (H:Heap) (nx:Nat) (h3:runCS ⟨Ω,noG,H,nx⟩ N pidC ⟨[(0,.ref wid 0),(3,.ref nx 0),(4,.ref (nx+1) 0),(5,.ref (nx+2) 0)],⟨[],[idC i,idC i.left,idC i.right]⟩⟩=some (.normal,⟨e,h⟩)) (hf:finish false H nx (.tuple []) h=some (.tuple [],u,m)):
  Ω 132 [.ref wid 0,.p i.pv] H nx=some (.tuple [],u,m):=by
 refine ae (ir:=ir132) (by kernel_rfl) N ?_
 have hr:ir132=⟨[0,1],.seq pidA (.seq pidB pidC),[],false⟩:=rfl
 rw [hr]
 have a:=xU i (.ref wid 0) H nx N
 have b:=xV i (.ref wid 0) H nx N
 generalize pidA=A at*
 generalize pidB=B at*
 generalize pidC=C at*
 simp [ssB,ssU,ay,ax,af,Go.Sx.splice,appO,Go.Sx.leI_eq,ltF,a,b,h3,hf]
theorem ju (i:Id) (x:Nat) (hx:(i = .zero∧x=0)∨(i = .one∧x=1)) (g:Wr H nx wid pid p n) (hn:n+3<2^30):
  ∃ u m pid',Ω 132 [.ref wid 0,.p i.pv] H nx=some (.tuple [],u,m)∧Post H nx wid pid n u m pid' (addBits p n (bitsOf 0 2++bitsOf x 1)) (n+3):=by
 have a0:=Wk.init g [idC i,idC i.left,idC i.right]
 obtain ⟨u1,m1,q1,f1,a1,_⟩:=a0.put 0 2 (by decide) (by decide) (by omega)
 obtain ⟨u2,m2,q2,f2,a2,w2⟩:=a1.put x 1 (by decide) (by decide) (by omega)
 have hb:addBits (addBits p n (bitsOf 0 2)) (n+2) (bitsOf x 1)=addBits p n (bitsOf 0 2++bitsOf x 1):=by rw [ba,aj]
 rw [hb] at a2
 obtain ⟨u,m,q,f3,f4⟩:=a2.a.post false (pid0:=pid) (n0:=n) (by omega) w2
 refine ⟨u,m,q,iH (e:=[]) 1 H nx ?_ f3,f4⟩
 have z1:=aK i
 have z2:=aX i
 have k0:=a0.k 0 _ rfl
 have c0:((0:Nat):Int)=0:=rfl
 have c1:((1:Nat):Int)=1:=rfl
 have c2:((2:Nat):Int)=2:=rfl
 rw [c0,c2] at f1
 rw [Nat.add_zero] at k0
 generalize (⟨[],[idC i,idC i.left,idC i.right]⟩:Hp)=h0 at*
 rcases hx with ⟨hi,rfl⟩|⟨hi,rfl⟩
 ·rw [c0,c1] at f2
  have n1:(i = .zero)=True:=by simp [hi]
  simp only [n1,decide_true] at z1
  clear hi n1
  simp [pidC,seqR,ir132,ssB,ssU,ay,ax,af,Go.Sx.splice,appO,Go.Sx.leI_eq,ltF,z1,z2,f1,f2,k0]
 ·rw [c1] at f2
  have n1:(i = .zero)=False:=by simp [hi]
  have n2:(i = .one)=True:=by simp [hi]
  simp only [n1,decide_false] at z1
  simp only [n2,decide_true] at z2
  clear hi n1 n2
  simp [pidC,seqR,ir132,ssB,ssU,ay,ax,af,Go.Sx.splice,appO,Go.Sx.leI_eq,ltF,z1,z2,f1,f2,k0]
theorem jt : ∀ (i:Id) (H:Heap) (nx wid pid n:Nat) (p:List UInt8),Wr H nx wid pid p n→n+(idBits i).length<2^30 →
  ∃ u m pid',Ω 132 [.ref wid 0,.p i.pv] H nx=some (.tuple [],u,m)∧Post H nx wid pid n u m pid' (addBits p n (idBits i)) (n+(idBits i).length)
 | .zero,H,nx,wid,pid,n,p,g,hn=>ju .zero 0 (.inl ⟨rfl,rfl⟩) g (by simpa [idBits,aj] using hn)
 | .one,H,nx,wid,pid,n,p,g,hn=>ju .one 1 (.inr ⟨rfl,rfl⟩) g (by simpa [idBits,aj] using hn)
 | .node l r,H,nx,wid,pid,n,p,g,hn=>by
  have a0:=Wk.init g [idC (.node l r),idC l,idC r]
  have z1:=aK (.node l r)
  have z2:=aX (.node l r)
  have z3:=aK l
  have z4:=aK r
  have c0:((0:Nat):Int)=0:=rfl
  have c1:((1:Nat):Int)=1:=rfl
  have c2:((2:Nat):Int)=2:=rfl
  have c3:((3:Nat):Int)=3:=rfl
  have n1:(Id.node l r = .zero)=False:=by simp
  have n2:(Id.node l r = .one)=False:=by simp
  simp only [n1,decide_false] at z1
  simp only [n2,decide_false] at z2
  clear n1 n2
  have k0:=a0.k 0 _ rfl
  have k1:=a0.k 1 _ rfl
  have k2:=a0.k 2 _ rfl
  rw [Nat.add_zero] at k0
  by_cases hl:l = .zero
  ·have hB:idBits (.node l r)=bitsOf 1 2++idBits r:=by simp [idBits,hl]
   rw [hB] at hn ⊢
   rw [List.length_append,aj] at hn
   obtain ⟨u1,m1,q1,f1,a1,_⟩:=a0.put 1 2 (by decide) (by decide) (by omega)
   obtain ⟨u2,m2,q2,f2,p2⟩:=jt r _ _ wid q1 (n+2) _ a1.a.wr (by omega)
   obtain ⟨a2,w2⟩:=a1.call p2
   rw [List.length_append,aj,←Nat.add_assoc,ba,aj]
   have hp:=dP r
   obtain ⟨u,m,q,f3,f4⟩:=a2.a.post false (pid0:=pid) (n0:=n) (by omega) w2
   refine ⟨u,m,q,iH (e:=[]) 1 H nx ?_ f3,f4⟩
   rw [c1,c2] at f1
   have n3:(l = .zero)=True:=by simp [hl]
   simp only [n3,decide_true] at z3
   clear n3
   have k3:=a1.k 2 _ rfl
   rw [Id.left_n,Id.right_n]
   generalize (⟨[],[idC (.node l r),idC l,idC r]⟩:Hp)=h0 at*
   generalize Id.node l r=i at*
   clear hl
   simp [pidC,seqR,ir132,ssB,ssU,ay,ax,af,Go.Sx.splice,appO,Go.Sx.leI_eq,ltF,z1,z2,z3,f1,f2,k0,k1,k3]
  ·simp only [hl,decide_false] at z3
   by_cases hr:r = .zero
   ·have hB:idBits (.node l r)=bitsOf 2 2++idBits l:=by simp [idBits,hl,hr]
    rw [hB] at hn ⊢
    rw [List.length_append,aj] at hn
    obtain ⟨u1,m1,q1,f1,a1,_⟩:=a0.put 2 2 (by decide) (by decide) (by omega)
    obtain ⟨u2,m2,q2,f2,p2⟩:=jt l _ _ wid q1 (n+2) _ a1.a.wr (by omega)
    obtain ⟨a2,w2⟩:=a1.call p2
    rw [List.length_append,aj,←Nat.add_assoc,ba,aj]
    have hp:=dP l
    obtain ⟨u,m,q,f3,f4⟩:=a2.a.post false (pid0:=pid) (n0:=n) (by omega) w2
    refine ⟨u,m,q,iH (e:=[]) 1 H nx ?_ f3,f4⟩
    rw [c2] at f1
    have n4:(r = .zero)=True:=by simp [hr]
    simp only [n4,decide_true] at z4
    clear n4
    have k3:=a1.k 1 _ rfl
    rw [Id.left_n,Id.right_n]
    generalize (⟨[],[idC (.node l r),idC l,idC r]⟩:Hp)=h0 at*
    generalize Id.node l r=i at*
    clear hl hr
    simp [pidC,seqR,ir132,ssB,ssU,ay,ax,af,Go.Sx.splice,appO,Go.Sx.leI_eq,ltF,z1,z2,z3,z4,f1,f2,k0,k1,k2,k3]
   ·simp only [hr,decide_false] at z4
    have hB:idBits (.node l r)=bitsOf 3 2++idBits l++idBits r:=by simp [idBits,hl,hr]
    rw [hB] at hn ⊢
    rw [List.length_append,List.length_append,aj] at hn
    obtain ⟨u1,m1,q1,f1,a1,_⟩:=a0.put 3 2 (by decide) (by decide) (by omega)
    obtain ⟨u2,m2,q2,f2,p2⟩:=jt l _ _ wid q1 (n+2) _ a1.a.wr (by omega)
    obtain ⟨a2,_⟩:=a1.call p2
    obtain ⟨u3,m3,q3,f3,p3⟩:=jt r _ _ wid q2 (n+2+(idBits l).length) _ a2.a.wr (by omega)
    obtain ⟨a3,w3⟩:=a2.call p3
    rw [List.length_append,List.length_append,aj,←Nat.add_assoc,←Nat.add_assoc,ba,ba,aj,List.length_append,aj,←Nat.add_assoc]
    have hp:=dP l
    obtain ⟨u,m,q,f4,f5⟩:=a3.a.post false (pid0:=pid) (n0:=n) (by omega) w3
    refine ⟨u,m,q,iH (e:=[]) 1 H nx ?_ f4,f5⟩
    rw [c3,c2] at f1
    have k3:=a1.k 1 _ rfl
    have k4:=a2.k 2 _ rfl
    rw [Id.left_n,Id.right_n]
    generalize (⟨[],[idC (.node l r),idC l,idC r]⟩:Hp)=h0 at*
    generalize Id.node l r=i at*
    clear hl hr
    simp [pidC,seqR,ir132,ssB,ssU,ay,ax,af,Go.Sx.splice,appO,Go.Sx.leI_eq,ltF,z1,z2,z3,z4,f1,f2,f3,k0,k1,k2,k3,k4]
end
end Go.Proofs.YtppeggedcaabkaaGreatDoor
end

section
namespace Go.Proofs.YtppeggedcaabkaaGreatDoor
open Go Go.Sx
structure Wq (H:Heap) (nx:Nat) (h:Hp) (wid P pid:Nat) (p:List UInt8) (n:Nat) (K:List (Nat × Go.Sx.Obj)):Prop where
 a:At H nx h wid P pid p n
 k : ∀ x∈K,Go.Sx.look H nx h x.1=some x.2∧nx≤x.1∧x.1<nx+h.new.length∧(n=0∨x.1≠pid)
section
variable {H:Heap} {nx:Nat} {h:Hp} {wid P pid:Nat} {p:List UInt8} {n:Nat} {K:List (Nat × Go.Sx.Obj)}
theorem Wk.toQ {L:List (Ob)} (w:Wk H nx h wid P pid p n L) (hK : ∀ x∈K,∃ j,x.1=nx+j∧L[j]?=some (some x.2)):Wq H nx h wid P pid p n K:=by
 refine ⟨w.a,fun x hx => ?_⟩
 obtain ⟨j,h1,h2⟩:=hK x hx
 have hj:=(List.getElem?_eq_some_iff.1 h2).1
 have hl:=w.kl
 rw [h1]
 refine ⟨w.k j _ h2,by omega,by omega,?_⟩
 rcases w.kp with h|h|h
 ·exact .inl h
 ·exact .inr (by omega)
 ·exact .inr (by omega)
theorem Wq.call (w:Wq H nx h wid P pid p n K) {u:Upd} {m:List (Ob)} {pid' n':Nat} {p':List UInt8} (e2:Post (Go.Sx.look H nx h) (nx+h.new.length) wid pid n u m pid' p' n'):
  Wq H nx (aft nx h u m) wid P pid' p' n' K∧(findU (aft nx h u m).upd wid).isSome=true:=by
 obtain ⟨a',hf,hlen,hw,_⟩:=w.a.call e2
 have hlt:=w.a.lt
 refine ⟨⟨a',fun x hx => ?_⟩,hw⟩
 obtain ⟨k1,k2,k3,k4⟩:=w.k x hx
 refine ⟨by rw [hf x.1 k3 (by omega) k4];exact k1,k2,by omega,?_⟩
 rcases e2.pp with ⟨h0,rfl⟩|h0
 ·exact .inr (k4.resolve_left (by omega))
 ·exact .inr (by omega)
theorem Wq.put (w:Wq H nx h wid P pid p n K) (x k:Nat) (hk0:0<k) (hk:k≤64) (hn:n+k<2^30):
  ∃ u m pid',Ω 136 [.ref wid 0,.int .u64 x,.int .i64 k] (Go.Sx.look H nx h) (nx+h.new.length)=some (.tuple [],u,m)∧Wq H nx (aft nx h u m) wid P pid' (addBits p n (bitsOf x k)) (n+k) K∧(findU (aft nx h u m).upd wid).isSome=true:=by
 obtain ⟨u,m,pid',e1,e2⟩:=wR w.a.wr x k hk0 hk hn
 exact ⟨u,m,pid',e1,w.call e2⟩
theorem Wq.num (w:Wq H nx h wid P pid p n K) (v:Nat) (hv:v<2^64) (hn:n+200<2^30):
  ∃ u m pid',Ω 137 [.ref wid 0,.int .u64 v] (Go.Sx.look H nx h) (nx+h.new.length)=some (.tuple [],u,m)∧Wq H nx (aft nx h u m) wid P pid' (addBits p n (numBits v 2 62)) (n+(numBits v 2 62).length) K∧(findU (aft nx h u m).upd wid).isSome=true:=by
 obtain ⟨u,m,pid',e1,e2⟩:=vZ w.a.wr v hv hn
 exact ⟨u,m,pid',e1,w.call e2⟩
theorem Wq.push (w:Wq H nx h wid P pid p n K) (o:Go.Sx.Obj):Wq H nx (Go.Sx.push h o) wid P pid p n ((nx+h.new.length,o)::K):=by
 have hlt:=w.a.lt
 have lk : ∀ id,id<nx+h.new.length→Go.Sx.look H nx (Go.Sx.push h o) id=Go.Sx.look H nx h id:=fun id hi=>by rw [aF];exact if_neg (by omega)
 have hpl:(Go.Sx.push h o).new.length=h.new.length+1:=aR _ _
 refine ⟨⟨⟨by rw [hpl];omega,w.a.wr.len,w.a.wr.small,?_⟩,w.a.lt,w.a.ne,w.a.pp,w.a.uz.push o⟩,fun x hx => ?_⟩
 ·rcases w.a.wr.at' with ⟨h0,h1⟩|⟨h0,h1,h2,h3,h4⟩
  ·exact .inl ⟨h0,by rw [lk _ (by omega)];exact h1⟩
  ·exact .inr ⟨h0,by rw [hpl];omega,h2,by rw [lk _ (by omega)];exact h3,by rw [lk _ (by omega)];exact h4⟩
 ·rcases List.mem_cons.1 hx with rfl|hx
  ·refine ⟨by rw [aF,if_pos rfl],by omega,by rw [hpl];omega,?_⟩
   rcases w.a.wr.at' with ⟨h0,h1⟩|⟨h0,h1,h2,h3,h4⟩
   ·exact .inl h0
   ·exact .inr (Nat.ne_of_gt h1)
  ·obtain ⟨k1,k2,k3,k4⟩:=w.k x hx
   exact ⟨by rw [lk _ k3];exact k1,k2,by rw [hpl];omega,k4⟩
theorem Wq.sub {K':List (Nat × Go.Sx.Obj)} (w:Wq H nx h wid P pid p n K) (hs : ∀ x∈K',x∈K):Wq H nx h wid P pid p n K':=⟨w.a,fun x hx=>w.k x (hs x hx)⟩
theorem eF (nx:Nat) (h:Hp) (o:Go.Sx.Obj) (o':Ob):Go.Sx.setObj nx (Go.Sx.push h o) (nx+h.new.length) o'=⟨h.upd,h.new++[o']⟩:=by
 simp [Go.Sx.setObj,Go.Sx.push,ltF]
end
theorem bF (e:Ev) (H:Heap) (nx:Nat):Ω 139 [.p e.pv] H nx=some (.bool (decide (e = .leaf 0)),[],[]):=by
 refine ae (ir:=ir139) (by kernel_rfl) 0 ?_
 cases e with
 | leaf n=>
  have h1:=i8 n
  have h2:=oG n (.s (.pointer none))
  by_cases h0:n=0
  ·subst h0
   simp only [Int.natCast_zero,Int.ofNat_zero] at h1 h2
   simp [ir139,Ev.n_l,Ev.ptr_l,h1,h2,ssB,ssU,ssP,appO]
  ·have:((n:Int)==0)=false:=by simp;omega
   simp [ir139,Ev.n_l,Ev.ptr_l,h1,h2,this,h0,ssB,ssU,ssP,appO]
 | node n l r=>
  have h1:=fun cs=>i9 n cs
  simp [ir139,Ev.n_n,Ev.ptr_n,h1,ssB,ssU,ssP,appO]
theorem uo (e:Ev) (H:Heap) (nx:Nat):Ω 133 [.p e.pv] H nx=some (.p e.left.pv,[],[]):=by
 cases e
 ·exact lC _ H nx
 ·exact lG _ _ _ _ _ H nx
theorem sg (e:Ev) (H:Heap) (nx:Nat):Ω 134 [.p e.pv] H nx=some (.p e.right.pv,[],[]):=by
 cases e
 ·exact jN _ H nx
 ·exact jO _ _ _ _ _ H nx
theorem bi (e:Ev) (H:Heap) (nx:Nat):Ω 135 [.p e.pv] H nx=some (.bool e.isLeaf,[],[]):=by
 cases e
 ·exact i8 _ H nx
 ·exact i9 _ _ H nx
theorem bJ (e:Ev) (H:Heap) (nx:Nat):Ω 138 [.p e.pv] H nx=some (.int .u64 e.n,[],[]):=oG _ _ H nx
def evKind (n:Nat) (zl zr:Bool):List Bool:=
 if n=0 then (if zl then bitsOf 0 2 else if zr then bitsOf 1 2 else bitsOf 2 2)
 else bitsOf 3 2++(if zl then bitsOf 0 2 else if zr then bitsOf 1 2 else bitsOf 1 1)
theorem nr (n:Nat) (zl zr:Bool):0<(evKind n zl zr).length∧(evKind n zl zr).length≤4:=by
 unfold evKind
 split<;>cases zl<;>cases zr<;>simp [aj]
def evBits:Ev→List Bool
 | .leaf n=>bitsOf 1 1++numBits n 2 62
 | .node n l r=>bitsOf 0 1++evKind n (decide (l = .leaf 0)) (decide (r = .leaf 0))++(if n=0 then [] else numBits n 2 62)++(if l = .leaf 0 then [] else evBits l)++(if r = .leaf 0 then [] else evBits r)
def pevA:IRC:=seqL ir74.body
def pevB:IRC:=seqL (seqR ir74.body)
def pevC:IRC:=seqL (seqR (seqR ir74.body))
def pevD:IRC:=seqL (seqR (seqR (seqR ir74.body)))
def pevE:IRC:=seqL (seqR (seqR (seqR (seqR ir74.body))))
def pevF:IRC:=seqL (seqR (seqR (seqR (seqR (seqR ir74.body)))))
def pevG:IRC:=seqL (seqR (seqR (seqR (seqR (seqR (seqR ir74.body))))))
theorem rh:ir74=⟨[0,1],.seq pevA (.seq pevB (.seq pevC (.seq pevD (.seq pevE (.seq pevF (.seq pevG (.block 1 (.loop ir74_0)))))))),[],false⟩:=rfl
abbrev evO (e:Ev):Go.Sx.Obj:=.cells [.int .u64 e.n,.p e.ptr]
abbrev evC (e:Ev):Ob:=some (evO e)
theorem xO (e:Ev) (x:LV) (H:Heap) (nx n:Nat):runCS ⟨Ω,noG,H,nx⟩ n pevA ⟨[(0,x),(1,.p e.pv)],⟨[],[]⟩⟩=some (.normal,⟨[(0,x),(3,.ref nx 0)],⟨[],[evC e]⟩⟩):=by
 simp [pevA,seqL,ir74,ssB,ssU,ssP,appO]
theorem xP (e:Ev) (x:LV) (H:Heap) (nx n:Nat):runCS ⟨Ω,noG,H,nx⟩ n pevB ⟨[(0,x),(3,.ref nx 0)],⟨[],[evC e]⟩⟩=some (.normal,⟨[(0,x),(3,.ref nx 0),(4,.ref (nx+1) 0),(5,.ref (nx+2) 0)],⟨[],[evC e,evC e.left,evC e.right]⟩⟩):=by
 have l1:=uo e
 have l2:=sg e
 generalize e.left=l at*
 generalize e.right=r at*
 simp [pevB,seqL,seqR,ir74,ssB,ssU,ssP,appO,l1,l2]
abbrev pevEnv (wid nx:Nat):List (Nat × LV):=[(0,.ref wid 0),(3,.ref nx 0),(4,.ref (nx+1) 0),(5,.ref (nx+2) 0)]
abbrev pevK (nx:Nat) (e:Ev):List (Nat × Go.Sx.Obj):=[(nx,evO e),(nx+1,evO e.left),(nx+2,evO e.right)]
section
variable {H:Heap} {nx:Nat} {h:Hp} {wid P pid:Nat} {p:List UInt8} {n:Nat}
theorem wP (N:Nat) (e:Ev) (w:Wq H nx h wid P pid p n (pevK nx e)) (hl:e.isLeaf=false):runCS ⟨Ω,noG,H,nx⟩ N pevC ⟨pevEnv wid nx,h⟩=some (.normal,⟨(pevEnv wid nx)++[(13,.bool false)],h⟩):=by
 have k0:=(w.k _ (List.mem_cons_self)).1
 have z:=bi e
 rw [hl] at z
 simp [pevC,seqL,seqR,ir74,ssB,ssU,ay,ax,af,Go.Sx.splice,appO,Go.Sx.leI_eq,ltF,z,k0]
theorem wQ (N:Nat) (e:Ev) (w:Wq H nx h wid P pid p n (pevK nx e)) (hl:e.isLeaf=true) (hv:e.n<2^64) (hn:n+201<2^30) : ∃ h' pid',runCS ⟨Ω,noG,H,nx⟩ N pevC ⟨pevEnv wid nx,h⟩=some (.ret,⟨[],h'⟩)∧Wq H nx h' wid P pid' (addBits p n (bitsOf 1 1++numBits e.n 2 62)) (n+(1+(numBits e.n 2 62).length)) (pevK nx e)∧(findU h'.upd wid).isSome=true:=by
 have k0:=(w.k _ (List.mem_cons_self)).1
 have z:=bi e
 rw [hl] at z
 have b:=bJ e
 obtain ⟨u1,m1,q1,f1,a1,_⟩:=w.put 1 1 (by decide) (by decide) (by omega)
 obtain ⟨u2,m2,q2,f2,a2,w2⟩:=a1.num e.n hv (by omega)
 have k1:=(a1.k _ (List.mem_cons_self)).1
 have c1:((1:Nat):Int)=1:=rfl
 rw [c1] at f1
 refine ⟨_,q2,?_,by rw [ba,aj,←Nat.add_assoc];exact a2,w2⟩
 simp [pevC,seqL,seqR,ir74,ssB,ssU,ay,ax,af,Go.Sx.splice,appO,Go.Sx.leI_eq,ltF,z,k0,k1,b,f1,f2]
theorem xQ (N:Nat) (e:Ev) (x:LV) (w:Wq H nx h wid P pid p n (pevK nx e)) (hn:n+201<2^30) : ∃ h' pid',runCS ⟨Ω,noG,H,nx⟩ N pevD ⟨(pevEnv wid nx)++[(13,x)],h⟩=some (.normal,⟨pevEnv wid nx,h'⟩)∧Wq H nx h' wid P pid' (addBits p n (bitsOf 0 1)) (n+1) (pevK nx e)∧(findU h'.upd wid).isSome=true:=by
 obtain ⟨u1,m1,q1,f1,a1,w1⟩:=w.put 0 1 (by decide) (by decide) (by omega)
 have c0:((0:Nat):Int)=0:=rfl
 have c1:((1:Nat):Int)=1:=rfl
 rw [c0,c1] at f1
 refine ⟨_,q1,?_,a1,w1⟩
 simp [pevD,seqL,seqR,ir74,ssB,ssU,ay,ax,af,Go.Sx.splice,appO,Go.Sx.leI_eq,ltF,f1]
theorem xR (N:Nat) (e:Ev) (w:Wq H nx h wid P pid p n (pevK nx e)) (hn:n+201<2^30) : ∃ h' pid',runCS ⟨Ω,noG,H,nx⟩ N pevE ⟨pevEnv wid nx,h⟩=some (.normal,⟨pevEnv wid nx,h'⟩) ∧
  Wq H nx h' wid P pid' (addBits p n (evKind e.n (decide (e.left = .leaf 0)) (decide (e.right = .leaf 0)))) (n+(evKind e.n (decide (e.left = .leaf 0)) (decide (e.right = .leaf 0))).length) (pevK nx e)∧(findU h'.upd wid).isSome=true:=by
 have k0:=(w.k _ (List.mem_cons_self)).1
 have k1:=(w.k (nx+1,evO e.left) (by simp)).1
 have k2:=(w.k (nx+2,evO e.right) (by simp)).1
 have z1:=bF e.left
 have z2:=bF e.right
 have b:=bJ e
 have c0:((0:Nat):Int)=0:=rfl
 have c1:((1:Nat):Int)=1:=rfl
 have c2:((2:Nat):Int)=2:=rfl
 have c3:((3:Nat):Int)=3:=rfl
 generalize decide (e.left = .leaf 0)=zl at*
 generalize decide (e.right = .leaf 0)=zr at*
 have one : ∀ (v k:Nat),0<k→k≤64→n+k<2^30→evKind e.n zl zr=bitsOf v k→(∀ (u:Upd) (m:List (Ob)),Ω 136 [.ref wid 0,.int .u64 v,.int .i64 k] (Go.Sx.look H nx h) (nx+h.new.length)=some (.tuple [],u,m) →
   runCS ⟨Ω,noG,H,nx⟩ N pevE ⟨pevEnv wid nx,h⟩=some (.normal,⟨pevEnv wid nx,aft nx h u m⟩))→∃ h' pid',runCS ⟨Ω,noG,H,nx⟩ N pevE ⟨pevEnv wid nx,h⟩=some (.normal,⟨pevEnv wid nx,h'⟩) ∧
    Wq H nx h' wid P pid' (addBits p n (evKind e.n zl zr)) (n+(evKind e.n zl zr).length) (pevK nx e)∧(findU h'.upd wid).isSome=true:=by
  intro v k hk0 hk hnk hB hr
  obtain ⟨u1,m1,q1,f1,a1,w1⟩:=w.put v k hk0 hk hnk
  exact ⟨_,q1,hr u1 m1 f1,by rw [hB,aj];exact a1,w1⟩
 have two : ∀ (v k:Nat),0<k→k≤64→n+2+k<2^30→evKind e.n zl zr=bitsOf 3 2++bitsOf v k→(∀ (u:Upd) (m:List (Ob)) (u2:Upd) (m2:List (Ob)),Ω 136 [.ref wid 0,.int .u64 3,.int .i64 2] (Go.Sx.look H nx h) (nx+h.new.length)=some (.tuple [],u,m) →
   Ω 136 [.ref wid 0,.int .u64 v,.int .i64 k] (Go.Sx.look H nx (aft nx h u m)) (nx+(aft nx h u m).new.length)=some (.tuple [],u2,m2) →
   runCS ⟨Ω,noG,H,nx⟩ N pevE ⟨pevEnv wid nx,h⟩=some (.normal,⟨pevEnv wid nx,aft nx (aft nx h u m) u2 m2⟩))→∃ h' pid',runCS ⟨Ω,noG,H,nx⟩ N pevE ⟨pevEnv wid nx,h⟩=some (.normal,⟨pevEnv wid nx,h'⟩) ∧
    Wq H nx h' wid P pid' (addBits p n (evKind e.n zl zr)) (n+(evKind e.n zl zr).length) (pevK nx e)∧(findU h'.upd wid).isSome=true:=by
  intro v k hk0 hk hnk hB hr
  obtain ⟨u1,m1,q1,f1,a1,w1⟩:=w.put 3 2 (by decide) (by decide) (by omega)
  obtain ⟨u2,m2,q2,f2,a2,w2⟩:=a1.put v k hk0 hk hnk
  exact ⟨_,q2,hr u1 m1 u2 m2 f1 f2,by rw [hB,ba,List.length_append,aj,aj,←Nat.add_assoc];exact a2,w2⟩
 by_cases h0:e.n=0
 ·have hb:((e.n:Int)==0)=true:=by simp [h0]
  cases zl with
  | true=>
   refine one 0 2 (by decide) (by decide) (by omega) (by simp [evKind,h0]) fun u m f1 => ?_
   rw [c0,c2] at f1
   simp [pevE,seqL,seqR,ir74,ssB,ssU,ay,ax,af,Go.Sx.splice,appO,Go.Sx.leI_eq,ltF,k0,k1,k2,z1,z2,b,hb,f1]
  | false=>
   cases zr with
   | true=>
    refine one 1 2 (by decide) (by decide) (by omega) (by simp [evKind,h0]) fun u m f1 => ?_
    rw [c1,c2] at f1
    simp [pevE,seqL,seqR,ir74,ssB,ssU,ay,ax,af,Go.Sx.splice,appO,Go.Sx.leI_eq,ltF,k0,k1,k2,z1,z2,b,hb,f1]
   | false=>
    refine one 2 2 (by decide) (by decide) (by omega) (by simp [evKind,h0]) fun u m f1 => ?_
    rw [c2] at f1
    simp [pevE,seqL,seqR,ir74,ssB,ssU,ay,ax,af,Go.Sx.splice,appO,Go.Sx.leI_eq,ltF,k0,k1,k2,z1,z2,b,hb,f1]
 ·have hb:((e.n:Int)==0)=false:=by simp;omega
  cases zl with
  | true=>
   refine two 0 2 (by decide) (by decide) (by omega) (by simp [evKind,h0]) fun u m u2 m2 f1 f2 => ?_
   rw [c0,c2] at f2
   simp [pevE,seqL,seqR,ir74,ssB,ssU,ay,ax,af,Go.Sx.splice,appO,Go.Sx.leI_eq,ltF,k0,k1,k2,z1,z2,b,hb,f1,f2]
  | false=>
   cases zr with
   | true=>
    refine two 1 2 (by decide) (by decide) (by omega) (by simp [evKind,h0]) fun u m u2 m2 f1 f2 => ?_
    rw [c1,c2] at f2
    simp [pevE,seqL,seqR,ir74,ssB,ssU,ay,ax,af,Go.Sx.splice,appO,Go.Sx.leI_eq,ltF,k0,k1,k2,z1,z2,b,hb,f1,f2]
   | false=>
    refine two 1 1 (by decide) (by decide) (by omega) (by simp [evKind,h0]) fun u m u2 m2 f1 f2 => ?_
    rw [c1] at f2
    simp [pevE,seqL,seqR,ir74,ssB,ssU,ay,ax,af,Go.Sx.splice,appO,Go.Sx.leI_eq,ltF,k0,k1,k2,z1,z2,b,hb,f1,f2]
end
end Go.Proofs.YtppeggedcaabkaaGreatDoor
end

section
namespace Go.Proofs.YtppeggedcaabkaaGreatDoor
open Go Go.Sx
section
variable {H:Heap} {nx:Nat} {h:Hp} {wid P pid:Nat} {p:List UInt8} {n:Nat}
theorem xS (N:Nat) (e:Ev) (w:Wq H nx h wid P pid p n (pevK nx e)) (hs:(findU h.upd wid).isSome=true) (hv:e.n<2^64) (hn:n+200<2^30) : ∃ E h' pid',runCS ⟨Ω,noG,H,nx⟩ N pevF ⟨pevEnv wid nx,h⟩=some (.normal,⟨E,h'⟩) ∧
  (Go.Sx.get E 0 = .ref wid 0∧Go.Sx.get E 4 = .ref (nx+1) 0∧Go.Sx.get E 5 = .ref (nx+2) 0) ∧
  Wq H nx h' wid P pid' (addBits p n (if e.n=0 then [] else numBits e.n 2 62)) (n+(if e.n=0 then [] else numBits e.n 2 62).length) (pevK nx e)∧(findU h'.upd wid).isSome=true:=by
 have k0:=(w.k _ (List.mem_cons_self)).1
 have b:=bJ e
 by_cases h0:e.n=0
 ·rw [if_pos h0]
  have hb : ¬(0:Int)<e.n:=by omega
  have hb2:((e.n:Int)≤0):=by omega
  refine ⟨pevEnv wid nx++[(68,.bool false)],h,pid,?_,by simp [Go.Sx.get],by simpa [addBits] using w,hs⟩
  have hq:(e.n=0)=True:=by simp [h0]
  simp [pevF,seqL,seqR,ir74,ssB,ssU,ay,ax,af,Go.Sx.splice,appO,Go.Sx.leI_eq,ltF,k0,b,hq]
 ·rw [if_neg h0]
  have hb:(0:Int)<e.n:=by omega
  have hb2 : ¬((e.n:Int)≤0):=by omega
  obtain ⟨u2,m2,q2,f2,a2,w2⟩:=w.num e.n hv hn
  refine ⟨[(0,.ref wid 0),(4,.ref (nx+1) 0),(5,.ref (nx+2) 0)],_,q2,?_,by simp [Go.Sx.get],a2,w2⟩
  simp [pevF,seqL,seqR,ir74,ssB,ssU,ay,ax,af,Go.Sx.splice,appO,Go.Sx.leI_eq,ltF,k0,b,hb2,h0,f2]
abbrev halO (l r:Ev):Go.Sx.Obj:=.cells [.int .u64 l.n,.p l.ptr,.int .u64 r.n,.p r.ptr]
theorem xT (N:Nat) (e:Ev) (E:List (Nat × LV)) (hE:Go.Sx.get E 0 = .ref wid 0∧Go.Sx.get E 4 = .ref (nx+1) 0∧Go.Sx.get E 5 = .ref (nx+2) 0) (w:Wq H nx h wid P pid p n (pevK nx e)):
  runCS ⟨Ω,noG,H,nx⟩ N pevG ⟨E,h⟩=some (.normal,⟨[(0,.ref wid 0),(75,.arr (nx+h.new.length) 0 2 2 2 true),(76,.int .i64 2),(77,.int .i64 0)],push h (halO e.left e.right)⟩):=by
 have k1:=(w.k (nx+1,evO e.left) (by simp)).1
 have k2:=(w.k (nx+2,evO e.right) (by simp)).1
 obtain ⟨g0,g4,g5⟩:=hE
 simp [pevG,seqL,seqR,ir74,ssB,ssU,ay,ax,af,Go.Sx.splice,appO,Go.Sx.leI_eq,ltF,k1,k2,g0,g4,g5]
theorem xw (N:Nat) (l r e:Ev) (hid:Nat) (j:Nat) (hj:(j=0∧e=l)∨(j=1∧e=r)) (hl:Go.Sx.look H nx h hid=some (halO l r)) (hlt:hid<nx+h.new.length) (hz:e = .leaf 0):
  runCS ⟨Ω,noG,H,nx⟩ N ir74_0 ⟨[(0,.ref wid 0),(75,.arr hid 0 2 2 2 true),(76,.int .i64 2),(77,.int .i64 j)],h⟩=
   some (.normal,⟨[(0,.ref wid 0),(75,.arr hid 0 2 2 2 true),(76,.int .i64 2),(77,.int .i64 (j+1:Nat))],push h (evO e)⟩):=by
 have z:=bF e
 rw [show (decide (e=Ev.leaf 0))=true by simp [hz]] at z
 have ne : ¬hid=nx+h.new.length:=by omega
 have sp:=fun o o'=>eF nx h o o'
 have hq : ∀ o:Go.Sx.Obj,(⟨h.upd,h.new++[some o]⟩:Hp)=push h o:=fun o=>rfl
 have lk : ∀ o:Go.Sx.Obj,Go.Sx.look H nx (push h o) (nx+h.new.length)=some o:=fun o=>by rw [aF,if_pos rfl]
 have lk2 : ∀ o:Go.Sx.Obj,Go.Sx.look H nx (push h o) hid=some (halO l r):=fun o=>by rw [aF,if_neg ne];exact hl
 have w1:IntKind.i64.wrap 1=1:=by decide
 have w2:IntKind.i64.wrap 2=2:=by decide
 rcases hj with ⟨rfl,he⟩|⟨rfl,he⟩<;>subst he<;>clear hz
 ·simp [ir74_0,ssB,ssU,ay,ax,af,Go.Sx.splice,appO,Go.Sx.leI_eq,ltF,z,hl,sp,hq,lk,lk2,w1]
 ·simp [ir74_0,ssB,ssU,ay,ax,af,Go.Sx.splice,appO,Go.Sx.leI_eq,ltF,z,hl,sp,hq,lk,lk2,w2]
theorem xx (N:Nat) (l r e:Ev) (hid:Nat) (j:Nat) (hj:(j=0∧e=l)∨(j=1∧e=r)) (hl:Go.Sx.look H nx h hid=some (halO l r)) (hlt:hid<nx+h.new.length) (hz:e ≠ .leaf 0) {u:Upd} {m:List (Ob)}
  (f:Ω 74 [.ref wid 0,.p e.pv] (Go.Sx.look H nx (push h (evO e))) (nx+(push h (evO e)).new.length)=some (.tuple [],u,m)):
  runCS ⟨Ω,noG,H,nx⟩ N ir74_0 ⟨[(0,.ref wid 0),(75,.arr hid 0 2 2 2 true),(76,.int .i64 2),(77,.int .i64 j)],h⟩=
   some (.normal,⟨[(0,.ref wid 0),(75,.arr hid 0 2 2 2 true),(76,.int .i64 2),(77,.int .i64 (j+1:Nat))],aft nx (push h (evO e)) u m⟩):=by
 have z:=bF e
 rw [show (decide (e=Ev.leaf 0))=false by simp [hz]] at z
 have ne : ¬hid=nx+h.new.length:=by omega
 have sp:=fun o o'=>eF nx h o o'
 have hq : ∀ o:Go.Sx.Obj,(⟨h.upd,h.new++[some o]⟩:Hp)=push h o:=fun o=>rfl
 have lk : ∀ o:Go.Sx.Obj,Go.Sx.look H nx (push h o) (nx+h.new.length)=some o:=fun o=>by rw [aF,if_pos rfl]
 have lk2 : ∀ o:Go.Sx.Obj,Go.Sx.look H nx (push h o) hid=some (halO l r):=fun o=>by rw [aF,if_neg ne];exact hl
 have w1:IntKind.i64.wrap 1=1:=by decide
 have w2:IntKind.i64.wrap 2=2:=by decide
 rcases hj with ⟨rfl,he⟩|⟨rfl,he⟩<;>subst he<;>clear hz
 ·simp [ir74_0,ssB,ssU,ay,ax,af,Go.Sx.splice,appO,Go.Sx.leI_eq,ltF,z,hl,sp,hq,lk,lk2,w1,f]
 ·simp [ir74_0,ssB,ssU,ay,ax,af,Go.Sx.splice,appO,Go.Sx.leI_eq,ltF,z,hl,sp,hq,lk,lk2,w2,f]
theorem xy (N:Nat) (hid:Nat) (x:LV):runCS ⟨Ω,noG,H,nx⟩ N ir74_0 ⟨[(0,x),(75,.arr hid 0 2 2 2 true),(76,.int .i64 2),(77,.int .i64 2)],h⟩=
   some (.exit 1,⟨[(0,x),(75,.arr hid 0 2 2 2 true),(76,.int .i64 2),(77,.int .i64 2),(78,.bool false)],h⟩):=by
 simp [ir74_0,ssB,ssU,ay,ax,af,Go.Sx.splice,appO,Go.Sx.leI_eq,ltF]
theorem lZ (N:Nat) (l r e:Ev) (hid:Nat) (j:Nat) (hj:(j=0∧e=l)∨(j=1∧e=r)) (w:Wq H nx h wid P pid p n [(hid,halO l r)]) (hs:(findU h.upd wid).isSome=true)
  (ih:e ≠ .leaf 0→∀ (H:Heap) (nx wid pid n:Nat) (p:List UInt8),Wr H nx wid pid p n→n+(evBits e).length+201<2^30 →
   ∃ u m pid',Ω 74 [.ref wid 0,.p e.pv] H nx=some (.tuple [],u,m)∧Post H nx wid pid n u m pid' (addBits p n (evBits e)) (n+(evBits e).length))
  (hn:n+(if e = .leaf 0 then [] else evBits e).length+201<2^30):
  ∃ h' pid',runCS ⟨Ω,noG,H,nx⟩ N ir74_0 ⟨[(0,.ref wid 0),(75,.arr hid 0 2 2 2 true),(76,.int .i64 2),(77,.int .i64 j)],h⟩=
   some (.normal,⟨[(0,.ref wid 0),(75,.arr hid 0 2 2 2 true),(76,.int .i64 2),(77,.int .i64 (j+1:Nat))],h'⟩) ∧
   Wq H nx h' wid P pid' (addBits p n (if e = .leaf 0 then [] else evBits e)) (n+(if e = .leaf 0 then [] else evBits e).length) [(hid,halO l r)]∧(findU h'.upd wid).isSome=true:=by
 obtain ⟨k1,k2,k3,k4⟩:=w.k (hid,halO l r) (by simp)
 have wp:=(w.push (evO e)).sub (K':=[(hid,halO l r)]) (by simp)
 by_cases hz:e = .leaf 0
 ·rw [if_pos hz]
  exact ⟨_,pid,xw N l r e hid j hj k1 k3 hz,by simpa [addBits] using wp,hs⟩
 ·rw [if_neg hz] at hn ⊢
  obtain ⟨u,m,q,f,po⟩:=ih hz _ _ wid pid n p wp.a.wr hn
  obtain ⟨w2,s2⟩:=wp.call po
  exact ⟨_,q,xx N l r e hid j hj k1 k3 hz f,w2,s2⟩
end
theorem pD {e:Ev} {wid:Nat} {h:Hp} {u:Upd} {m:List (Ob)} (N:Nat) (H:Heap) (nx:Nat)
  (h3 : ∃ ex E,(ex = .normal∨ex = .ret)∧runCS ⟨Ω,noG,H,nx⟩ N (.seq pevC (.seq pevD (.seq pevE (.seq pevF (.seq pevG (.block 1 (.loop ir74_0))))))) ⟨pevEnv wid nx,⟨[],[evC e,evC e.left,evC e.right]⟩⟩=some (ex,⟨E,h⟩)) (hf:finish false H nx (.tuple []) h=some (.tuple [],u,m)):
  Ω 74 [.ref wid 0,.p e.pv] H nx=some (.tuple [],u,m):=by
 refine ae (ir:=ir74) (by kernel_rfl) N ?_
 rw [rh]
 have a:=xO e (.ref wid 0) H nx N
 have b:=xP e (.ref wid 0) H nx N
 obtain ⟨ex,E,hex,h3⟩:=h3
 generalize pevA=A at*
 generalize pevB=B at*
 generalize IRC.seq pevC (.seq pevD (.seq pevE (.seq pevF (.seq pevG (.block 1 (.loop ir74_0))))))=C at*
 rcases hex with rfl|rfl<;>simp [ssB,ssU,ay,ax,af,Go.Sx.splice,appO,Go.Sx.leI_eq,ltF,a,b,h3,hf]
theorem gZ : ∀ (e:Ev),e.max<2^64→∀ (H:Heap) (nx wid pid n:Nat) (p:List UInt8),Wr H nx wid pid p n→n+(evBits e).length+201<2^30 →
  ∃ u m pid',Ω 74 [.ref wid 0,.p e.pv] H nx=some (.tuple [],u,m)∧Post H nx wid pid n u m pid' (addBits p n (evBits e)) (n+(evBits e).length)
 | .leaf v,hm,H,nx,wid,pid,n,p,g,hn=>by
  have a0:Wq H nx _ wid _ pid p n (pevK nx (.leaf v)):=(Wk.init g [evC (.leaf v),evC (Ev.leaf v).left,evC (Ev.leaf v).right]).toQ (by
   intro x hx
   simp only [pevK,List.mem_cons,List.not_mem_nil,or_false] at hx
   rcases hx with rfl|rfl|rfl
   ·exact ⟨0,rfl,rfl⟩
   ·exact ⟨1,rfl,rfl⟩
   ·exact ⟨2,rfl,rfl⟩)
  have hv:v<2^64:=hm
  obtain ⟨h',q',f1,w1,s1⟩:=wQ 63 (.leaf v) a0 rfl hv (by omega)
  have hB:evBits (.leaf v)=bitsOf 1 1++numBits v 2 62:=rfl
  rw [hB,List.length_append,aj]
  obtain ⟨u,m,q,f3,f4⟩:=w1.a.post false (pid0:=pid) (n0:=n) (by omega) s1
  refine ⟨u,m,q,pD 63 H nx ⟨.ret,[],.inr rfl,?_⟩ f3,f4⟩
  simp only [aL,f1]
 | .node v l r,hm,H,nx,wid,pid,n,p,g,hn=>by
  have d1:=Ev.max_l v l r
  have d2:=Ev.max_r v l r
  have hB:evBits (.node v l r)=bitsOf 0 1++evKind v (decide (l = .leaf 0)) (decide (r = .leaf 0))++(if v=0 then [] else numBits v 2 62)++(if l = .leaf 0 then [] else evBits l)++(if r = .leaf 0 then [] else evBits r):=by
   rw [evBits]
  have a0:Wq H nx _ wid _ pid p n (pevK nx (.node v l r)):=(Wk.init g [evC (.node v l r),evC (Ev.node v l r).left,evC (Ev.node v l r).right]).toQ (by
   intro x hx
   simp only [pevK,List.mem_cons,List.not_mem_nil,or_false] at hx
   rcases hx with rfl|rfl|rfl
   ·exact ⟨0,rfl,rfl⟩
   ·exact ⟨1,rfl,rfl⟩
   ·exact ⟨2,rfl,rfl⟩)
  rw [hB] at hn ⊢
  simp only [List.length_append,aj] at hn
  have c:=wP 64 (.node v l r) a0 rfl
  obtain ⟨h1,q1,f1,w1,s1⟩:=xQ 64 (.node v l r) (.bool false) a0 (by omega)
  obtain ⟨h2,q2,f2,w2,s2⟩:=xR 64 (.node v l r) w1 (by omega)
  have he1:(Ev.node v l r).left=l:=rfl
  have he2:(Ev.node v l r).right=r:=rfl
  have he3:(Ev.node v l r).n=v:=rfl
  rw [he1,he2,he3] at w2
  obtain ⟨E,h3,q3,f3,hE,w3,s3⟩:=xS 64 (.node v l r) w2 s2 (by rw [he3];omega) (by omega)
  rw [he3] at w3
  have f4:=xT 64 (.node v l r) E hE w3
  have w4:=(w3.push (halO l r)).sub (K':=[(nx+h3.new.length,halO l r)]) (by simp)
  obtain ⟨h5,q5,f5,w5,s5⟩:=lZ 64 l r l (nx+h3.new.length) 0 (.inl ⟨rfl,rfl⟩) w4 s3 (fun _=>gZ l (by omega)) (by omega)
  obtain ⟨h6,q6,f6,w6,s6⟩:=lZ 64 l r r (nx+h3.new.length) 1 (.inr ⟨rfl,rfl⟩) w5 s5 (fun _=>gZ r (by omega)) (by omega)
  have f7:=xy (H:=H) (nx:=nx) (h:=h6) 64 (nx+h3.new.length) (.ref wid 0)
  obtain ⟨u,m,q,f8,f9⟩:=w6.a.post false (pid0:=pid) (n0:=n) (by omega) s6
  refine ⟨u,m,q,pD 64 H nx ⟨.normal,[(0,.ref wid 0),(75,.arr (nx+h3.new.length) 0 2 2 2 true),(76,.int .i64 2),(77,.int .i64 2),(78,.bool false)],.inl rfl,?_⟩ f8,?_⟩
  ·have lp:iter (runCS ⟨Ω,noG,H,nx⟩ 64 ir74_0) 64 ⟨[(0,.ref wid 0),(75,.arr (nx+h3.new.length) 0 2 2 2 true),(76,.int .i64 2),(77,.int .i64 0)],push h3 (halO l r)⟩=some (.exit 1,⟨[(0,.ref wid 0),(75,.arr (nx+h3.new.length) 0 2 2 2 true),(76,.int .i64 2),(77,.int .i64 2),(78,.bool false)],h6⟩):=by
    exact (bI f5).trans ((bI f6).trans (bw f7 (by simp)))
   simp only [he1,he2] at c f1 f4
   simp only [aL,c,f1,f2,f3,f4,cK,cA,he1,he2,lp,if_pos]
  ·simp only [ba,List.length_append,aj]
   simp only [←Nat.add_assoc]
   exact f9
end Go.Proofs.YtppeggedcaabkaaGreatDoor
end

section
namespace Go.Proofs.YtppeggedcaabkaaGreatDoor
open Go Go.Sx
inductive Ini (H:Heap) (nx:Nat):LV→List UInt8→Prop
 | nil:Ini H nx (.p (.s (.slice none 0 0))) []
 | sl (F:List UInt8):Ini H nx (.p (.sl (bytP F) F.length 1 true)) F
 | arr (F G:List UInt8) (id off:Nat):H id=some (.cells (byt G))→id<nx→off+F.length≤G.length→(G.drop off).take F.length=F→Ini H nx (.arr id off F.length 1 F.length true) F
def Rdy (c:Ctx) (x:LV) (h:Hp) (q:List UInt8):Prop:=∀ b:UInt8,∃ h'' t m,appO c (push h (.cells [.int .u8 b.toNat])) 1 1 x (.arr (c.nx+h.new.length) 0 1 1 1 true)=some ⟨.arr (c.nx+(h.new.length+1)) 0 (q.length+1) 1 (q.length+1) false,h'',t,m⟩ ∧
 Go.Sx.look c.H c.nx h'' (c.nx+(h.new.length+1))=some (.cells (byt (q++[b])))∧h''.upd=[]∧h''.new.length=h.new.length+2
section num
variable {c:Ctx}
theorem Ini.rdy {x:LV} {q:List UInt8} (g:Ini c.H c.nx x q) (h30:q.length<2^31):Rdy c x ⟨[],[]⟩ q:=by
 intro b
 have q41 : ¬1099511627776<q.length+1:=by omega
 have q41':q.length+1≤1099511627776:=by omega
 have z:c.nx+0=c.nx:=rfl
 cases g with
 | nil=>exact ⟨push (push ⟨[],[]⟩ (.cells [.int .u8 b.toNat])) (.cells (byt ([]++[b]))),_,_,by simp [appO,slCells,Go.Sx.look,push,ltF,byt];exact ⟨rfl,rfl⟩,by simp [Go.Sx.look,push,ltF],rfl,rfl⟩
 | sl=>exact ⟨push (push ⟨[],[]⟩ (.cells [.int .u8 b.toNat])) (.cells (byt (q++[b]))),_,_,by simp [appO,slCells,Go.Sx.look,push,ltF,aQ,aa,aP,aW,bu,q41,q41'];exact ⟨rfl,rfl⟩,by simp [Go.Sx.look,push,ltF],rfl,rfl⟩
 | arr _ G id off h1 h2 h3 h4=>
  have h3' : ¬G.length<off+q.length:=by omega
  exact ⟨push (push ⟨[],[]⟩ (.cells [.int .u8 b.toNat])) (.cells (byt (q++[b]))),_,_,by simp [appO,slCells,Go.Sx.look,push,ltF,h2,findU,h1,ak,lq,lr,h4,aP,aW,bu,q41,q41',h3',h3];exact ⟨rfl,rfl⟩,by simp [Go.Sx.look,push,ltF],rfl,rfl⟩
theorem va {i:Nat} {h:Hp} {q:List UInt8} (hi:Go.Sx.look c.H c.nx h i=some (.cells (byt q))) (hlt:i<c.nx+h.new.length) (hge:c.nx≤i) (hu:h.upd=[]) (h30:q.length<2^31):Rdy c (.arr i 0 q.length 1 q.length false) h q:=by
 intro b
 have ha:=yn (c:=c) (h:=push h (.cells [.int .u8 b.toNat])) (q:=q) (i:=i) (j:=c.nx+h.new.length) (ex:=false) (b:=b)
  (by rw [mh _ _ _ _ _ hlt];exact hi) (qP _ _ _ _) h30
 have hl:(push h (.cells [.int .u8 b.toNat])).new.length=h.new.length+1:=by simp [push]
 rw [hl] at ha
 obtain ⟨f1,f2,f3⟩:=qK (c:=c) (h:=h) (i:=i) (ex:=false) (o:=.cells [.int .u8 b.toNat]) (p:=.cells (byt (q++[b]))) (.inr hge) hu
 exact ⟨_,_,_,ha,f1,f2,f3⟩
theorem ra {N:Nat} {h:Hp} {x:LV} {q:List UInt8} {n:Nat} (hn:128≤n) (g:Rdy c x h q) (h30:q.length+1<2^31):
  ∃ h'',runCS c N ir26_0 ⟨[(0,x),(1,.int .u64 n)],h⟩=some (.normal,⟨[(0,.arr (c.nx+(h.new.length+1)) 0 (q.length+1) 1 (q.length+1) false),(1,.int .u64 (n/128:Nat))],h''⟩) ∧
   Rdy c (.arr (c.nx+(h.new.length+1)) 0 (q.length+1) 1 (q.length+1) false) h'' (q++[UInt8.ofNat (n%128+128)]):=by
 have hn':(128:Int)≤n:=by omega
 obtain ⟨h'',t,m,ha,h1,h2,h3⟩:=g (UInt8.ofNat (n%128+128))
 have hb:=ub n
 refine ⟨h'',?_,?_⟩
 ·generalize UInt8.ofNat (n%128+128)=b at*
  simp [ir26_0,ssB,ssU,Go.Sx.callO,Go.Sx.splice,Go.Sx.finish,Go.Sx.setAll,Go.Sx.leI_eq,ltF,hn',hb,ha,yD]
 ·have:=va h1 (by rw [h3];omega) (by omega) h2 (by simp;omega)
  simpa using this
theorem qZ {N:Nat} : ∀ (k n:Nat),k=(vnum n).length→∀ (m:Nat) (h:Hp) (q:List UInt8) (x:LV),k<m→Rdy c x h q→q.length+k<2^31 →
  ∃ (h':Hp) (q':List UInt8) (x':LV) (n':Nat),iter (runCS c N ir26_0) m ⟨[(0,x),(1,.int .u64 n)],h⟩=
   some (.exit 0,⟨[(0,x'),(1,.int .u64 n'),(12,.bool false)],h'⟩)∧q'++[UInt8.ofNat n']=q++vnum n∧Rdy c x' h' q':=by
 intro k
 induction k with
 | zero=>intro n hk;have:=gK n;omega
 | succ k ih=>
  intro n hk m h q x hm g hq
  obtain ⟨m,rfl⟩ : ∃ r,m=r+1:=⟨m-1,by omega⟩
  by_cases hn:n<128
  ·exact ⟨h,q,x,n,bw (uX hn) (by simp),by rw [cQ hn],g⟩
  ·obtain ⟨h'',e1,g'⟩:=ra (N:=N) (n:=n) (by omega) g (by omega)
   rw [bI e1]
   have hv:=gJ hn
   rw [hv,List.length_cons] at hk
   obtain ⟨h',q',x',n',e2,e3,e4⟩:=ih (n/128) (by omega) m _ _ _ (by omega) g' (by simp;omega)
   exact ⟨h',q',x',n',e2,by rw [e3,hv];simp,e4⟩
end num
theorem ed {H:Heap} {nx:Nat} {x:LV} {q:List UInt8} (g:Bs H nx x q) (n:Nat) (h64:n<2^64) (hq:q.length<2^30):
  Ω 26 [x,.int .u64 n] H nx=some (.arr nx 0 (q++vnum n).length 1 (q++vnum n).length false,[],[some (.cells (byt (q++vnum n)))]):=by
 refine ae (ir:=ir26) (by kernel_rfl) 11 ?_
 have hv:=az n h64
 have fin : ∀ y,Ini H nx y q→∃ h' q' x' n',iter (runCS ⟨Ω,noG,H,nx⟩ 11 ir26_0) 11 ⟨[(0,y),(1,.int .u64 n)],⟨[],[]⟩⟩=some (.exit 0,⟨[(0,x'),(1,.int .u64 (n':Nat)),(12,.bool false)],h'⟩)∧q'++[UInt8.ofNat n']=q++vnum n∧Rdy ⟨Ω,noG,H,nx⟩ x' h' q':=by
  intro y hy
  obtain ⟨h',q',x',n',e1,e2,e3⟩:=qZ (c:=⟨Ω,noG,H,nx⟩) (N:=11) _ n rfl 11 ⟨[],[]⟩ q y (by omega) (Ini.rdy hy (by omega)) (by omega)
  exact ⟨h',q',x',n',e1,e2,e3⟩
 have tl : ∀ y,Ini H nx y q→∃ (h':Hp) (x':LV) (n':Nat) (h'':Hp) (t:List Nat) (m:Bool),iter (runCS ⟨Ω,noG,H,nx⟩ 11 ir26_0) 11 ⟨[(0,y),(1,.int .u64 n)],⟨[],[]⟩⟩=some (.exit 0,⟨[(0,x'),(1,.int .u64 (n':Nat)),(12,.bool false)],h'⟩) ∧
   appO ⟨Ω,noG,H,nx⟩ (push h' (.cells [.int .u8 (IntKind.u8.wrap (n':Int))])) 1 1 x' (.arr (nx+h'.new.length) 0 1 1 1 true)=some ⟨.arr (nx+(h'.new.length+1)) 0 (q++vnum n).length 1 (q++vnum n).length false,h'',t,m⟩ ∧
   finish true H nx (.arr (nx+(h'.new.length+1)) 0 (q++vnum n).length 1 (q++vnum n).length false) h''=some (.arr nx 0 (q++vnum n).length 1 (q++vnum n).length false,[],[some (.cells (byt (q++vnum n)))]):=by
  intro y hy
  obtain ⟨h',q',x',n',e1,e2,e3⟩:=fin y hy
  obtain ⟨h'',t,m,a1,a2,a3,a4⟩:=e3 (UInt8.ofNat n')
  have hlen:q'.length+1=(q++vnum n).length:=by rw [←e2];simp
  rw [hlen,←vG n'] at a1
  rw [e2] at a2
  exact ⟨h',x',n',h'',t,m,e1,a1,fF a3 (Nat.le_add_right _ _) a2⟩
 generalize q++vnum n=Q at*
 cases g with
 | nil=>
  obtain ⟨h',x',n',h'',t,m,e1,e2,e3⟩:=tl _ .nil
  simp [ir26,ssB,ssU,ay,ax,af,Go.Sx.splice,Go.Sx.leI_eq,ltF,e1,e2,e3]
 | sl _ fl=>
  obtain ⟨h',x',n',h'',t,m,e1,e2,e3⟩:=tl _ (.sl q)
  have tk:List.take q.length (bytP q)=bytP q:=by rw [←aa,List.take_length]
  simp [ir26,ssB,ssU,ay,ax,af,Go.Sx.splice,Go.Sx.leI_eq,ltF,aa,tk,e1,e2,e3]
 | arr _ G id off cp ex h1 h2 h3 h4=>
  obtain ⟨h',x',n',h'',t,m,e1,e2,e3⟩:=tl _ (.arr q G id off h1 h2 h3 h4)
  simp [ir26,ssB,ssU,ay,ax,af,Go.Sx.splice,Go.Sx.leI_eq,ltF,h1,h2,e1,e2,e3]
end Go.Proofs.YtppeggedcaabkaaGreatDoor
end

section
namespace Go.Proofs.YtppeggedcaabkaaGreatDoor
open Go Go.Sx
theorem sA (H:Heap) (nx:Nat) (x:PV) (h:Hp) (hu:h.upd=[]):finish false H nx (.p x) h=some (.p x,[],[]):=by
 simp [finish,frz,frzL,hu,updIds,reach,ren,renU,renN,Go.Sx.ids]
theorem jp (H:Heap) (nx:Nat):Ω 73 [] H nx=some (.ref nx 0,[],[some (.cells [.p (.s (.slice none 0 0)),.int .i64 0])]):=by
 refine ae (ir:=ir73) (by kernel_rfl) 0 ?_
 simp [ir73,ssB,ssU,ssP,appO]
theorem m9 {H:Heap} {nx wid pid n:Nat} {p:List UInt8} (g:Wr H nx wid pid p n) (h0:0<n):Ω 75 [.ref wid 0] H nx=some (.p (.sl (bytP p) p.length 1 false),[],[]):=by
 refine ae (ir:=ir75) (by kernel_rfl) 0 ?_
 obtain ⟨h1,h2,h3,h4,h5⟩:=(g.at').resolve_left (by omega)
 have hlen:=g.len
 have hs:=g.small
 have hlt:=g.lt
 have c:=fun id H nx=>qq p id p.length false (by omega) (by omega) H nx
 simp [ir75,ssB,ssU,ssP,appO,hlt,h4,h5,h2,c,ak,aa,au,aE,aG,aD,aI,av,aA]
theorem mY {c:Ctx} {n:Nat} {A B:IRC} {st st':St} (h:runCS c n (.seq A B) st=some (.normal,st')) (K:IRC):runCS c n (.seq A (.seq B K)) st=runCS c n K st':=by
 rw [aL] at h ⊢
 cases hA:runCS c n A st with
 | none=>rw [hA] at h;cases h
 | some r=>
  obtain ⟨ex,s⟩:=r
  rw [hA] at h
  cases ex<;>simp only [] at h ⊢
  ·rw [aL,h]
  all_goals simp at h
def pack (l:List Bool):List UInt8:=addBits [] 0 l
def cidA:IRC:=seqL ir72.body
def cidB:IRC:=seqL (seqR ir72.body)
def cidC:IRC:=seqL (seqR (seqR ir72.body))
def cidD:IRC:=seqR (seqR (seqR ir72.body))
theorem qm:ir72=⟨[0],.seq cidA (.seq cidB (.seq cidC cidD)),[(2,none)],false⟩:=rfl
abbrev wr0:Ob:=some (.cells [.p (.s (.slice none 0 0)),.int .i64 0])
theorem xu (i:Id) (H:Heap) (nx n:Nat):runCS ⟨Ω,noG,H,nx⟩ n (.seq cidA cidB) ⟨[(0,.p i.pv)],⟨[],[]⟩⟩=some (.normal,⟨[(1,.ref nx 0),(3,.ref (nx+1) 0)],⟨[],[idC i,wr0]⟩⟩):=by
 have w:=jp
 simp [cidA,cidB,seqL,seqR,ir72,ssB,ssU,ssP,appO,w]
def cevA:IRC:=seqL ir29.body
def cevB:IRC:=seqL (seqR ir29.body)
def cevC:IRC:=seqL (seqR (seqR ir29.body))
def cevD:IRC:=seqR (seqR (seqR ir29.body))
theorem qk:ir29=⟨[0],.seq cevA (.seq cevB (.seq cevC cevD)),[(2,none)],false⟩:=rfl
theorem xt (i:Ev) (H:Heap) (nx n:Nat):runCS ⟨Ω,noG,H,nx⟩ n (.seq cevA cevB) ⟨[(0,.p i.pv)],⟨[],[]⟩⟩=some (.normal,⟨[(1,.ref nx 0),(3,.ref (nx+1) 0)],⟨[],[evC i,wr0]⟩⟩):=by
 have w:=jp
 simp [cevA,cevB,seqL,seqR,ir29,ssB,ssU,ssP,appO,w]
theorem sX {H:Heap} {nx:Nat} {o:Ob} {u:Upd} {m:List (Ob)} {pid' n':Nat} {p':List UInt8} (po:Post (Go.Sx.look H nx ⟨[],[o,wr0]⟩) (nx+2) (nx+1) 0 0 u m pid' p' n'):
  Wr (Go.Sx.look H nx (aft nx ⟨[],[o,wr0]⟩ u m)) (nx+(aft nx ⟨[],[o,wr0]⟩ u m).new.length) (nx+1) pid' p' n'∧(aft nx ⟨[],[o,wr0]⟩ u m).upd=[]:=by
 have hk : ∀ id o',findU u id=some o'→id<nx+(⟨[],[o,wr0]⟩:Hp).new.length:=po.keys
 have hlook:Go.Sx.look H nx (aft nx ⟨[],[o,wr0]⟩ u m)=Go.Sx.look (Go.Sx.look H nx ⟨[],[o,wr0]⟩) (nx+2) ⟨u,m⟩:=funext fun id=>dD hk id
 have hlen:(aft nx ⟨[],[o,wr0]⟩ u m).new.length=2+m.length:=by simp [aft,bp]
 refine ⟨?_,?_⟩
 ·rw [hlook,hlen,←Nat.add_assoc];exact po.wr
 ·have hf:=po.form
  rw [if_pos rfl] at hf
  have h1 : ¬nx+1<nx:=by omega
  cases hf with
  | f1 X=>simp [aft,setAll,Go.Sx.setObj,h1]
  | f2 X Z h=>omega
  | f3 X Z h=>omega
theorem t4 (H:Heap) (nx:Nat) (o:Ob):Wr (Go.Sx.look H nx ⟨[],[o,wr0]⟩) (nx+2) (nx+1) 0 [] 0:=
 ⟨by omega,rfl,by decide,.inl ⟨rfl,by simp [Go.Sx.look,ltF]⟩⟩
theorem nq (i:Ev):0<(evBits i).length:=by
 cases i<;>(unfold evBits;simp [aj];try omega)
theorem uc (i:Id) (hb:(idBits i).length<2^29) (H:Heap) (nx:Nat):Ω 72 [.p i.pv] H nx=some (.p (.sl (bytP (pack (idBits i))) (pack (idBits i)).length 1 false),[],[]):=by
 refine ae (ir:=ir72) (by kernel_rfl) 0 ?_
 rw [qm]
 obtain ⟨u,m,pid',e,po⟩:=jt i _ _ _ _ _ _ (t4 H nx (idC i)) (by omega)
 obtain ⟨w,hu⟩:=sX po
 have b:=m9 w (by have:=dP i;omega)
 rw [←pack] at b
 have ab:=xu i H nx 0
 have f:=sA H nx (.sl (bytP (pack (idBits i))) (pack (idBits i)).length 1 false) _ hu
 have lk:Go.Sx.look H nx ⟨[],[idC i,wr0]⟩ nx=idC i:=by simp [Go.Sx.look,ltF]
 have e':Ω 132 [.ref (nx+1) 0,.p i.pv] (Go.Sx.look H nx ⟨[],[idC i,wr0]⟩) (nx+(⟨[],[idC i,wr0]⟩:Hp).new.length)=some (.tuple [],u,m):=e
 clear e po w hu hb
 generalize pack (idBits i)=B at*
 have hc:runCS ⟨Ω,noG,H,nx⟩ 0 (.seq cidC cidD) ⟨[(1,.ref nx 0),(3,.ref (nx+1) 0)],⟨[],[idC i,wr0]⟩⟩=some (.ret,⟨[(2,.p (.sl (bytP B) B.length 1 false))],aft nx ⟨[],[idC i,wr0]⟩ u m⟩):=by
  generalize (⟨[],[idC i,wr0]⟩:Hp)=h0 at*
  simp [cidC,cidD,seqL,seqR,ir72,ssB,ssU,ay,ax,af,Go.Sx.splice,appO,Go.Sx.leI_eq,ltF,lk,e',b]
 have ab':=mY ab
 generalize IRC.seq cidC cidD=K at*
 rw [←ab'] at hc
 generalize IRC.seq cidA (.seq cidB K)=K2 at*
 simp [ssB,ssU,ay,ax,af,Go.Sx.splice,appO,Go.Sx.leI_eq,ltF,hc,f]
theorem cf (i:Ev) (hm:i.max<2^64) (hb:(evBits i).length<2^29) (H:Heap) (nx:Nat):Ω 29 [.p i.pv] H nx=some (.p (.sl (bytP (pack (evBits i))) (pack (evBits i)).length 1 false),[],[]):=by
 refine ae (ir:=ir29) (by kernel_rfl) 0 ?_
 rw [qk]
 obtain ⟨u,m,pid',e,po⟩:=gZ i hm _ _ _ _ _ _ (t4 H nx (evC i)) (by omega)
 obtain ⟨w,hu⟩:=sX po
 have b:=m9 w (by have:=nq i;omega)
 rw [←pack] at b
 have ab:=xt i H nx 0
 have f:=sA H nx (.sl (bytP (pack (evBits i))) (pack (evBits i)).length 1 false) _ hu
 have lk:Go.Sx.look H nx ⟨[],[evC i,wr0]⟩ nx=evC i:=by simp [Go.Sx.look,ltF]
 have e':Ω 74 [.ref (nx+1) 0,.p i.pv] (Go.Sx.look H nx ⟨[],[evC i,wr0]⟩) (nx+(⟨[],[evC i,wr0]⟩:Hp).new.length)=some (.tuple [],u,m):=e
 clear e po w hu hb
 generalize pack (evBits i)=B at*
 have hc:runCS ⟨Ω,noG,H,nx⟩ 0 (.seq cevC cevD) ⟨[(1,.ref nx 0),(3,.ref (nx+1) 0)],⟨[],[evC i,wr0]⟩⟩=some (.ret,⟨[(2,.p (.sl (bytP B) B.length 1 false))],aft nx ⟨[],[evC i,wr0]⟩ u m⟩):=by
  generalize (⟨[],[evC i,wr0]⟩:Hp)=h0 at*
  simp [cevC,cevD,seqL,seqR,ir29,ssB,ssU,ay,ax,af,Go.Sx.splice,appO,Go.Sx.leI_eq,ltF,lk,e',b]
 have ab':=mY ab
 generalize IRC.seq cevC cevD=K at*
 rw [←ab'] at hc
 generalize IRC.seq cevA (.seq cevB K)=K2 at*
 simp [ssB,ssU,ay,ax,af,Go.Sx.splice,appO,Go.Sx.leI_eq,ltF,hc,f]
end Go.Proofs.YtppeggedcaabkaaGreatDoor
end

section
namespace Go.Proofs.YtppeggedcaabkaaGreatDoor
open Go Go.Sx
theorem vi (k:IntKind) (x y:Nat) (hy:0<y) (hk : ∀ z:Nat,z≤x→k.wrap (z:Int)=z):binI .quo k (x:Int) (y:Int)=some (.int k (x/y:Nat)):=by
 have:binI .quo k (x:Int) (y:Int)=some (.int k (k.wrap ((x:Int).tdiv y))):=by simp [binI];omega
 rw [this,Int.tdiv_eq_ediv_of_nonneg (by omega)]
 have h2:=hk (x/y) (Nat.div_le_self x y)
 rw [←h2]
 norm_cast
theorem rD (z:Nat) (h:z<2^32):IntKind.u32.wrap (z:Int)=z:=by
 simp [IntKind.wrap,IntKind.signed,IntKind.bits];omega
section sum
variable (c:Ctx) (h:Hp)
end sum
section sum
variable {c:Ctx}
end sum
inductive Grow (nx:Nat):LV→Hp→List UInt8→Prop
 | nil:Grow nx (.p (.s (.slice none 0 0))) ⟨[],[]⟩ []
 | arr (k:Nat) (F:List UInt8):F≠[]→Grow nx (.arr (nx+k) 0 F.length 1 F.length false) ⟨[],List.replicate k none++[some (.cells (byt F))]⟩ F
theorem Grow.look {H:Heap} {nx:Nat} {x:LV} {h:Hp} {F:List UInt8} (g:Grow nx x h F) (id:Nat) (hid:id<nx):Go.Sx.look H nx h id=H id:=by
 cases g<;>simp [Go.Sx.look,findU,hid]
theorem Grow.Bs {H:Heap} {nx:Nat} {x y:LV} {h:Hp} {F G:List UInt8} (g:Grow nx x h F) (b:Bs H nx y G):Bs (Go.Sx.look H nx h) (nx+h.new.length) y G:=
 b.mono (fun id hid=>g.look id hid) (by omega)
theorem vm (k:Nat) (a b:Ob):(List.replicate k none++[a]).set k b=List.replicate k none++[b]:=by
 rw [List.set_append_right _ _ (by simp)]
 simp
theorem Grow.app {c:Ctx} {x y:LV} {h:Hp} {F G:List UInt8} (g:Grow c.nx x h F) (b:YtppeggedcaabkaaGreatDoor.Bs c.H c.nx y G) (h30:F.length+G.length<2^31):
  ∃ x' h' t m,appO c h 1 1 x y=some ⟨x',h',t,m⟩∧Grow c.nx x' h' (F++G):=by
 have hy:=(g.Bs b).cells
 cases G with
 | nil=>
  rw [List.append_nil]
  cases g with
  | nil=>exact ⟨_,_,Go.Sx.ids y,false,by simp [appO,hy,bu],.nil⟩
  | arr k F hF=>exact ⟨_,_,Go.Sx.ids y,false,by simp [appO,hy,bu],.arr k F hF⟩
 | cons u G=>
  have hne : ¬(u::G).length=0:=by simp
  generalize hE:u::G=E at*
  have hE0:E≠[]:=by rw [←hE];simp
  have h41 : ¬2^40<E.length*1:=by omega
  have h41':E.length*1≤2^40:=by omega
  cases g with
  | nil=>
   refine ⟨_,_,Go.Sx.ids y,false,?_,.arr 0 E hE0⟩
   simp [appO,hy,ak,hne,push]
   omega
  | arr k F hF=>
   have hl:Go.Sx.look c.H c.nx ⟨[],List.replicate k none++[some (.cells (byt F))]⟩ (c.nx+k)=some (.cells (byt F)):=by
    simp [Go.Sx.look,ltF]
   have hF':F++E≠[]:=by simp [hF]
   refine ⟨_,_,(c.nx+k)::Go.Sx.ids y,true,?_,.arr (k+1) (F++E) hF'⟩
   have q : ¬2^40<(F.length+E.length)*1:=by omega
   have hln:(List.replicate k (none:Ob)++[some (Go.Sx.Obj.cells (byt F))]).length=k+1:=by simp
   have hset:=vm k (some (Go.Sx.Obj.cells (byt F))) none
   simp [appO,hy,ak,hne,hl,push,Go.Sx.setObj,ltF,aP,List.replicate_succ',hset]
   omega
inductive Bss (H:Heap) (nx:Nat):List LV→List (List UInt8)→Prop
 | nil:Bss H nx [] []
 | cons {x:LV} {F:List UInt8} {xs:List LV} {Fs:List (List UInt8)} : Bs H nx x F→Bss H nx xs Fs→Bss H nx (x::xs) (F::Fs)
theorem Bss.get {H:Heap} {nx:Nat} {xs:List LV} {Fs:List (List UInt8)} (g:Bss H nx xs Fs) : ∀ (j:Nat) (h1:j<xs.length) (h2:j<Fs.length),Bs H nx xs[j] Fs[j]:=by
 induction g with
 | nil=>intro j h1;simp at h1
 | cons b _ ih=>
  intro j h1 h2
  cases j with
  | zero=>exact b
  | succ j=>exact ih j (by simpa using h1) (by simpa using h2)
section join
variable {c:Ctx}
end join
def sum' (F:List UInt8):LV:=if F=[] then .p (.s (.slice none 0 0)) else .p (.sl (bytP F) F.length 1 false)
theorem Grow.done {H:Heap} {nx:Nat} {x:LV} {h:Hp} {F:List UInt8} (g:Grow nx x h F):finish false H nx x h=some (sum' F,[],[]):=by
 cases g with
 | nil=>rfl
 | arr k F hF=>
  have hl:(List.replicate k (none:Ob)++[some (.cells (byt F))])[k]?=some (some (.cells (byt F))):=by simp
  simp [finish,frz,frzL,ltF,hl,ak,au,av,Go.Sx.ids,updIds,reach,ren,renU,renN,sum',hF]
end Go.Proofs.YtppeggedcaabkaaGreatDoor
end

section
namespace Go.Proofs.YtppeggedcaabkaaGreatDoor
open Go Go.Sx
def pc (l:List PV):List LV:=l.map LV.p
theorem bf:pc []=[]:=rfl
theorem aN (x:PV) (l:List PV):pc (x::l) = .p x::pc l:=rfl
theorem nU (l m:List PV):pc (l++m)=pc l++pc m:=by simp [pc]
theorem dQ (l:List PV):(pc l).length=l.length:=by simp [pc]
theorem eo (l:List PV):ids.idsL (pc l)=[]:=by
 induction l with
 | nil=>rfl
 | cons x l ih=>rw [aN,ids.idsL,ih];rfl
theorem eu (nx:Nat) (s:List Nat) (l:List PV):ren.go nx s (pc l)=some (pc l):=by
 induction l with
 | nil=>rfl
 | cons x l ih=>rw [aN,ren.go,ih];rfl
theorem ol (l:List PV):allP (pc l)=some l:=by
 induction l with
 | nil=>rfl
 | cons x l ih=>rw [aN,allP,ih]
theorem vA (l:List PV):List.take l.length (pc l)=pc l:=by rw [←dQ,List.take_length]
def bolP (l:List Bool):List PV:=l.map fun b=>.s (.bool b)
inductive Bl:LV→List Bool→Prop
 | nil:Bl (.p (.s (.slice none 0 0))) []
 | sl (l:List Bool) (fl:Bool):Bl (.p (.sl (bolP l) l.length 1 fl)) l
def Own (c:Ctx) (y:LV) (h:Hp) (l:List Bool):Prop:=h.upd=[]∧((y = .p (.s (.slice none 0 0))∧l=[])∨∃ i ex,l≠[]∧y = .arr i 0 l.length 1 l.length ex∧Go.Sx.look c.H c.nx h i=some (.cells (pc (bolP l)))∧i<c.nx+h.new.length)
end Go.Proofs.YtppeggedcaabkaaGreatDoor
end

section
namespace Go.Proofs.YtppeggedcaabkaaGreatDoor
open Go Go.Sx
section frame
end frame
end Go.Proofs.YtppeggedcaabkaaGreatDoor
end

section
namespace Go.Proofs.YtppeggedcaabkaaGreatDoor
open Go Go.Sx
section num
variable {c:Ctx} (hO:c.O=Ω)
include hO
end num
end Go.Proofs.YtppeggedcaabkaaGreatDoor
end

section
namespace Go.Proofs.YtppeggedcaabkaaGreatDoor
open Go Go.Sx
section
variable {c:Ctx} {N:Nat} {h:Hp}
end
end Go.Proofs.YtppeggedcaabkaaGreatDoor
end

section
namespace Go.Proofs.YtppeggedcaabkaaGreatDoor
open Go Go.Sx
def valL:Nat→List Bool→Nat
 | v,[]=>v
 | v,b::r=>valL (2*v+(if b then 1 else 0)) r
def sb (x:UInt8) (k:Nat) (b:Bool):UInt8:=if b then x ||| UInt8.ofNat (128 >>> k) else x
theorem wW : ∀ k:Fin 8,∀ v:Fin 256,v.val<2^k.val→UInt8.ofNat (v.val*2^(8-k.val)) ||| UInt8.ofNat (128 >>> k.val)=UInt8.ofNat ((2*v.val+1)*2^(7-k.val)):=by decide +kernel
theorem tJ (v k:Nat) (b:Bool) (hk:k<8) (hv:v<2^k):sb (UInt8.ofNat (v*2^(8-k))) k b=UInt8.ofNat ((2*v+(if b then 1 else 0))*2^(7-k)):=by
 have hp:2^k≤2^7:=Nat.pow_le_pow_right (by decide) (by omega)
 cases b
 ·have:8-k=(7-k)+1:=by omega
  rw [this,Nat.pow_succ]
  simp only [sb,Bool.false_eq_true,if_false,Nat.add_zero]
  congr 1
  rw [Nat.mul_comm 2 v,Nat.mul_assoc,Nat.mul_comm 2]
 ·exact wW ⟨k,hk⟩ ⟨v,by omega⟩ hv
theorem pZ (p:List UInt8) (x:UInt8) (k:Nat) (b:Bool) (h0:0<k) (hk:k<8):addBit (p++[x]) (8*p.length+k) b=p++[sb x k b]:=by
 have h1 : ¬(8*p.length+k)%8=0:=by omega
 have h2:(8*p.length+k)/8=p.length:=by omega
 have h3:(8*p.length+k)%8=k:=by omega
 have hk0 : ¬k=0:=by omega
 unfold addBit sb
 simp only [h2,h3,hk0,if_false]
 cases b<;>simp
theorem nf (p:List UInt8) (b:Bool):addBit p (8*p.length) b=p++[sb 0 0 b]:=by
 have h1:(8*p.length)%8=0:=by omega
 have h2:(8*p.length)/8=p.length:=by omega
 unfold addBit sb
 simp only [h1,if_pos,h2]
 cases b<;>simp
theorem iX (p:List UInt8) : ∀ (l:List Bool) (v k:Nat),0<k→k+l.length≤8→v<2^k→addBits (p++[UInt8.ofNat (v*2^(8-k))]) (8*p.length+k) l=p++[UInt8.ofNat (valL v l*2^(8-(k+l.length)))]
 | [],v,k,h0,hk,hv=>rfl
 | b::r,v,k,h0,hk,hv=>by
  rw [List.length_cons] at hk
  rw [addBits,pZ p _ k b h0 (by omega),tJ v k b (by omega) hv,List.length_cons,valL,show k+(r.length+1)=(k+1)+r.length by omega,show 8*p.length+k+1=8*p.length+(k+1) by omega]
  have:7-k=8-(k+1):=by omega
  rw [this]
  refine iX p r _ (k+1) (by omega) (by omega) ?_
  rw [Nat.pow_succ]
  split<;>omega
theorem kd (p:List UInt8) (l:List Bool) (h0:l≠[]) (h8:l.length≤8):addBits p (8*p.length) l=p++[UInt8.ofNat (valL 0 l*2^(8-l.length))]:=by
 cases l with
 | nil=>exact absurd rfl h0
 | cons b r=>
  rw [List.length_cons] at h8
  have e:=tJ 0 0 b (by decide) (by decide)
  have e0:UInt8.ofNat (0*2^(8-0))=0:=by decide
  rw [e0] at e
  rw [addBits,nf,e,valL,List.length_cons,show r.length+1=1+r.length by omega]
  exact iX p r _ 1 (by decide) (by omega) (by split<;>decide)
def packL:Nat→List Bool→List UInt8
 | 0,_=>[]
 | f+1,l=>if l=[] then [] else UInt8.ofNat (valL 0 (l.take 8)*2^(8-(l.take 8).length))::packL f (l.drop 8)
theorem fX : ∀ (f:Nat) (p:List UInt8) (l:List Bool),l.length<8*f→addBits p (8*p.length) l=p++packL f l
 | 0,p,l,h=>by omega
 | f+1,p,l,h=>by
  by_cases h0:l=[]
  ·subst h0;simp [packL,addBits]
  ·rw [packL,if_neg h0]
   have hl:0<l.length:=List.length_pos_iff.2 h0
   conv=>lhs;rw [←List.take_append_drop 8 l,ba]
   have ht:(l.take 8)≠[]:=by
    intro he
    have:=congrArg List.length he
    rw [List.length_take,List.length_nil] at this
    omega
   rw [kd p _ ht (by simp;omega)]
   by_cases hd:l.drop 8=[]
   ·rw [hd]
    cases f<;>simp [addBits,packL]
   ·have h8:8<l.length:=by
     have:=List.length_pos_iff.2 hd
     simp at this
     omega
    have hlen:(l.take 8).length=8:=by simp;omega
    have e:8*p.length+(l.take 8).length=8*(p++[UInt8.ofNat (valL 0 (l.take 8)*2^(8-(l.take 8).length))]).length:=by rw [hlen];simp;omega
    rw [e,fX f _ _ (by simp;omega)]
    simp
end Go.Proofs.YtppeggedcaabkaaGreatDoor
end

section
namespace Go.Proofs.YtppeggedcaabkaaGreatDoor
open Go Go.Sx
def Id.rv:Id→PV
 | .zero=>.imm [.s (.int .i64 0),.s (.pointer none),.s (.pointer none)] 0
 | .one=>.imm [.s (.int .i64 1),.s (.pointer none),.s (.pointer none)] 0
 | .node l r=>.imm [.s (.int .i64 2),l.rv,r.rv] 0
theorem Id.rv_z:Id.zero.rv = .imm [.s (.int .i64 0),.s (.pointer none),.s (.pointer none)] 0:=rfl
theorem Id.rv_o:Id.one.rv = .imm [.s (.int .i64 1),.s (.pointer none),.s (.pointer none)] 0:=rfl
theorem Id.rv_n (l r:Id):(Id.node l r).rv = .imm [.s (.int .i64 2),l.rv,r.rv] 0:=rfl
theorem nX (H:Heap) (nx:Nat):Ω 60 [] H nx=some (.p Id.zero.rv,[],[]):=by
 refine ae (ir:=ir60) (by kernel_rfl) 0 ?_
 simp [ir60,Id.rv_z,ssB,ssU,ssP,appO]
theorem wT (l r:Id) (H:Heap) (nx:Nat):Ω 64 [.p l.rv,.p r.rv] H nx=some (.p (Id.pair l r).rv,[],[]):=by
 refine ae (ir:=ir64) (by kernel_rfl) 0 ?_
 unfold Id.pair
 cases l<;>cases r
 all_goals simp [ir64,Id.rv_z,Id.rv_o,Id.rv_n,ssB,ssU,ssP,appO]
def obP (fl:Bool):Option (List UInt8)→PV
 | none=>.s (.slice none 0 0)
 | some l=>.sl (bytP l) l.length 1 fl
theorem cv (b:UInt8) (l:List UInt8):bytP (b::l) = .s (.int .u8 b.toNat)::bytP l:=rfl
theorem bR (l:List UInt8):List.take l.length (bytP l)=bytP l:=by rw [←aa,List.take_length]
theorem cH (fl:Bool):obP fl none = .s (.slice none 0 0):=rfl
theorem bU (fl:Bool) (l:List UInt8):obP fl (some l) = .sl (bytP l) l.length 1 fl:=rfl
def mkId:Nat→Option (List UInt8)→Id × Option (List UInt8)
 | _,none=>(.zero,none)
 | _,some []=>(.zero,none)
 | 0,some (b::p)=>(if b.toNat%2=0 then .zero else .one,some p)
 | m+1,some (b::p)=>
  if b.toNat%4<2 then (if b.toNat%2=0 then .zero else .one,some p)
  else (Id.pair (mkId m (some p)).1 (mkId m (mkId m (some p)).2).1,(mkId m (mkId m (some p)).2).2)
theorem tG (b:UInt8) (k:Nat) (hk:0<k):binI .rem .u8 b.toNat (k:Int)=some (.int .u8 (b.toNat%k:Nat)):=by
 have:binI .rem .u8 (b.toNat:Int) (k:Int)=some (.int .u8 ((b.toNat:Int).tmod k)):=by simp [binI];omega
 rw [this,Int.tmod_eq_emod_of_nonneg (by omega)]
 norm_cast
theorem iJ (b:UInt8):binI .rem .u8 b.toNat 4=some (.int .u8 (b.toNat%4:Nat)):=tG b 4 (by decide)
theorem ro (b:UInt8):binI .rem .u8 b.toNat 2=some (.int .u8 (b.toNat%2:Nat)):=tG b 2 (by decide)
theorem nW (m:Nat) (H:Heap) (nx:Nat):Ω 21 [.p (.s (.slice none 0 0)),.int .i64 m] H nx=some (.tuple [.p Id.zero.rv,.p (.s (.slice none 0 0))],[],[]):=by
 refine ae (ir:=ir21) (by kernel_rfl) 0 ?_
 simp [ir21,ssB,ssU,ssP,appO,nX,Id.rv_z]
theorem rk (m:Nat) (fl:Bool) (H:Heap) (nx:Nat):Ω 21 [.p (.sl [] 0 1 fl),.int .i64 m] H nx=some (.tuple [.p Id.zero.rv,.p (.s (.slice none 0 0))],[],[]):=by
 refine ae (ir:=ir21) (by kernel_rfl) 0 ?_
 simp [ir21,ssB,ssU,ssP,appO,nX,Id.rv_z]
theorem jy (m:Nat) (b:UInt8) (p:List UInt8) (fl:Bool) (h30:p.length<2^31) (hm:m=0∨b.toNat%4<2) (H:Heap) (nx:Nat):
  Ω 21 [.p (obP fl (some (b::p))),.int .i64 m] H nx=some (.tuple [.p (if b.toNat%2=0 then Id.zero else Id.one).rv,.p (obP fl (some p))],[],[]):=by
 refine ae (ir:=ir21) (by kernel_rfl) 0 ?_
 have r4:=iJ b
 have hp1 : ¬((p.length:Int)+1=0):=by omega
 have hp2:bytP []=[]:=rfl
 have r2:=ro b
 have hw:IntKind.i64.wrap ((b.toNat%2:Nat):Int)=((b.toNat%2:Nat):Int):=am _ (by omega) (by omega)
 have hc:(if b.toNat%2=0 then Id.zero else Id.one).rv = .imm [.s (.int .i64 (b.toNat%2:Nat)),.s (.pointer none),.s (.pointer none)] 0:=by
  rcases Nat.mod_two_eq_zero_or_one b.toNat with h|h<;>simp [h,Id.rv_z,Id.rv_o]
 rw [hc]
 generalize b.toNat%2=x at*
 by_cases h0:m=0
 ·subst h0
  simp [ir21,ssB,ssU,ssP,appO,bU,cv,aa,bR,hp1,hp2,r4,r2,hw]
 ·have h4:=hm.resolve_left h0
  have h4':((b.toNat%4:Nat):Int)<2:=by omega
  have h0':((m:Int)==0)=false:=by simp;omega
  have h5 : ¬(2:Int)≤((b.toNat%4:Nat):Int):=by omega
  generalize b.toNat%4=y at*
  simp [ir21,ssB,ssU,ssP,appO,bU,cv,aa,bR,hp1,hp2,r4,r2,hw,h5,h0']
def short (x:Option (List UInt8)):Prop:=∀ l,x=some l→l.length<2^31
theorem fK : ∀ (m:Nat) (x:Option (List UInt8)),short x→short (mkId m x).2
 | _,none,h=>by unfold mkId;exact h
 | _,some [],h=>by unfold mkId;intro l hl;cases hl
 | 0,some (b::p),h=>by
  unfold mkId
  intro l hl
  obtain rfl:=Option.some.inj hl
  have:=h _ rfl
  simp at this;omega
 | m+1,some (b::p),h=>by
  have hp:short (some p):=fun l hl=>by
   obtain rfl:=Option.some.inj hl
   have:=h _ rfl
   simp at this;omega
  unfold mkId
  split
  ·exact hp
  ·exact fK m _ (fK m _ hp)
theorem nV : ∀ (m:Nat) (x:Option (List UInt8)) (fl:Bool),m<100→short x→∀ (H:Heap) (nx:Nat),
  Ω 21 [.p (obP fl x),.int .i64 m] H nx=some (.tuple [.p (mkId m x).1.rv,.p (obP fl (mkId m x).2)],[],[])
 | m,none,fl,hm,hx,H,nx=>by
  unfold mkId;exact nW m H nx
 | m,some [],fl,hm,hx,H,nx=>by
  unfold mkId;exact rk m fl H nx
 | 0,some (b::p),fl,hm,hx,H,nx=>by
  have:=hx _ rfl
  unfold mkId;exact jy 0 b p fl (by simp at this;omega) (.inl rfl) H nx
 | m+1,some (b::p),fl,hm,hx,H,nx=>by
  have hl:=hx _ rfl
  have hp:short (some p):=fun l hl'=>by
   obtain rfl:=Option.some.inj hl'
   simp at hl;omega
  unfold mkId
  split
  ·rename_i h4
   exact jy (m+1) b p fl (by simp at hl;omega) (.inr h4) H nx
  ·rename_i h4
   refine ae (ir:=ir21) (by kernel_rfl) 0 ?_
   have r4:=iJ b
   have hp1 : ¬((p.length:Int)+1=0):=by omega
   have hp2:bytP []=[]:=rfl
   have h4' : ¬((b.toNat%4:Nat):Int)<2:=by omega
   have h0':(((m+1:Nat):Int)==0)=false:=by simp;omega
   have h5:(2:Int)≤((b.toNat%4:Nat):Int):=by omega
   have hw:IntKind.i64.wrap (((m+1:Nat):Int)-1)=(m:Int):=by rw [am _ (by omega) (by omega)];omega
   have e1:=nV m (some p) fl (by omega) hp
   have e2:=nV m (mkId m (some p)).2 fl (by omega) (fK _ _ hp)
   have e3:=wT (mkId m (some p)).1 (mkId m (mkId m (some p)).2).1
   generalize mkId m (some p)=y at*
   generalize mkId m y.2=z at*
   generalize (m+1:Nat)=M at*
   generalize b.toNat%4=t at*
   rw [bU] at e1
   simp [ir21,ssB,ssU,ssP,appO,bU,cv,aa,bR,hp1,hp2,r4,hw,h5,h0',e1,e2,e3]
end Go.Proofs.YtppeggedcaabkaaGreatDoor
end

section
namespace Go.Proofs.YtppeggedcaabkaaGreatDoor
open Go Go.Sx
mutual
def Ev.kl:Ev→PV
 | .leaf _=>.s (.pointer none)
 | .node _ l _=>l.rv
def Ev.kr:Ev→PV
 | .leaf _=>.s (.pointer none)
 | .node _ _ r=>r.rv
def Ev.rv:Ev→PV
 | .leaf n=>.imm [.s (.int .u64 n),.s (.pointer none),.s (.pointer none)] 0
 | .node n l r=>.imm [.s (.int .u64 n),l.rv,r.rv] 0
end
theorem Ev.rv_l (n:Nat):(Ev.leaf n).rv = .imm [.s (.int .u64 n),.s (.pointer none),.s (.pointer none)] 0:=by rw [Ev.rv]
theorem Ev.rv_n (n:Nat) (l r:Ev):(Ev.node n l r).rv = .imm [.s (.int .u64 n),l.rv,r.rv] 0:=by rw [Ev.rv]
theorem Ev.rv_imm (e:Ev) : ∃ cs,e.rv = .imm cs 0:=by
 cases e
 ·exact ⟨_,Ev.rv_l _⟩
 ·exact ⟨_,Ev.rv_n _ _ _⟩
theorem jx (n:Nat) (H:Heap) (nx:Nat):Ω 59 [.int .u64 n] H nx=some (.p (Ev.leaf n).rv,[],[]):=by
 refine ae (ir:=ir59) (by kernel_rfl) 0 ?_
 simp [ir59,Ev.rv_l,ssB,ssU,ssP,appO]
def Ev.norm:Ev→Prop
 | .leaf _=>True
 | .node _ l r=>l.norm∧r.norm∧(l.n=0∨r.n=0)∧¬(l.isLeaf=true∧r.isLeaf=true∧l.n=r.n)
theorem Ev.norm_down (e:Ev) (k:Nat):(e.down k).norm↔e.norm:=by cases e<;>exact Iff.rfl
theorem Ev.leaf_down (e:Ev) (k:Nat):(e.down k).isLeaf=e.isLeaf:=by cases e<;>rfl
theorem Ev.down_0 (e:Ev):e.down 0=e:=by cases e<;>rfl
theorem Ev.down_depth (e:Ev) (k:Nat):(e.down k).depth=e.depth:=by cases e<;>rfl
theorem Ev.down_max (e:Ev) (k:Nat) (h:k≤e.n):(e.down k).max+k=e.max:=by
 cases e<;>simp [Ev.down,Ev.max,Ev.n] at h ⊢ <;> omega
theorem Ev.mk_norm {n:Nat} {l r:Ev} (hl:l.norm) (hr:r.norm):(Ev.mk n l r).norm:=by
 unfold Ev.mk
 split
 ·trivial
 ·rename_i hc
  refine ⟨(Ev.norm_down _ _).2 hl,(Ev.norm_down _ _).2 hr,?_,?_⟩
  ·rw [Ev.down_n,Ev.down_n]
   rcases Nat.le_total l.n r.n with h|h
   ·left;rw [Nat.min_eq_left h];omega
   ·right;rw [Nat.min_eq_right h];omega
  ·rw [Ev.leaf_down,Ev.leaf_down,Ev.down_n,Ev.down_n]
   rintro ⟨h1,h2,h3⟩
   exact hc ⟨h1,h2,by omega⟩
theorem Ev.mk_id {n:Nat} {l r:Ev} (h:(Ev.node n l r).norm):Ev.mk n l r = .node n l r:=by
 obtain ⟨_,_,h1,h2⟩:=h
 unfold Ev.mk
 rw [if_neg h2,show Min.min l.n r.n=0 by omega,Ev.down_0,Ev.down_0,Nat.add_zero]
theorem Ev.mk_depth (n:Nat) (l r:Ev):(Ev.mk n l r).depth≤1+Max.max l.depth r.depth:=by
 unfold Ev.mk
 split
 ·simp [Ev.depth]
 ·simp [Ev.depth,Ev.down_depth]
theorem Ev.mk_max (n:Nat) (l r:Ev):(Ev.mk n l r).max=n+Max.max l.max r.max:=by
 unfold Ev.mk
 split
 ·rename_i h
  obtain ⟨h1,h2,h3⟩:=h
  cases l with
  | node=>cases h1
  | leaf a=>
   cases r with
   | node=>cases h2
   | leaf b=>
    simp only [Ev.n] at h3
    subst h3
    simp [Ev.max,Ev.n]
 ·have h1:=Ev.down_max l (Min.min l.n r.n) (Nat.min_le_left _ _)
  have h2:=Ev.down_max r (Min.min l.n r.n) (Nat.min_le_right _ _)
  simp only [Ev.max]
  omega
theorem wz:IntKind.u64.wrap 0=0:=by decide
theorem pG : ∀ (e:Ev),e.norm→e.max<2^63→∀ (H:Heap) (nx:Nat),Ω 114 [.p e.rv] H nx=some (.int .u64 e.n,[],[])
 | .leaf n,_,_,H,nx=>by
  refine ae (ir:=ir114) (by kernel_rfl) 0 ?_
  simp [ir114,Ev.rv_l,Ev.n_l,ssB,ssU,ssP,appO]
 | .node n l r,hn,hm,H,nx=>by
  refine ae (ir:=ir114) (by kernel_rfl) 0 ?_
  have d1:=Ev.max_l n l r
  have d2:=Ev.max_r n l r
  have m1:=Ev.n_max l
  have m2:=Ev.n_max r
  have e1:=pG l hn.1 (by omega)
  have e2:=pG r hn.2.1 (by omega)
  obtain ⟨cl,hcl⟩:=Ev.rv_imm l
  have w1:IntKind.u64.wrap ((n:Int)+l.n)=(n:Int)+l.n:=aM _ (by omega) (by omega)
  have w2:IntKind.u64.wrap ((n:Int)+r.n)=(n:Int)+r.n:=aM _ (by omega) (by omega)
  have w0:IntKind.u64.wrap (n:Int)=n:=aM _ (by omega) (by omega)
  have h0:=hn.2.2.1
  rw [hcl] at e1
  generalize l.n=a at*
  generalize r.n=b at*
  rcases h0 with rfl|rfl
  ·by_cases hb:b=0
   ·subst hb
    simp [ir114,Ev.rv_n,Ev.n_n,hcl,e1,e2,w0,w1,w2,ssB,ssU,ssP,appO]
   ·have hb':(0:Int)<b:=by omega
    have hb2:0<b:=by omega
    simp [ir114,Ev.rv_n,Ev.n_n,hcl,e1,e2,w0,w1,w2,hb',hb2,hb,ssB,ssU,ssP,appO]
  ·have hb' : ¬(a:Int)<0:=by omega
   simp [ir114,Ev.rv_n,Ev.n_n,hcl,e1,e2,w0,w1,w2,hb',ssB,ssU,ssP,appO]
theorem tC (n a b:Nat) (l r:Ev) (hl:l = .leaf a) (hr:r = .leaf a) (h1:n+a<2^64) (H:Heap) (nx:Nat):Ω 61 [.int .u64 n,.p l.rv,.p r.rv] H nx=some (.p (Ev.leaf (n+a)).rv,[],[]):=by
 refine ae (ir:=ir61) (by kernel_rfl) 0 ?_
 have hw:IntKind.u64.wrap ((n:Int)+a)=((n+a:Nat):Int):=by rw [aM _ (by omega) (by omega)];omega
 have e:=jx (n+a)
 subst hl hr
 generalize n+a=m at*
 simp [ir61,Ev.rv_l,ssB,ssU,ssP,appO,hw,e]
theorem tD (n:Nat) (l r:Ev) (hl:l.norm) (hr:r.norm) (hc : ¬(l.isLeaf=true∧r.isLeaf=true∧l.n=r.n)) (h1:n+l.max<2^63) (h2:r.max<2^63) (H:Heap) (nx:Nat):
  Ω 61 [.int .u64 n,.p l.rv,.p r.rv] H nx=some (.p (Ev.node (n+Min.min l.n r.n) (l.down (Min.min l.n r.n)) (r.down (Min.min l.n r.n))).rv,[],[]):=by
 refine ae (ir:=ir61) (by kernel_rfl) 0 ?_
 have m1:=Ev.n_max l
 have m2:=Ev.n_max r
 have e1:=pG l hl (by omega)
 have e2:=pG r hr h2
 have hw1 : ∀ m:Nat,m≤l.n→IntKind.u64.wrap ((n:Int)+m)=((n+m:Nat):Int):=fun m hm=>by rw [aM _ (by omega) (by omega)];omega
 have hw2 : ∀ m:Nat,m≤l.n→IntKind.u64.wrap ((l.n:Int)-m)=((l.n-m:Nat):Int):=fun m hm=>by rw [aM _ (by omega) (by omega)];omega
 have hw3 : ∀ m:Nat,m≤r.n→IntKind.u64.wrap ((r.n:Int)-m)=((r.n-m:Nat):Int):=fun m hm=>by rw [aM _ (by omega) (by omega)];omega
 by_cases hlt:r.n<l.n
 ·rw [show Min.min l.n r.n=r.n by omega]
  have a1:=hw1 r.n (by omega)
  have a2:=hw2 r.n (by omega)
  have a3:=hw3 r.n (by omega)
  have hlt':(r.n:Int)<l.n:=by omega
  generalize n+r.n=t at*
  cases l with
  | leaf a=>
   cases r with
   | leaf b=>
    simp only [Ev.n_l] at*
    have hne:((a:Int)==b)=false:=by simp;omega
    have hne' : ¬a=b:=by omega
    rw [Ev.rv_l] at e1 e2
    simp [ir61,Ev.rv_l,Ev.rv_n,Ev.down,ssB,ssU,ssP,appO,e1,e2,wz,a1,a2,a3,hlt,hlt',hne,hne']
   | node b b1 b2=>
    simp only [Ev.n_l,Ev.n_n] at*
    obtain ⟨cb,hcb⟩:=Ev.rv_imm b1
    obtain ⟨cb2,hcb2⟩:=Ev.rv_imm b2
    rw [Ev.rv_l] at e1
    rw [Ev.rv_n,hcb,hcb2] at e2
    simp [ir61,Ev.rv_l,Ev.rv_n,Ev.down,ssB,ssU,ssP,appO,e1,e2,wz,a1,a2,a3,hlt,hlt',hcb,hcb2]
  | node a x y=>
   obtain ⟨ca,hca⟩:=Ev.rv_imm x
   obtain ⟨ca2,hca2⟩:=Ev.rv_imm y
   cases r with
   | leaf b=>
    simp only [Ev.n_l,Ev.n_n] at*
    rw [Ev.rv_l] at e2
    rw [Ev.rv_n,hca,hca2] at e1
    simp [ir61,Ev.rv_l,Ev.rv_n,Ev.down,ssB,ssU,ssP,appO,e1,e2,wz,a1,a2,a3,hlt,hlt',hca,hca2]
   | node b b1 b2=>
    obtain ⟨cb,hcb⟩:=Ev.rv_imm b1
    obtain ⟨cb2,hcb2⟩:=Ev.rv_imm b2
    simp only [Ev.n_n] at*
    rw [Ev.rv_n,hcb,hcb2] at e2
    rw [Ev.rv_n,hca,hca2] at e1
    simp [ir61,Ev.rv_l,Ev.rv_n,Ev.down,ssB,ssU,ssP,appO,e1,e2,wz,a1,a2,a3,hlt,hlt',hca,hca2,hcb,hcb2]
 ·rw [show Min.min l.n r.n=l.n by omega]
  have a1:=hw1 l.n (by omega)
  have a2:=hw2 l.n (by omega)
  have a3:=hw3 l.n (by omega)
  have hlt' : ¬(r.n:Int)<l.n:=by omega
  generalize n+l.n=t at*
  cases l with
  | leaf a=>
   cases r with
   | leaf b=>
    simp only [Ev.n_l] at*
    have hne' : ¬a=b:=fun h=>hc ⟨rfl,rfl,h⟩
    have hne:((a:Int)==b)=false:=by simp;omega
    rw [Ev.rv_l] at e1 e2
    simp [ir61,Ev.rv_l,Ev.rv_n,Ev.down,ssB,ssU,ssP,appO,e1,e2,wz,a1,a2,a3,hlt,hlt',hne,hne']
   | node b b1 b2=>
    simp only [Ev.n_l,Ev.n_n] at*
    obtain ⟨cb,hcb⟩:=Ev.rv_imm b1
    obtain ⟨cb2,hcb2⟩:=Ev.rv_imm b2
    rw [Ev.rv_l] at e1
    rw [Ev.rv_n,hcb,hcb2] at e2
    simp [ir61,Ev.rv_l,Ev.rv_n,Ev.down,ssB,ssU,ssP,appO,e1,e2,wz,a1,a2,a3,hlt,hlt',hcb,hcb2]
  | node a x y=>
   obtain ⟨ca,hca⟩:=Ev.rv_imm x
   obtain ⟨ca2,hca2⟩:=Ev.rv_imm y
   cases r with
   | leaf b=>
    simp only [Ev.n_l,Ev.n_n] at*
    rw [Ev.rv_l] at e2
    rw [Ev.rv_n,hca,hca2] at e1
    simp [ir61,Ev.rv_l,Ev.rv_n,Ev.down,ssB,ssU,ssP,appO,e1,e2,wz,a1,a2,a3,hlt,hlt',hca,hca2]
   | node b b1 b2=>
    obtain ⟨cb,hcb⟩:=Ev.rv_imm b1
    obtain ⟨cb2,hcb2⟩:=Ev.rv_imm b2
    simp only [Ev.n_n] at*
    rw [Ev.rv_n,hcb,hcb2] at e2
    rw [Ev.rv_n,hca,hca2] at e1
    simp [ir61,Ev.rv_l,Ev.rv_n,Ev.down,ssB,ssU,ssP,appO,e1,e2,wz,a1,a2,a3,hlt,hlt',hca,hca2,hcb,hcb2]
theorem wS (n:Nat) (l r:Ev) (hl:l.norm) (hr:r.norm) (h1:n+l.max<2^63) (h2:r.max<2^63) (H:Heap) (nx:Nat):
  Ω 61 [.int .u64 n,.p l.rv,.p r.rv] H nx=some (.p (Ev.mk n l r).rv,[],[]):=by
 unfold Ev.mk
 by_cases hc:l.isLeaf=true∧r.isLeaf=true∧l.n=r.n
 ·rw [if_pos hc]
  cases l with
  | leaf a=>
   cases r with
   | leaf b=>
    obtain rfl:a=b:=hc.2.2
    exact tC n a a _ _ rfl rfl (by simp [Ev.max] at h1;omega) H nx
   | node b b1 b2=>cases hc.2.1
  | node a a1 a2=>cases hc.1
 ·rw [if_neg hc]
  exact tD n l r hl hr hc h1 h2 H nx
end Go.Proofs.YtppeggedcaabkaaGreatDoor
end

section
namespace Go.Proofs.YtppeggedcaabkaaGreatDoor
open Go Go.Sx
def Ev.lf:Ev→Ev
 | .leaf n=>.leaf n
 | .node n l _=>l.up n
def mkEv:Nat→Option (List UInt8)→Ev × Option (List UInt8)
 | _,none=>(.leaf 0,none)
 | _,some []=>(.leaf 0,none)
 | 0,some (b::p)=>(.leaf (b.toNat/4%8),some p)
 | m+1,some (b::p)=>
  if b.toNat%4<2 then (.leaf (b.toNat/4%8),some p)
  else (Ev.mk (b.toNat/4%4) (mkEv m (some p)).1 (mkEv m (mkEv m (some p)).2).1,(mkEv m (mkEv m (some p)).2).2)
theorem fJ : ∀ (m:Nat) (x:Option (List UInt8)),short x→short (mkEv m x).2
 | _,none,h=>by unfold mkEv;exact h
 | _,some [],h=>by unfold mkEv;intro l hl;cases hl
 | 0,some (b::p),h=>by
  unfold mkEv
  intro l hl
  obtain rfl:=Option.some.inj hl
  have:=h _ rfl
  simp at this;omega
 | m+1,some (b::p),h=>by
  have hp:short (some p):=fun l hl=>by
   obtain rfl:=Option.some.inj hl
   have:=h _ rfl
   simp at this;omega
  unfold mkEv
  split
  ·exact hp
  ·exact fJ m _ (fJ m _ hp)
theorem bK : ∀ (m:Nat) (x:Option (List UInt8)),(mkEv m x).1.norm∧(mkEv m x).1.depth≤m∧(mkEv m x).1.max≤7+3*m
 | _,none=>by unfold mkEv;exact ⟨trivial,Nat.zero_le _,Nat.zero_le _⟩
 | _,some []=>by unfold mkEv;exact ⟨trivial,Nat.zero_le _,Nat.zero_le _⟩
 | 0,some (b::p)=>by unfold mkEv;exact ⟨trivial,Nat.zero_le _,by simp only [Ev.max];omega⟩
 | m+1,some (b::p)=>by
  unfold mkEv
  split
  ·exact ⟨trivial,Nat.zero_le _,by simp only [Ev.max];omega⟩
  ·obtain ⟨a1,a2,a3⟩:=bK m (some p)
   obtain ⟨b1,b2,b3⟩:=bK m (mkEv m (some p)).2
   refine ⟨Ev.mk_norm a1 b1,Nat.le_trans (Ev.mk_depth _ _ _) (by omega),?_⟩
   rw [Ev.mk_max]
   omega
theorem pF (b:UInt8):binI .quo .u8 b.toNat 4=some (.int .u8 (b.toNat/4:Nat)):=by
 have hb:=b.toNat_lt
 have:binI .quo .u8 (b.toNat:Int) 4=some (.int .u8 (IntKind.u8.wrap ((b.toNat:Int).tdiv 4))):=by simp [binI]
 rw [this,Int.tdiv_eq_ediv_of_nonneg (by omega)]
 have:IntKind.u8.wrap ((b.toNat:Int)/4)=((b.toNat/4:Nat):Int):=by
  simp [IntKind.wrap,IntKind.signed,IntKind.bits]
  omega
 rw [this]
theorem vk (n:Nat):binI .rem .u8 (n:Int) 8=some (.int .u8 (n%8:Nat)):=by
 have:binI .rem .u8 (n:Int) 8=some (.int .u8 ((n:Int).tmod 8)):=by simp [binI]
 rw [this,Int.tmod_eq_emod_of_nonneg (by omega)]
 norm_cast
theorem tF (n:Nat):binI .rem .u8 (n:Int) 4=some (.int .u8 (n%4:Nat)):=by
 have:binI .rem .u8 (n:Int) 4=some (.int .u8 ((n:Int).tmod 4)):=by simp [binI]
 rw [this,Int.tmod_eq_emod_of_nonneg (by omega)]
 norm_cast
theorem mI (m:Nat) (H:Heap) (nx:Nat):Ω 19 [.p (.s (.slice none 0 0)),.int .i64 m] H nx=some (.tuple [.p (Ev.leaf 0).rv,.p (.s (.slice none 0 0))],[],[]):=by
 refine ae (ir:=ir19) (by kernel_rfl) 0 ?_
 have e:=jx 0
 simp only [Int.natCast_zero,Int.ofNat_zero] at e
 simp [ir19,ssB,ssU,ssP,appO,e,Ev.rv_l]
theorem nY (m:Nat) (fl:Bool) (H:Heap) (nx:Nat):Ω 19 [.p (.sl [] 0 1 fl),.int .i64 m] H nx=some (.tuple [.p (Ev.leaf 0).rv,.p (.s (.slice none 0 0))],[],[]):=by
 refine ae (ir:=ir19) (by kernel_rfl) 0 ?_
 have e:=jx 0
 simp only [Int.natCast_zero,Int.ofNat_zero] at e
 simp [ir19,ssB,ssU,ssP,appO,e,Ev.rv_l]
theorem iw (m:Nat) (b:UInt8) (p:List UInt8) (fl:Bool) (h30:p.length<2^31) (hm:m=0∨b.toNat%4<2) (H:Heap) (nx:Nat):
  Ω 19 [.p (obP fl (some (b::p))),.int .i64 m] H nx=some (.tuple [.p (Ev.leaf (b.toNat/4%8)).rv,.p (obP fl (some p))],[],[]):=by
 refine ae (ir:=ir19) (by kernel_rfl) 0 ?_
 have r4:=iJ b
 have hp1 : ¬((p.length:Int)+1=0):=by omega
 have hp2:bytP []=[]:=rfl
 have q4:=pF b
 have r8:=vk (b.toNat/4)
 have hw:IntKind.u64.wrap ((b.toNat/4%8:Nat):Int)=((b.toNat/4%8:Nat):Int):=aM _ (by omega) (by omega)
 have e:=jx (b.toNat/4%8)
 generalize b.toNat/4%8=x at*
 generalize b.toNat/4=x4 at*
 by_cases h0:m=0
 ·subst h0
  simp [ir19,ssB,ssU,ssP,appO,bU,cv,aa,bR,hp1,hp2,r4,q4,r8,hw,e]
 ·have h4:=hm.resolve_left h0
  have h4':((b.toNat%4:Nat):Int)<2:=by omega
  have h0':((m:Int)==0)=false:=by simp;omega
  have h5 : ¬(2:Int)≤((b.toNat%4:Nat):Int):=by omega
  generalize b.toNat%4=y at*
  simp [ir19,ssB,ssU,ssP,appO,bU,cv,aa,bR,hp1,hp2,r4,q4,r8,hw,h5,h0',e]
theorem iI : ∀ (m:Nat) (x:Option (List UInt8)) (fl:Bool),m<100→short x→∀ (H:Heap) (nx:Nat),
  Ω 19 [.p (obP fl x),.int .i64 m] H nx=some (.tuple [.p (mkEv m x).1.rv,.p (obP fl (mkEv m x).2)],[],[])
 | m,none,fl,hm,hx,H,nx=>by
  unfold mkEv;exact mI m H nx
 | m,some [],fl,hm,hx,H,nx=>by
  unfold mkEv;exact nY m fl H nx
 | 0,some (b::p),fl,hm,hx,H,nx=>by
  have:=hx _ rfl
  unfold mkEv;exact iw 0 b p fl (by simp at this;omega) (.inl rfl) H nx
 | m+1,some (b::p),fl,hm,hx,H,nx=>by
  have hl:=hx _ rfl
  have hp:short (some p):=fun l hl'=>by
   obtain rfl:=Option.some.inj hl'
   simp at hl;omega
  unfold mkEv
  split
  ·rename_i h4
   exact iw (m+1) b p fl (by simp at hl;omega) (.inr h4) H nx
  ·rename_i h4
   refine ae (ir:=ir19) (by kernel_rfl) 0 ?_
   have r4:=iJ b
   have hp1 : ¬((p.length:Int)+1=0):=by omega
   have hp2:bytP []=[]:=rfl
   have q4:=pF b
   have r4':=tF (b.toNat/4)
   have h4' : ¬((b.toNat%4:Nat):Int)<2:=by omega
   have h0':(((m+1:Nat):Int)==0)=false:=by simp;omega
   have h5:(2:Int)≤((b.toNat%4:Nat):Int):=by omega
   have hw:IntKind.i64.wrap (((m+1:Nat):Int)-1)=(m:Int):=by rw [am _ (by omega) (by omega)];omega
   have hw2:IntKind.u64.wrap ((b.toNat/4%4:Nat):Int)=((b.toNat/4%4:Nat):Int):=aM _ (by omega) (by omega)
   obtain ⟨a1,a2,a3⟩:=bK m (some p)
   obtain ⟨b1,b2,b3⟩:=bK m (mkEv m (some p)).2
   have e1:=iI m (some p) fl (by omega) hp
   have e2:=iI m (mkEv m (some p)).2 fl (by omega) (fJ _ _ hp)
   have e3:=wS (b.toNat/4%4) (mkEv m (some p)).1 (mkEv m (mkEv m (some p)).2).1 a1 b1 (by omega) (by omega)
   generalize mkEv m (some p)=y at*
   generalize mkEv m y.2=z at*
   generalize (m+1:Nat)=M at*
   generalize b.toNat%4=t at*
   generalize b.toNat/4%4=u at*
   generalize b.toNat/4=u4 at*
   rw [bU] at e1
   simp [ir19,ssB,ssU,ssP,appO,bU,cv,aa,bR,hp1,hp2,r4,q4,r4',hw,hw2,h5,h0',e1,e2,e3]
end Go.Proofs.YtppeggedcaabkaaGreatDoor
end

section
namespace Go.Proofs.YtppeggedcaabkaaGreatDoor
open Go Go.Sx
def Id.kind:Id→Nat
 | .zero=>0
 | .one=>1
 | .node _ _=>2
theorem Id.rv_imm (i:Id) : ∃ a b,i.rv = .imm [.s (.int .i64 i.kind),a,b] 0:=by
 cases i
 ·exact ⟨_,_,Id.rv_z⟩
 ·exact ⟨_,_,Id.rv_o⟩
 ·exact ⟨_,_,Id.rv_n _ _⟩
theorem Bl.ids {x:LV} {l:List Bool} (g:Bl x l):Go.Sx.ids x=[]:=by cases g<;>rfl
end Go.Proofs.YtppeggedcaabkaaGreatDoor
end

section
namespace Go.Proofs.YtppeggedcaabkaaGreatDoor
open Go Go.Sx
end Go.Proofs.YtppeggedcaabkaaGreatDoor
end

section
namespace Go.Proofs.YtppeggedcaabkaaGreatDoor
open Go Go.Sx
abbrev bstr (s:List UInt8):LV:=.str ⟨s.toArray⟩
def txt (s:List UInt8):List UInt8:=vnum s.length++s
theorem ru (s:List UInt8):(List.map (fun (x:UInt8)=>LV.int .u8 x.toNat) s)=byt s:=rfl
theorem tR (s:List UInt8):(⟨s.toArray⟩:ByteArray).size=s.length:=by simp [ByteArray.size]
theorem eJ {H:Heap} {nx:Nat} {x:LV} {q:List UInt8} (g:Bs H nx x q) (s:List UInt8) (hq:q.length<2^30) (hs:s.length<2^30):
  Ω 28 [x,bstr s] H nx=some (.arr nx 0 (q++txt s).length 1 (q++txt s).length false,[],[some (.cells (byt (q++txt s)))]):=by
 refine ae (ir:=ir28) (by kernel_rfl) 0 ?_
 have hw:IntKind.u64.wrap (s.length:Int)=s.length:=aM _ (by omega) (by omega)
 have hv:=az s.length (by omega)
 have hv0:=gK s.length
 have hQ:q++txt s=(q++vnum s.length)++s:=by rw [txt,List.append_assoc]
 have hQl:(q++vnum s.length).length<2^31:=by simp;omega
 have n:=fun H nx (g':Bs H nx x q)=>ed g' s.length (by omega) hq
 rw [hQ]
 generalize q++vnum s.length=Q at*
 have q1 : ¬1099511627776<Q.length+s.length:=by omega
 have fin:(∀ h:Hp,(∀ id,id<nx→Go.Sx.look H nx h id=H id)→Ω 26 [x,.int .u64 s.length] (Go.Sx.look H nx h) nx=some (.arr nx 0 Q.length 1 Q.length false,[],[some (.cells (byt Q))])):=fun h hh=>n _ _ (g.mono hh (Nat.le_refl _))
 have f0:=fin ⟨[],[]⟩ (fun id hi=>by simp [Go.Sx.look,findU,hi])
 have sz:=tR s
 have lk:Go.Sx.look H nx (push ⟨[],[]⟩ (.cells (byt Q))) nx=some (.cells (byt Q)):=by simp [Go.Sx.look,push,ltF]
 have z : ∀ y:Nat,y+([]:List (Ob)).length=y:=fun y=>rfl
 cases hs0:s with
 | nil=>
  subst hs0
  have a:=fF (H:=H) (nx:=nx) (i:=nx) (L:=Q.length) (h:=push ⟨[],[]⟩ (.cells (byt Q))) (q:=Q) (ex:=false) rfl (Nat.le_refl _) lk
  have ap:appO ⟨Ω,noG,H,nx⟩ (push ⟨[],[]⟩ (.cells (byt Q))) 1 1 (.arr nx 0 Q.length 1 Q.length false) (bstr [])=some ⟨.arr nx 0 Q.length 1 Q.length false,push ⟨[],[]⟩ (.cells (byt Q)),[],false⟩:=by simp [appO,slCells,Go.Sx.ids,ByteArray.size]
  rw [List.append_nil]
  simp only [List.length_nil,Int.natCast_zero,Int.ofNat_zero] at f0 hw sz
  simp [ir28,ssB,ssU,ay,ax,af,Go.Sx.splice,Go.Sx.leI_eq,ltF,f0,hw,sz,a,ap,bB]
 | cons b r=>
  rw [←hs0]
  have hs1 : ¬s.length=0:=by rw [hs0];simp
  have ap:appO ⟨Ω,noG,H,nx⟩ (push ⟨[],[]⟩ (.cells (byt Q))) 1 1 (.arr nx 0 Q.length 1 Q.length false) (bstr s)=some ⟨.arr (nx+1) 0 (Q.length+s.length) 1 (Q.length+s.length) false,push (Go.Sx.setObj nx (push ⟨[],[]⟩ (.cells (byt Q))) nx none) (.cells (byt (Q++s))),[nx],true⟩:=by
   simp [appO,slCells,Go.Sx.ids,sz,ak,hs1,lk,q1,aR,ru,aP]
  have lk2:Go.Sx.look H nx (push (Go.Sx.setObj nx (push ⟨[],[]⟩ (.cells (byt Q))) nx none) (.cells (byt (Q++s)))) (nx+1)=some (.cells (byt (Q++s))):=by
   rw [aF,if_pos (by rw [aB,aR];rfl)]
  have a:=fF (H:=H) (nx:=nx) (i:=nx+1) (L:=Q.length+s.length) (h:=push (Go.Sx.setObj nx (push ⟨[],[]⟩ (.cells (byt Q))) nx none) (.cells (byt (Q++s)))) (q:=Q++s) (ex:=false) (by rw [tw,cX _ _ _ _ (by omega)];rfl) (by omega) lk2
  simp [ir28,ssB,ssU,ay,ax,af,Go.Sx.splice,Go.Sx.leI_eq,ltF,f0,hw,sz,a,ap,bB]
end Go.Proofs.YtppeggedcaabkaaGreatDoor
end

section
namespace Go.Proofs.YtppeggedcaabkaaGreatDoor
open Go Go.Sx
def nodeB (n:Int):Bool:=decide (0≤n)&&decide (n<12)
theorem jK (n:Int) (H:Heap) (nx:Nat):Ω 91 [.int .i64 n] H nx=some (.bool (nodeB n),[],[]):=by
 refine ae (ir:=ir91) (by kernel_rfl) 0 ?_
 unfold nodeB
 by_cases h1:0≤n
 ·by_cases h2:n<12
  ·have h3 : ¬(12:Int)≤n:=by omega
   simp [ir91,ssB,ssU,ssP,appO,h1,h2,h3]
  ·have h3:(12:Int)≤n:=by omega
   simp [ir91,ssB,ssU,ssP,appO,h1,h2,h3]
 ·simp [ir91,ssB,ssU,ssP,appO,h1]
structure Gft where
 no:Nat
 fr:Int
 to:Int
 sh:Id
abbrev Gft.pv (g:Gft):PV:=.agg [.s (.int .u64 g.no),.s (.int .i64 g.fr),.s (.int .i64 g.to),.s (.bool g.sh.all),g.sh.ptr]
abbrev Gft.rv (g:Gft):PV:=.agg [.s (.int .u64 g.no),.s (.int .i64 g.fr),.s (.int .i64 g.to),g.sh.rv]
def Gft.right (g:Gft):Bool:=decide (1≤g.no)&&(decide (g.no<2^62)&&(nodeB g.fr&&(nodeB g.to&&(decide (g.fr≠g.to)&&decide (g.sh ≠ .zero)))))
theorem nB (g:Gft) (H:Heap) (nx:Nat):Ω 42 [.p g.pv] H nx=some (.bool g.right,[],[]):=by
 refine ae (ir:=ir42) (by kernel_rfl) 0 ?_
 obtain ⟨no,fr,to,sh⟩:=g
 have n1:=jK fr
 have n2:=jK to
 have z:=aK sh
 unfold Gft.right
 simp only
 rw [show decide (sh ≠ .zero)=!(decide (sh = .zero)) by simp]
 generalize decide (sh = .zero)=zz at*
 by_cases h1:1≤no
 ·have h1':(1:Int)≤no:=by omega
  by_cases h2:no<2^62
  ·have h2' : ¬(4611686018427387904:Int)≤no:=by omega
   have h2'' : ¬4611686018427387904≤no:=by omega
   cases hf:nodeB fr<;>rw [hf] at n1
   ·simp [ir42,ssB,ssU,ssP,appO,h1,h1',h2',h2'',n1]
   ·cases ht:nodeB to<;>rw [ht] at n2
    ·simp [ir42,ssB,ssU,ssP,appO,h1,h1',h2',h2'',n1,n2]
    ·by_cases h3:fr=to
     ·have h3':(fr != to)=false:=by simp [h3]
      rw [h3] at n1 h3' ⊢
      simp [ir42,ssB,ssU,ssP,appO,h1,h1',h2',h2'',n1]
     ·have h3'':(fr != to)=true:=by simp [h3]
      have h0:no<4611686018427387904:=h2
      cases zz<;>simp [ir42,ssB,ssU,ssP,appO,h1,h1',h2',h2'',n1,n2,h3,h3'',z,h0]
  ·have h2':(4611686018427387904:Int)≤no:=by omega
   have h2'':4611686018427387904≤no:=by omega
   have h0 : ¬no<4611686018427387904:=by omega
   simp [ir42,ssB,ssU,ssP,appO,h1,h1',h2',h2'',h0]
 ·have h1' : ¬(1:Int)≤no:=by omega
  have h1'':no=0:=by omega
  subst h1''
  simp [ir42,ssB,ssU,ssP,appO]
def Gft.bytes (g:Gft):List UInt8:=vnum g.no++vnum g.fr.toNat++vnum g.to.toNat++txt (pack (idBits g.sh))
theorem bM (l:List Bool):(pack l).length≤l.length:=by
 have : ∀ (l:List Bool) (p:List UInt8) (n:Nat),p.length=(n+7)/8→(addBits p n l).length=(n+l.length+7)/8:=by
  intro l
  induction l with
  | nil=>intro p n h;simpa [addBits] using h
  | cons b l ih=>
   intro p n h
   rw [addBits,ih _ (n+1) (iW p n b h),List.length_cons]
   congr 1
   omega
 have h:=this l [] 0 rfl
 rw [pack,h]
 omega
theorem Gft.right_lt {g:Gft} (h:g.right=true):g.no<2^62∧(∃ f t:Nat,g.fr=f∧g.to=t∧f<12∧t<12):=by
 simp only [Gft.right,nodeB,Bool.and_eq_true,decide_eq_true_eq] at h
 obtain ⟨_,h2,⟨h3,h4⟩,⟨h5,h6⟩,_⟩:=h
 exact ⟨h2,g.fr.toNat,g.to.toNat,by omega,by omega,by omega,by omega⟩
theorem tA {H:Heap} {nx:Nat} {x:LV} {q:List UInt8} (b:Bs H nx x q) (no f t:Nat) (sh:Id) (hno:no<2^64) (hf:f<12) (ht:t<12) (hq:q.length<2^20) (hs:(idBits sh).length<2^20):
  Ω 27 [x,.p (Gft.pv ⟨no,f,t,sh⟩)] H nx=some (.p (.sl (bytP (q++Gft.bytes ⟨no,f,t,sh⟩)) (q++Gft.bytes ⟨no,f,t,sh⟩).length 1 false),[],[]):=by
 have v1:=az no hno
 have v2:=az f (by omega)
 have v3:=az t (by omega)
 have hp:=bM (idBits sh)
 have w1:IntKind.u64.wrap (f:Int)=f:=aM _ (by omega) (by omega)
 have w2:IntKind.u64.wrap (t:Int)=t:=aM _ (by omega) (by omega)
 have c:=uc sh (by omega)
 have n1:=fun H nx (g':Bs H nx x q)=>ed g' no hno (by omega)
 have hE:q++Gft.bytes ⟨no,f,t,sh⟩=(((q++vnum no)++vnum f)++vnum t)++txt (pack (idBits sh)):=by simp [Gft.bytes]
 rw [hE]
 have l1:(q++vnum no).length<2^21:=by simp;omega
 generalize q++vnum no=Q1 at*
 have n2:=fun H nx y (g':Bs H nx y Q1)=>ed g' f (by omega) (by omega)
 have l2:(Q1++vnum f).length<2^22:=by simp;omega
 generalize Q1++vnum f=Q2 at*
 have n3:=fun H nx y (g':Bs H nx y Q2)=>ed g' t (by omega) (by omega)
 have l3:(Q2++vnum t).length<2^23:=by simp;omega
 generalize Q2++vnum t=Q3 at*
 have tx:=fun H nx y (g':Bs H nx y Q3)=>eJ g' (pack (idBits sh)) (by omega) (by omega)
 generalize pack (idBits sh)=B at*
 generalize Q3++txt B=Q4 at*
 have m2 : ∀ (H:Heap) (nx id:Nat),H id=some (.cells (byt Q1))→id<nx→Ω 26 [.arr id 0 Q1.length 1 Q1.length false,.int .u64 f] H nx=_:=fun H nx id h1 h2=>n2 H nx _ (.whole h1 h2)
 have m3 : ∀ (H:Heap) (nx id:Nat),H id=some (.cells (byt Q2))→id<nx→Ω 26 [.arr id 0 Q2.length 1 Q2.length false,.int .u64 t] H nx=_:=fun H nx id h1 h2=>n3 H nx _ (.whole h1 h2)
 have mt : ∀ (H:Heap) (nx id:Nat),H id=some (.cells (byt Q3))→id<nx→Ω 28 [.arr id 0 Q3.length 1 Q3.length false,bstr B] H nx=_:=fun H nx id h1 h2=>tx H nx _ (.whole h1 h2)
 have bb:bytesL (byt B)=some B:=bm B
 refine ae (ir:=ir27) (by kernel_rfl) 0 ?_
 cases b with
 | nil=>
  have m1 : ∀ (H:Heap) (nx:Nat),Ω 26 [.p (.s (.slice none 0 0)),.int .u64 no] H nx=_:=fun H nx=>n1 H nx .nil
  simp [ir27,ssB,ssU,ssP,appO,m1,m2,m3,mt,w1,w2,c,bb,aQ,aa,ak,aa,au,aE,aG,aD,aI,av,aA]
 | sl _ fl=>
  have m1 : ∀ (H:Heap) (nx:Nat),Ω 26 [.p (.sl (bytP q) q.length 1 fl),.int .u64 no] H nx=_:=fun H nx=>n1 H nx (.sl q fl)
  simp [ir27,ssB,ssU,ssP,appO,m1,m2,m3,mt,w1,w2,c,bb,aQ,aa,ak,aa,au,aE,aG,aD,aI,av,aA]
 | arr _ G id off cp ex h1 h2 h3 h4=>
  have m1 : ∀ (H:Heap) (nx:Nat),H id=some (.cells (byt G))→id<nx→Ω 26 [.arr id off q.length 1 cp ex,.int .u64 no] H nx=_:=fun H nx e1 e2=>n1 H nx (.arr q G id off cp ex e1 e2 h3 h4)
  have hk : ∀ k,id<nx+k:=fun k=>by omega
  have hne : ¬id=nx:=by omega
  have hne2 : ∀ k,¬id=nx+k:=fun k=>by omega
  simp [ir27,ssB,ssU,ssP,appO,m1,m2,m3,mt,w1,w2,c,bb,aQ,aa,ak,aa,au,aE,aG,aD,aI,av,aA,h1,h2,hk,hne,hne2]
end Go.Proofs.YtppeggedcaabkaaGreatDoor
end

section
namespace Go.Proofs.YtppeggedcaabkaaGreatDoor
open Go Go.Sx
abbrev ann:List PV:=[.s (.int .i64 1),.s (.string ⟨#[]⟩),.s (.string ⟨#[65,110,110]⟩)]
theorem qo (fl:Bool) (H:Heap) (nx:Nat):Ω 128 [.p (.sl ann 1 3 fl)] H nx=some (.p (.sl ann 1 3 false),[],[]):=by
 refine ae (ir:=ir128) (by kernel_rfl) 0 ?_
 simp [ir128,ssB,ssU,ssP,appO]
theorem ni (H:Heap) (nx:Nat):Ω 128 [.p (.s (.slice none 0 0))] H nx=some (.p (.s (.slice none 0 0)),[],[]):=by
 refine ae (ir:=ir128) (by kernel_rfl) 0 ?_
 simp [ir128,ssB,ssU,ssP,appO]
def crd (a:Bool) (fl:Bool):PV:=if a then .sl ann 1 3 fl else .s (.slice none 0 0)
theorem eh (fl:Bool):crd true fl = .sl ann 1 3 fl:=rfl
theorem ef (fl:Bool):crd false fl = .s (.slice none 0 0):=rfl
theorem lw (a fl:Bool) (H:Heap) (nx:Nat):Ω 179 [.p (.agg [crd a fl])] H nx=some (.p (crd a false),[],[]):=by
 refine ae (ir:=ir179) (by kernel_rfl) 0 ?_
 have c1:=fun fl=>qo fl
 have c2:=ni
 cases a
 ·rw [ef,ef];simp [ir179,ssB,ssU,ssP,appO,c2]
 ·rw [eh,eh];simp [ir179,ssB,ssU,ssP,appO,c1]
theorem rQ (a fl:Bool) (H:Heap) (nx:Nat):Ω 71 [.p (.agg [crd a fl])] H nx=some (.int .i64 (if a then 1 else 0),[],[]):=by
 refine ae (ir:=ir71) (by kernel_rfl) 0 ?_
 cases a
 ·rw [ef];simp [ir71,ssB,ssU,ssP,appO]
 ·rw [eh];simp [ir71,ssB,ssU,ssP,appO]
structure Vsn where
 ev:Ev
 nm:Bool
 gone:Bool
abbrev Vsn.pv (v:Vsn) (fl:Bool):PV:=.agg [.s (.int .u64 v.ev.n),v.ev.ptr,crd v.nm fl,.s (.bool v.gone)]
abbrev Vsn.rv (v:Vsn) (fl:Bool):PV:=.agg [v.ev.rv,crd v.nm fl,.s (.bool v.gone)]
theorem rC (v:Vsn) (fl:Bool) (H:Heap) (nx:Nat):Ω 89 [.p (v.pv fl)] H nx=some (.bool (!v.gone||!v.nm),[],[]):=by
 refine ae (ir:=ir89) (by kernel_rfl) 0 ?_
 obtain ⟨ev,nm,gone⟩:=v
 have l:=fun nm fl=>rQ nm fl
 cases gone
 ·simp [ir89,ssB,ssU,ssP,appO]
 ·cases nm
  ·simp [ir89,ssB,ssU,ssP,appO,l]
  ·simp [ir89,ssB,ssU,ssP,appO,l]
end Go.Proofs.YtppeggedcaabkaaGreatDoor
end

section
namespace Go.Proofs.YtppeggedcaabkaaGreatDoor
open Go Go.Sx
def crdB (a:Bool):List UInt8:=if a then [1,1,0,3,65,110,110] else [0]
theorem rT:crdB true=vnum 1++[1]++txt []++txt [65,110,110]:=by
 have h0:=cQ (show 0<128 by decide)
 have h1:=cQ (show 1<128 by decide)
 have h3:=cQ (show 3<128 by decide)
 simp [crdB,txt,h0,h1,h3]
theorem nn:crdB false=vnum 0:=by
 have h0:=cQ (show 0<128 by decide)
 simp [crdB,h0]
theorem sx {H:Heap} {nx:Nat} {x:LV} {q:List UInt8} (b:Bs H nx x q) (hq:q.length<2^20):
  Ω 178 [x,.p (.s (.slice none 0 0))] H nx=some (.p (.sl (bytP (q++vnum 0)) (q++vnum 0).length 1 false),[],[]):=by
 refine ae (ir:=ir178) (by kernel_rfl) 2 ?_
 have n:=fun H nx (g':Bs H nx x q)=>ed g' 0 (by decide) (by omega)
 generalize q++vnum 0=Q at*
 have lo : ∀ (h:Hp) (y:LV),runCS ⟨Ω,noG,H,nx⟩ 2 ir178_0 ⟨[(0,y),(12,.p (.s (.slice none 0 0))),(13,.int .i64 0),(14,.int .i64 0)],h⟩=some (.exit 0,⟨[(0,y),(12,.p (.s (.slice none 0 0))),(13,.int .i64 0),(14,.int .i64 0),(15,.bool false)],h⟩):=fun h y=>by
  simp [ir178_0,ssB,ssU,ssP,appO]
 have lp : ∀ (h:Hp) (y:LV),iter (runCS ⟨Ω,noG,H,nx⟩ 2 ir178_0) 2 ⟨[(0,y),(12,.p (.s (.slice none 0 0))),(13,.int .i64 0),(14,.int .i64 0)],h⟩=some (.exit 0,⟨[(0,y),(12,.p (.s (.slice none 0 0))),(13,.int .i64 0),(14,.int .i64 0),(15,.bool false)],h⟩):=fun h y=>bw (lo h y) (by simp)
 have w0:IntKind.u64.wrap 0=0:=by decide
 simp only [Int.natCast_zero,Int.ofNat_zero] at n
 cases b with
 | nil=>
  have m1 : ∀ (H:Heap) (nx:Nat),Ω 26 [.p (.s (.slice none 0 0)),.int .u64 0] H nx=_:=fun H nx=>n H nx .nil
  simp [ir178,ssB,ssU,ssP,appO,m1,w0,lp,ak,aa,au,aE,aG,aD,aI,av,aA]
 | sl _ fl=>
  have m1 : ∀ (H:Heap) (nx:Nat),Ω 26 [.p (.sl (bytP q) q.length 1 fl),.int .u64 0] H nx=_:=fun H nx=>n H nx (.sl q fl)
  simp [ir178,ssB,ssU,ssP,appO,m1,w0,lp,ak,aa,au,aE,aG,aD,aI,av,aA]
 | arr _ G id off cp ex h1 h2 h3 h4=>
  have m1 : ∀ (H:Heap) (nx:Nat),H id=some (.cells (byt G))→id<nx→Ω 26 [.arr id off q.length 1 cp ex,.int .u64 0] H nx=_:=fun H nx e1 e2=>n H nx (.arr q G id off cp ex e1 e2 h3 h4)
  have hk : ∀ k,id<nx+k:=fun k=>by omega
  have hne : ¬id=nx:=by omega
  have hne2 : ∀ k,¬id=nx+k:=fun k=>by omega
  simp [ir178,ssB,ssU,ssP,appO,m1,w0,lp,ak,aa,au,aE,aG,aD,aI,av,aA,h1,h2,hk,hne,hne2]
theorem sy {H:Heap} {nx:Nat} {x:LV} {q:List UInt8} (b:Bs H nx x q) (hq:q.length<2^20):
  Ω 178 [x,.p (.sl ann 1 3 false)] H nx=some (.p (.sl (bytP (q++vnum 1++[1]++txt []++txt [65,110,110])) (q++vnum 1++[1]++txt []++txt [65,110,110]).length 1 false),[],[]):=by
 refine ae (ir:=ir178) (by kernel_rfl) 3 ?_
 have n:=fun H nx (g':Bs H nx x q)=>ed g' 1 (by decide) (by omega)
 have v1:=az 1 (by decide)
 have v0:=gK 1
 have l1:(q++vnum 1).length<2^21:=by simp;omega
 generalize q++vnum 1=Q at*
 have l2:(Q++[1]).length<2^22:=by simp;omega
 have l2':(Q++[1]).length=Q.length+1:=by simp
 have t1:=fun H nx y (g':Bs H nx y (Q++[1]))=>eJ g' [] (by omega) (by decide)
 have b2:byt (Q++[1])=byt Q++[.int .u8 1]:=by rw [aP];rfl
 have ht0:(txt []).length<20:=by have:=az 0 (by decide);simpa [txt] using (by omega:(vnum 0).length<20)
 have l3:(Q++[1]++txt []).length<2^23:=by rw [List.length_append];omega
 have t1' : ∀ (H:Heap) (nx id:Nat),H id=some (.cells (byt Q++[.int .u8 1]))→id<nx→Ω 28 [.arr id 0 (Q.length+1) 1 (Q.length+1) false,.str ⟨#[]⟩] H nx=_:=fun H nx id h1 h2=>t1 H nx _ (.whole' (l2'.symm) (by rw [b2];exact h1) h2)
 generalize Q++[1]++txt []=Q2 at*
 have t2:=fun H nx y (g':Bs H nx y Q2)=>eJ g' [65,110,110] (by omega) (by decide)
 have t2' : ∀ (H:Heap) (nx id:Nat),H id=some (.cells (byt Q2))→id<nx→Ω 28 [.arr id 0 Q2.length 1 Q2.length false,.str ⟨#[65,110,110]⟩] H nx=_:=fun H nx id h1 h2=>t2 H nx _ (.whole h1 h2)
 generalize Q2++txt [65,110,110]=Q3 at*
 have q41 : ¬1099511627776<Q.length+1:=by omega
 have w1:IntKind.u64.wrap 1=1:=by decide
 have w2:IntKind.i64.wrap 1=1:=by decide
 have w3:IntKind.u8.wrap 1=1:=by decide
 have e:=Eq.refl (runCS ⟨Ω,noG,H,nx⟩ 3 ir178_0 ⟨[(0,.arr nx 0 Q.length 1 Q.length false),(12,.p (.sl ann 1 3 false)),(13,.int .i64 1),(14,.int .i64 0)],⟨[],[some (.cells (byt Q))]⟩⟩)
 conv at e=>rhs;simp [ir178_0,ssB,ssU,ssP,appO,t1',t2',w2,w3,q41,ak,aa,au,aE,aG,aD,aI,av,aA]
 have lo : ∀ (h:Hp) (y:LV),runCS ⟨Ω,noG,H,nx⟩ 3 ir178_0 ⟨[(0,y),(12,.p (.sl ann 1 3 false)),(13,.int .i64 1),(14,.int .i64 1)],h⟩=some (.exit 0,⟨[(0,y),(12,.p (.sl ann 1 3 false)),(13,.int .i64 1),(14,.int .i64 1),(15,.bool false)],h⟩):=fun h y=>by
  simp [ir178_0,ssB,ssU,ssP,appO]
 have lp:=(bI (n:=2) e).trans (bw (n:=1) (lo _ _) (by simp))
 cases b with
 | nil=>
  have m1 : ∀ (H:Heap) (nx:Nat),Ω 26 [.p (.s (.slice none 0 0)),.int .u64 1] H nx=_:=fun H nx=>n H nx .nil
  simp [ir178,ssB,ssU,ssP,appO,m1,w1,lp,ak,aa,au,aE,aG,aD,aI,av,aA]
 | sl _ fl=>
  have m1 : ∀ (H:Heap) (nx:Nat),Ω 26 [.p (.sl (bytP q) q.length 1 fl),.int .u64 1] H nx=_:=fun H nx=>n H nx (.sl q fl)
  simp [ir178,ssB,ssU,ssP,appO,m1,w1,lp,ak,aa,au,aE,aG,aD,aI,av,aA]
 | arr _ G id off cp ex h1 h2 h3 h4=>
  have m1 : ∀ (H:Heap) (nx:Nat),H id=some (.cells (byt G))→id<nx→Ω 26 [.arr id off q.length 1 cp ex,.int .u64 1] H nx=_:=fun H nx e1 e2=>n H nx (.arr q G id off cp ex e1 e2 h3 h4)
  have hk : ∀ k,id<nx+k:=fun k=>by omega
  have hne : ¬id=nx:=by omega
  have hne2 : ∀ k,¬id=nx+k:=fun k=>by omega
  simp [ir178,ssB,ssU,ssP,appO,m1,w1,lp,ak,aa,au,aE,aG,aD,aI,av,aA,h1,h2,hk,hne,hne2]
theorem tz {H:Heap} {nx:Nat} {x:LV} {q:List UInt8} (b:Bs H nx x q) (a fl:Bool) (hq:q.length<2^20):
  Ω 140 [x,.p (.agg [crd a fl])] H nx=some (.p (.sl (bytP (q++crdB a)) (q++crdB a).length 1 false),[],[]):=by
 refine ae (ir:=ir140) (by kernel_rfl) 1 ?_
 have c:=lw a fl
 have f : ∀ H nx x,Bs H nx x q→Ω 178 [x,.p (crd a false)] H nx=some (.p (.sl (bytP (q++crdB a)) (q++crdB a).length 1 false),[],[]):=by
  intro H nx x b
  cases a
  ·rw [nn];exact sx b hq
  ·rw [rT]
   have:=sy b hq
   rw [eh]
   simpa only [List.append_assoc] using this
 generalize q++crdB a=Q at*
 cases a<;>simp only [eh,ef] at c f ⊢
 all_goals
  cases b with
  | nil=>
   have m1:=fun H nx=>f H nx _ .nil
   simp [ir140,ssB,ssU,ssP,appO,m1,c,ak,aa,au,aE,aG,aD,aI,av,aA]
  | sl _ fl'=>
   have m1:=fun H nx=>f H nx _ (.sl q fl')
   simp [ir140,ssB,ssU,ssP,appO,m1,c,ak,aa,au,aE,aG,aD,aI,av,aA]
  | arr _ G id off cp ex h1 h2 h3 h4=>
   have m1:=fun H nx e1 e2=>f H nx _ (.arr q G id off cp ex e1 e2 h3 h4)
   have hk : ∀ k,id<nx+k:=fun k=>by omega
   have hne : ¬id=nx:=by omega
   have hne2 : ∀ k,¬id=nx+k:=fun k=>by omega
   simp [ir140,ssB,ssU,ssP,appO,m1,c,ak,aa,au,aE,aG,aD,aI,av,aA,h1,h2,hk,hne,hne2]
end Go.Proofs.YtppeggedcaabkaaGreatDoor
end

section
namespace Go.Proofs.YtppeggedcaabkaaGreatDoor
open Go Go.Sx
def Vsn.bytes (v:Vsn):List UInt8:=txt (pack (evBits v.ev))++(if v.gone then [1] else 0::crdB v.nm)
theorem k9 (s:List UInt8) (h:s.length<2^19):(txt s).length<2^19+20:=by
 have:=az s.length (by omega)
 rw [txt,List.length_append];omega
theorem rB (v:Vsn) (fl:Bool) (hm:v.ev.max<2^64) (hb:(evBits v.ev).length<2^18) (H:Heap) (nx:Nat):
  Ω 76 [.p (v.pv fl)] H nx=some (.p (.sl (bytP v.bytes) v.bytes.length 1 false),[],[]):=by
 refine ae (ir:=ir76) (by kernel_rfl) 0 ?_
 obtain ⟨ev,nm,gone⟩:=v
 unfold Vsn.bytes
 simp only at hm hb ⊢
 have hp:=bM (evBits ev)
 have c:=cf ev hm (by omega)
 have bb:=bm (pack (evBits ev))
 have t1:=fun H nx=>eJ (.nil:Bs H nx (.p (.s (.slice none 0 0))) []) (pack (evBits ev)) (by decide) (by omega)
 have tl:=k9 (pack (evBits ev)) (by omega)
 simp only [List.nil_append] at t1
 generalize txt (pack (evBits ev))=T at*
 generalize pack (evBits ev)=B at*
 have q41 : ¬1099511627776<T.length+1:=by omega
 have b1:byt (T++[1])=byt T++[.int .u8 1]:=by rw [aP];rfl
 cases gone with
 | true=>
  have tk1:List.take (T.length+1) (byt T++[.int .u8 1])=byt T++[.int .u8 1]:=List.take_of_length_le (by simp [ak])
  have ap1:allP (byt T++[.int .u8 1])=some (bytP (T++[1])):=by rw [←b1,av]
  simp [ir76,ssB,ssU,ssP,appO,c,bb,t1,aQ,aa,ak,aE,aG,au,av,q41,tk1,ap1]
 | false=>
  have b0:byt (T++[0])=byt T++[.int .u8 0]:=by rw [aP];rfl
  have l0:T.length+1=(T++[(0:UInt8)]).length:=by simp
  have pc:=fun H nx y (g:Bs H nx y (T++[0]))=>tz g nm fl (by simp;omega)
  have hE:T++0::crdB nm=T++[0]++crdB nm:=by simp
  simp only [Bool.false_eq_true,if_false]
  rw [hE]
  generalize T++[0]++crdB nm=Q at*
  have pc' : ∀ (H:Heap) (nx id:Nat),H id=some (.cells (byt T++[.int .u8 0]))→id<nx→Ω 140 [.arr id 0 (T.length+1) 1 (T.length+1) false,.p (.agg [crd nm fl])] H nx=_:=fun H nx id h1 h2=>pc H nx _ (.whole' l0 (by rw [b0];exact h1) h2)
  simp [ir76,ssB,ssU,ssP,appO,c,bb,t1,aQ,aa,ak,aa,au,aE,aG,aD,aI,av,aA,q41,pc']
end Go.Proofs.YtppeggedcaabkaaGreatDoor
end

section
namespace Go.Proofs.YtppeggedcaabkaaGreatDoor
open Go Go.Sx
theorem rS (a:Bool):(crdB a).length≤7:=by cases a<;>decide
end Go.Proofs.YtppeggedcaabkaaGreatDoor
end

section
namespace Go.Proofs.YtppeggedcaabkaaGreatDoor
open Go Go.Sx
def hasK (k:Int):Int:=if k=1∨k=2 then 9 else if k=3 then 31 else if k=4 then 3 else if k=5 then 0 else if k=6 then 44 else if k=7 then 64 else -1
theorem gk (k:Int) (H:Heap) (nx:Nat):Ω 25 [.int .i64 k] H nx=some (.int .i64 (hasK k),[],[]):=by
 refine ae (ir:=ir25) (by kernel_rfl) 0 ?_
 unfold hasK
 by_cases h1:k=1
 ·subst h1;simp [ir25,ssB,ssU,ssP,appO]
 by_cases h2:k=2
 ·subst h2;simp [ir25,ssB,ssU,ssP,appO]
 by_cases h3:k=3
 ·subst h3;simp [ir25,ssB,ssU,ssP,appO]
 by_cases h4:k=4
 ·subst h4;simp [ir25,ssB,ssU,ssP,appO]
 by_cases h5:k=5
 ·subst h5;simp [ir25,ssB,ssU,ssP,appO]
 by_cases h6:k=6
 ·subst h6;simp [ir25,ssB,ssU,ssP,appO]
 by_cases h7:k=7
 ·subst h7;simp [ir25,ssB,ssU,ssP,appO]
 simp [ir25,ssB,ssU,ssP,appO,h1,h2,h3,h4,h5,h6,h7]
theorem qY (n:Int) (H:Heap) (nx:Nat):Ω 39 [.int .i64 n] H nx=some (.bool (nodeB n),[],[]):=by
 refine ae (ir:=ir39) (by kernel_rfl) 0 ?_
 unfold nodeB
 by_cases h1:0≤n
 ·by_cases h2:n<12
  ·have h3 : ¬(12:Int)≤n:=by omega
   simp [ir39,ssB,ssU,ssP,appO,h1,h2,h3]
  ·have h3:(12:Int)≤n:=by omega
   simp [ir39,ssB,ssU,ssP,appO,h1,h2,h3]
 ·simp [ir39,ssB,ssU,ssP,appO,h1]
end Go.Proofs.YtppeggedcaabkaaGreatDoor
end

section
namespace Go.Proofs.YtppeggedcaabkaaGreatDoor
open Go Go.Sx
def Id.norm:Id→Prop
 | .node l r=>l.norm∧r.norm∧¬(l = .zero∧r = .zero)∧¬(l = .one∧r = .one)
 | _=>True
theorem Id.pair_norm {l r:Id} (hl:l.norm) (hr:r.norm):(Id.pair l r).norm:=by
 unfold Id.pair
 split
 ·trivial
 ·split
  ·trivial
  ·rename_i h1 h2
   exact ⟨hl,hr,h1,h2⟩
theorem Id.pair_id {l r:Id} (h:(Id.node l r).norm):Id.pair l r = .node l r:=by
 obtain ⟨_,_,h1,h2⟩:=h
 unfold Id.pair
 rw [if_neg h1,if_neg h2]
theorem Id.pair_depth (l r:Id):(Id.pair l r).depth≤1+Max.max l.depth r.depth:=by
 unfold Id.pair
 split
 ·exact Nat.zero_le _
 ·split
  ·exact Nat.zero_le _
  ·exact Nat.le_refl _
theorem fb : ∀ (m:Nat) (x:Option (List UInt8)),(mkId m x).1.norm∧(mkId m x).1.depth≤m
 | _,none=>by unfold mkId;exact ⟨trivial,Nat.zero_le _⟩
 | _,some []=>by unfold mkId;exact ⟨trivial,Nat.zero_le _⟩
 | 0,some (b::p)=>by
  unfold mkId
  split<;>exact ⟨trivial,Nat.zero_le _⟩
 | m+1,some (b::p)=>by
  unfold mkId
  split
  ·split<;>exact ⟨trivial,Nat.zero_le _⟩
  ·obtain ⟨a1,a2⟩:=fb m (some p)
   obtain ⟨b1,b2⟩:=fb m (mkId m (some p)).2
   exact ⟨Id.pair_norm a1 b1,Nat.le_trans (Id.pair_depth _ _) (by omega)⟩
theorem n9 : ∀ (i:Id),i.norm→i.depth≤16→∀ (H:Heap) (nx:Nat),Ω 22 [.p i.rv] H nx=some (.p i.pv,[],[])
 | .zero,_,_,H,nx=>by
  refine ae (ir:=ir22) (by kernel_rfl) 0 ?_
  have z:=cC
  simp [ir22,Id.rv_z,ssB,ssU,ssP,appO,z,Id.all_z,Id.ptr_z]
 | .one,_,_,H,nx=>by
  refine ae (ir:=ir22) (by kernel_rfl) 0 ?_
  have z:=jk
  simp [ir22,Id.rv_o,ssB,ssU,ssP,appO,z,Id.all_o,Id.ptr_o]
 | .node l r,hn,hd,H,nx=>by
  refine ae (ir:=ir22) (by kernel_rfl) 0 ?_
  have hd':(Id.node l r).depth=1+Max.max l.depth r.depth:=rfl
  have e1:=n9 l hn.1 (by omega)
  have e2:=n9 r hn.2.1 (by omega)
  have e3:=vH l r (by rw [Id.pair_id hn];omega)
  rw [Id.pair_id hn,if_pos hd] at e3
  obtain ⟨a1,b1,h1⟩:=Id.rv_imm l
  obtain ⟨a2,b2,h2⟩:=Id.rv_imm r
  rw [h1] at e1
  rw [h2] at e2
  rw [Id.rv_n]
  generalize Id.node l r=i at*
  generalize (l.kind:Int)=k1 at*
  generalize (r.kind:Int)=k2 at*
  simp [ir22,ssB,ssU,ssP,appO,h1,h2,e1,e2,e3]
theorem tT : ∀ (e:Ev),e.norm→e.depth≤16→e.max≤2^20→∀ (H:Heap) (nx:Nat),Ω 20 [.p e.rv] H nx=some (.p e.pv,[],[])
 | .leaf n,_,_,hm,H,nx=>by
  refine ae (ir:=ir20) (by kernel_rfl) 0 ?_
  have z:=ko n hm
  rw [Ev.rv_l]
  generalize Ev.leaf n=e at*
  simp [ir20,ssB,ssU,ssP,appO,z]
 | .node n l r,hn,hd,hm,H,nx=>by
  refine ae (ir:=ir20) (by kernel_rfl) 0 ?_
  have hd':(Ev.node n l r).depth=1+Max.max l.depth r.depth:=rfl
  have d1:=Ev.max_l n l r
  have d2:=Ev.max_r n l r
  have m1:=Ev.n_max l
  have m2:=Ev.n_max r
  have e1:=tT l hn.1 (by omega) (by omega)
  have e2:=tT r hn.2.1 (by omega) (by omega)
  have hid:=Ev.mk_id hn
  have her:(Ev.node n l r).err=0:=by
   unfold Ev.err
   rw [if_neg (by omega),if_neg (by omega)]
  have e3:=oH n l r (by have:=Ev.n_max (.node n l r);simp only [Ev.n] at this;omega) (by rw [hid];exact her) (by omega) (by omega) (by rw [hid];omega) (by rw [hid];omega)
  rw [hid] at e3
  obtain ⟨c1,h1⟩:=Ev.rv_imm l
  obtain ⟨c2,h2⟩:=Ev.rv_imm r
  rw [h1] at e1
  rw [h2] at e2
  rw [Ev.rv_n]
  generalize Ev.node n l r=e at*
  simp [ir20,ssB,ssU,ssP,appO,h1,h2,e1,e2,e3]
end Go.Proofs.YtppeggedcaabkaaGreatDoor
end

section
namespace Go.Proofs.YtppeggedcaabkaaGreatDoor
open Go Go.Sx
structure Ent where
 id:Nat
 v:Vsn
abbrev Ent.row (fl:Bool) (x:Ent):List PV:=[.s (.int .u32 x.id),.s (.int .u64 x.v.ev.n),x.v.ev.ptr,crd x.v.nm fl,.s (.bool x.v.gone)]
abbrev Ent.rrow (fl:Bool) (x:Ent):List PV:=[.s (.int .u32 x.id),x.v.ev.rv,crd x.v.nm fl,.s (.bool x.v.gone)]
def rows (f:Ent→List PV):List Ent→List PV
 | []=>[]
 | x::l=>f x++rows f l
theorem bZ (f:Ent→List PV) (k:Nat) (hf : ∀ x,(f x).length=k) : ∀ l,(rows f l).length=l.length*k
 | []=>by simp [rows]
 | x::l=>by rw [rows,List.length_append,hf,bZ f k hf l,List.length_cons,Nat.succ_mul,Nat.add_comm]
theorem kR (f:Ent→List PV) (k:Nat) (hf : ∀ x,(f x).length=k) : ∀ (l:List Ent) (j:Nat) (x:Ent),l[j]?=some x→List.take k (List.drop (j*k) (rows f l))=f x
 | [],j,x,h=>by simp at h
 | y::l,0,x,h=>by
  simp only [List.getElem?_cons_zero,Option.some.injEq] at h
  subst h
  rw [Nat.zero_mul,List.drop_zero,rows,←hf y,List.take_left']
  rfl
 | y::l,j+1,x,h=>by
  rw [List.getElem?_cons_succ] at h
  rw [rows,show (j+1)*k=(f y).length+j*k by rw [hf,Nat.succ_mul,Nat.add_comm],←List.drop_drop,List.drop_left']
  ·exact kR f k hf l j x h
  ·rfl
def Ent.bytes (x:Ent):List UInt8:=vnum x.id++txt x.v.bytes
def entB:List Ent→List UInt8
 | []=>[]
 | x::l=>x.bytes++entB l
theorem vf {H:Heap} {nx:Nat} {h:Hp} (N:Nat) (L:List Ent) (fl ff:Bool) (j:Nat) (x:Ent) (hj:L[j]?=some x) (Q:List UInt8) (i:Nat) (hi:Go.Sx.look H nx h i=some (.cells (byt Q))) (hlt:i<nx+h.new.length) (hL:L.length<2^31)
  (hid:x.id<2^32) (hm:x.v.ev.max<2^64) (hb:(evBits x.v.ev).length<2^18) (hq:Q.length<2^28):
  ∃ o1 o2,runCS ⟨Ω,noG,H,nx⟩ N ir30_0 ⟨[(0,.arr i 0 Q.length 1 Q.length false),(12,.p (.sl (rows (Ent.row fl) L) L.length 5 ff)),(13,.int .i64 L.length),(14,.int .i64 j)],h⟩=
   some (.normal,⟨[(0,.arr (nx+(h.new.length+2)) 0 (Q++x.bytes).length 1 (Q++x.bytes).length false),(12,.p (.sl (rows (Ent.row fl) L) L.length 5 ff)),(13,.int .i64 L.length),(14,.int .i64 (j+1:Nat))],push (push (push h o1) o2) (.cells (byt (Q++x.bytes)))⟩):=by
 obtain ⟨hjl,_⟩:=List.getElem?_eq_some_iff.1 hj
 have hr:=kR (Ent.row fl) 5 (fun _=>rfl) L j x hj
 have hrl:=bZ (Ent.row fl) 5 (fun _=>rfl) L
 have g1 : ¬(L.length:Int)≤j:=by omega
 have w1:IntKind.i64.wrap ((j:Int)+1)=(j:Int)+1:=am _ (by omega) (by omega)
 have w2:IntKind.u64.wrap (x.id:Int)=x.id:=aM _ (by omega) (by omega)
 have v1:=az x.id (by omega)
 have hle:j*5+5≤(rows (Ent.row fl) L).length:=by rw [hrl];omega
 have n1 : ∀ (H:Heap) (nx:Nat),H i=some (.cells (byt Q))→i<nx→Ω 26 [.arr i 0 Q.length 1 Q.length false,.int .u64 x.id] H nx=_:=fun H nx e1 e2=>ed (.whole e1 e2) x.id (by omega) (by omega)
 have vb:=rB x.v fl hm hb
 have hp:=bM (evBits x.v.ev)
 have tl:=k9 (pack (evBits x.v.ev)) (by omega)
 have hvl:x.v.bytes.length<2^19+40:=by
  unfold Vsn.bytes
  rw [List.length_append]
  have:=rS x.v.nm
  split<;>simp<;>omega
 have t1 : ∀ (H:Heap) (nx id:Nat),H id=some (.cells (byt (Q++vnum x.id)))→id<nx→Ω 28 [.arr id 0 (Q++vnum x.id).length 1 (Q++vnum x.id).length false,bstr x.v.bytes] H nx=_:=fun H nx id e1 e2=>eJ (.whole e1 e2) x.v.bytes (by simp;omega) (by omega)
 have hE:Q++x.bytes=Q++vnum x.id++txt x.v.bytes:=by simp [Ent.bytes]
 have bb:=bm x.v.bytes
 rw [hE]
 generalize Q++vnum x.id++txt x.v.bytes=Q2 at*
 generalize Q++vnum x.id=Q1 at*
 generalize x.v.bytes=B at*
 generalize rows (Ent.row fl) L=R at*
 have tk:List.take 5 (List.drop (j*5) (List.map LV.p R))=pc (Ent.row fl x):=by rw [←List.map_drop,←List.map_take,hr];rfl
 have ne0 : ¬i=nx+h.new.length:=by omega
 have ne1 : ∀ k,¬i=nx+(h.new.length+k):=fun k=>by omega
 have lt1 : ∀ k,i<nx+(h.new.length+k):=fun k=>by omega
 have so:=fun o o'=>eF nx h o o'
 have hq' : ∀ o:Go.Sx.Obj,(⟨h.upd,h.new++[some o]⟩:Hp)=push h o:=fun o=>rfl
 have e:=Eq.refl (runCS ⟨Ω,noG,H,nx⟩ N ir30_0 ⟨[(0,.arr i 0 Q.length 1 Q.length false),(12,.p (.sl R L.length 5 ff)),(13,.int .i64 L.length),(14,.int .i64 j)],h⟩)
 conv at e=>rhs;simp [ir30_0,ssB,ssU,ay,ax,af,Go.Sx.splice,Go.Sx.leI_eq,ltF,g1,w1,w2,hjl,tk,aN,bf,hle,so,hq',aF,aR,ne0,ne1,lt1,hi,aE,n1,vb,t1,bb,aQ,aa,ak,bB]
 refine ⟨.cells (pc (Ent.row fl x)),.cells (byt Q1),e.trans ?_⟩
 rfl
theorem tv {H:Heap} {nx:Nat} {h:Hp} (N n:Nat) (y X:LV):runCS ⟨Ω,noG,H,nx⟩ N ir30_0 ⟨[(0,y),(12,X),(13,.int .i64 n),(14,.int .i64 n)],h⟩=some (.exit 0,⟨[(0,y),(12,X),(13,.int .i64 n),(14,.int .i64 n),(15,.bool false)],h⟩):=by
 simp [ir30_0,ssB,ssU,ssP,appO]
def Ent.fit (x:Ent):Prop:=x.id<2^32∧x.v.ev.max<2^64∧(evBits x.v.ev).length<2^18
theorem ve {H:Heap} {nx:Nat} (N:Nat) (L:List Ent) (fl ff:Bool) (hL:L.length<2^31) (hf : ∀ x∈L,x.fit) : ∀ (d j m:Nat) (Q:List UInt8) (i:Nat) (h:Hp),j+d=L.length→d<m→Go.Sx.look H nx h i=some (.cells (byt Q))→i<nx+h.new.length→nx≤i→h.upd=[]→Q.length+(entB (L.drop j)).length<2^28 →
  ∃ h' i',iter (runCS ⟨Ω,noG,H,nx⟩ N ir30_0) m ⟨[(0,.arr i 0 Q.length 1 Q.length false),(12,.p (.sl (rows (Ent.row fl) L) L.length 5 ff)),(13,.int .i64 L.length),(14,.int .i64 j)],h⟩=
   some (.exit 0,⟨[(0,.arr i' 0 (Q++entB (L.drop j)).length 1 (Q++entB (L.drop j)).length false),(12,.p (.sl (rows (Ent.row fl) L) L.length 5 ff)),(13,.int .i64 L.length),(14,.int .i64 L.length),(15,.bool false)],h'⟩) ∧
   Go.Sx.look H nx h' i'=some (.cells (byt (Q++entB (L.drop j))))∧nx≤i'∧h'.upd=[]:=by
 intro d
 induction d with
 | zero=>
  intro j m Q i h hj hm hi hlt hge hu hq
  obtain ⟨m,rfl⟩ : ∃ r,m=r+1:=⟨m-1,by omega⟩
  obtain rfl:j=L.length:=by omega
  rw [List.drop_length,entB,List.append_nil]
  exact ⟨h,i,bw (tv N _ _ _) (by simp),hi,hge,hu⟩
 | succ d ih=>
  intro j m Q i h hj hm hi hlt hge hu hq
  obtain ⟨m,rfl⟩ : ∃ r,m=r+1:=⟨m-1,by omega⟩
  have hjl:j<L.length:=by omega
  have hd:L.drop j=L[j]::L.drop (j+1):=List.drop_eq_getElem_cons hjl
  obtain ⟨f1,f2,f3⟩:=hf L[j] (List.getElem_mem hjl)
  have hE:Q++entB (L.drop j)=(Q++L[j].bytes)++entB (L.drop (j+1)):=by rw [hd,entB,List.append_assoc]
  have hEl:=congrArg List.length hE
  rw [List.length_append,List.length_append] at hEl
  obtain ⟨o1,o2,e1⟩:=vf N L fl ff j L[j] (List.getElem?_eq_getElem hjl) Q i hi hlt hL f1 f2 f3 (by omega)
  rw [bI e1,hE]
  refine ih (j+1) m (Q++L[j].bytes) (nx+(h.new.length+2)) _ (by omega) (by omega) ?_ ?_ (by omega) hu (by omega)
  ·rw [aF,if_pos (by rw [aR,aR])]
  ·rw [aR,aR,aR];omega
def entP (f:Ent→List PV) (k:Nat) (L:List Ent):PV:=if L=[] then .s (.slice none 0 0) else .sl (rows f L) L.length k false
theorem uw {H:Heap} {nx i:Nat} {h:Hp} {q:List UInt8} (hu:h.upd=[]) (hi:nx≤i) (hl:Go.Sx.look H nx h i=some (.cells (byt q))):
  finish false H nx (.arr i 0 q.length 1 q.length false) h=some (.p (.sl (bytP q) q.length 1 false),[],[]):=by
 have hjn : ¬i<nx:=by omega
 have hnew:h.new[i-nx]?=some (some (.cells (byt q))):=by
  rw [Go.Sx.look,if_neg hjn] at hl
  cases hq:h.new[i-nx]? with
  | none=>rw [hq] at hl;cases hl
  | some o=>rw [hq] at hl;exact congrArg some hl
 simp [finish,frz,frzL,hjn,hnew,ak,au,av,hu,updIds,reach,ren,renU,renN,Go.Sx.ids]
theorem iq {H:Heap} {nx:Nat} {x:LV} {q:List UInt8} (b:Bs H nx x q) (L:List Ent) (fl:Bool) (hL:L.length<100) (hf : ∀ x∈L,x.fit) (hq:q.length+(entB L).length<2^27):
  Ω 30 [x,.p (entP (Ent.row fl) 5 L)] H nx=some (.p (.sl (bytP (q++vnum L.length++entB L)) (q++vnum L.length++entB L).length 1 false),[],[]):=by
 refine ae (ir:=ir30) (by kernel_rfl) (L.length+1) ?_
 have v1:=az L.length (by omega)
 have w1:IntKind.u64.wrap (L.length:Int)=L.length:=aM _ (by omega) (by omega)
 have n:=fun H nx (g':Bs H nx x q)=>ed g' L.length (by omega) (by omega)
 have l1:(q++vnum L.length).length≤q.length+10:=by simp;omega
 generalize q++vnum L.length=Q at*
 have lk:Go.Sx.look H nx ⟨[],[some (.cells (byt Q))]⟩ nx=some (.cells (byt Q)):=by simp [Go.Sx.look,ltF]
 have lp : ∃ h' i',iter (runCS ⟨Ω,noG,H,nx⟩ (L.length+1) ir30_0) (L.length+1) ⟨[(0,.arr nx 0 Q.length 1 Q.length false),(12,.p (entP (Ent.row fl) 5 L)),(13,.int .i64 L.length),(14,.int .i64 0)],⟨[],[some (.cells (byt Q))]⟩⟩=
   some (.exit 0,⟨[(0,.arr i' 0 (Q++entB L).length 1 (Q++entB L).length false),(12,.p (entP (Ent.row fl) 5 L)),(13,.int .i64 L.length),(14,.int .i64 L.length),(15,.bool false)],h'⟩) ∧
   Go.Sx.look H nx h' i'=some (.cells (byt (Q++entB L)))∧nx≤i'∧h'.upd=[]:=by
  by_cases h0:L=[]
  ·subst h0
   have hE:Q++entB []=Q:=by simp [entB]
   rw [hE]
   exact ⟨_,nx,bw (n:=0) (tv 1 0 _ _) (by simp),lk,Nat.le_refl _,rfl⟩
  ·rw [entP,if_neg h0]
   exact ve (L.length+1) L fl false (by omega) hf L.length 0 (L.length+1) Q nx _ (by omega) (by omega) lk (by simp) (Nat.le_refl _) rfl (by rw [List.drop_zero];omega)
 obtain ⟨h',i',e1,e2,e3,e4⟩:=lp
 have f:=uw e4 e3 e2
 generalize Q++entB L=Q2 at*
 have len : ∀ z,entP (Ent.row fl) 5 L=z→(z = .s (.slice none 0 0)∧L.length=0)∨∃ R,z = .sl R L.length 5 false:=by
  intro z hz
  unfold entP at hz
  split at hz
  ·rename_i h;exact .inl ⟨hz.symm,by rw [h];rfl⟩
  ·exact .inr ⟨_,hz.symm⟩
 have lz:=len _ rfl
 clear len
 generalize entP (Ent.row fl) 5 L=z at*
 rcases lz with ⟨rfl,h0⟩|⟨R,rfl⟩
 ·rw [h0] at e1 n w1 ⊢
  simp only [Int.natCast_zero,Int.ofNat_zero] at e1 n w1
  cases b with
  | nil=>
   have m1:=fun H nx=>n H nx .nil
   simp [ir30,ssB,ssU,ay,ax,af,Go.Sx.splice,Go.Sx.leI_eq,ltF,bB,m1,w1,e1,f,push]
  | sl _ fl'=>
   have m1:=fun H nx=>n H nx (.sl q fl')
   simp [ir30,ssB,ssU,ay,ax,af,Go.Sx.splice,Go.Sx.leI_eq,ltF,bB,m1,w1,e1,f,push]
  | arr _ G id off cp ex h1 h2 h3 h4=>
   have m1:=fun H nx e1 e2=>n H nx (.arr q G id off cp ex e1 e2 h3 h4)
   have m2:=m1 (Go.Sx.look H nx ⟨[],[]⟩) nx (by simp [Go.Sx.look,findU,h2,h1]) h2
   simp [ir30,ssB,ssU,ay,ax,af,Go.Sx.splice,Go.Sx.leI_eq,ltF,bB,m2,w1,e1,f,push]
 ·cases b with
  | nil=>
   have m1:=fun H nx=>n H nx .nil
   simp [ir30,ssB,ssU,ay,ax,af,Go.Sx.splice,Go.Sx.leI_eq,ltF,bB,m1,w1,e1,f,push]
  | sl _ fl'=>
   have m1:=fun H nx=>n H nx (.sl q fl')
   simp [ir30,ssB,ssU,ay,ax,af,Go.Sx.splice,Go.Sx.leI_eq,ltF,bB,m1,w1,e1,f,push]
  | arr _ G id off cp ex h1 h2 h3 h4=>
   have m1:=fun H nx e1 e2=>n H nx (.arr q G id off cp ex e1 e2 h3 h4)
   have m2:=m1 (Go.Sx.look H nx ⟨[],[]⟩) nx (by simp [Go.Sx.look,findU,h2,h1]) h2
   simp [ir30,ssB,ssU,ay,ax,af,Go.Sx.splice,Go.Sx.leI_eq,ltF,bB,m2,w1,e1,f,push]
end Go.Proofs.YtppeggedcaabkaaGreatDoor
end

section
namespace Go.Proofs.YtppeggedcaabkaaGreatDoor
open Go Go.Sx
end Go.Proofs.YtppeggedcaabkaaGreatDoor
end

section
namespace Go.Proofs.YtppeggedcaabkaaGreatDoor
open Go Go.Sx
structure Nte where
 kind:Int
 fr:Int
 to:Int
 ses:Nat
 seq:Int
 last:Bool
 ev:Ev
 ents:List Ent
 gift:Gft
 no:Nat
abbrev Nte.cells (fl:Bool) (x:Nte):List PV:=[.s (.int .i64 x.kind),.s (.int .i64 x.fr),.s (.int .i64 x.to),.s (.int .u64 x.ses),.s (.int .i64 x.seq),.s (.bool x.last),.s (.int .u64 x.ev.n),x.ev.ptr,entP (Ent.row fl) 5 x.ents,
 .s (.int .u64 x.gift.no),.s (.int .i64 x.gift.fr),.s (.int .i64 x.gift.to),.s (.bool x.gift.sh.all),x.gift.sh.ptr,.s (.int .u64 x.no)]
abbrev Nte.pv (fl:Bool) (x:Nte):PV:=.agg (x.cells fl)
def toldB (n:Nte) (x:Ent):Bool:=(!x.v.gone||!x.v.nm)&&Ev.leqb x.v.ev n.ev
theorem xf (x:Ent) (n:Nte) (fl fl2:Bool) (hx:x.v.ev.max<2^63) (hn:n.ev.max<2^63) (id:Nat) (H:Heap) (nx:Nat) (hl:H id=some (.cells (pc (n.cells fl2)))) (hid:id<nx):
  Ω 88 [.p (.agg (x.row fl)),.ref id 0] H nx=some (.bool (!toldB n x),[],[]):=by
 refine ae (ir:=ir88) (by kernel_rfl) 0 ?_
 have r:=rC x.v fl
 have l:=nu x.v.ev n.ev hx hn
 have ne : ¬id=nx:=by omega
 have hk : ∀ k,id<nx+k:=fun k=>by omega
 unfold toldB
 rw [Nte.cells] at hl
 simp only [aN,bf] at hl
 generalize (!x.v.gone||!x.v.nm)=a at*
 generalize Ev.leqb x.v.ev n.ev=b at*
 cases a
 ·simp [ir88,ssB,ssU,ssP,appO,hl,hid,ne,hk,r,l]
 ·cases b<;>simp [ir88,ssB,ssU,ssP,appO,hl,hid,ne,hk,r,l]
section
variable {H:Heap} {nx:Nat} {h:Hp}
abbrev tfn (id:Nat):LV:=.fn 88 [] [.ref id 0]
theorem uP (N:Nat) (L:List Ent) (fl ff fl2:Bool) (n:Nte) (j:Nat) (x:Ent) (hj:L[j]?=some x) (hL:L.length<2^31) (hx:x.v.ev.max<2^63) (hn:n.ev.max<2^63) (id:Nat) (hl:Go.Sx.look H nx h id=some (.cells (pc (n.cells fl2)))) (hid:id<nx+h.new.length):
  runCS ⟨Ω,noG,H,nx⟩ N ir144_0 ⟨[(0,.p (.sl (rows (Ent.row fl) L) L.length 5 ff)),(1,tfn id),(7,.int .i64 L.length),(8,.int .i64 j)],h⟩=
   if toldB n x then some (.normal,⟨[(0,.p (.sl (rows (Ent.row fl) L) L.length 5 ff)),(1,tfn id),(7,.int .i64 L.length),(8,.int .i64 (j+1:Nat))],h⟩) else some (.ret,⟨[(4,.int .i64 j)],h⟩):=by
 obtain ⟨hjl,_⟩:=List.getElem?_eq_some_iff.1 hj
 have hr:=kR (Ent.row fl) 5 (fun _=>rfl) L j x hj
 have hrl:=bZ (Ent.row fl) 5 (fun _=>rfl) L
 have g1 : ¬(L.length:Int)≤j:=by omega
 have w1:IntKind.i64.wrap ((j:Int)+1)=(j:Int)+1:=am _ (by omega) (by omega)
 have hle:j*5+5≤(rows (Ent.row fl) L).length:=by rw [hrl];omega
 have t:=xf x n fl fl2 hx hn id (Go.Sx.look H nx h) (nx+h.new.length) hl hid
 generalize toldB n x=b at*
 generalize rows (Ent.row fl) L=R at*
 have tk:List.take 5 (List.drop (j*5) (List.map LV.p R))=pc (Ent.row fl x):=by rw [←List.map_drop,←List.map_take,hr];rfl
 cases b<;>simp [ir144_0,ssB,ssU,ay,ax,af,Go.Sx.splice,Go.Sx.leI_eq,ltF,g1,w1,hjl,tk,aN,bf,hle,t]
theorem sQ (N n:Nat) (y f:LV):runCS ⟨Ω,noG,H,nx⟩ N ir144_0 ⟨[(0,y),(1,f),(7,.int .i64 n),(8,.int .i64 n)],h⟩=some (.exit 0,⟨[(0,y),(1,f),(7,.int .i64 n),(8,.int .i64 n),(9,.bool false)],h⟩):=by
 simp [ir144_0,ssB,ssU,ay,ax,af,Go.Sx.splice,Go.Sx.leI_eq,ltF]
theorem uO (N:Nat) (L:List Ent) (fl ff fl2:Bool) (n:Nte) (hL:L.length<2^31) (hx : ∀ x∈L,x.v.ev.max<2^63) (hn:n.ev.max<2^63) (id:Nat) (hl:Go.Sx.look H nx h id=some (.cells (pc (n.cells fl2)))) (hid:id<nx+h.new.length) : ∀ (d j m:Nat),j+d=L.length→d<m →
  (((L.drop j).all (toldB n)=true∧iter (runCS ⟨Ω,noG,H,nx⟩ N ir144_0) m ⟨[(0,.p (.sl (rows (Ent.row fl) L) L.length 5 ff)),(1,tfn id),(7,.int .i64 L.length),(8,.int .i64 j)],h⟩=
   some (.exit 0,⟨[(0,.p (.sl (rows (Ent.row fl) L) L.length 5 ff)),(1,tfn id),(7,.int .i64 L.length),(8,.int .i64 L.length),(9,.bool false)],h⟩)) ∨
   ((L.drop j).all (toldB n)=false∧∃ k:Nat,iter (runCS ⟨Ω,noG,H,nx⟩ N ir144_0) m ⟨[(0,.p (.sl (rows (Ent.row fl) L) L.length 5 ff)),(1,tfn id),(7,.int .i64 L.length),(8,.int .i64 j)],h⟩=some (.ret,⟨[(4,.int .i64 k)],h⟩))):=by
 intro d
 induction d with
 | zero=>
  intro j m hj hm
  obtain ⟨m,rfl⟩ : ∃ r,m=r+1:=⟨m-1,by omega⟩
  obtain rfl:j=L.length:=by omega
  exact .inl ⟨by simp,bw (sQ N _ _ _) (by simp)⟩
 | succ d ih=>
  intro j m hj hm
  obtain ⟨m,rfl⟩ : ∃ r,m=r+1:=⟨m-1,by omega⟩
  have hjl:j<L.length:=by omega
  have hd:L.drop j=L[j]::L.drop (j+1):=List.drop_eq_getElem_cons hjl
  have e:=uP N L fl ff fl2 n j L[j] (List.getElem?_eq_getElem hjl) hL (hx _ (List.getElem_mem hjl)) hn id hl hid
  rw [hd,List.all_cons]
  by_cases ht:toldB n L[j]=true
  ·rw [if_pos ht] at e
   rw [bI e,ht,Bool.true_and]
   exact ih (j+1) m (by omega) (by omega)
  ·rw [if_neg ht] at e
   refine .inr ⟨by simp [ht],j,bw e (by simp)⟩
end
theorem qv (L:List Ent) (fl fl2:Bool) (n:Nte) (hL:L.length<2^31) (hx : ∀ x∈L,x.v.ev.max<2^63) (hn:n.ev.max<2^63) (id:Nat) (H:Heap) (nx:Nat) (hl:H id=some (.cells (pc (n.cells fl2)))) (hid:id<nx):
  Ω 87 [.p (entP (Ent.row fl) 5 L),tfn id] H nx=some (.bool (!L.all (toldB n)),[],[]):=by
 have ix : ∀ (H:Heap) (nx:Nat),H id=some (.cells (pc (n.cells fl2)))→id<nx→∃ v:Int,Ω 144 [.p (entP (Ent.row fl) 5 L),tfn id] H nx=some (.int .i64 v,[],[])∧decide (0≤v)=!L.all (toldB n):=by
  intro H nx hl hid
  have hlk:Go.Sx.look H nx ⟨[],[]⟩ id=some (.cells (pc (n.cells fl2))):=by simp [Go.Sx.look,findU,hid,hl]
  by_cases h0:L=[]
  ·subst h0
   refine ⟨-1,?_,by simp⟩
   refine ae (ir:=ir144) (by kernel_rfl) 1 ?_
   have lp:=fun h y f=>bw (n:=0) (sQ (H:=H) (nx:=nx) (h:=h) 1 0 y f) (by simp)
   have c0:((0:Nat):Int)=0:=rfl
   simp only [c0] at lp
   simp [ir144,ssB,ssU,ssP,appO,entP,lp]
  ·rw [entP,if_neg h0]
   have lp:=uO (H:=H) (nx:=nx) (h:=⟨[],[]⟩) (L.length+1) L fl false fl2 n hL hx hn id hlk (by simpa using hid) L.length 0 (L.length+1) (by omega) (by omega)
   rw [List.drop_zero] at lp
   have c0:((0:Nat):Int)=0:=rfl
   simp only [c0] at lp
   rcases lp with ⟨ha,e⟩|⟨ha,k,e⟩
   ·refine ⟨-1,ae (ir:=ir144) (by kernel_rfl) (L.length+1) ?_,by simp [ha]⟩
    generalize rows (Ent.row fl) L=R at*
    simp [ir144,ssB,ssU,ssP,appO,e]
   ·refine ⟨k,ae (ir:=ir144) (by kernel_rfl) (L.length+1) ?_,by simp [ha]⟩
    generalize rows (Ent.row fl) L=R at*
    simp [ir144,ssB,ssU,ssP,appO,e]
 refine ae (ir:=ir87) (by kernel_rfl) 0 ?_
 obtain ⟨v,e,hv⟩:=ix (Go.Sx.look H nx ⟨[],[]⟩) nx (by simp [Go.Sx.look,findU,hid,hl]) hid
 rw [←hv]
 generalize entP (Ent.row fl) 5 L=z at*
 have f:=fun b=>sA H nx (.s (.bool b)) ⟨[],[]⟩ rfl
 simp [ir87,ssB,ssU,ay,ax,af,Go.Sx.splice,Go.Sx.leI_eq,ltF,e,f]
theorem yg (n:Nte) (fl:Bool) (hL:n.ents.length<2^31) (hx : ∀ x∈n.ents,x.v.ev.max<2^63) (hn:n.ev.max<2^63) (H:Heap) (nx:Nat):
  Ω 41 [.p (n.pv fl)] H nx=some (.bool (n.ents.all (toldB n)),[],[]):=by
 refine ae (ir:=ir41) (by kernel_rfl) 0 ?_
 have c:=fun H nx id hl hid=>qv n.ents fl fl n hL hx hn id H nx hl hid
 generalize n.ents.all (toldB n)=b at*
 simp only [Nte.cells,aN,bf] at c
 simp only [Nte.pv,Nte.cells]
 generalize entP (Ent.row fl) 5 n.ents=z at*
 cases b<;>simp [ir41,ssB,ssU,ssP,appO,c]
end Go.Proofs.YtppeggedcaabkaaGreatDoor
end

section
namespace Go.Proofs.YtppeggedcaabkaaGreatDoor
open Go Go.Sx
def noneB (e:Ev):Bool:=Ev.leqb e (.leaf 0)&&Ev.leqb (.leaf 0) e
def plainB (g:Gft):Bool:=decide (g.no=0)&&(decide (g.fr=0)&&(decide (g.to=0)&&decide (g.sh = .zero)))
def partB (h p:Int) (b:Bool):Bool:=match binI .and .i64 h p with
 | some (.int _ v)=>decide (0<v)||b
 | _=>false
def Nte.zeroB (h:Int) (x:Nte):Bool:=partB h 1 (decide (x.ses=0))&&(partB h 2 (decide (x.seq=0))&&(partB h 16 (!x.last)&&(partB h 8 (noneB x.ev)&&(partB h 4 x.ents.isEmpty&&(partB h 32 (plainB x.gift)&&partB h 64 (decide (x.no=0)))))))
end Go.Proofs.YtppeggedcaabkaaGreatDoor
end

section
namespace Go.Proofs.YtppeggedcaabkaaGreatDoor
open Go Go.Sx
theorem wO (h p:Int) (b:Bool) (H:Heap) (nx:Nat):
  Ω 84 [.int .i64 p,.bool b,.p (.imm [.s (.int .i64 h)] 0)] H nx=some (.bool (partB h p b),[],[]):=by
 obtain ⟨v,hv⟩ : ∃ v,binI .and .i64 h p=some (.int .i64 v):=⟨_,rfl⟩
 have e:partB h p b=(decide (0<v)||b):=by rw [partB,hv]
 refine ae (ir:=ir84) (by kernel_rfl) 0 ?_
 rw [e]
 by_cases h0:0<v
 ·have h1 : ¬v≤0:=by omega
  simp [ir84,ssI,↓ssJ,List.idxOf?_cons,Go.Sx.LV.undef,Go.undef,Go.Sx.callO,Go.Sx.splice,Go.Sx.finish,Go.Sx.look,Go.Sx.push,Go.Sx.setObj,Go.Sx.setU,Go.Sx.setAll,appO,Go.Sx.leI_eq,ltF,hv,h0,h1]
 ·have h1:v≤0:=by omega
  simp [ir84,ssI,↓ssJ,List.idxOf?_cons,Go.Sx.LV.undef,Go.undef,Go.Sx.callO,Go.Sx.splice,Go.Sx.finish,Go.Sx.look,Go.Sx.push,Go.Sx.setObj,Go.Sx.setU,Go.Sx.setAll,appO,Go.Sx.leI_eq,ltF,hv,h0,h1]
theorem i7 (f:Ent→List PV) (k:Nat) (L:List Ent):(L=[]∧entP f k L = .s (.slice none 0 0))∨(L≠[]∧0<L.length∧entP f k L = .sl (rows f L) L.length k false):=by
 unfold entP
 split
 ·rename_i h;exact .inl ⟨h,rfl⟩
 ·rename_i h;exact .inr ⟨h,List.length_pos_iff.2 h,rfl⟩
theorem ym (n:Nte) (fl:Bool) (hev:n.ev.max<2^63) (H:Heap) (nx:Nat):Ω 40 [.p (n.pv fl)] H nx=some (.bool (n.zeroB (hasK n.kind)),[],[]):=by
 refine ae (ir:=ir40) (by kernel_rfl) 0 ?_
 have hk:=fun H nx=>gk n.kind H nx
 have sm:=fun H nx=>ur n.ev (.leaf 0) hev (by simp [Ev.max]) H nx
 have iz:=fun H nx=>aK n.gift.sh H nx
 unfold Nte.zeroB
 generalize hasK n.kind=h at*
 have e0:(Ev.leaf 0).pv = .agg [.s (.int .u64 0),.s (.pointer none)]:=rfl
 have en:n.ev.pv = .agg [.s (.int .u64 n.ev.n),n.ev.ptr]:=rfl
 have ei:n.gift.sh.pv = .agg [.s (.bool n.gift.sh.all),n.gift.sh.ptr]:=rfl
 rw [e0,en] at sm
 rw [ei] at iz
 have hlen : ∃ z,entP (Ent.row fl) 5 n.ents=z∧((z = .s (.slice none 0 0)∧n.ents.isEmpty=true)∨∃ R m,z = .sl R (m+1) 5 false∧n.ents.isEmpty=false):=by
  refine ⟨_,rfl,?_⟩
  rcases i7 (Ent.row fl) 5 n.ents with ⟨h,e⟩|⟨h,h',e⟩
  ·exact .inl ⟨e,by simp [h]⟩
  ·exact .inr ⟨_,n.ents.length-1,by rw [e];congr 1;omega,by simp [h]⟩
 obtain ⟨z,hz,hlen⟩:=hlen
 simp only [Nte.pv,Nte.cells,hz]
 have hn:noneB n.ev=(Ev.leqb n.ev (.leaf 0)&&Ev.leqb (.leaf 0) n.ev):=rfl
 rw [←hn] at sm
 unfold plainB
 generalize noneB n.ev=b4 at*
 generalize n.gift.sh.all=sa at*
 generalize n.gift.sh.ptr=sp at*
 generalize (decide (n.gift.sh = .zero))=b8 at*
 generalize n.ev.ptr=ep at*
 generalize n.ev.n=evn at*
 generalize n.ents.isEmpty=b5 at*
 rcases hlen with ⟨rfl,rfl⟩|⟨R,m,rfl,rfl⟩
 all_goals
  have m1 : ∀ m:Nat,¬((m:Int)+1=0):=fun m=>by omega
  simp +contextual (maxSteps:=1000000) [ir40,ssI,↓ssJ,List.idxOf?_cons,Go.Sx.LV.undef,Go.undef,Go.Sx.callO,Go.Sx.splice,Go.Sx.finish,Go.Sx.look,Go.Sx.push,Go.Sx.setObj,Go.Sx.setU,Go.Sx.setAll,appO,Go.Sx.leI_eq,ltF,hk,sm,iz,wO,Bool.and_assoc,m1]
def Nte.right (n:Nte):Bool:=decide (0≤hasK n.kind)&&nodeB n.fr&&nodeB n.to&&!decide (n.fr=n.to)&&(n.zeroB (hasK n.kind)&&decide (0≤n.seq)&&!decide (256≤n.seq)&&n.ents.all (toldB n)&&
 (if n.kind=3 then decide ((n.ents.length:Int)≤4) else !decide (n.kind=6)||n.gift.right&&decide (n.gift.fr=n.fr)&&decide (n.gift.to=n.to)))
theorem cg (n:Nte) (fl:Bool) (hL:n.ents.length<2^31) (hx : ∀ x∈n.ents,x.v.ev.max<2^63) (hev:n.ev.max<2^63) (H:Heap) (nx:Nat):
  Ω 12 [.p (n.pv fl)] H nx=some (.bool n.right,[],[]):=by
 refine ae (ir:=ir12) (by kernel_rfl) 0 ?_
 have hk:=fun H nx=>gk n.kind H nx
 have z:=fun H nx=>ym n fl hev H nx
 have t:=fun H nx=>yg n fl hL hx hev H nx
 have g:=fun H nx=>nB n.gift H nx
 have hlen : ∃ z,entP (Ent.row fl) 5 n.ents=z∧((z = .s (.slice none 0 0)∧n.ents.length=0)∨∃ R,z = .sl R n.ents.length 5 false):=by
  refine ⟨_,rfl,?_⟩
  rcases i7 (Ent.row fl) 5 n.ents with ⟨h,e⟩|⟨h,h',e⟩
  ·exact .inl ⟨e,by simp [h]⟩
  ·exact .inr ⟨_,e⟩
 obtain ⟨ez,hz,hlen⟩:=hlen
 unfold Nte.right
 simp only [Nte.pv,Nte.cells,hz] at z t ⊢
 simp only [Gft.pv] at g
 generalize n.zeroB (hasK n.kind)=b1 at*
 generalize n.ents.all (toldB n)=b2 at*
 generalize n.gift.right=b3 at*
 generalize hasK n.kind=h at*
 generalize n.ents.length=len at*
 rcases hlen with ⟨rfl,rfl⟩|⟨R,rfl⟩
 all_goals
  simp +contextual (maxSteps:=1000000) [ir12,ssI,↓ssJ,List.idxOf?_cons,Go.Sx.LV.undef,Go.undef,Go.Sx.callO,Go.Sx.splice,Go.Sx.finish,Go.Sx.look,Go.Sx.push,Go.Sx.setObj,Go.Sx.setU,Go.Sx.setAll,appO,Go.Sx.leI_eq,ltF,hk,z,t,g,qY]
  try (by_cases q:n.kind=3<;>simp [q])
end Go.Proofs.YtppeggedcaabkaaGreatDoor
end

section
namespace Go.Proofs.YtppeggedcaabkaaGreatDoor
open Go Go.Sx
abbrev Nte.rcells (fl:Bool) (x:Nte):List PV:=[.s (.int .i64 x.kind),.s (.int .i64 x.fr),.s (.int .i64 x.to),.s (.int .u64 x.ses),.s (.int .i64 x.seq),.s (.bool x.last),x.ev.rv,entP (Ent.rrow fl) 4 x.ents,
 .s (.int .u64 x.gift.no),.s (.int .i64 x.gift.fr),.s (.int .i64 x.gift.to),x.gift.sh.rv,.s (.int .u64 x.no),.s (.slice none 0 0)]
abbrev Nte.rv (fl:Bool) (x:Nte):PV:=.agg (x.rcells fl)
theorem xW (k f t:Int) (H:Heap) (nx:Nat):Ω 18 [.int .i64 k,.int .i64 f,.int .i64 t] H nx=some (.p (Nte.rv false ⟨k,f,t,0,0,false,.leaf 0,[],⟨0,0,0,.zero⟩,0⟩),[],[]):=by
 refine ae (ir:=ir18) (by kernel_rfl) 0 ?_
 have l:=fun H nx=>jx 0 H nx
 simp only [Int.natCast_zero,Int.ofNat_zero] at l
 simp +contextual (maxSteps:=1000000) [ir18,ssI,↓ssJ,List.idxOf?_cons,Go.Sx.LV.undef,Go.undef,Go.Sx.callO,Go.Sx.splice,Go.Sx.finish,Go.Sx.look,Go.Sx.push,Go.Sx.setObj,Go.Sx.setU,Go.Sx.setAll,appO,Go.Sx.leI_eq,ltF,l,nX,Ev.rv_l,Id.rv_z,entP]
theorem wE : ∀ (d:Nat) (e:Ev),e.depth≤d→e.norm→Ev.leq d e (.leaf 0)=true→e = .leaf 0
 | 0,.leaf m,_,_,h=>by simp [Ev.leq,Ev.n] at h;rw [h]
 | 0,.node n l r,hd,_,_=>by simp [Ev.depth] at hd
 | d+1,.leaf m,_,_,h=>by simp [Ev.leq,Ev.n] at h;rw [h]
 | d+1,.node n l r,hd,hn,h=>by
  obtain ⟨h1,h2,h3,h4⟩:=hn
  have hd':(Ev.node n l r).depth=1+Max.max l.depth r.depth:=rfl
  simp only [Ev.leq] at h
  split at h
  ·cases h
  ·rename_i h0
   have n0:n=0:=by
    simp [Ev.n,Ev.isLeaf] at h0;exact h0
   subst n0
   have u0 : ∀ e:Ev,e.up 0=e:=fun e=>by cases e<;>simp [Ev.up]
   rw [u0,u0] at h
   have hl:((Ev.leaf 0).left.up (Ev.leaf 0).n) = .leaf 0:=rfl
   have hr:((Ev.leaf 0).right.up (Ev.leaf 0).n) = .leaf 0:=rfl
   rw [hl,hr,Bool.and_eq_true] at h
   have a:=wE d l (by omega) h1 h.1
   have b:=wE d r (by omega) h2 h.2
   subst a b
   exact absurd ⟨rfl,rfl,rfl⟩ h4
theorem s7 (e:Ev) (h:e.norm):noneB e=decide (e = .leaf 0):=by
 rw [Bool.eq_iff_iff,decide_eq_true_iff]
 unfold noneB
 constructor
 ·intro q
  rw [Bool.and_eq_true] at q
  exact wE _ e (Nat.le_refl _) h q.1
 ·rintro rfl;rfl
def zB (h:Int) (a b c d e f g:Bool):Bool:=partB h 1 a&&(partB h 2 b&&(partB h 16 c&&(partB h 8 d&&(partB h 4 e&&(partB h 32 f&&partB h 64 g)))))
theorem yl : ∀ a b c d e f g,zB 9 a b c d e f g=(b&&c&&e&&f&&g):=by decide
theorem yi : ∀ a b c d e f g,zB 31 a b c d e f g=(f&&g):=by decide
theorem yG : ∀ a b c d e f g,zB 3 a b c d e f g=(c&&d&&e&&f&&g):=by decide
theorem yF : ∀ a b c d e f g,zB 0 a b c d e f g=(a&&b&&c&&d&&e&&f&&g):=by decide
theorem yj : ∀ a b c d e f g,zB 44 a b c d e f g=(a&&b&&c&&g):=by decide
theorem yk : ∀ a b c d e f g,zB 64 a b c d e f g=(a&&b&&c&&d&&e&&f):=by decide
end Go.Proofs.YtppeggedcaabkaaGreatDoor
end

section
namespace Go.Proofs.YtppeggedcaabkaaGreatDoor
open Go Go.Sx
theorem vz {H:Heap} {nx:Nat} (l:List UInt8) (h0:0<l.length) (h30:l.length<2^30) (id cp:Nat) (ex:Bool) (h1:H id=some (.cells (byt (le4 (BitVec.ofNat 32 l.length))++byt l))) (h2:id<nx):
  Ω 78 [.arr id 0 (4+l.length) 1 cp ex] H nx=some (.int .u32 (nv (crc (le4 (BitVec.ofNat 32 l.length)++l))),[],[]):=by
 have:=wZ (le4 (BitVec.ofNat 32 l.length)++l) (by simp [le4];omega) id cp ex H nx (by rw [aP];exact h1) h2
 have e:(le4 (BitVec.ofNat 32 l.length)++l).length=4+l.length:=by simp [le4];omega
 rwa [e] at this
theorem oV (l:List UInt8) (fl:Bool) (h0:0<l.length) (h30:l.length<2^30) (H:Heap) (nx:Nat):
  Ω 31 [.p (.sl (bytP l) l.length 1 fl)] H nx=some (.arr nx 0 (frame l).length 1 (frame l).length false,[],[some (.cells (byt (frame l)))]):=by
 rw [eV]
 refine ae (ir:=ir31) (by kernel_rfl) 0 ?_
 have hs:=fun id cp ex (H:Heap) (nx:Nat) h1 h2=>vz (H:=H) (nx:=nx) l h0 h30 id cp ex h1 h2
 have hb : ∀ (x:BitVec 32),byt (le4 x)=[.int .u8 (low x).toNat,.int .u8 (low (x >>> 8)).toNat,.int .u8 (low (x >>> 16)).toNat,.int .u8 (low (x >>> 24)).toNat]:=fun x=>rfl
 have hne : ¬l.length=0:=by omega
 have hla:=fun id H nx h1 h2=>pa (low (BitVec.ofNat 32 l.length)) (low (BitVec.ofNat 32 l.length >>> 8)) (low (BitVec.ofNat 32 l.length >>> 16)) (low (BitVec.ofNat 32 l.length >>> 24)) (crc (le4 (BitVec.ofNat 32 l.length)++l)) id H nx h1 h2
 simp only [aP,hb] at hs
 simp only [aP,hb,aW,bu] at hla
 have h41 : ¬1099511627776<4+l.length:=by omega
 have h42 : ¬1099511627776<8+l.length:=by omega
 have hk : ∀ k,nx<nx+(k+1):=fun k=>by omega
 have hk2 : ∀ k,nx+k<nx+(k+1):=fun k=>by omega
 have hw:=na l.length
 simp [ir31,ssB,ssU,ssP,appO,hk,hk2,hw,pb,ak,aa,au,aE,aG,aD,aI,av,aA,aQ,aa,hs,hla,hb,hne,h41,h42,frame]
 rw [aP,aP,hb,hb]
 rfl
def u8 (x:Int):UInt8:=UInt8.ofNat x.toNat
theorem aU (x:Int) (h0:0≤x) (h1:x<256):IntKind.u8.wrap x=((u8 x).toNat:Int):=by
 have:IntKind.u8.wrap x=x%256:=by simp [IntKind.wrap,IntKind.signed,IntKind.bits]
 rw [this,u8]
 simp
 omega
def bit (b:Bool):UInt8:=if b then 1 else 0
def Nte.rest (n:Nte):List UInt8:=
 if n.kind=1∨n.kind=2 then vnum n.ses++txt (pack (evBits n.ev))
 else if n.kind=3 then vnum n.ses++[u8 n.seq]++[bit n.last]++txt (pack (evBits n.ev))++vnum n.ents.length++entB n.ents
 else if n.kind=4 then vnum n.ses++[u8 n.seq]
 else if n.kind=6 then n.gift.bytes++txt (pack (evBits n.ev))++vnum n.ents.length++entB n.ents
 else if n.kind=7 then vnum n.no
 else []
def Nte.body (n:Nte):List UInt8:=[u8 n.kind,u8 n.fr,u8 n.to]++n.rest
def Nte.ans (n:Nte):LV:=if n.right=true then .tuple [.p (.sl (bytP (frame n.body)) (frame n.body).length 1 false),.int .i64 0] else .tuple [.p (.s (.slice none 0 0)),.int .i64 1]
structure Nte.Fit (n:Nte):Prop where
 ses:n.ses<2^64
 no:n.no<2^64
 gno:n.gift.no<2^64
 gsh:(idBits n.gift.sh).length<2^16
 ev:n.ev.max<2^62
 bits:(evBits n.ev).length<2^16
 norm:n.ev.norm
 len:n.ents.length<50
 ents : ∀ x∈n.ents,x.fit
 max : ∀ x∈n.ents,x.v.ev.max<2^62
 size:(entB n.ents).length<2^19
 enorm : ∀ x∈n.ents,x.v.ev.norm
theorem iC:(binI .and .i64 9 1=some (.int .i64 1))∧(binI .and .i64 9 2=some (.int .i64 0))∧(binI .and .i64 9 16=some (.int .i64 0))∧(binI .and .i64 9 32=some (.int .i64 0))∧(binI .and .i64 9 8=some (.int .i64 8))∧(binI .and .i64 9 4=some (.int .i64 0))∧(binI .and .i64 9 64=some (.int .i64 0))∧(binI .and .i64 31 1=some (.int .i64 1))∧(binI .and .i64 31 2=some (.int .i64 2))∧(binI .and .i64 31 16=some (.int .i64 16))∧(binI .and .i64 31 32=some (.int .i64 0))∧(binI .and .i64 31 8=some (.int .i64 8))∧(binI .and .i64 31 4=some (.int .i64 4))∧(binI .and .i64 31 64=some (.int .i64 0))∧(binI .and .i64 3 1=some (.int .i64 1))∧(binI .and .i64 3 2=some (.int .i64 2))∧(binI .and .i64 3 16=some (.int .i64 0))∧(binI .and .i64 3 32=some (.int .i64 0))∧(binI .and .i64 3 8=some (.int .i64 0))∧(binI .and .i64 3 4=some (.int .i64 0))∧(binI .and .i64 3 64=some (.int .i64 0))∧(binI .and .i64 0 1=some (.int .i64 0))∧(binI .and .i64 0 2=some (.int .i64 0))∧(binI .and .i64 0 16=some (.int .i64 0))∧(binI .and .i64 0 32=some (.int .i64 0))∧(binI .and .i64 0 8=some (.int .i64 0))∧(binI .and .i64 0 4=some (.int .i64 0))∧(binI .and .i64 0 64=some (.int .i64 0))∧(binI .and .i64 44 1=some (.int .i64 0))∧(binI .and .i64 44 2=some (.int .i64 0))∧(binI .and .i64 44 16=some (.int .i64 0))∧(binI .and .i64 44 32=some (.int .i64 32))∧(binI .and .i64 44 8=some (.int .i64 8))∧(binI .and .i64 44 4=some (.int .i64 4))∧(binI .and .i64 44 64=some (.int .i64 0))∧(binI .and .i64 64 1=some (.int .i64 0))∧(binI .and .i64 64 2=some (.int .i64 0))∧(binI .and .i64 64 16=some (.int .i64 0))∧(binI .and .i64 64 32=some (.int .i64 0))∧(binI .and .i64 64 8=some (.int .i64 0))∧(binI .and .i64 64 4=some (.int .i64 0))∧(binI .and .i64 64 64=some (.int .i64 64)):=
 ⟨rfl,rfl,rfl,rfl,rfl,rfl,rfl,rfl,rfl,rfl,rfl,rfl,rfl,rfl,rfl,rfl,rfl,rfl,rfl,rfl,rfl,rfl,rfl,rfl,rfl,rfl,rfl,rfl,rfl,rfl,rfl,rfl,rfl,rfl,rfl,rfl,rfl,rfl,rfl,rfl,rfl,rfl⟩
theorem bE {n:Nte} (hr:n.right=true):(0≤n.fr∧n.fr<12)∧(0≤n.to∧n.to<12)∧(0≤n.seq∧n.seq<256):=by
 simp only [Nte.right,nodeB,Bool.and_eq_true,decide_eq_true_eq,Bool.not_eq_true',decide_eq_false_iff_not] at hr
 obtain ⟨⟨⟨⟨_,a⟩,b⟩,_⟩,⟨⟨⟨_,c⟩,d⟩,_⟩,_⟩:=hr
 omega
theorem gr (n:Nte) (fl:Bool) (k:Int) (hk:n.kind=k) (hk2:k=1∨k=2) (hf:n.Fit) (hr:n.right=true) (H:Heap) (nx:Nat):Ω 9 [.p (n.pv fl)] H nx=some (n.ans,[],[]):=by
 refine ae (ir:=ir9) (by kernel_rfl) 0 ?_
 have r:=fun H nx=>cg n fl (by have:=hf.len;omega) (fun x hx=>by have:=hf.max x hx;omega) (by have:=hf.ev;omega) H nx
 rw [hr] at r
 obtain ⟨⟨f0,f1⟩,⟨t0,t1⟩,⟨s0,s1⟩⟩:=bE hr
 have wf:=aU n.fr f0 (by omega)
 have wt:=aU n.to t0 (by omega)
 have ws:=aU n.seq s0 (by omega)
 have ce:=fun H nx=>cf n.ev (by have:=hf.ev;omega) (by have:=hf.bits;omega) H nx
 have pl:=bM (evBits n.ev)
 have hb:=hf.bits
 have vl:=az n.ses hf.ses
 have vn:=az n.no hf.no
 have e1:(Ev.pv n.ev) = .agg [.s (.int .u64 n.ev.n),n.ev.ptr]:=rfl
 rw [e1] at ce
 have tl:(txt (pack (evBits n.ev))).length≤(pack (evBits n.ev)).length+10:=by
  have:=az (pack (evBits n.ev)).length (by omega)
  rw [txt,List.length_append];omega
 unfold Nte.ans Nte.body Nte.rest
 rw [if_pos hr]
 generalize pack (evBits n.ev)=E at*
 have bb:=bm E
 have kk : ∀ k:Int,0≤k→k<8→IntKind.u8.wrap k=((u8 k).toNat:Int):=fun k h0 h1=>aU k h0 (by omega)
 have k0 : ∀ k,nx<nx+(k+1):=fun k=>by omega
 have k1 : ∀ k m,nx+k<nx+m↔k<m:=fun k m=>by omega
 have hl : ∀ k:UInt8,([k,u8 n.fr,u8 n.to]++vnum n.ses++txt E).length<2^18:=fun k=>by simp;omega
 have n1 : ∀ (k:UInt8) (H:Heap) (nx id:Nat),H id=some (.cells (byt [k,u8 n.fr,u8 n.to]))→id<nx→Ω 26 [.arr id 0 3 1 3 true,.int .u64 n.ses] H nx=_:=fun k H nx id h1 h2=>ed (.whole' (F:=[k,u8 n.fr,u8 n.to]) rfl h1 h2) n.ses hf.ses (by simp)
 have t1 : ∀ (k:UInt8) (H:Heap) (nx id:Nat),H id=some (.cells (byt ([k,u8 n.fr,u8 n.to]++vnum n.ses)))→id<nx→Ω 28 [.arr id 0 ([k,u8 n.fr,u8 n.to]++vnum n.ses).length 1 ([k,u8 n.fr,u8 n.to]++vnum n.ses).length false,bstr E] H nx=_:=fun k H nx id h1 h2=>eJ (.whole h1 h2) E (by simp;omega) (by omega)
 have g1 : ∀ (k:UInt8) (H:Heap) (nx id:Nat),H id=some (.cells (byt ([k,u8 n.fr,u8 n.to]++vnum n.ses++txt E)))→id<nx→Ω 31 [.arr id 0 ([k,u8 n.fr,u8 n.to]++vnum n.ses++txt E).length 1 ([k,u8 n.fr,u8 n.to]++vnum n.ses++txt E).length false] H nx=_:=fun k H nx id h1 h2=>iE _ (by simp) (by have:=hl k;omega) id _ _ H nx h1 h2
 simp only [Nte.pv,Nte.cells] at r ⊢
 generalize entP (Ent.row fl) 5 n.ents=z at*
 generalize n.ev.ptr=ep at*
 generalize n.ev.n=en at*
 have hh:hasK k=9:=by rcases hk2 with rfl|rfl<;>rfl
 rw [hk] at r ⊢
 have w:=kk k (by omega) (by omega)
 have n1:=n1 (u8 k)
 have t1:=t1 (u8 k)
 have g1:=g1 (u8 k)
 have hl:=hl (u8 k)
 rw [if_pos hk2,←List.append_assoc]
 simp only [aW,bu] at n1
 generalize [u8 k,u8 n.fr,u8 n.to]++vnum n.ses++txt E=P2 at*
 generalize [u8 k,u8 n.fr,u8 n.to]++vnum n.ses=P1 at*
 have h20:(P2.length:Int)≤1048576:=by omega
 generalize frame P2=F at*
 simp [ir9,ssI,↓ssJ,ssU,ssP,appO,gk,hh,r,wf,wt,w,n1,t1,g1,ce,bb,iC,ak,aa,au,aE,aG,aD,aI,av,aA,aQ,aa,h20,k0,k1]
theorem mj (n:Nte) (fl:Bool) (hk:n.kind=3) (hf:n.Fit) (hr:n.right=true) (H:Heap) (nx:Nat):Ω 9 [.p (n.pv fl)] H nx=some (n.ans,[],[]):=by
 refine ae (ir:=ir9) (by kernel_rfl) 0 ?_
 have r:=fun H nx=>cg n fl (by have:=hf.len;omega) (fun x hx=>by have:=hf.max x hx;omega) (by have:=hf.ev;omega) H nx
 rw [hr] at r
 obtain ⟨⟨f0,f1⟩,⟨t0,t1⟩,⟨s0,s1⟩⟩:=bE hr
 have wf:=aU n.fr f0 (by omega)
 have wt:=aU n.to t0 (by omega)
 have ws:=aU n.seq s0 (by omega)
 have ce:=fun H nx=>cf n.ev (by have:=hf.ev;omega) (by have:=hf.bits;omega) H nx
 have pl:=bM (evBits n.ev)
 have hb:=hf.bits
 have vl:=az n.ses hf.ses
 have vn:=az n.no hf.no
 have e1:(Ev.pv n.ev) = .agg [.s (.int .u64 n.ev.n),n.ev.ptr]:=rfl
 rw [e1] at ce
 have tl:(txt (pack (evBits n.ev))).length≤(pack (evBits n.ev)).length+10:=by
  have:=az (pack (evBits n.ev)).length (by omega)
  rw [txt,List.length_append];omega
 unfold Nte.ans Nte.body Nte.rest
 rw [if_pos hr]
 generalize pack (evBits n.ev)=E at*
 have bb:=bm E
 have kk : ∀ k:Int,0≤k→k<8→IntKind.u8.wrap k=((u8 k).toNat:Int):=fun k h0 h1=>aU k h0 (by omega)
 have k0 : ∀ k,nx<nx+(k+1):=fun k=>by omega
 have k1 : ∀ k m,nx+k<nx+m↔k<m:=fun k m=>by omega
 have w:=kk 3 (by omega) (by omega)
 have hls:=hf.size
 have hlen:=hf.len
 have vc:=az n.ents.length (by omega)
 have hl:([u8 3,u8 n.fr,u8 n.to]++vnum n.ses++[u8 n.seq]++[bit n.last]++txt E++vnum n.ents.length++entB n.ents).length<2^20:=by simp;omega
 have n1 : ∀ (H:Heap) (nx id:Nat),H id=some (.cells (byt [u8 3,u8 n.fr,u8 n.to]))→id<nx→Ω 26 [.arr id 0 3 1 3 true,.int .u64 n.ses] H nx=_:=fun H nx id h1 h2=>ed (.whole' (F:=[u8 3,u8 n.fr,u8 n.to]) rfl h1 h2) n.ses hf.ses (by simp)
 have t1 : ∀ (H:Heap) (nx id:Nat),H id=some (.cells (byt ([u8 3,u8 n.fr,u8 n.to]++vnum n.ses++[u8 n.seq]++[bit n.last])))→id<nx→Ω 28 [.arr id 0 ([u8 3,u8 n.fr,u8 n.to]++vnum n.ses++[u8 n.seq]++[bit n.last]).length 1 ([u8 3,u8 n.fr,u8 n.to]++vnum n.ses++[u8 n.seq]++[bit n.last]).length false,bstr E] H nx=_:=fun H nx id h1 h2=>eJ (.whole h1 h2) E (by simp;omega) (by omega)
 have p1 : ∀ (H:Heap) (nx id:Nat),H id=some (.cells (byt ([u8 3,u8 n.fr,u8 n.to]++vnum n.ses++[u8 n.seq]++[bit n.last]++txt E)))→id<nx→Ω 30 [.arr id 0 ([u8 3,u8 n.fr,u8 n.to]++vnum n.ses++[u8 n.seq]++[bit n.last]++txt E).length 1 ([u8 3,u8 n.fr,u8 n.to]++vnum n.ses++[u8 n.seq]++[bit n.last]++txt E).length false,.p (entP (Ent.row fl) 5 n.ents)] H nx=_:=fun H nx id h1 h2=>iq (.whole h1 h2) n.ents fl (by omega) hf.ents (by simp;omega)
 have g1 : ∀ (H:Heap) (nx:Nat),_=_:=fun H nx=>oV ([u8 3,u8 n.fr,u8 n.to]++vnum n.ses++[u8 n.seq]++[bit n.last]++txt E++vnum n.ents.length++entB n.ents) false (by simp) (by omega) H nx
 simp only [Nte.pv,Nte.cells] at r ⊢
 generalize hz:entP (Ent.row fl) 5 n.ents=z at*
 generalize n.ev.ptr=ep at*
 generalize n.ev.n=en at*
 rw [hk] at r ⊢
 rw [if_neg (by omega),if_pos rfl]
 simp only [←List.append_assoc]
 simp only [aW,bu] at n1
 rw [aP ([u8 3,u8 n.fr,u8 n.to]++vnum n.ses++[u8 n.seq]),aP ([u8 3,u8 n.fr,u8 n.to]++vnum n.ses)] at t1
 generalize [u8 3,u8 n.fr,u8 n.to]++vnum n.ses++[u8 n.seq]++[bit n.last]++txt E++vnum n.ents.length++entB n.ents=P4 at*
 generalize [u8 3,u8 n.fr,u8 n.to]++vnum n.ses++[u8 n.seq]++[bit n.last]++txt E=P2 at*
 generalize hP1':[u8 3,u8 n.fr,u8 n.to]++vnum n.ses=P1 at*
 have h20:(P4.length:Int)≤1048576:=by omega
 have hP1:P1.length<2^20:=by have:=congrArg List.length hP1';simp at this;omega
 have hq : ¬1099511627776<P1.length+1:=by omega
 have hq2 : ¬1099511627776<P1.length+1+1:=by omega
 generalize frame P4=F at*
 cases hb2:n.last
 all_goals
  rw [hb2] at r t1
  have eb:(bit false).toNat=0∧(bit true).toNat=1:=⟨rfl,rfl⟩
  simp [aW,bu,eb] at t1
  simp [ir9,ssI,↓ssJ,ssU,ssP,appO,gk,hasK,r,wf,wt,ws,w,n1,t1,p1,g1,hq,hq2,ce,bb,iC,ak,aa,au,aE,aG,aD,aI,av,aA,aQ,aa,h20,k0,k1]
theorem mo (n:Nte) (fl:Bool) (hk:n.kind=4) (hf:n.Fit) (hr:n.right=true) (H:Heap) (nx:Nat):Ω 9 [.p (n.pv fl)] H nx=some (n.ans,[],[]):=by
 refine ae (ir:=ir9) (by kernel_rfl) 0 ?_
 have r:=fun H nx=>cg n fl (by have:=hf.len;omega) (fun x hx=>by have:=hf.max x hx;omega) (by have:=hf.ev;omega) H nx
 rw [hr] at r
 obtain ⟨⟨f0,f1⟩,⟨t0,t1⟩,⟨s0,s1⟩⟩:=bE hr
 have wf:=aU n.fr f0 (by omega)
 have wt:=aU n.to t0 (by omega)
 have ws:=aU n.seq s0 (by omega)
 have ce:=fun H nx=>cf n.ev (by have:=hf.ev;omega) (by have:=hf.bits;omega) H nx
 have pl:=bM (evBits n.ev)
 have hb:=hf.bits
 have vl:=az n.ses hf.ses
 have vn:=az n.no hf.no
 have e1:(Ev.pv n.ev) = .agg [.s (.int .u64 n.ev.n),n.ev.ptr]:=rfl
 rw [e1] at ce
 have tl:(txt (pack (evBits n.ev))).length≤(pack (evBits n.ev)).length+10:=by
  have:=az (pack (evBits n.ev)).length (by omega)
  rw [txt,List.length_append];omega
 unfold Nte.ans Nte.body Nte.rest
 rw [if_pos hr]
 generalize pack (evBits n.ev)=E at*
 have bb:=bm E
 have kk : ∀ k:Int,0≤k→k<8→IntKind.u8.wrap k=((u8 k).toNat:Int):=fun k h0 h1=>aU k h0 (by omega)
 have k0 : ∀ k,nx<nx+(k+1):=fun k=>by omega
 have k1 : ∀ k m,nx+k<nx+m↔k<m:=fun k m=>by omega
 have w:=kk 4 (by omega) (by omega)
 have hl:([u8 4,u8 n.fr,u8 n.to]++vnum n.ses++[u8 n.seq]).length<2^20:=by simp;omega
 have n1 : ∀ (H:Heap) (nx id:Nat),H id=some (.cells (byt [u8 4,u8 n.fr,u8 n.to]))→id<nx→Ω 26 [.arr id 0 3 1 3 true,.int .u64 n.ses] H nx=_:=fun H nx id h1 h2=>ed (.whole' (F:=[u8 4,u8 n.fr,u8 n.to]) rfl h1 h2) n.ses hf.ses (by simp)
 have g1 : ∀ (H:Heap) (nx id:Nat),H id=some (.cells (byt ([u8 4,u8 n.fr,u8 n.to]++vnum n.ses++[u8 n.seq])))→id<nx→Ω 31 [.arr id 0 ([u8 4,u8 n.fr,u8 n.to]++vnum n.ses++[u8 n.seq]).length 1 ([u8 4,u8 n.fr,u8 n.to]++vnum n.ses++[u8 n.seq]).length false] H nx=_:=fun H nx id h1 h2=>iE _ (by simp) (by omega) id _ _ H nx h1 h2
 simp only [Nte.pv,Nte.cells] at r ⊢
 generalize hz:entP (Ent.row fl) 5 n.ents=z at*
 generalize n.ev.ptr=ep at*
 generalize n.ev.n=en at*
 rw [hk] at r ⊢
 rw [if_neg (by omega),if_neg (by omega),if_pos rfl]
 simp only [←List.append_assoc]
 simp only [aW,bu] at n1
 rw [aP ([u8 4,u8 n.fr,u8 n.to]++vnum n.ses)] at g1
 generalize hP2:[u8 4,u8 n.fr,u8 n.to]++vnum n.ses++[u8 n.seq]=P2 at*
 have e2:P2.length=([u8 4,u8 n.fr,u8 n.to]++vnum n.ses).length+1:=by rw [←hP2];simp
 generalize hP1':[u8 4,u8 n.fr,u8 n.to]++vnum n.ses=P1 at*
 have h20:(P2.length:Int)≤1048576:=by omega
 rw [e2] at g1 h20
 simp only [aW,bu] at g1
 have hP1:P1.length<2^20:=by have:=congrArg List.length hP1';simp at this;omega
 have hq : ¬1099511627776<P1.length+1:=by omega
 generalize frame P2=F at*
 simp only [Int.natCast_add,Int.natCast_one] at h20
 simp [ir9,ssI,↓ssJ,ssU,ssP,appO,gk,hasK,r,wf,wt,ws,w,n1,g1,hq,ce,bb,iC,ak,aa,au,aE,aG,aD,aI,av,aA,aQ,aa,h20,k0,k1]
theorem mp (n:Nte) (fl:Bool) (hk:n.kind=5) (hf:n.Fit) (hr:n.right=true) (H:Heap) (nx:Nat):Ω 9 [.p (n.pv fl)] H nx=some (n.ans,[],[]):=by
 refine ae (ir:=ir9) (by kernel_rfl) 0 ?_
 have r:=fun H nx=>cg n fl (by have:=hf.len;omega) (fun x hx=>by have:=hf.max x hx;omega) (by have:=hf.ev;omega) H nx
 rw [hr] at r
 obtain ⟨⟨f0,f1⟩,⟨t0,t1⟩,⟨s0,s1⟩⟩:=bE hr
 have wf:=aU n.fr f0 (by omega)
 have wt:=aU n.to t0 (by omega)
 have ws:=aU n.seq s0 (by omega)
 have ce:=fun H nx=>cf n.ev (by have:=hf.ev;omega) (by have:=hf.bits;omega) H nx
 have pl:=bM (evBits n.ev)
 have hb:=hf.bits
 have vl:=az n.ses hf.ses
 have vn:=az n.no hf.no
 have e1:(Ev.pv n.ev) = .agg [.s (.int .u64 n.ev.n),n.ev.ptr]:=rfl
 rw [e1] at ce
 have tl:(txt (pack (evBits n.ev))).length≤(pack (evBits n.ev)).length+10:=by
  have:=az (pack (evBits n.ev)).length (by omega)
  rw [txt,List.length_append];omega
 unfold Nte.ans Nte.body Nte.rest
 rw [if_pos hr]
 generalize pack (evBits n.ev)=E at*
 have bb:=bm E
 have kk : ∀ k:Int,0≤k→k<8→IntKind.u8.wrap k=((u8 k).toNat:Int):=fun k h0 h1=>aU k h0 (by omega)
 have k0 : ∀ k,nx<nx+(k+1):=fun k=>by omega
 have k1 : ∀ k m,nx+k<nx+m↔k<m:=fun k m=>by omega
 have w:=kk 5 (by omega) (by omega)
 have g1 : ∀ (H:Heap) (nx id:Nat),H id=some (.cells (byt [u8 5,u8 n.fr,u8 n.to]))→id<nx→Ω 31 [.arr id 0 3 1 3 true] H nx=_:=fun H nx id h1 h2=>iE [u8 5,u8 n.fr,u8 n.to] (by simp) (by simp) id 3 true H nx h1 h2
 simp only [Nte.pv,Nte.cells] at r ⊢
 generalize hz:entP (Ent.row fl) 5 n.ents=z at*
 generalize n.ev.ptr=ep at*
 generalize n.ev.n=en at*
 rw [hk] at r ⊢
 rw [if_neg (by omega),if_neg (by omega),if_neg (by omega),if_neg (by omega),if_neg (by omega),List.append_nil]
 simp only [aW,bu] at g1
 have h20:(3:Int)≤1048576:=by omega
 generalize frame [u8 5,u8 n.fr,u8 n.to]=F at*
 simp [ir9,ssI,↓ssJ,ssU,ssP,appO,gk,hasK,r,wf,wt,ws,w,g1,ce,bb,iC,ak,aa,au,aE,aG,aD,aI,av,aA,aQ,aa,h20,k0,k1]
theorem mq (n:Nte) (fl:Bool) (hk:n.kind=6) (hf:n.Fit) (hr:n.right=true) (H:Heap) (nx:Nat):Ω 9 [.p (n.pv fl)] H nx=some (n.ans,[],[]):=by
 refine ae (ir:=ir9) (by kernel_rfl) 0 ?_
 have r:=fun H nx=>cg n fl (by have:=hf.len;omega) (fun x hx=>by have:=hf.max x hx;omega) (by have:=hf.ev;omega) H nx
 rw [hr] at r
 obtain ⟨⟨f0,f1⟩,⟨t0,t1⟩,⟨s0,s1⟩⟩:=bE hr
 have wf:=aU n.fr f0 (by omega)
 have wt:=aU n.to t0 (by omega)
 have ws:=aU n.seq s0 (by omega)
 have ce:=fun H nx=>cf n.ev (by have:=hf.ev;omega) (by have:=hf.bits;omega) H nx
 have pl:=bM (evBits n.ev)
 have hb:=hf.bits
 have vl:=az n.ses hf.ses
 have vn:=az n.no hf.no
 have e1:(Ev.pv n.ev) = .agg [.s (.int .u64 n.ev.n),n.ev.ptr]:=rfl
 rw [e1] at ce
 have tl:(txt (pack (evBits n.ev))).length≤(pack (evBits n.ev)).length+10:=by
  have:=az (pack (evBits n.ev)).length (by omega)
  rw [txt,List.length_append];omega
 unfold Nte.ans Nte.body Nte.rest
 rw [if_pos hr]
 generalize pack (evBits n.ev)=E at*
 have bb:=bm E
 have kk : ∀ k:Int,0≤k→k<8→IntKind.u8.wrap k=((u8 k).toNat:Int):=fun k h0 h1=>aU k h0 (by omega)
 have k0 : ∀ k,nx<nx+(k+1):=fun k=>by omega
 have k1 : ∀ k m,nx+k<nx+m↔k<m:=fun k m=>by omega
 have w:=kk 6 (by omega) (by omega)
 have hg:n.gift.right=true:=by
  have:=hr
  simp [Nte.right,hk] at this
  exact this.2.2.1.1
 obtain ⟨_,gf,gt,g2,g3,g4,g5⟩:=Gft.right_lt hg
 have hls:=hf.size
 have hlen:=hf.len
 have hsh:=hf.gsh
 have vc:=az n.ents.length (by omega)
 have hgb:n.gift.bytes.length<2^18:=by
  have a1:=az n.gift.no hf.gno
  have a2:=az gf (by omega)
  have a3:=az gt (by omega)
  have a4:=bM (idBits n.gift.sh)
  have a5:=az (pack (idBits n.gift.sh)).length (by omega)
  unfold Gft.bytes
  rw [g2,g3]
  simp [txt]
  omega
 have hl:([u8 6,u8 n.fr,u8 n.to]++n.gift.bytes++txt E++vnum n.ents.length++entB n.ents).length<2^20:=by simp;omega
 have eg:n.gift=⟨n.gift.no,gf,gt,n.gift.sh⟩:=by rw [←g2,←g3]
 have q1 : ∀ (H:Heap) (nx id:Nat),H id=some (.cells (byt [u8 6,u8 n.fr,u8 n.to]))→id<nx→Ω 27 [.arr id 0 3 1 3 true,.p (Gft.pv n.gift)] H nx=some (.p (.sl (bytP ([u8 6,u8 n.fr,u8 n.to]++n.gift.bytes)) ([u8 6,u8 n.fr,u8 n.to]++n.gift.bytes).length 1 false),[],[]):=fun H nx id h1 h2=>by
  have:=tA (.whole' (n:=3) (cp:=3) (ex:=true) (F:=[u8 6,u8 n.fr,u8 n.to]) rfl h1 h2) n.gift.no gf gt n.gift.sh hf.gno g4 g5 (by simp) (by omega)
  rw [←eg] at this
  exact this
 have t1 : ∀ (H:Heap) (nx:Nat),Ω 28 [.p (.sl (bytP ([u8 6,u8 n.fr,u8 n.to]++n.gift.bytes)) ([u8 6,u8 n.fr,u8 n.to]++n.gift.bytes).length 1 false),bstr E] H nx=_:=fun H nx=>eJ (.sl ([u8 6,u8 n.fr,u8 n.to]++n.gift.bytes) false) E (by simp;omega) (by omega)
 have p1 : ∀ (H:Heap) (nx id:Nat),H id=some (.cells (byt ([u8 6,u8 n.fr,u8 n.to]++n.gift.bytes++txt E)))→id<nx→Ω 30 [.arr id 0 ([u8 6,u8 n.fr,u8 n.to]++n.gift.bytes++txt E).length 1 ([u8 6,u8 n.fr,u8 n.to]++n.gift.bytes++txt E).length false,.p (entP (Ent.row fl) 5 n.ents)] H nx=_:=fun H nx id h1 h2=>iq (.whole h1 h2) n.ents fl (by omega) hf.ents (by simp;omega)
 have g1 : ∀ (H:Heap) (nx:Nat),_=_:=fun H nx=>oV ([u8 6,u8 n.fr,u8 n.to]++n.gift.bytes++txt E++vnum n.ents.length++entB n.ents) false (by simp) (by omega) H nx
 simp only [Nte.pv,Nte.cells] at r ⊢
 generalize hz:entP (Ent.row fl) 5 n.ents=z at*
 generalize n.ev.ptr=ep at*
 generalize n.ev.n=en at*
 rw [hk] at r ⊢
 rw [if_neg (by omega),if_neg (by omega),if_neg (by omega),if_pos rfl]
 simp only [←List.append_assoc]
 simp only [aW,bu] at q1
 generalize [u8 6,u8 n.fr,u8 n.to]++n.gift.bytes++txt E++vnum n.ents.length++entB n.ents=P4 at*
 generalize [u8 6,u8 n.fr,u8 n.to]++n.gift.bytes++txt E=P2 at*
 generalize [u8 6,u8 n.fr,u8 n.to]++n.gift.bytes=P1 at*
 have h20:(P4.length:Int)≤1048576:=by omega
 generalize frame P4=F at*
 simp [ir9,ssI,↓ssJ,ssU,ssP,appO,gk,hasK,r,wf,wt,ws,w,q1,t1,p1,g1,ce,bb,iC,ak,aa,au,aE,aG,aD,aI,av,aA,aQ,aa,h20,k0,k1]
theorem mr (n:Nte) (fl:Bool) (hk:n.kind=7) (hf:n.Fit) (hr:n.right=true) (H:Heap) (nx:Nat):Ω 9 [.p (n.pv fl)] H nx=some (n.ans,[],[]):=by
 refine ae (ir:=ir9) (by kernel_rfl) 0 ?_
 have r:=fun H nx=>cg n fl (by have:=hf.len;omega) (fun x hx=>by have:=hf.max x hx;omega) (by have:=hf.ev;omega) H nx
 rw [hr] at r
 obtain ⟨⟨f0,f1⟩,⟨t0,t1⟩,⟨s0,s1⟩⟩:=bE hr
 have wf:=aU n.fr f0 (by omega)
 have wt:=aU n.to t0 (by omega)
 have ws:=aU n.seq s0 (by omega)
 have ce:=fun H nx=>cf n.ev (by have:=hf.ev;omega) (by have:=hf.bits;omega) H nx
 have pl:=bM (evBits n.ev)
 have hb:=hf.bits
 have vl:=az n.ses hf.ses
 have vn:=az n.no hf.no
 have e1:(Ev.pv n.ev) = .agg [.s (.int .u64 n.ev.n),n.ev.ptr]:=rfl
 rw [e1] at ce
 have tl:(txt (pack (evBits n.ev))).length≤(pack (evBits n.ev)).length+10:=by
  have:=az (pack (evBits n.ev)).length (by omega)
  rw [txt,List.length_append];omega
 unfold Nte.ans Nte.body Nte.rest
 rw [if_pos hr]
 generalize pack (evBits n.ev)=E at*
 have bb:=bm E
 have kk : ∀ k:Int,0≤k→k<8→IntKind.u8.wrap k=((u8 k).toNat:Int):=fun k h0 h1=>aU k h0 (by omega)
 have k0 : ∀ k,nx<nx+(k+1):=fun k=>by omega
 have k1 : ∀ k m,nx+k<nx+m↔k<m:=fun k m=>by omega
 have w:=kk 7 (by omega) (by omega)
 have hl:([u8 7,u8 n.fr,u8 n.to]++vnum n.no).length<2^20:=by simp;omega
 have n1 : ∀ (H:Heap) (nx id:Nat),H id=some (.cells (byt [u8 7,u8 n.fr,u8 n.to]))→id<nx→Ω 26 [.arr id 0 3 1 3 true,.int .u64 n.no] H nx=_:=fun H nx id h1 h2=>ed (.whole' (F:=[u8 7,u8 n.fr,u8 n.to]) rfl h1 h2) n.no hf.no (by simp)
 have g1 : ∀ (H:Heap) (nx id:Nat),H id=some (.cells (byt ([u8 7,u8 n.fr,u8 n.to]++vnum n.no)))→id<nx→Ω 31 [.arr id 0 ([u8 7,u8 n.fr,u8 n.to]++vnum n.no).length 1 ([u8 7,u8 n.fr,u8 n.to]++vnum n.no).length false] H nx=_:=fun H nx id h1 h2=>iE _ (by simp) (by omega) id _ _ H nx h1 h2
 simp only [Nte.pv,Nte.cells] at r ⊢
 generalize hz:entP (Ent.row fl) 5 n.ents=z at*
 generalize n.ev.ptr=ep at*
 generalize n.ev.n=en at*
 rw [hk] at r ⊢
 rw [if_neg (by omega),if_neg (by omega),if_neg (by omega),if_neg (by omega),if_pos rfl]
 simp only [aW,bu] at n1
 generalize [u8 7,u8 n.fr,u8 n.to]++vnum n.no=P2 at*
 have h20:(P2.length:Int)≤1048576:=by omega
 generalize frame P2=F at*
 simp [ir9,ssI,↓ssJ,ssU,ssP,appO,gk,hasK,r,wf,wt,ws,w,n1,g1,ce,bb,iC,ak,aa,au,aE,aG,aD,aI,av,aA,aQ,aa,h20,k0,k1]
theorem kG (n:Nte) (fl:Bool) (hL:n.ents.length<2^31) (hx : ∀ x∈n.ents,x.v.ev.max<2^63) (hev:n.ev.max<2^63) (hr:n.right=false) (H:Heap) (nx:Nat):Ω 9 [.p (n.pv fl)] H nx=some (n.ans,[],[]):=by
 refine ae (ir:=ir9) (by kernel_rfl) 0 ?_
 have r:=fun H nx=>cg n fl hL hx hev H nx
 rw [hr] at r
 unfold Nte.ans
 rw [hr]
 simp only [Nte.pv,Nte.cells] at r ⊢
 generalize entP (Ent.row fl) 5 n.ents=z at*
 simp [ir9,ssI,↓ssJ,ssU,ssP,appO,r]
theorem n5 {n:Nte} (h:n.right=true):n.kind=1∨n.kind=2∨n.kind=3∨n.kind=4∨n.kind=5∨n.kind=6∨n.kind=7:=by
 have h0:0≤hasK n.kind:=by
  simp only [Nte.right,Bool.and_eq_true,decide_eq_true_eq] at h
  exact h.1.1.1.1
 unfold hasK at h0
 omega
theorem nJ (n:Nte) (fl:Bool) (hf:n.Fit) (H:Heap) (nx:Nat):Ω 9 [.p (n.pv fl)] H nx=some (n.ans,[],[]):=by
 cases hr:n.right with
 | false=>exact kG n fl (by have:=hf.len;omega) (fun x hx=>by have:=hf.max x hx;omega) (by have:=hf.ev;omega) hr H nx
 | true=>
  rcases n5 hr with h|h|h|h|h|h|h
  ·exact gr n fl 1 h (.inl rfl) hf hr H nx
  ·exact gr n fl 2 h (.inr rfl) hf hr H nx
  ·exact mj n fl h hf hr H nx
  ·exact mo n fl h hf hr H nx
  ·exact mp n fl h hf hr H nx
  ·exact mq n fl h hf hr H nx
  ·exact mr n fl h hf hr H nx
end Go.Proofs.YtppeggedcaabkaaGreatDoor
end

section
namespace Go.Proofs.YtppeggedcaabkaaGreatDoor
open Go Go.Sx
end Go.Proofs.YtppeggedcaabkaaGreatDoor
end

section
namespace Go.Proofs.YtppeggedcaabkaaGreatDoor
open Go Go.Sx
theorem fD : ∀ (e:Ev),(evBits e).length+140≤280*2^e.depth
 | .leaf n=>by
  have:=ip 62 n 2
  simp [evBits,aj,Ev.depth];omega
 | .node n l r=>by
  have h1:=fD l
  have h2:=fD r
  have h3:=ip 62 n 2
  have h4:=(nr n (decide (l = .leaf 0)) (decide (r = .leaf 0))).2
  have hd:(Ev.node n l r).depth=1+Max.max l.depth r.depth:=rfl
  have p1:2^l.depth≤2^Max.max l.depth r.depth:=Nat.pow_le_pow_right (by omega) (Nat.le_max_left _ _)
  have p2:2^r.depth≤2^Max.max l.depth r.depth:=Nat.pow_le_pow_right (by omega) (Nat.le_max_right _ _)
  have p3:2^(1+Max.max l.depth r.depth)=2*2^Max.max l.depth r.depth:=by rw [Nat.add_comm,Nat.pow_succ,Nat.mul_comm]
  rw [hd,p3]
  unfold evBits
  simp only [List.length_append,aj]
  have q1:(if n=0 then [] else numBits n 2 62).length≤127:=by
   by_cases q:n=0
   ·rw [if_pos q];exact Nat.zero_le _
   ·rw [if_neg q];omega
  have q2:(if l = .leaf 0 then [] else evBits l).length≤(evBits l).length:=by split<;>simp
  have q3:(if r = .leaf 0 then [] else evBits r).length≤(evBits r).length:=by split<;>simp
  omega
theorem fH : ∀ (i:Id),(idBits i).length+3≤6*2^i.depth
 | .zero=>by simp [idBits,aj,Id.depth]
 | .one=>by simp [idBits,aj,Id.depth]
 | .node l r=>by
  have h1:=fH l
  have h2:=fH r
  have hd:(Id.node l r).depth=1+Max.max l.depth r.depth:=rfl
  have p1:2^l.depth≤2^Max.max l.depth r.depth:=Nat.pow_le_pow_right (by omega) (Nat.le_max_left _ _)
  have p2:2^r.depth≤2^Max.max l.depth r.depth:=Nat.pow_le_pow_right (by omega) (Nat.le_max_right _ _)
  have p3:2^(1+Max.max l.depth r.depth)=2*2^Max.max l.depth r.depth:=by rw [Nat.add_comm,Nat.pow_succ,Nat.mul_comm]
  rw [hd,p3]
  unfold idBits
  split
  ·simp [aj];omega
  ·split<;>simp [aj]<;>omega
def cutB (k:Nat) (x:Option (List UInt8)):Option (List UInt8):=x.map (List.take k)
theorem rg (fl:Bool) (x:Option (List UInt8)):(x=none∧obP fl x = .s (.slice none 0 0))∨∃ l,x=some l∧obP fl x = .sl (bytP l) l.length 1 fl:=by
 cases x with
 | none=>exact .inl ⟨rfl,rfl⟩
 | some l=>exact .inr ⟨l,rfl,rfl⟩
abbrev annF:PV:=.agg [.s (.int .i64 1),.s (.string ⟨#[]⟩),.s (.string ⟨#[65,110,110]⟩)]
def shl (x:Option (List UInt8)):Prop:=∀ l,x=some l→l.length<2^63
theorem mH (x:Option (List UInt8)) (fl gone:Bool) (hx:shl x) (H:Heap) (nx:Nat) (hR : ∀ H,Ω 68 [.p annF] H (nx+2)=some (.int .i64 0,[],[])):
  Ω 23 [.p (obP fl x),.str ⟨#[65,110,110]⟩,.bool gone] H nx=some (.p (.agg [(mkEv 4 (cutB 40 x)).1.rv,crd (!gone) true,.s (.bool gone)]),[],[]):=by
 refine ae (ir:=ir23) (by kernel_rfl) 0 ?_
 have h1:short (cutB 40 x):=by
  intro l hl
  cases x with
  | none=>cases hl
  | some y=>simp [cutB] at hl;rw [←hl];have:=hx y rfl;simp;omega
 have m:=fun fl H nx=>iI 4 (cutB 40 x) fl (by omega) h1 H nx
 obtain ⟨es,hE⟩:=Ev.rv_imm (mkEv 4 (cutB 40 x)).1
 rw [hE]
 simp only [hE] at m
 have c4:((4:Nat):Int)=4:=rfl
 simp only [c4] at m
 cases gone
 all_goals
  rcases rg fl x with ⟨rfl,e⟩|⟨l,rfl,e⟩
  ·rw [e]
   have m1:=m false
   simp only [cutB,Option.map_none,cH] at m1
   simp +contextual (maxSteps:=1000000) [ir23,ssI,↓ssJ,ssU,ssP,appO,m1,hR,eh,ef]
  ·rw [e]
   by_cases hl:l.length≤40
   ·have m1:=m fl
    have hc:cutB 40 (some l)=some l:=by simp [cutB,List.take_of_length_le hl]
    rw [hc,bU] at m1
    have g1:(l.length:Int)≤40:=by omega
    simp +contextual (maxSteps:=1000000) [ir23,ssI,↓ssJ,ssU,ssP,appO,m1,hR,eh,ef,g1]
   ·have m1:=m false
    simp only [cutB,Option.map_some,bU] at m1
    have g1 : ¬(l.length:Int)≤40:=by omega
    have g2:(l.take 40).length=40:=by simp;omega
    have g3:bytP (l.take 40)=(bytP l).take 40:=by simp [bytP]
    have g4:40≤l.length:=by omega
    have g5 : ¬40=l.length:=by omega
    have g6:(40==l.length)=false:=by simpa using g5
    have g7 : ¬l.length=40:=by omega
    rw [g2,g3] at m1
    simp +contextual (maxSteps:=1000000) [ir23,ssI,↓ssJ,ssU,ssP,appO,m1,hR,eh,ef,g1,g4,g5,g6,g7,aa]
end Go.Proofs.YtppeggedcaabkaaGreatDoor
end

section
namespace Go.Proofs.YtppeggedcaabkaaGreatDoor
open Go Go.Sx
theorem xo (H:Heap) (nx:Nat):Ω 68 [.p annF] H nx=some (.int .i64 0,[],[]):=by
 have h:Ψ 68 [.p annF] []=some (.int .i64 0):=cz (n:=20) (by kernel_rfl)
 simp [ssL,↓ssM,ao,ssU,ssR,h]
theorem xp (H:Heap):Ω 68 [.p annF] H 8=some (.int .i64 0,[],[]):=xo H 8
theorem wh (H:Heap):Ω 68 [.p annF] H 10=some (.int .i64 0,[],[]):=xo H 10
theorem xi (H:Heap) (nx:Nat):Ω 24 [.p (.sl ann 1 3 true)] H nx=some (.tuple [.p (.agg [.sl ann 1 3 false]),.int .i64 0],[],[]):=by
 have h:Ψ 24 [.p (.sl ann 1 3 true)] []=some (.tuple [.p (.agg [.sl ann 1 3 false]),.int .i64 0]):=cz (n:=40) (by kernel_rfl)
 simp [ssL,↓ssM,ao,ssU,ssR,h]
theorem xj (H:Heap):Ω 24 [.p (.sl ann 1 3 true)] H 6=some (.tuple [.p (.agg [.sl ann 1 3 false]),.int .i64 0],[],[]):=xi H 6
theorem xk (H:Heap):Ω 24 [.p (.sl ann 1 3 true)] H 8=some (.tuple [.p (.agg [.sl ann 1 3 false]),.int .i64 0],[],[]):=xi H 8
theorem noC (H:Heap) (nx:Nat):Ω 24 [.p (.s (.slice none 0 0))] H nx=some (.tuple [.p (.agg [.s (.slice none 0 0)]),.int .i64 0],[],[]):=by
 have h:Ψ 24 [.p (.s (.slice none 0 0))] []=some (.tuple [.p (.agg [.s (.slice none 0 0)]),.int .i64 0]):=cz (n:=40) (by kernel_rfl)
 simp [ssL,↓ssM,ao,ssU,ssR,h]
theorem yv (H:Heap):Ω 24 [.p (.s (.slice none 0 0))] H 8=some (.tuple [.p (.agg [.s (.slice none 0 0)]),.int .i64 0],[],[]):=noC H 8
theorem t7 (H:Heap):Ω 7 [] H 1=some (.bool true,[],[]):=nM (n:=60) (by kernel_rfl)
end Go.Proofs.YtppeggedcaabkaaGreatDoor
end

section
namespace Go.Proofs.YtppeggedcaabkaaGreatDoor
open Go Go.Sx
structure Drw where
 kind:Int
 fr:Int
 to:Int
 ses:Nat
 no:Nat
 seq:Int
 last:Bool
 plain:Bool
 tree:Option (List UInt8)
 share:Option (List UInt8)
 ids:PV
 trees:PV
abbrev Drw.cells (d:Drw):List PV:=[.s (.int .i64 d.kind),.s (.int .i64 d.fr),.s (.int .i64 d.to),.s (.int .u64 d.ses),.s (.int .u64 d.no),.s (.int .i64 d.seq),.s (.bool d.last),.s (.bool d.plain),obP false d.tree,obP false d.share,d.ids,d.trees]
def Drw.made (d:Drw):Drw:=if d.plain=true then
  { d with ses:=if 4<d.kind∨d.kind<1 then 0 else d.ses,seq:=if d.kind=3∨d.kind=4 then d.seq else 0,last:=d.last&&decide (d.kind=3),tree:=if d.kind=4∨d.kind=5∨d.kind=7 then none else d.tree,trees:=if d.kind=3∨d.kind=6 then d.trees else .s (.slice none 0 0) }
 else d
section
variable {H:Heap} {nx:Nat} (N:Nat) (d:Drw) (A B:Ob)
set_option maxHeartbeats 2000000 in
theorem uT (v2 v3:LV):runCS ⟨Ω,noG,H,nx⟩ N (.seq (stC 1 ir8.body) (stC 2 ir8.body)) ⟨[(1,.ref nx 0),(2,v2),(3,v3)],⟨[],[some (.cells (pc d.cells)),A,B]⟩⟩=
  some (.normal,⟨[(1,.ref nx 0),(2,v2),(3,v3),(4,.ref (nx+3) 0)],⟨[],[some (.cells (pc d.made.cells)),A,B,some (.cells (pc (Nte.rcells false ⟨d.kind,d.fr,d.to,0,0,false,.leaf 0,[],⟨0,0,0,.zero⟩,0⟩)))]⟩⟩):=by
 obtain ⟨k,f,t,ses,no,sq,last,plain,tr,sh,ids,trs⟩:=d
 have nw:=fun H nx=>xW k f t H nx
 simp only [Nte.rv,Nte.rcells,Ev.rv_l,Id.rv_z] at nw
 simp only [Drw.cells,Drw.made,Nte.rcells,aN,bf,Ev.rv_l,Id.rv_z]
 cases plain with
 | false=>
  simp +contextual (maxSteps:=1000000) [ir8,stC,ssI,↓ssJ,ssU,ssP,appO,nw,entP,cH]
 | true=>
  by_cases h1:k=1
  ·subst h1
   simp +contextual (maxSteps:=1000000) [ir8,stC,ssI,↓ssJ,ssU,ssP,appO,nw,entP,cH]
  by_cases h2:k=2
  ·subst h2
   simp +contextual (maxSteps:=1000000) [ir8,stC,ssI,↓ssJ,ssU,ssP,appO,nw,entP,cH]
  by_cases h3:k=3
  ·subst h3
   simp +contextual (maxSteps:=1000000) [ir8,stC,ssI,↓ssJ,ssU,ssP,appO,nw,entP,cH]
  by_cases h4:k=4
  ·subst h4
   simp +contextual (maxSteps:=1000000) [ir8,stC,ssI,↓ssJ,ssU,ssP,appO,nw,entP,cH]
  by_cases h5:k=5
  ·subst h5
   simp +contextual (maxSteps:=1000000) [ir8,stC,ssI,↓ssJ,ssU,ssP,appO,nw,entP,cH]
  by_cases h6:k=6
  ·subst h6
   simp +contextual (maxSteps:=1000000) [ir8,stC,ssI,↓ssJ,ssU,ssP,appO,nw,entP,cH]
  by_cases h7:k=7
  ·subst h7
   simp +contextual (maxSteps:=1000000) [ir8,stC,ssI,↓ssJ,ssU,ssP,appO,nw,entP,cH]
  by_cases h8:k<1
  ·have a1:k≤4:=by omega
   have a2 : ¬1≤k:=by omega
   simp +contextual (maxSteps:=1000000) [ir8,stC,ssI,↓ssJ,ssU,ssP,appO,nw,entP,cH,h1,h2,h3,h4,h5,h6,h7,h8,a1,a2]
  ·have a1 : ¬k≤4:=by omega
   have a2:1≤k:=by omega
   have a3:4<k:=by omega
   simp +contextual (maxSteps:=1000000) [ir8,stC,ssI,↓ssJ,ssU,ssP,appO,nw,entP,cH,h1,h2,h3,h4,h5,h6,h7,h8,a1,a2,a3]
abbrev Drw.ev (d:Drw):Ev:=(mkEv 4 (cutB 30 d.tree)).1
abbrev Drw.note0 (d:Drw):Nte:=⟨d.kind,d.fr,d.to,d.ses,d.seq,d.last,d.ev,[],⟨0,0,0,.zero⟩,0⟩
theorem gX (x:Option (List UInt8)) (H:Heap) (nx:Nat):Ω 20 [.p (mkEv 4 x).1.rv] H nx=some (.p (mkEv 4 x).1.pv,[],[]):=by
 obtain ⟨a,b,c⟩:=bK 4 x
 exact tT _ a (by omega) (by omega) H nx
theorem gU (k:Nat) (hk:k<100) (x:Option (List UInt8)) (hx:shl x):(x=none∧cutB k x=none)∨(∃ l,x=some l∧l.length≤k∧cutB k x=some l)∨(∃ l,x=some l∧¬l.length≤k∧cutB k x=some (l.take k)∧(l.take k).length=k∧bytP (l.take k)=(bytP l).take k):=by
 cases x with
 | none=>exact .inl ⟨rfl,rfl⟩
 | some l=>
  by_cases h:l.length≤k
  ·exact .inr (.inl ⟨l,rfl,h,by simp [cutB,List.take_of_length_le h]⟩)
  ·exact .inr (.inr ⟨l,rfl,h,rfl,by simp;omega,by simp [bytP]⟩)
set_option maxHeartbeats 1000000 in
theorem sU (v2 v3:LV) (hx:shl d.tree):runCS ⟨Ω,noG,H,nx⟩ N (.seq (stC 3 ir8.body) (.seq (stC 4 ir8.body) (stC 5 ir8.body)))
   ⟨[(1,.ref nx 0),(2,v2),(3,v3),(4,.ref (nx+3) 0)],⟨[],[some (.cells (pc d.cells)),A,B,some (.cells (pc (Nte.rcells false ⟨d.kind,d.fr,d.to,0,0,false,.leaf 0,[],⟨0,0,0,.zero⟩,0⟩)))]⟩⟩=
  some (.normal,⟨[(1,.ref nx 0),(2,v2),(3,v3),(4,.ref (nx+3) 0),(5,.ref (nx+4) 0)],⟨[],[some (.cells (pc d.cells)),A,B,some (.cells (pc (d.note0.rcells false))),some (.cells (pc (d.note0.cells false)))]⟩⟩):=by
 obtain ⟨k,f,t,ses,no,sq,last,plain,tr,sh,ids,trs⟩:=d
 have h1:short (cutB 30 tr):=by
  intro l hl
  cases tr with
  | none=>cases hl
  | some y=>simp [cutB] at hl;rw [←hl];have:=hx y rfl;simp;omega
 have m:=fun fl H nx=>iI 4 (cutB 30 tr) fl (by omega) h1 H nx
 have tre:=fun H nx=>gX (cutB 30 tr) H nx
 have c4:((4:Nat):Int)=4:=rfl
 simp only [Drw.cells,Nte.rcells,Nte.cells,Drw.ev,aN,bf,Ev.rv_l,Id.rv_z,Id.all_z,Id.ptr_z]
 generalize hE2:(mkEv 4 (cutB 30 tr)).2=E2 at*
 generalize hE:(mkEv 4 (cutB 30 tr)).1=E at*
 obtain ⟨es,he⟩:=Ev.rv_imm E
 have hp:E.pv = .agg [.s (.int .u64 E.n),E.ptr]:=rfl
 rw [hp] at tre
 rw [he] at tre ⊢
 simp only [he,c4] at m
 rcases gU 30 (by omega) tr hx with ⟨rfl,e1⟩|⟨l,rfl,e0,e1⟩|⟨l,rfl,e0,e1,e2,e3⟩
 ·rw [e1] at m
  have m1:=m false
  rw [cH] at m1
  simp +contextual (maxSteps:=1000000) [ir8,stC,ssI,↓ssJ,ssU,ssP,appO,m1,tre,entP,cH]
 ·rw [e1] at m
  have m1:=m false
  rw [bU] at m1
  have g1 : ¬(30:Int)<l.length:=by omega
  have g2:=bR l
  simp +contextual (maxSteps:=1000000) [ir8,stC,ssI,↓ssJ,ssU,ssP,appO,m1,tre,entP,bU,g1,g2,aa]
 ·rw [e1] at m
  have m1:=m false
  rw [bU,e2,e3] at m1
  have g1:(30:Int)<l.length:=by omega
  have g4:30≤l.length:=by omega
  simp +contextual (maxSteps:=1000000) [ir8,stC,ssI,↓ssJ,ssU,ssP,appO,m1,tre,entP,bU,g1,g4,aa]
end
end Go.Proofs.YtppeggedcaabkaaGreatDoor
end

section
namespace Go.Proofs.YtppeggedcaabkaaGreatDoor
open Go Go.Sx
abbrev Drw.sh (d:Drw):Id:=(mkId 4 (cutB 20 d.share)).1
abbrev Drw.no1 (d:Drw):Nat:=if d.plain=false∨d.kind=7 then d.no else 0
abbrev Drw.gift1 (d:Drw):Gft:=if d.plain=false∨d.kind=6 then ⟨d.no,d.fr,d.to,d.sh⟩ else ⟨0,0,0,.zero⟩
abbrev Drw.note (d:Drw) (L:List Ent):Nte:=⟨d.kind,d.fr,d.to,d.ses,d.seq,d.last,d.ev,L,d.gift1,d.no1⟩
theorem nI (x:Option (List UInt8)) (H:Heap) (nx:Nat):Ω 22 [.p (mkId 4 x).1.rv] H nx=some (.p (mkId 4 x).1.pv,[],[]):=by
 obtain ⟨a,b⟩:=fb 4 x
 exact n9 _ a (by omega) H nx
def Lst (n:Nat) (x:PV):Prop:=(x = .s (.slice none 0 0)∧n=0)∨∃ ts,x = .sl ts n 1 false
section
variable {H:Heap} {nx:Nat} (N:Nat) (d:Drw) (A B:Ob)
set_option maxHeartbeats 4000000 in
theorem uU (v2 v3:LV) (hx:shl d.share) (n:Nat) (ht:Lst n d.trees):runCS ⟨Ω,noG,H,nx⟩ N (.seq (stC 6 ir8.body) (.seq (stC 7 ir8.body) (hdC (stC 8 ir8.body))))
   ⟨[(1,.ref nx 0),(2,v2),(3,v3),(4,.ref (nx+3) 0),(5,.ref (nx+4) 0)],⟨[],[some (.cells (pc d.cells)),A,B,some (.cells (pc (d.note0.rcells false))),some (.cells (pc (d.note0.cells false)))]⟩⟩=
  some (.normal,⟨[(1,.ref nx 0),(2,v2),(3,v3),(4,.ref (nx+3) 0),(5,.ref (nx+4) 0),(162,.p d.trees),(163,.int .i64 n),(164,.int .i64 0)],⟨[],[some (.cells (pc d.cells)),A,B,some (.cells (pc ((d.note []).rcells false))),some (.cells (pc ((d.note []).cells false)))]⟩⟩):=by
 obtain ⟨k,f,t,ses,no,sq,last,plain,tr,sh,ids,trs⟩:=d
 have h1:short (cutB 20 sh):=by
  intro l hl
  cases sh with
  | none=>cases hl
  | some y=>simp [cutB] at hl;rw [←hl];have:=hx y rfl;simp;omega
 have m:=fun fl H nx=>nV 4 (cutB 20 sh) fl (by omega) h1 H nx
 have shr:=fun H nx=>nI (cutB 20 sh) H nx
 have c4:((4:Nat):Int)=4:=rfl
 simp only [Drw.cells,Nte.rcells,Nte.cells,Drw.ev,Drw.gift1,Drw.no1,Drw.sh,aN,bf,Id.rv_z,Id.all_z,Id.ptr_z]
 generalize (mkEv 4 (cutB 30 tr)).1=E at*
 generalize hE2:(mkId 4 (cutB 20 sh)).2=E2 at*
 generalize hE:(mkId 4 (cutB 20 sh)).1=S at*
 obtain ⟨a1,b1,he⟩:=Id.rv_imm S
 have hp:S.pv = .agg [.s (.bool S.all),S.ptr]:=rfl
 rw [hp] at shr
 rw [he] at shr
 simp only [he,c4] at m
 have key : ∀ (q:Bool),(q=decide (k=6)∨plain=false)→True:=fun _ _=>trivial
 rcases ht with ⟨e,e'⟩|⟨ts,e⟩
 all_goals
  simp only at e
  subst e
  try subst e'
  cases plain with
  | true=>
   by_cases h6:k=6
   ·subst h6
    rcases gU 20 (by omega) sh hx with ⟨rfl,e1⟩|⟨l,rfl,e0,e1⟩|⟨l,rfl,e0,e1,e2,e3⟩
    ·have m1:=m false
     rw [e1,cH] at m1
     simp +contextual (maxSteps:=1000000) [ir8,stC,hdC,ssI,↓ssJ,ssU,ssP,appO,m1,shr,he,entP,cH]
    ·have m1:=m false
     rw [e1,bU] at m1
     have g1 : ¬(20:Int)<l.length:=by omega
     have g2:=bR l
     simp +contextual (maxSteps:=1000000) [ir8,stC,hdC,ssI,↓ssJ,ssU,ssP,appO,m1,shr,he,entP,bU,g1,g2,aa]
    ·have m1:=m false
     rw [e1,bU,e2,e3] at m1
     have g1:(20:Int)<l.length:=by omega
     have g4:20≤l.length:=by omega
     simp +contextual (maxSteps:=1000000) [ir8,stC,hdC,ssI,↓ssJ,ssU,ssP,appO,m1,shr,he,entP,bU,g1,g4,aa]
   ·by_cases h7:k=7
    ·subst h7
     simp +contextual (maxSteps:=1000000) [ir8,stC,hdC,ssI,↓ssJ,ssU,ssP,appO,entP,Id.rv_z,Id.all_z,Id.ptr_z]
    ·simp +contextual (maxSteps:=1000000) [ir8,stC,hdC,ssI,↓ssJ,ssU,ssP,appO,entP,h6,h7,Id.rv_z,Id.all_z,Id.ptr_z]
  | false=>
   rcases gU 20 (by omega) sh hx with ⟨rfl,e1⟩|⟨l,rfl,e0,e1⟩|⟨l,rfl,e0,e1,e2,e3⟩
   ·have m1:=m false
    rw [e1,cH] at m1
    simp +contextual (maxSteps:=1000000) [ir8,stC,hdC,ssI,↓ssJ,ssU,ssP,appO,m1,shr,he,entP,cH]
   ·have m1:=m false
    rw [e1,bU] at m1
    have g1 : ¬(20:Int)<l.length:=by omega
    have g2:=bR l
    simp +contextual (maxSteps:=1000000) [ir8,stC,hdC,ssI,↓ssJ,ssU,ssP,appO,m1,shr,he,entP,bU,g1,g2,aa]
   ·have m1:=m false
    rw [e1,bU,e2,e3] at m1
    have g1:(20:Int)<l.length:=by omega
    have g4:20≤l.length:=by omega
    simp +contextual (maxSteps:=1000000) [ir8,stC,hdC,ssI,↓ssJ,ssU,ssP,appO,m1,shr,he,entP,bU,g1,g4,aa]
end
end Go.Proofs.YtppeggedcaabkaaGreatDoor
end

section
namespace Go.Proofs.YtppeggedcaabkaaGreatDoor
open Go Go.Sx
theorem j7 (nx:Nat) (s:List Nat) (l:List PV) (m:List LV):ren.go nx s (pc l++m)=match ren.go nx s m with
  | some r=>some (pc l++r)
  | none=>none:=by
 induction l with
 | nil=>rw [bf,List.nil_append];cases ren.go nx s m<;>rfl
 | cons x l ih=>rw [aN,List.cons_append,ren.go,ih];cases ren.go nx s m<;>rfl
abbrev ncl (n:Nte) (y:LV):List LV:=[.int .i64 n.kind,.int .i64 n.fr,.int .i64 n.to,.int .u64 n.ses,.int .i64 n.seq,.bool n.last,.int .u64 n.ev.n,.p n.ev.ptr,y,
 .int .u64 n.gift.no,.int .i64 n.gift.fr,.int .i64 n.gift.to,.bool n.gift.sh.all,.p n.gift.sh.ptr,.int .u64 n.no]
abbrev rcl (n:Nte) (y:LV):List LV:=[.int .i64 n.kind,.int .i64 n.fr,.int .i64 n.to,.int .u64 n.ses,.int .i64 n.seq,.bool n.last,.p n.ev.rv,y,
 .int .u64 n.gift.no,.int .i64 n.gift.fr,.int .i64 n.gift.to,.p n.gift.sh.rv,.int .u64 n.no,.p (.s (.slice none 0 0))]
section
variable {H:Heap} {nx:Nat} (N:Nat) (d:Drw) (zA zB:List PV) (w:Nte)
abbrev mEnv (nx k:Nat) (d:Drw) (n j:Nat):Env:=[(1,.ref nx 0),(2,.ref (nx+1) 0),(3,.ref (nx+2) 0),(4,.ref (nx+3) 0),(5,.ref (nx+k) 0),(162,.p d.trees),(163,.int .i64 n),(164,.int .i64 j)]
abbrev mT0 (nx:Nat) (d:Drw) (zA zB:List PV) (w:Nte) (n:Nat):St:=⟨mEnv nx 4 d n 0,⟨[],[some (.cells (pc d.cells)),some (.cells (pc zA)),some (.cells (pc zB)),some (.cells (rcl w (.p (.s (.slice none 0 0))))),some (.cells (ncl w (.p (.s (.slice none 0 0)))))]⟩⟩
abbrev mT1 (nx:Nat) (d:Drw) (zA zB:List PV) (w:Nte) (n j:Nat) (X Y:List LV):St:=⟨mEnv nx 5 d n j,⟨[],[some (.cells (pc d.cells)),some (.cells (pc zA)),some (.cells (pc zB)),some (.cells (rcl w (.arr (nx+4) 0 j 4 j false))),some (.cells X),some (.cells (ncl w (.arr (nx+6) 0 j 5 j false))),some (.cells Y)]⟩⟩
structure Here (nx:Nat) (d:Drw) (n j:Nat) (t:Option (List UInt8)) (i:Nat):Prop where
 ts : ∃ ts,d.trees = .sl ts n 1 false∧ts[j]?=some (obP false t)
 is : ∃ is m,d.ids = .sl is m 1 false∧is[j]?=some (.s (.int .u32 i))∧j<m
 lt:j<n
 seven:j<7
 sh:shl t
 big:n<2^63
set_option maxHeartbeats 4000000 in
theorem nG (n:Nat) (t:Option (List UInt8)) (i:Nat) (h:Here nx d n 0 t i) (hR : ∀ H,Ω 68 [.p annF] H (nx+7)=some (.int .i64 0,[],[]))
  (hC : ∀ H,Ω 24 [.p (.sl ann 1 3 true)] H (nx+5)=some (.tuple [.p (.agg [.sl ann 1 3 false]),.int .i64 0],[],[])):
  runCS ⟨Ω,noG,H,nx⟩ N (.seq (tlC ir8_0) (hdC ir8_0)) (mT0 nx d zA zB w n)=
   some (.normal,mT1 nx d zA zB w n 1 (pc (Ent.rrow true ⟨i,⟨(mkEv 4 (cutB 40 t)).1,true,false⟩⟩)) (pc (Ent.row false ⟨i,⟨(mkEv 4 (cutB 40 t)).1,true,false⟩⟩))):=by
 obtain ⟨⟨ts,e1,e2⟩,⟨is,m,e3,e4,e5⟩,e6,e7,e8,e9⟩:=h
 have mk:=fun H=>mH t false false e8 H (nx+5) hR
 have tre:=fun H nx=>gX (cutB 40 t) H nx
 simp only [mT0,mT1,mEnv,Drw.cells,ncl,rcl,e1,e3,aN,bf,eh,ef,Bool.not_false,Ent.row,Ent.rrow] at mk ⊢
 generalize (mkEv 4 (cutB 40 t)).1=E at*
 obtain ⟨es,he⟩:=Ev.rv_imm E
 have hp:E.pv = .agg [.s (.int .u64 E.n),E.ptr]:=rfl
 rw [hp] at tre
 rw [he] at tre mk ⊢
 have g0 : ¬n=0:=by omega
 have g1:0<n:=by omega
 have g2 : ¬m=0:=by omega
 have g3:0<m:=by omega
 have rm:binI .rem .i64 0 3=some (.int .i64 0):=rfl
 simp +contextual (maxSteps:=1000000) [ir8_0,hdC,tlC,ssI,↓ssJ,ssU,ssP,appO,e2,e4,e7,g0,g1,g2,g3,mk,tre,hC,rm,eo,eu]
 rfl
set_option maxHeartbeats 4000000 in
theorem nH (n j:Nat) (t:Option (List UInt8)) (i:Nat) (hj:0<j) (X Y:List PV) (hX:X.length=j*4) (hY:Y.length=j*5) (h:Here nx d n j t i) (hR : ∀ H,Ω 68 [.p annF] H (nx+9)=some (.int .i64 0,[],[]))
  (hC : ∀ H,Ω 24 [.p (.sl ann 1 3 true)] H (nx+7)=some (.tuple [.p (.agg [.sl ann 1 3 false]),.int .i64 0],[],[]))
  (hD : ∀ H,Ω 24 [.p (.s (.slice none 0 0))] H (nx+7)=some (.tuple [.p (.agg [.s (.slice none 0 0)]),.int .i64 0],[],[])):
  runCS ⟨Ω,noG,H,nx⟩ N (.seq (tlC ir8_0) (hdC ir8_0)) (mT1 nx d zA zB w n j (pc X) (pc Y))=
   some (.normal,mT1 nx d zA zB w n (j+1) (pc X++pc (Ent.rrow true ⟨i,⟨(mkEv 4 (cutB 40 t)).1,!decide (j%3=2),decide (j%3=2)⟩⟩)) (pc Y++pc (Ent.row false ⟨i,⟨(mkEv 4 (cutB 40 t)).1,!decide (j%3=2),decide (j%3=2)⟩⟩))):=by
 obtain ⟨⟨ts,e1,e2⟩,⟨is,m,e3,e4,e5⟩,e6,e7,e8,e9⟩:=h
 have mk:=fun gone H=>mH t false gone e8 H (nx+7) hR
 have tre:=fun H nx=>gX (cutB 40 t) H nx
 simp only [mT1,mEnv,Drw.cells,ncl,rcl,e1,e3,aN,bf,Ent.row,Ent.rrow]
 generalize (mkEv 4 (cutB 40 t)).1=E at*
 obtain ⟨es,he⟩:=Ev.rv_imm E
 have hp:E.pv = .agg [.s (.int .u64 E.n),E.ptr]:=rfl
 rw [hp] at tre
 rw [he] at tre ⊢
 simp only [he] at mk
 have g0 : ¬n≤j:=by omega
 have g1 : ¬m≤j:=by omega
 have g2 : ¬7≤j:=by omega
 have g3 : ¬(7:Int)≤j:=by omega
 have q1 : ¬1099511627776<(j+1)*56:=by omega
 have q2 : ¬1099511627776<(j+1)*48:=by omega
 have rm:binI .rem .i64 j 3=some (.int .i64 (j%3:Nat)):=by
  have:binI .rem .i64 (j:Int) 3=some (.int .i64 ((j:Int).tmod 3)):=by simp [binI]
  rw [this,Int.tmod_eq_emod_of_nonneg (by omega)]
  norm_cast
 have w1:IntKind.i64.wrap ((j:Int)+1)=(j:Int)+1:=am _ (by omega) (by omega)
 obtain ⟨r,hr⟩ : ∃ r:Int,r=((j%3:Nat):Int):=⟨_,rfl⟩
 rw [←hr] at rm
 have hXl:(pc X).length=j*4:=by rw [dQ,hX]
 have hYl:(pc Y).length=j*5:=by rw [dQ,hY]
 have t1:List.take (j*4) (pc X)=pc X:=by rw [←hXl,List.take_length]
 have t2:List.take (j*5) (pc Y)=pc Y:=by rw [←hYl,List.take_length]
 have mkt:=mk true
 have mkf:=mk false
 simp only [Bool.not_true,Bool.not_false,eh,ef] at mkt mkf
 by_cases hg:j%3=2
 ·have hd:decide (j%3=2)=true:=by simpa using hg
  rw [hd]
  simp only [Bool.not_true,ef]
  have hr2:r=2:=by omega
  rw [hr2] at rm
  simp +contextual (maxSteps:=1000000) [ir8_0,hdC,tlC,ssI,↓ssJ,ssU,ssP,appO,e2,e4,e5,e6,e7,g0,g1,g2,g3,mkt,tre,hD,rm,eo,eu,aD,j7,hXl,hYl,t1,t2,q1,q2,w1]
 ·have hd:decide (j%3=2)=false:=by simpa using hg
  rw [hd]
  simp only [Bool.not_false,eh]
  have hr2 : ¬r=2:=by omega
  simp +contextual (maxSteps:=1000000) [ir8_0,hdC,tlC,ssI,↓ssJ,ssU,ssP,appO,e2,e4,e5,e6,e7,g0,g1,g2,g3,mkf,tre,hC,rm,hr2,eo,eu,aD,j7,hXl,hYl,t1,t2,q1,q2,w1]
end
end Go.Proofs.YtppeggedcaabkaaGreatDoor
end

section
namespace Go.Proofs.YtppeggedcaabkaaGreatDoor
open Go Go.Sx
def drawn (I:List Nat) (Ts:List (Option (List UInt8))) (j:Nat):Ent:=⟨I.getD j 0,⟨(mkEv 4 (cutB 40 (Ts.getD j none))).1,!decide (j%3=2),decide (j%3=2)⟩⟩
def many (I:List Nat) (Ts:List (Option (List UInt8))):Nat:=min 7 (min I.length Ts.length)
def drawnL (I:List Nat) (Ts:List (Option (List UInt8))):List Ent:=(List.range (many I Ts)).map (drawn I Ts)
theorem cx (I:List Nat) (Ts:List (Option (List UInt8))):(drawnL I Ts).length=many I Ts:=by simp [drawnL]
theorem mN (f:Ent→List PV) (a b:List Ent):rows f (a++b)=rows f a++rows f b:=by
 induction a with
 | nil=>rfl
 | cons x a ih=>rw [List.cons_append,rows,rows,ih,List.append_assoc]
theorem mO (f:Ent→List PV) (x:Ent):rows f [x]=f x:=by simp [rows]
theorem np (I:List Nat) (Ts:List (Option (List UInt8))) (j:Nat) (h:j<many I Ts):(drawnL I Ts).take (j+1)=(drawnL I Ts).take j++[drawn I Ts j]:=by
 have hl:j<(drawnL I Ts).length:=by rw [cx];exact h
 rw [List.take_succ_eq_append_getElem hl]
 congr 2
 simp [drawnL]
structure Lists (d:Drw) (I:List Nat) (Ts:List (Option (List UInt8))):Prop where
 ids:(d.ids = .s (.slice none 0 0)∧I=[])∨d.ids = .sl (I.map fun i:Nat=>PV.s (.int .u32 (i:Int))) I.length 1 false
 trees:(d.trees = .s (.slice none 0 0)∧Ts=[])∨d.trees = .sl (Ts.map (obP false)) Ts.length 1 false
 sh : ∀ t∈Ts,shl t
 big:Ts.length<2^63
theorem Lists.here {d:Drw} {I:List Nat} {Ts:List (Option (List UInt8))} (h:Lists d I Ts) (nx j:Nat) (hj:j<many I Ts):Here nx d Ts.length j (Ts.getD j none) (I.getD j 0):=by
 unfold many at hj
 have h1:j<I.length:=by omega
 have h2:j<Ts.length:=by omega
 refine ⟨?_,?_,h2,by omega,?_,h.big⟩
 ·rcases h.trees with ⟨e,e'⟩|e
  ·rw [e'] at h2;cases h2
  ·exact ⟨_,e,by simp [h2]⟩
 ·rcases h.ids with ⟨e,e'⟩|e
  ·rw [e'] at h1;cases h1
  ·exact ⟨_,_,e,by simp [h1],h1⟩
 ·rw [List.getD_eq_getElem?_getD,List.getElem?_eq_getElem h2];exact h.sh _ (List.getElem_mem h2)
section
variable {H:Heap} {nx:Nat} (N:Nat) (d:Drw) (zA zB:List PV) (w:Nte) (I:List Nat) (Ts:List (Option (List UInt8)))
def mT (nx:Nat) (d:Drw) (zA zB:List PV) (w:Nte) (I:List Nat) (Ts:List (Option (List UInt8))) (j:Nat):St:=
 if j=0 then mT0 nx d zA zB w Ts.length else mT1 nx d zA zB w Ts.length j (pc (rows (Ent.rrow true) ((drawnL I Ts).take j))) (pc (rows (Ent.row false) ((drawnL I Ts).take j)))
theorem qW (hl:Lists d I Ts) (hR7 : ∀ H,Ω 68 [.p annF] H (nx+7)=some (.int .i64 0,[],[])) (hR9 : ∀ H,Ω 68 [.p annF] H (nx+9)=some (.int .i64 0,[],[]))
  (hC5 : ∀ H,Ω 24 [.p (.sl ann 1 3 true)] H (nx+5)=some (.tuple [.p (.agg [.sl ann 1 3 false]),.int .i64 0],[],[]))
  (hC7 : ∀ H,Ω 24 [.p (.sl ann 1 3 true)] H (nx+7)=some (.tuple [.p (.agg [.sl ann 1 3 false]),.int .i64 0],[],[]))
  (hD7 : ∀ H,Ω 24 [.p (.s (.slice none 0 0))] H (nx+7)=some (.tuple [.p (.agg [.s (.slice none 0 0)]),.int .i64 0],[],[])) (j:Nat) (hj:j<many I Ts):
  runCS ⟨Ω,noG,H,nx⟩ N (.seq (tlC ir8_0) (hdC ir8_0)) (mT nx d zA zB w I Ts j)=some (.normal,mT nx d zA zB w I Ts (j+1)):=by
 have hh:=hl.here nx j hj
 have ht:=np I Ts j hj
 unfold mT
 rw [if_neg (by omega : ¬j+1=0),ht,mN,mN,mO,mO]
 by_cases h0:j=0
 ·subst h0
  rw [if_pos rfl,List.take_zero]
  exact nG N d zA zB w Ts.length _ _ hh hR7 hC5
 ·rw [if_neg h0,nU,nU]
  have hlen:((drawnL I Ts).take j).length=j:=by rw [List.length_take,cx];omega
  exact nH N d zA zB w Ts.length j _ _ (by omega) _ _ (by rw [bZ _ 4 (fun _=>rfl),hlen]) (by rw [bZ _ 5 (fun _=>rfl),hlen]) hh hR9 hC7 hD7
theorem qQ (hl:Lists d I Ts) : ∃ E':Env,runCS ⟨Ω,noG,H,nx⟩ N (tlC ir8_0) (mT nx d zA zB w I Ts (many I Ts))=some (.exit 0,⟨(mT nx d zA zB w I Ts (many I Ts)).env.take 5++E',(mT nx d zA zB w I Ts (many I Ts)).h⟩):=by
 have hm:many I Ts=min 7 (min I.length Ts.length):=rfl
 generalize hK:many I Ts=K at*
 have hts:(d.trees = .s (.slice none 0 0)∧Ts.length=0)∨∃ ts,d.trees = .sl ts Ts.length 1 false∧ts.length=Ts.length:=by
  rcases hl.trees with ⟨e,e'⟩|e
  ·exact .inl ⟨e,by rw [e'];rfl⟩
  ·exact .inr ⟨_,e,by simp⟩
 have his:(d.ids = .s (.slice none 0 0)∧I.length=0)∨∃ is,d.ids = .sl is I.length 1 false:=by
  rcases hl.ids with ⟨e,e'⟩|e
  ·exact .inl ⟨e,by rw [e'];rfl⟩
  ·exact .inr ⟨_,e⟩
 have hob : ∀ (ts:List PV),ts.length=Ts.length→K<Ts.length→∃ x,ts[K]?=some x:=fun ts h1 h2=>⟨ts[K],by simp [h1,h2]⟩
 unfold mT
 generalize rows (Ent.rrow true) ((drawnL I Ts).take K)=X
 generalize rows (Ent.row false) ((drawnL I Ts).take K)=Y
 by_cases hn:K=Ts.length
 ·
  have g1 : ¬K<Ts.length:=by omega
  have g2:Ts.length≤K:=by omega
  by_cases h0:K=0
  ·have e0:Ts.length=0:=by omega
   rw [if_pos h0]
   refine ⟨[(162,.p d.trees),(163,.int .i64 Ts.length),(164,.int .i64 0),(165,.bool false)],?_⟩
   rw [e0]
   simp only [mT0,mEnv,Drw.cells,ncl,rcl,aN,bf]
   simp +contextual (maxSteps:=1000000) [ir8_0,tlC,ssI,↓ssJ,ssU,ssP,appO]
  ·rw [if_neg h0]
   refine ⟨[(162,.p d.trees),(163,.int .i64 K),(164,.int .i64 K),(165,.bool false)],?_⟩
   rw [←hn]
   simp only [mT1,mEnv,Drw.cells,ncl,rcl,aN,bf]
   simp +contextual (maxSteps:=1000000) [ir8_0,tlC,ssI,↓ssJ,ssU,ssP,appO]
 ·have g1:K<Ts.length:=by clear hts his hob;omega
  have g2 : ¬Ts.length≤K:=by omega
  have g0 : ¬Ts.length=0:=by omega
  rcases hts with ⟨_,e⟩|⟨ts,e,e2⟩
  ·exact absurd e g0
  obtain ⟨x,hx⟩:=hob ts e2 g1
  by_cases h0:K=0
  ·have i0:I.length=0:=by omega
   have hx0:ts[0]?=some x:=by rw [←h0];exact hx
   have g3:0<Ts.length:=by omega
   rw [if_pos h0]
   refine ⟨[(8,.int .i64 0),(9,.p x),(162,.p d.trees),(163,.int .i64 Ts.length),(164,.int .i64 0),(177,.bool true)],?_⟩
   rcases his with ⟨e3,_⟩|⟨is,e3⟩
   ·simp only [mT0,mEnv,Drw.cells,ncl,rcl,aN,bf,e,e3]
    simp +contextual (maxSteps:=1000000) [ir8_0,tlC,ssI,↓ssJ,ssU,ssP,appO,g0,g3,hx0]
   ·rw [i0] at e3
    simp only [mT0,mEnv,Drw.cells,ncl,rcl,aN,bf,e,e3]
    simp +contextual (maxSteps:=1000000) [ir8_0,tlC,ssI,↓ssJ,ssU,ssP,appO,g0,g3,hx0]
  ·rw [if_neg h0]
   refine ⟨[(8,.int .i64 K),(9,.p x),(162,.p d.trees),(163,.int .i64 Ts.length),(164,.int .i64 K),(177,.bool true)],?_⟩
   rcases his with ⟨e3,e4⟩|⟨is,e3⟩
   ·exact absurd (show K=0 by rw [hm,e4];simp) h0
   ·simp only [mT1,mEnv,Drw.cells,ncl,rcl,aN,bf,e,e3]
    by_cases h7:K=7
    ·have g5:(7:Int)≤K:=by omega
     simp +contextual (maxSteps:=1000000) [ir8_0,tlC,ssI,↓ssJ,ssU,ssP,appO,g0,g1,g2,hx,g5]
    ·have g5 : ¬(7:Int)≤K:=by omega
     have g6:I.length≤K:=by omega
     simp +contextual (maxSteps:=1000000) [ir8_0,tlC,ssI,↓ssJ,ssU,ssP,appO,g0,g1,g2,hx,g5,g6]
end
end Go.Proofs.YtppeggedcaabkaaGreatDoor
end

section
namespace Go.Proofs.YtppeggedcaabkaaGreatDoor
open Go Go.Sx
abbrev madeB:IRC:=ir8.body
theorem nF:ir8=⟨[0],.seq (stC 0 madeB) (.seq (stC 1 madeB) (.seq (stC 2 madeB) (.seq (stC 3 madeB) (.seq (stC 4 madeB) (.seq (stC 5 madeB) (.seq (stC 6 madeB) (.seq (stC 7 madeB) (.seq (.seq (hdC (stC 8 madeB)) (.block 0 (.loop ir8_0))) (.seq (stC 9 madeB) .ret))))))))),[(2,some (15,true)),(3,some (14,true))],false⟩:=rfl
def zeroN:List PV:=[.s (.int .i64 0),.s (.int .i64 0),.s (.int .i64 0),.s (.int .u64 0),.s (.int .i64 0),.s (.bool false),.s (.int .u64 0),.s (.pointer none),.s (.slice none 0 0),.s (.int .u64 0),.s (.int .i64 0),.s (.int .i64 0),.s (.bool false),.s (.pointer none),.s (.int .u64 0)]
def zeroR:List PV:=[.s (.int .i64 0),.s (.int .i64 0),.s (.int .i64 0),.s (.int .u64 0),.s (.int .i64 0),.s (.bool false),.s (.pointer none),.s (.slice none 0 0),.s (.int .u64 0),.s (.int .i64 0),.s (.int .i64 0),.s (.pointer none),.s (.int .u64 0),.s (.slice none 0 0)]
section
variable {H:Heap} {nx:Nat} (N:Nat) (d:Drw)
theorem wG:runCS ⟨Ω,noG,H,nx⟩ N (stC 0 madeB) ⟨[(0,.p (.agg d.cells))],⟨[],[]⟩⟩=
  some (.normal,⟨[(1,.ref nx 0),(2,.ref (nx+1) 0),(3,.ref (nx+2) 0)],⟨[],[some (.cells (pc d.cells)),some (.cells (pc zeroN)),some (.cells (pc zeroR))]⟩⟩):=by
 simp only [Drw.cells,zeroN,zeroR,aN,bf]
 simp +contextual (maxSteps:=1000000) [madeB,ir8,stC,ssI,↓ssJ,ssU,ssP,appO]
theorem qU (n:Nat) (w:Nte):runCS ⟨Ω,noG,H,nx⟩ N (hdC ir8_0) (mT0 nx d zeroN zeroR w n)=some (.normal,mT0 nx d zeroN zeroR w n):=by
 simp only [mT0,mEnv,Drw.cells,ncl,rcl,zeroN,zeroR,aN,bf]
 simp +contextual (maxSteps:=1000000) [ir8_0,hdC,ssI,↓ssJ,ssU,ssP,appO]
def Drw.pair (d:Drw) (I:List Nat) (Ts:List (Option (List UInt8))):LV:=.tuple [.p ((d.note (drawnL I Ts)).pv false),.p ((d.note (drawnL I Ts)).rv true)]
theorem sV (f:IRF) (hf:f.results=[(2,some (15,true)),(3,some (14,true))]∧f.own=false) (I:List Nat) (Ts:List (Option (List UInt8))) (E':Env):bindK (runCS ⟨Ω,noG,H,nx⟩ N (.seq (stC 9 madeB) .ret) ⟨(mT nx d zeroN zeroR (d.note []) I Ts (many I Ts)).env.take 5++E',(mT nx d zeroN zeroR (d.note []) I Ts (many I Ts)).h⟩) (finK f H nx)=some (d.pair I Ts,[],[]):=by
 obtain ⟨hf1,hf2⟩:=hf
 have hl:=cx I Ts
 unfold Drw.pair
 by_cases h0:many I Ts=0
 ·unfold mT
  rw [if_pos h0]
  have hL:drawnL I Ts=[]:=List.eq_nil_of_length_eq_zero (by rw [hl,h0])
  rw [hL]
  simp only [mT0,mEnv,Drw.cells,ncl,rcl,zeroN,zeroR,Nte.pv,Nte.rv,Nte.cells,Nte.rcells,aN,bf]
  generalize d.gift1=g
  generalize d.no1=no1
  generalize d.ev=E
  simp +contextual (maxSteps:=1000000) [madeB,ir8,stC,ssI,↓ssJ,ssU,ssP,appO,hf1,hf2,entP]
 ·unfold mT
  rw [if_neg h0]
  have hL:drawnL I Ts≠[]:=by intro e;rw [e] at hl;exact h0 hl.symm
  have e1:=bZ (Ent.row false) 5 (fun _=>rfl) (drawnL I Ts)
  have e2:=bZ (Ent.rrow true) 4 (fun _=>rfl) (drawnL I Ts)
  have ht:(drawnL I Ts).take (many I Ts)=drawnL I Ts:=by rw [←hl,List.take_length]
  simp only [mT1,mEnv,Drw.cells,ncl,rcl,zeroN,zeroR,Nte.pv,Nte.rv,Nte.cells,Nte.rcells,aN,bf,entP,if_neg hL,ht,hl]
  rw [hl] at e1 e2
  generalize rows (Ent.row false) (drawnL I Ts)=Y at*
  generalize rows (Ent.rrow true) (drawnL I Ts)=X at*
  generalize many I Ts=K at*
  generalize d.gift1=g
  generalize d.no1=no1
  generalize d.ev=E
  have hXl:(pc X).length=K*4:=by rw [dQ,e2]
  have hYl:(pc Y).length=K*5:=by rw [dQ,e1]
  have t1:List.take (K*4) (pc X)=pc X:=by rw [←hXl,List.take_length]
  have t2:List.take (K*5) (pc Y)=pc Y:=by rw [←hYl,List.take_length]
  simp +contextual (maxSteps:=1000000) [madeB,ir8,stC,ssI,↓ssJ,ssU,ssP,appO,hf1,hf2,hXl,hYl,t1,t2,ol,eo,eu]
end
end Go.Proofs.YtppeggedcaabkaaGreatDoor
end

section
namespace Go.Proofs.YtppeggedcaabkaaGreatDoor
open Go Go.Sx
theorem mQ {c:Ctx} {n:Nat} {a b d e r:IRC} {st st':St} (h:runCS c n (.seq a (.seq b d)) st=some (.normal,st')):runCS c n (.seq a (.seq b (.seq (.seq d e) r))) st=runCS c n (.seq e r) st':=by
 rw [aL] at h ⊢
 cases q:runCS c n a st with
 | none=>rw [q] at h;cases h
 | some y=>
  obtain ⟨x,s⟩:=y
  rw [q] at h
  cases x with
  | normal=>
   simp only [] at h ⊢
   rw [aL] at h ⊢
   cases q2:runCS c n b s with
   | none=>rw [q2] at h;cases h
   | some y=>
    obtain ⟨x,s⟩:=y
    rw [q2] at h
    cases x with
    | normal=>simp only [] at h ⊢;rw [mP,bn h]
    | exit i=>simp at h
    | ret=>simp at h
    | goto i=>simp at h
  | exit i=>simp at h
  | ret=>simp at h
  | goto i=>simp at h
theorem Drw.made_k (d:Drw):d.made.kind=d.kind∧d.made.fr=d.fr∧d.made.to=d.to∧d.made.share=d.share:=by
 unfold Drw.made
 split<;>exact ⟨rfl,rfl,rfl,rfl⟩
theorem nD:ir8_0 = .seq (hdC ir8_0) (tlC ir8_0):=rfl
theorem iG (I:List Nat) (Ts:List (Option (List UInt8))):many I Ts<8:=by unfold many;omega
theorem xC (d:Drw) (I:List Nat) (Ts:List (Option (List UInt8))) (hl:Lists d.made I Ts) (hT:shl d.made.tree) (hS:shl d.share) (H:Heap) (nx:Nat)
  (hR7 : ∀ H,Ω 68 [.p annF] H (nx+7)=some (.int .i64 0,[],[])) (hR9 : ∀ H,Ω 68 [.p annF] H (nx+9)=some (.int .i64 0,[],[]))
  (hC5 : ∀ H,Ω 24 [.p (.sl ann 1 3 true)] H (nx+5)=some (.tuple [.p (.agg [.sl ann 1 3 false]),.int .i64 0],[],[]))
  (hC7 : ∀ H,Ω 24 [.p (.sl ann 1 3 true)] H (nx+7)=some (.tuple [.p (.agg [.sl ann 1 3 false]),.int .i64 0],[],[]))
  (hD7 : ∀ H,Ω 24 [.p (.s (.slice none 0 0))] H (nx+7)=some (.tuple [.p (.agg [.s (.slice none 0 0)]),.int .i64 0],[],[])):
  Ω 8 [.p (.agg d.cells)] H nx=some (d.made.pair I Ts,[],[]):=by
 refine ae (ir:=ir8) (by kernel_rfl) 8 ?_
 rw [runF_I,nF]
 refine (if_pos rfl).trans ?_
 obtain ⟨k1,k2,k3,k4⟩:=d.made_k
 have a0:=wG (H:=H) (nx:=nx) 8 d
 have a1:=uT (H:=H) (nx:=nx) 8 d (some (.cells (pc zeroN))) (some (.cells (pc zeroR))) (.ref (nx+1) 0) (.ref (nx+2) 0)
 have a2:=sU (H:=H) (nx:=nx) 8 d.made (some (.cells (pc zeroN))) (some (.cells (pc zeroR))) (.ref (nx+1) 0) (.ref (nx+2) 0) hT
 rw [k1,k2,k3] at a2
 have hL:Lst Ts.length d.made.trees:=by
  rcases hl.trees with ⟨e,e'⟩|e
  ·exact .inl ⟨e,by rw [e'];rfl⟩
  ·exact .inr ⟨_,e⟩
 have a3:=uU (H:=H) (nx:=nx) 8 d.made (some (.cells (pc zeroN))) (some (.cells (pc zeroR))) (.ref (nx+1) 0) (.ref (nx+2) 0) (by rw [k4];exact hS) _ hL
 have eT:mT0 nx d.made zeroN zeroR (d.made.note []) Ts.length=mT nx d.made zeroN zeroR (d.made.note []) I Ts 0:=by unfold mT;rw [if_pos rfl]
 have h0:=qU (H:=H) (nx:=nx) 8 d.made Ts.length (d.made.note [])
 obtain ⟨E',he⟩:=qQ (H:=H) (nx:=nx) 8 d.made zeroN zeroR (d.made.note []) I Ts hl
 have lp:=qJ nD (by rw [eT] at h0;exact h0) (fun j hj=>qW (H:=H) (nx:=nx) 8 d.made zeroN zeroR (d.made.note []) I Ts hl hR7 hR9 hC5 hC7 hD7 j hj) he (by intro e;cases e) (iG I Ts)
 have en:=fun f hf=>sV (H:=H) (nx:=nx) 8 d.made f hf I Ts E'
 rw [←eT] at lp
 have z:[0].zip [LV.p (.agg d.cells)]=[(0,.p (.agg d.cells))]:=rfl
 show bindK (runCS _ 8 _ ⟨[0].zip [LV.p (.agg d.cells)],⟨[],[]⟩⟩) _=_
 rw [z,bn a0,dc a1,eA a2,mQ a3,aL,cK,cA]
 have rcz:pc ((d.made.note []).rcells false)=rcl (d.made.note []) (.p (.s (.slice none 0 0))):=by simp [rcl,Nte.rcells,entP,aN,bf]
 have ncz:pc ((d.made.note []).cells false)=ncl (d.made.note []) (.p (.s (.slice none 0 0))):=by simp [ncl,Nte.cells,entP,aN,bf]
 rw [rcz,ncz]
 have lp2:iter (runCS ⟨Ω,noG,H,nx⟩ 8 ir8_0) 8 _=_:=lp
 unfold mT0 mEnv at lp2
 rw [show ((0:Nat):Int)=0 from rfl] at lp2
 rw [lp2]
 exact en _ ⟨rfl,rfl⟩
end Go.Proofs.YtppeggedcaabkaaGreatDoor
end

section
namespace Go.Proofs.YtppeggedcaabkaaGreatDoor
open Go Go.Sx
section same
variable {H:Heap} {nx:Nat} {F G:List UInt8} {x y:LV}
end same
end Go.Proofs.YtppeggedcaabkaaGreatDoor
end

section
namespace Go.Proofs.YtppeggedcaabkaaGreatDoor
open Go Go.Sx
noncomputable abbrev apc:Ctx:=⟨Ω,noG,noH,0⟩
section
variable (a b:Drw) (M N:Nte) (same:Bool)
end
end Go.Proofs.YtppeggedcaabkaaGreatDoor
end

section
namespace Go.Proofs.YtppeggedcaabkaaGreatDoor
open Go Go.Sx
structure Drw.Ok (d:Drw) (I:List Nat) (Ts:List (Option (List UInt8))):Prop where
 lists:Lists d I Ts
 tree:shl d.tree
 share:shl d.share
 ses:d.ses<2^64
 no:d.no<2^64
 ids : ∀ i∈I,i<2^32
def Drw.mTs (d:Drw) (Ts:List (Option (List UInt8))):List (Option (List UInt8)):=if d.plain=true∧¬(d.kind=3∨d.kind=6) then [] else Ts
theorem Drw.Ok.made {d:Drw} {I:List Nat} {Ts:List (Option (List UInt8))} (h:d.Ok I Ts):d.made.Ok I (d.mTs Ts):=by
 obtain ⟨⟨l1,l2,l3,l4⟩,h2,h3,h4,h5,h6⟩:=h
 unfold Drw.made Drw.mTs
 cases hp:d.plain with
 | false=>
  simp only [Bool.false_eq_true,if_false,false_and]
  exact ⟨⟨l1,l2,l3,l4⟩,h2,h3,h4,h5,h6⟩
 | true=>
  simp only [if_true,true_and]
  have ht:shl (if d.kind=4∨d.kind=5∨d.kind=7 then none else d.tree):=by
   split
   ·intro l e;cases e
   ·exact h2
  have hs:(if 4<d.kind∨d.kind<1 then 0 else d.ses)<2^64:=by split<;>omega
  by_cases hk:d.kind=3∨d.kind=6
  ·have e:(if ¬(d.kind=3∨d.kind=6) then [] else Ts)=Ts:=if_neg (by simp [hk])
   rw [e]
   exact ⟨⟨l1,by simpa [hk] using l2,l3,l4⟩,ht,h3,hs,h5,h6⟩
  ·have e:(if ¬(d.kind=3∨d.kind=6) then [] else Ts)=[]:=if_pos hk
   rw [e]
   exact ⟨⟨l1,.inl ⟨by simp [hk],rfl⟩,by simp,by simp⟩,ht,h3,hs,h5,h6⟩
theorem eU (x:Option (List UInt8)):(evBits (mkEv 4 x).1).length≤4340:=by
 obtain ⟨a,b,c⟩:=bK 4 x
 have h1:=fD (mkEv 4 x).1
 have h2:2^(mkEv 4 x).1.depth≤2^4:=Nat.pow_le_pow_right (by omega) b
 omega
theorem o8 (x:Option (List UInt8)):(idBits (mkId 4 x).1).length≤93:=by
 obtain ⟨a,b⟩:=fb 4 x
 have h1:=fH (mkId 4 x).1
 have h2:2^(mkId 4 x).1.depth≤2^4:=Nat.pow_le_pow_right (by omega) b
 omega
theorem ki (x:Ent) (h:x.id<2^32) (hb:(evBits x.v.ev).length≤4340):x.bytes.length≤4500:=by
 unfold Ent.bytes Vsn.bytes
 have h1:=az x.id (by omega)
 have h2:=bM (evBits x.v.ev)
 have h3:(if x.v.gone then [1] else 0::crdB x.v.nm).length≤10:=by
  cases x.v.gone<;>cases x.v.nm<;>simp [crdB]
 have h4:=az (pack (evBits x.v.ev)).length (by omega)
 have e1:(txt (pack (evBits x.v.ev))).length=(vnum (pack (evBits x.v.ev)).length).length+(pack (evBits x.v.ev)).length:=by rw [txt,List.length_append]
 rw [List.length_append,txt,List.length_append]
 have h5:=az (txt (pack (evBits x.v.ev))++(if x.v.gone then [1] else 0::crdB x.v.nm)).length (by rw [List.length_append];omega)
 rw [List.length_append] at h5 ⊢
 omega
theorem kh (k:Nat) : ∀ (L:List Ent),(∀ x∈L,x.bytes.length≤k)→(entB L).length≤L.length*k
 | [],_=>by simp [entB]
 | x::L,h=>by
  have h1:=kh k L fun y hy=>h y (List.mem_cons_of_mem _ hy)
  have h2:=h x List.mem_cons_self
  rw [entB,List.length_append,List.length_cons,Nat.succ_mul]
  omega
theorem cS {I:List Nat} {Ts:List (Option (List UInt8))} {x:Ent} (h:x∈drawnL I Ts) : ∃ j,j<many I Ts∧x=drawn I Ts j:=by
 unfold drawnL at h
 obtain ⟨j,hj,rfl⟩:=List.mem_map.1 h
 exact ⟨j,List.mem_range.1 hj,rfl⟩
theorem Drw.Ok.fit {d:Drw} {I:List Nat} {Ts:List (Option (List UInt8))} (h:d.Ok I Ts):(d.note (drawnL I Ts)).Fit:=by
 have hid : ∀ j,j<many I Ts→I.getD j 0<2^32:=by
  intro j hj
  have h1:j<I.length:=by unfold many at hj;omega
  rw [List.getD_eq_getElem?_getD,List.getElem?_eq_getElem h1]
  exact h.ids _ (List.getElem_mem h1)
 have g1:(d.gift1.no<2^64)∧(idBits d.gift1.sh).length<2^16:=by
  unfold Drw.gift1
  split
  ·exact ⟨h.no,Nat.lt_of_le_of_lt (o8 _) (by decide)⟩
  ·exact ⟨by decide,by simp [idBits,aj]⟩
 refine ⟨h.ses,?_,g1.1,g1.2,?_,?_,(bK 4 _).1,?_,?_,?_,?_,?_⟩
 ·show (if d.plain=false∨d.kind=7 then d.no else 0)<2^64
  have:=h.no
  split<;>omega
 ·exact Nat.lt_of_le_of_lt (bK 4 _).2.2 (by decide)
 ·exact Nat.lt_of_le_of_lt (eU _) (by decide)
 ·show (drawnL I Ts).length<50
  rw [cx];have:=iG I Ts;omega
 ·intro x hx
  obtain ⟨j,hj,rfl⟩:=cS hx
  exact ⟨hid j hj,Nat.lt_of_le_of_lt (bK 4 _).2.2 (by decide),Nat.lt_of_le_of_lt (eU _) (by decide)⟩
 ·intro x hx
  obtain ⟨j,hj,rfl⟩:=cS hx
  exact Nat.lt_of_le_of_lt (bK 4 _).2.2 (by decide)
 ·have h1:=kh 4500 (drawnL I Ts) fun x hx=>by
   obtain ⟨j,hj,rfl⟩:=cS hx
   exact ki _ (hid j hj) (eU _)
  have h2:(drawnL I Ts).length<8:=by rw [cx];exact iG I Ts
  show (entB (drawnL I Ts)).length<2^19
  omega
 ·intro x hx
  obtain ⟨j,hj,rfl⟩:=cS hx
  exact (bK 4 _).1
end Go.Proofs.YtppeggedcaabkaaGreatDoor
end

section
namespace Go.Proofs.YtppeggedcaabkaaGreatDoor
open Go Go.Sx Go.ChangeShapes Go.WideShapes
section
variable {W:World}
theorem jD {k:IntKind} {v:Value} {x:PV} (h:RV W (.k (.int k)) v x) : ∃ n:Int,x = .s (.int k n)∧k.min≤n∧n≤k.max:=by
 cases h with
 | k h=>
  cases v<;>simp only [SK.fits] at h
  obtain ⟨rfl,h⟩:=h
  exact ⟨_,rfl,by simpa [Lit.wf] using h⟩
theorem pO {v:Value} {x:PV} (h:RV W (.k .bool) v x) : ∃ b:Bool,x = .s (.bool b):=by
 cases h with
 | k h=>cases v<;>first|exact ⟨_,rfl⟩|exact absurd h (by simp [SK.fits])
theorem kV {k:IntKind} (h0:k.min=0) {v:Value} {x:PV} (h:RV W (.k (.int k)) v x) : ∃ n:Nat,x = .s (.int k n)∧(n:Int)≤k.max:=by
 obtain ⟨n,rfl,h1,h2⟩:=jD h
 rw [h0] at h1
 exact ⟨n.toNat,by rw [Int.toNat_of_nonneg h1],by omega⟩
theorem vt {v:Value} {x:PV} (h:RV W (.k (.int .u8)) v x) : ∃ b:UInt8,x = .s (.int .u8 b.toNat)∧True:=by
 obtain ⟨n,rfl,h⟩:=kV rfl h
 have:n<256:=by have e:IntKind.u8.max=255:=rfl;omega
 exact ⟨UInt8.ofNat n,by simp [Nat.mod_eq_of_lt this],trivial⟩
theorem jC {v:Value} {x:PV} (h:RV W (.sl [.k (.int .u8)]) v x) : ∃ o:Option (List UInt8),x=obP false o∧shl o:=by
 rcases kE (f:=fun b:UInt8=>PV.s (.int .u8 b.toNat)) (Q:=fun _=>True) (fun v x h=>vt h) h with rfl|⟨L,rfl,_,h2⟩
 ·exact ⟨none,rfl,fun l h=>by cases h⟩
 ·exact ⟨some L,rfl,fun l h=>by cases h;exact h2⟩
theorem all_cons {c:CT} {ks:List CT} {cs:List Value} {xs:List PV} (h:AllR W (c::ks) cs xs) : ∃ v vs x ys,cs=v::vs∧xs=x::ys∧RV W c v x∧AllR W ks vs ys:=by
 obtain ⟨h1,h2,h3⟩:=h
 cases cs with
 | nil=>cases h1
 | cons v vs=>
  cases xs with
  | nil=>cases h2
  | cons x ys=>exact ⟨v,vs,x,ys,rfl,rfl,h3 0 c v x rfl rfl rfl,by simpa using h1,by simpa using h2,fun j c v x a b d=>h3 (j+1) c v x a b d⟩
theorem all_nil {cs:List Value} {xs:List PV} (h:AllR W [] cs xs):cs=[]∧xs=[]:=⟨List.eq_nil_of_length_eq_zero h.1,List.eq_nil_of_length_eq_zero h.2.1⟩
theorem AllR.pr {ks:List CT} {a:Array Value} {xs:List PV} (h:AllR W ks a.toList xs):PR (fun b=>b<W.heap.size) W (.agg xs) (.agg a):=by
 obtain ⟨h1,h2,h3⟩:=h
 refine .agg xs a (by simpa [h2] using h1) ?_ ?_
 ·intro u hu
  obtain ⟨j,hj,rfl⟩:=List.getElem_of_mem hu
  exact (h3 j (ks[j]'(by omega)) a.toList[j] (xs[j]'(by omega)) (by simp [←h1,hj]) (by simp [hj]) (by simp [h2,←h1,hj])).one
 ·intro j l u hl hu
  have hj:j<xs.length:=(List.getElem?_eq_some_iff.1 hl).1
  exact (h3 j (ks[j]'(by omega)) u l (by simp [←h2,hj]) (by simpa using hu) hl).pr
def drawK:List CT:=[.k (.int .i64),.k (.int .i64),.k (.int .i64),.k (.int .u64),.k (.int .u64),.k (.int .i64),.k .bool,.k .bool,.sl [.k (.int .u8)],.sl [.k (.int .u8)],.sl [.k (.int .u32)],.sl [.sl [.k (.int .u8)]]]
theorem uk {cs:List Value} {xs:List PV} (h:AllR W drawK cs xs) : ∃ (d:Drw) (I:List Nat) (Ts:List (Option (List UInt8))),d.Ok I Ts∧xs=d.cells:=by
 obtain ⟨_,_,_,_,rfl,rfl,r1,h⟩:=all_cons h
 obtain ⟨_,_,_,_,rfl,rfl,r2,h⟩:=all_cons h
 obtain ⟨_,_,_,_,rfl,rfl,r3,h⟩:=all_cons h
 obtain ⟨_,_,_,_,rfl,rfl,r4,h⟩:=all_cons h
 obtain ⟨_,_,_,_,rfl,rfl,r5,h⟩:=all_cons h
 obtain ⟨_,_,_,_,rfl,rfl,r6,h⟩:=all_cons h
 obtain ⟨_,_,_,_,rfl,rfl,r7,h⟩:=all_cons h
 obtain ⟨_,_,_,_,rfl,rfl,r8,h⟩:=all_cons h
 obtain ⟨_,_,_,_,rfl,rfl,r9,h⟩:=all_cons h
 obtain ⟨_,_,_,_,rfl,rfl,r10,h⟩:=all_cons h
 obtain ⟨_,_,x11,_,rfl,rfl,r11,h⟩:=all_cons h
 obtain ⟨_,_,x12,_,rfl,rfl,r12,h⟩:=all_cons h
 obtain ⟨rfl,rfl⟩:=all_nil h
 obtain ⟨a1,rfl,_⟩:=jD r1
 obtain ⟨a2,rfl,_⟩:=jD r2
 obtain ⟨a3,rfl,_⟩:=jD r3
 obtain ⟨a4,rfl,b4⟩:=kV rfl r4
 obtain ⟨a5,rfl,b5⟩:=kV rfl r5
 obtain ⟨a6,rfl,_⟩:=jD r6
 obtain ⟨a7,rfl⟩:=pO r7
 obtain ⟨a8,rfl⟩:=pO r8
 obtain ⟨a9,rfl,b9⟩:=jC r9
 obtain ⟨a10,rfl,b10⟩:=jC r10
 have u64:IntKind.u64.max=2^64-1:=rfl
 rw [u64] at b4 b5
 obtain ⟨I,hI,hI2⟩ : ∃ I:List Nat,((x11=PV.s (.slice none 0 0)∧I=[])∨x11 = .sl (I.map fun i:Nat=>PV.s (.int .u32 (i:Int))) I.length 1 false)∧∀ i∈I,i<2^32:=by
  rcases kE (f:=fun n:Nat=>PV.s (.int .u32 n)) (Q:=fun n=>(n:Int)≤IntKind.u32.max) (fun v x h=>kV rfl h) r11 with e|⟨L,e,h1,_⟩
  ·exact ⟨[],.inl ⟨e,rfl⟩,by simp⟩
  ·exact ⟨L,.inr e,fun i hi=>by have:=h1 i hi;have e:IntKind.u32.max=2^32-1:=rfl;omega⟩
 obtain ⟨Ts,hT,hT2,hT3⟩ : ∃ Ts:List (Option (List UInt8)),((x12=PV.s (.slice none 0 0)∧Ts=[])∨x12 = .sl (Ts.map (obP false)) Ts.length 1 false)∧(∀ t∈Ts,shl t)∧Ts.length<2^63:=by
  rcases kE (f:=obP false) (Q:=shl) (fun v x h=>jC h) r12 with e|⟨L,e,h1,h2⟩
  ·exact ⟨[],.inl ⟨e,rfl⟩,by simp,by simp⟩
  ·exact ⟨L,.inr e,h1,h2⟩
 exact ⟨⟨a1,a2,a3,a4,a5,a6,a7,a8,a9,a10,x11,x12⟩,I,Ts,⟨⟨hI,hT,hT2,hT3⟩,b9,b10,by show a4<2^64;omega,by show a5<2^64;omega,hI2⟩,rfl⟩
end
end Go.Proofs.YtppeggedcaabkaaGreatDoor
end

section
namespace Go.Proofs.YtppeggedcaabkaaGreatDoor
open Go Go.Sx
theorem qg {p:List UInt8} (h : ¬p=[]):(bytP p)[0]?=some (.s (.int .u8 (p.headD 0).toNat)):=by
 cases p with
 | nil=>exact absurd rfl h
 | cons b r=>rfl
theorem wL {α:Type} (l:List α):1≤l.length ↔ ¬l=[]:=by cases l<;>simp
theorem qh (l:List UInt8):List.take (l.length-1) (bytP l).tail=bytP l.tail:=by
 rw [←List.drop_one,gR,List.drop_one]
def wByte (p:List UInt8) (e:Int):UInt8 × List UInt8 × Int:=if e=0 then (p.headD 0,p.tail,if p=[] then 6 else 0) else (0,p,e)
theorem wA (fl p e):Φ 96 [.ref 0 0] [wi fl p e]=some (.int .u8 (wByte p e).1.toNat,[wi fl (wByte p e).2.1 (wByte p e).2.2]):=by
 unfold wByte
 by_cases h:e=0<;>by_cases h2:p=[]
 ·have h4:=eq_true h2;refine aH (ir:=ir96) (by kernel_rfl) ?_;simp +contextual (maxSteps:=1000000) [ir96,ssL,↓ssM,ao,ssU,ssR,bC,bT,h,h4];simp [h2]
 ·refine aH (ir:=ir96) (by kernel_rfl) ?_;simp +contextual (maxSteps:=1000000) [ir96,ssL,↓ssM,ao,ssU,ssR,bC,bT,qh,aa,wL,-List.length_tail,List.length_pos_iff,qg,h2,h];obtain ⟨b,r,rfl⟩:=List.exists_cons_of_ne_nil h2;simp [bytP]
 ·have h4:=eq_true h2;refine aH (ir:=ir96) (by kernel_rfl) ?_;simp +contextual (maxSteps:=1000000) [ir96,ssL,↓ssM,ao,ssU,ssR,bC,bT,h,h4]
 ·refine aH (ir:=ir96) (by kernel_rfl) ?_;simp +contextual (maxSteps:=1000000) [ir96,ssL,↓ssM,ao,ssU,ssR,bC,bT,h,h2]
theorem pR (k:Nat) (p:List UInt8) (fl:Bool):PV.sl (bytP (p.drop k)) (p.length-k) 1 fl = .sl (bytP (p.drop k)) (p.drop k).length 1 fl:=by rw [List.length_drop]
theorem jl (fl:Bool) (p:List UInt8) (h30:p.length<2^31) : ∀ (r:List UInt8) (i n:Nat),p.drop i=r→i≤9→n<2^64→run ⟨Ω,noG,hpL [wi fl p 0],1⟩ (.loop ir98_0) ⟨[(0,.ref 0 0),(3,.int .u64 n),(12,sB fl p),(13,.int .i64 p.length),(14,.int .i64 i)],⟨[],[]⟩⟩=
  match rnum i n r with
  | none=>some (.exit 0,⟨[(0,.ref 0 0)],⟨[],[]⟩⟩)
  | some (v,rest)=>some (.ret,⟨[(2,.int .u64 v)],⟨[(0,wi fl rest 0)],[]⟩⟩)
 | [],i,n,hr,hi,hn=>by
  rw [b6]
  have h1 : ¬i<p.length:=by simpa using hr
  have h2:p.length≤i:=by omega
  simp +contextual (maxSteps:=1000000) [ir98_0,ssL,↓ssM,ao,ssU,ssR,h1,h2,rnum]
 | b::r,i,n,hr,hi,hn=>by
  rw [b6]
  have h1:i<p.length:=by
   rcases Nat.lt_or_ge i p.length with h|h
   ·exact h
   ·rw [List.drop_of_length_le h] at hr;cases hr
  have h2 : ¬p.length≤i:=by omega
  have hb:p[i]?=some b:=by rw [←List.head?_drop,hr];rfl
  have hg:=ua hb
  have hr':p.drop (i+1)=r:=by rw [←List.drop_drop,hr];rfl
  have a1:IntKind.i64.wrap (7*(i:Int))=7*i:=am _ (by omega) (by omega)
  have a2:=kX (b.toNat%128) (7*i) (by omega)
  rw [show ((7*i:Nat):Int)=7*(i:Int) by omega] at a2
  have a3:=b7 (b.toNat%128) (by omega)
  have hlt:=Nat.mod_lt (b.toNat%128*2^(7*i)) (show 0<2^64 by decide)
  have a4:=tt n (b.toNat%128*2^(7*i)%2^64) hn hlt
  have hn':=Nat.or_lt_two_pow hn hlt
  have a5:=rO b
  have a6:IntKind.i64.wrap ((i:Int)+1)=i+1:=am _ (by omega) (by omega)
  have a7:i+1≤p.length:=by omega
  have a8:(0:Int)≤i+1:=by omega
  have c1:(decide ((i:Int)=9)&&!decide ((b.toNat:Int)≤1)||decide (b.toNat=0)&&!decide (i=0))=decide ((i=9∧1<b.toNat)∨(b=0∧0<i)):=by
   have hb0:b=0↔b.toNat=0:=by rw [←UInt8.toNat_inj];rfl
   rw [Bool.eq_iff_iff]
   simp only [Bool.or_eq_true,Bool.and_eq_true,decide_eq_true_eq,Bool.not_eq_true',decide_eq_false_iff_not,hb0]
   omega
  have c2:(!decide ((128:Int)≤b.toNat))=decide (b.toNat<128):=by
   rw [Bool.eq_iff_iff]
   simp only [decide_eq_true_eq,Bool.not_eq_true',decide_eq_false_iff_not]
   omega
  have ih:=fun h=>jl fl p h30 r (i+1) (n ||| (b.toNat%128*2^(7*i))%2^64) hr' h hn'
  rw [rnum]
  generalize n ||| b.toNat%128*2^(7*i)%2^64=n' at*
  generalize b.toNat%128*2^(7*i)%2^64=y at*
  generalize b.toNat%128=z at*
  simp only [Int.natCast_add,Int.natCast_one] at ih
  generalize IRC.loop ir98_0=LB at*
  simp +contextual (maxSteps:=1000000) [ir98_0,ssL,↓ssM,ao,ssU,ssR,h1,h2,aa,aQ,hg,gR,pR,hr',-List.length_drop,a1,a2,a3,a4,a5,a6,a7,a8,c1,c2]
  by_cases d1:(i=9∧1<b.toNat)∨(b=0∧0<i)
  ·simp [d1,iteK]
  ·by_cases d2:b.toNat<128
   ·have hlen:p.length-(i+1)=r.length:=by rw [←hr',List.length_drop]
    simp [d1,d2,iteK,hlen]
   ·rw [ih (by omega)]
    simp [d1,d2,iteK]
def wNum (p:List UInt8) (e:Int):Nat × List UInt8 × Int:=if e=0 then (match rnum 0 0 p with
 | none=>(0,p,6)
 | some (v,r)=>(v,r,0)) else (0,p,e)
theorem vU (fl p e) (h30:p.length<2^31):Φ 98 [.ref 0 0] [wi fl p e]=some (.int .u64 (wNum p e).1,[wi fl (wNum p e).2.1 (wNum p e).2.2]):=by
 have hl:=jl fl p h30 p 0 0 rfl (by omega) (by decide)
 simp only [Int.natCast_zero] at hl
 unfold wNum
 by_cases he:e=0
 ·subst he
  cases hr:rnum 0 0 p with
  | none=>rw [hr] at hl;refine aH (ir:=ir98) (by kernel_rfl) ?_;simp +contextual (maxSteps:=1000000) [ir98,ssL,↓ssM,ao,ssU,ssR,bT,bC,hl]
  | some q=>obtain ⟨v,r⟩:=q;rw [hr] at hl;refine aH (ir:=ir98) (by kernel_rfl) ?_;simp +contextual (maxSteps:=1000000) [ir98,ssL,↓ssM,ao,ssU,ssR,bT,bC,hl]
 ·refine aH (ir:=ir98) (by kernel_rfl) ?_;simp +contextual (maxSteps:=1000000) [ir98,ssL,↓ssM,ao,ssU,ssR,bT,he]
theorem pI : ∀ (p:List UInt8) (i n v:Nat) (r:List UInt8),rnum i n p=some (v,r)→r.length<p.length∧(n<2^64→v<2^64)
 | [],i,n,v,r,h=>by cases h
 | b::l,i,n,v,r,h=>by
  have hlt:=Nat.mod_lt (b.toNat%128*2^(7*i)) (show 0<2^64 by decide)
  rw [rnum] at h
  split at h
  ·cases h
  ·split at h
   ·obtain ⟨rfl,rfl⟩:_=v∧_=r:=by simpa using h
    exact ⟨by simp,fun hn=>Nat.or_lt_two_pow hn hlt⟩
   ·have:=pI l _ _ _ _ h
    exact ⟨by simp;omega,fun hn=>this.2 (Nat.or_lt_two_pow hn hlt)⟩
theorem vF (p e):(wNum p e).2.1.length≤p.length∧(wNum p e).1<2^64:=by
 unfold wNum
 split
 ·split
  ·simp
  ·rename_i v r h
   have:=pI _ _ _ _ _ h
   exact ⟨by simp;omega,by simpa using this.2 (by decide)⟩
 ·simp
theorem rP (l:List UInt8):bytesL ((bytP l).map .p)=some l:=by rw [aQ,bm]
def wText (most:Nat) (p:List UInt8) (e:Int):List UInt8 × List UInt8 × Int:=if e=0 then (if (wNum p 0).2.2=0 then (if most<(wNum p 0).1 then ([],p,9) else if (wNum p 0).2.1.length<(wNum p 0).1 then ([],p,6) else ((wNum p 0).2.1.take (wNum p 0).1,(wNum p 0).2.1.drop (wNum p 0).1,0)) else ([],p,(wNum p 0).2.2)) else ([],p,e)
theorem wC (fl) (most:Nat) (p e) (h30:p.length<2^31) (hm:most<2^31):Φ 101 [.ref 0 0,.int .i64 most] [wi fl p e]=some (.str ⟨(wText most p e).1.toArray⟩,[wi fl (wText most p e).2.1 (wText most p e).2.2]):=by
 unfold wText
 by_cases he:e=0
 ·subst he
  have hn:=vU fl p 0 h30
  obtain ⟨hq,h64⟩:=vF p 0
  generalize wNum p 0=x at*
  obtain ⟨n,q,e1⟩:=x
  simp only at hn hq h64 ⊢
  have a1:=b7 most (by omega)
  have a3:=Int.natCast_nonneg most
  have a4 : ¬(most:Int)<0:=by omega
  have a2:=b7 q.length (by omega)
  by_cases h1:e1=0
  ·subst h1
   by_cases h2:most<n
   ·have h2' : ¬n≤most:=by omega
    refine aH (ir:=ir101) (by kernel_rfl) ?_;simp +contextual (maxSteps:=1000000) [ir101,ssL,↓ssM,ao,ssU,ssR,bT,bC,hn,a1,a2,a3,a4,h2,h2']
   ·have h2':n≤most:=by omega
    by_cases h3:q.length<n
    ·have h3' : ¬n≤q.length:=by omega
     refine aH (ir:=ir101) (by kernel_rfl) ?_;simp +contextual (maxSteps:=1000000) [ir101,ssL,↓ssM,ao,ssU,ssR,bT,bC,hn,a1,a2,a3,a4,h2,h2',h3,h3']
    ·have h3':n≤q.length:=by omega
     refine aH (ir:=ir101) (by kernel_rfl) ?_;simp +contextual (maxSteps:=1000000) [ir101,ssL,↓ssM,ao,ssU,ssR,bT,bC,hn,a1,a2,a3,a4,h2,h2',h3,h3',gS,gR,rP,aa,pR,-List.length_drop,-List.length_take]
     simp [h3']
  ·refine aH (ir:=ir101) (by kernel_rfl) ?_;simp +contextual (maxSteps:=1000000) [ir101,ssL,↓ssM,ao,ssU,ssR,bT,bC,hn,a1,a2,a3,a4,h1]
 ·refine aH (ir:=ir101) (by kernel_rfl) ?_;simp +contextual (maxSteps:=1000000) [ir101,ssL,↓ssM,ao,ssU,ssR,bT,he]
theorem xA (fl p) (h30:p.length<2^31):Φ 46 [sB fl p] []=some (.ref 0 0,[wi p.isEmpty p 0]):=by
 refine aH (ir:=ir46) (by kernel_rfl) ?_;simp +contextual (maxSteps:=1000000) [ir46,ssL,↓ssM,ao,ssU,ssR,oD p fl h30]
end Go.Proofs.YtppeggedcaabkaaGreatDoor
end

section
namespace Go.Proofs.YtppeggedcaabkaaGreatDoor
open Go Go.Sx
section number
variable {c:Ctx}
end number
end Go.Proofs.YtppeggedcaabkaaGreatDoor
end

section
namespace Go.Proofs.YtppeggedcaabkaaGreatDoor
open Go Go.Sx
theorem nS {n x i:Nat} (hn:n<2^i) (hx:x*2^i<2^64):n ||| x*2^i%2^64=n+x*2^i:=by
 rw [Nat.mod_eq_of_lt hx,Nat.or_comm,Nat.mul_comm x,←Nat.two_pow_add_eq_or_of_lt hn,Nat.add_comm]
section
variable {P p:List UInt8}
end
end Go.Proofs.YtppeggedcaabkaaGreatDoor
end

section
namespace Go.Proofs.YtppeggedcaabkaaGreatDoor
open Go Go.Sx
def bitN (p:List UInt8) (i:Nat):Nat:=(p.getD (i/8) 0).toNat/2^(7-i%8)%2
def getN (p:List UInt8) (i:Nat):Nat→Nat→Nat
 | 0,v=>v
 | k+1,v=>getN p (i+1) k (2*v+bitN p i)
theorem kf (p:List UInt8) (i:Nat):bitN p i<2:=Nat.mod_lt _ (by decide)
theorem wX (x k:Nat) (hk:k≤8):shI .shr .u8 x k=some (.int .u8 (x/2^k:Nat)):=by
 have:shI .shr .u8 (x:Int) k=some (.int .u8 ((x:Int).fdiv (2^(min k 8)))):=by
  simp only [shI]
  rw [if_neg (by omega)]
  rfl
 rw [this,Int.fdiv_eq_ediv_of_nonneg _ (Int.le_of_lt (Int.pow_pos (by decide))),Nat.min_eq_left hk]
 norm_cast
theorem t5 (y:Nat):binI .and .u8 y 1=some (.int .u8 (y%2:Nat)):=by
 have:binI .and .u8 (y:Int) 1=some (.int .u8 (IntKind.u8.wrap (BitVec.ofInt 8 (y:Int) &&& BitVec.ofInt 8 1).toNat)):=rfl
 rw [this,BitVec.ofInt_natCast,BitVec.toNat_and,BitVec.toNat_ofNat]
 have e:(BitVec.ofInt 8 1).toNat=1:=by decide
 rw [e,Nat.and_one_is_mod]
 have e2:y%2^8%2=y%2:=by omega
 rw [e2]
 simp [IntKind.wrap,IntKind.signed,IntKind.bits]
 omega
theorem wN (a b:Nat) (hb:b<2):2*a ||| b=2*a+b:=by
 have h:=Nat.two_pow_add_eq_or_of_lt (i:=1) (b:=b) (by omega) a
 rw [←h]
def bvA (v:Nat):List Bool→Nat
 | []=>v
 | b::r=>bvA (2*v+b.toNat) r
theorem rN : ∀ (l:List Bool) (v k:Nat),v<2^k→bvA v l<2^(k+l.length)
 | [],v,k,h=>h
 | b::r,v,k,h=>by
  have:=rN r (2*v+b.toNat) (k+1) (by have:=Bool.toNat_lt b;rw [Nat.pow_succ];omega)
  rw [show k+(b::r).length=k+1+r.length by simp;omega]
  exact this
def bitsB (p:List UInt8):List Bool:=(List.range (8*p.length)).map fun i=>bitN p i==1
theorem dw (p):(bitsB p).length=8*p.length:=by simp [bitsB]
theorem qc {p:List UInt8} {i:Nat} (h:i<8*p.length):(bitsB p)[i]?=some (bitN p i==1):=by simp [bitsB,h]
theorem t8 (p i):(bitN p i==1).toNat=bitN p i:=by
 have:=kf p i
 rcases (show bitN p i=0∨bitN p i=1 by omega) with h|h<;>rw [h]<;>rfl
theorem o5 (p:List UInt8) : ∀ (k n v:Nat),n+k≤8*p.length→getN p n k v=bvA v (((bitsB p).drop n).take k)
 | 0,n,v,h=>by simp [getN,bvA]
 | k+1,n,v,h=>by
  have hg:=qc (p:=p) (i:=n) (by omega)
  obtain ⟨hlt,he⟩:=List.getElem?_eq_some_iff.1 hg
  rw [getN,o5 p k (n+1) _ (by omega),List.drop_eq_getElem_cons hlt,List.take_succ_cons,bvA,he,t8]
abbrev brn (fl:Bool) (P:List UInt8) (n:Nat) (e:Int):Ob:=some (.cells [sB fl P,.int .i64 n,.int .i64 e])
theorem ee (fl P n e):Ψ 218 [.ref 0 0] [brn fl P n e]=some (.int .i64 e):=by
 refine bV (ir:=ir218) (by kernel_rfl) ?_;simp +contextual (maxSteps:=1000000) [ir218,ssL,↓ssM,ao,ssU,ssR]
theorem rM (fl) (P:List UInt8) (n e) (h28:P.length<2^28) (hn:n≤8*P.length):Ψ 219 [.ref 0 0] [brn fl P n e]=some (.int .i64 (8*P.length-n:Nat)):=by
 have w1:IntKind.i64.wrap (8*(P.length:Int))=8*(P.length:Int):=am _ (by omega) (by omega)
 have w2:IntKind.i64.wrap (8*(P.length:Int)-n)=((8*P.length-n:Nat):Int):=by rw [am _ (by omega) (by omega)];omega
 refine bV (ir:=ir219) (by kernel_rfl) ?_;simp +contextual (maxSteps:=1000000) [ir219,ssL,↓ssM,ao,ssU,ssR,w1,w2]
theorem bL (fl P n e):Φ 221 [.ref 0 0] [brn fl P n e]=some (.int .u64 0,[brn fl P n (if e=0 then 6 else e)]):=by
 by_cases h:e=0
 all_goals
 refine aH (ir:=ir221) (by kernel_rfl) ?_;simp +contextual (maxSteps:=1000000) [ir221,ssL,↓ssM,ao,ssU,ssR,h]
theorem nh (fl) (P:List UInt8) (n k j v:Nat) (x0:Ob) (u:Upd) (h28:P.length<2^28) (hn:n<8*P.length) (hk:k≤64) (hj:j<k) (hv:v<2^j) (hu:(u=[]∧x0=brn fl P n 0)∨u=[(0,brn fl P n 0)]):
  run ⟨Ω,noG,hpL [x0],1⟩ ir220_0 ⟨[(0,.ref 0 0),(5,.int .u64 v),(20,.int .i64 k),(21,.int .i64 j)],⟨u,[]⟩⟩=
   some (.normal,⟨[(0,.ref 0 0),(5,.int .u64 (2*v+bitN P n:Nat)),(20,.int .i64 k),(21,.int .i64 (j+1:Nat))],⟨[(0,brn fl P (n+1) 0)],[]⟩⟩):=by
 have hm:n/8<P.length:=by omega
 have q1:binI .quo .i64 (n:Int) 8=some (.int .i64 (n/8:Nat)):=vi .i64 n 8 (by decide) (fun z hz=>am _ (by omega) (by omega))
 have q2:binI .rem .i64 (n:Int) 8=some (.int .i64 (n%8:Nat)):=by
  rw [eM _ _ _ (by decide),Int.tmod_eq_emod_of_nonneg (by omega)]
  norm_cast
 have q3:IntKind.i64.wrap (7-((n%8:Nat):Int))=((7-n%8:Nat):Int):=by rw [am _ (by omega) (by omega)];omega
 have hg:(byt P)[n/8]?=some (.int .u8 (P.getD (n/8) 0).toNat):=by simp [byt,hm]
 have q4:=wX (P.getD (n/8) 0).toNat (7-n%8) (by omega)
 have q5:=t5 ((P.getD (n/8) 0).toNat/2^(7-n%8))
 have e0:(P.getD (n/8) 0).toNat/2^(7-n%8)%2=bitN P n:=rfl
 rw [e0] at q5
 have hbl:=kf P n
 have q6:=b7 (bitN P n) (by omega)
 have hj2:2^j≤2^63:=Nat.pow_le_pow_right (by decide) (by omega)
 have q7:shI .shl .u64 (v:Int) 1=some (.int .u64 (2*v:Nat)):=by
  rw [show ((1:Int))=((1:Nat):Int) from rfl,kX _ 1 (by decide)]
  congr 3;omega
 have q8:=tt (2*v) (bitN P n) (by omega) (by omega)
 rw [wN _ _ hbl] at q8
 have q9:IntKind.i64.wrap ((n:Int)+1)=(n:Int)+1:=am _ (by omega) (by omega)
 have q10:IntKind.i64.wrap ((j:Int)+1)=(j:Int)+1:=am _ (by omega) (by omega)
 have hj' : ¬k≤j:=by omega
 generalize bitN P n=bt at*
 generalize 2*v+bt=v1 at*
 generalize 2*v=v2 at*
 generalize (P.getD (n/8) 0).toNat/2^(7-n%8)=y1 at*
 generalize (P.getD (n/8) 0).toNat=y0 at*
 generalize 7-n%8=d3 at*
 generalize n%8=d2 at*
 generalize n/8=d1 at*
 clear hv
 rcases hu with ⟨rfl,rfl⟩|rfl
 all_goals simp +contextual (maxSteps:=1000000) [ir220_0,ssL,↓ssM,ao,ssU,ssR,hj',hj,q1,q2,q3,hg,q4,q5,q6,q7,q8,q9,q10,hm,aQ]
theorem i3 (fl) (P:List UInt8) (k:Nat) (x0:Ob) (h28:P.length<2^28) (hk:k≤64) : ∀ (t n j v:Nat) (u:Upd),t+j=k→n+t≤8*P.length→v<2^j→((u=[]∧x0=brn fl P n 0)∨u=[(0,brn fl P n 0)]) →
  run ⟨Ω,noG,hpL [x0],1⟩ (.loop ir220_0) ⟨[(0,.ref 0 0),(5,.int .u64 v),(20,.int .i64 k),(21,.int .i64 j)],⟨u,[]⟩⟩=
   some (.exit 0,⟨[(5,.int .u64 (getN P n t v))],⟨if t=0 then u else [(0,brn fl P (n+t) 0)],[]⟩⟩)
 | 0,n,j,v,u,hj,hn,hv,hu=>by
  have h1 : ¬j<k:=by omega
  have h2:k≤j:=by omega
  rw [b6]
  rcases hu with ⟨rfl,rfl⟩|rfl
  all_goals simp +contextual (maxSteps:=1000000) [ir220_0,ssL,↓ssM,ao,ssU,ssR,h1,h2,getN]
 | t+1,n,j,v,u,hj,hn,hv,hu=>by
  have hb:=kf P n
  rw [b6,nh fl P n k j v x0 u h28 (by omega) hk (by omega) hv hu,bj,bc,
   i3 fl P k x0 h28 hk t (n+1) (j+1) _ _ (by omega) (by omega) (by rw [Nat.pow_succ];omega) (.inr rfl),getN,if_neg (by omega : ¬t+1=0),show n+1+t=n+(t+1) by omega]
  cases t<;>simp
def wGet (k:Nat) (b:List Bool) (e:Int):Nat × List Bool × Int:=if e=0 then (if b.length<k then (0,b,6) else (bvA 0 (b.take k),b.drop k,0)) else (0,b,e)
abbrev br (fl:Bool) (P:List UInt8) (b:List Bool) (e:Int):Ob:=brn fl P (8*P.length-b.length) e
theorem k8 {P:List UInt8} {b:List Bool} (hb:b <:+ bitsB P):b.length≤8*P.length:=by rw [←dw];exact hb.length_le
theorem tS {P:List UInt8} {b:List Bool} (hb:b <:+ bitsB P):(bitsB P).drop (8*P.length-b.length)=b:=by rw [←dw];exact (List.suffix_iff_eq_drop.1 hb).symm
theorem oC (fl) (P:List UInt8) (k:Nat) (b:List Bool) (e) (h28:P.length<2^28) (hk:k≤64) (hb:b <:+ bitsB P):
  Φ 220 [.ref 0 0,.int .i64 k] [br fl P b e]=some (.int .u64 (wGet k b e).1,[br fl P (wGet k b e).2.1 (wGet k b e).2.2]):=by
 unfold wGet
 have hl:=k8 hb
 have hw:=pX k hk
 have lf:=rM fl P (8*P.length-b.length) e h28 (by omega)
 rw [show 8*P.length-(8*P.length-b.length)=b.length by omega] at lf
 by_cases he:e=0
 ·subst he
  by_cases h:b.length<k
  ·have h' : ¬k≤b.length:=by omega
   refine aH (ir:=ir220) (by kernel_rfl) ?_;simp +contextual (maxSteps:=1000000) [ir220,ssL,↓ssM,ao,ssU,ssR,hw,ee,lf,bL,h,h']
  ·have h':k≤b.length:=by omega
   have lp:=i3 fl P k (br fl P b 0) h28 hk k (8*P.length-b.length) 0 0 [] rfl (by omega) (by decide) (.inl ⟨rfl,rfl⟩)
   rw [o5 _ _ _ _ (by omega),tS hb] at lp
   simp only [Int.natCast_zero] at lp
   rw [if_neg h]
   have e1:8*P.length-(b.drop k).length=8*P.length-b.length+k:=by rw [List.length_drop];omega
   have e2:br fl P (b.drop k) 0=brn fl P (8*P.length-b.length+k) 0:=by rw [←e1]
   simp only [e2]
   by_cases hk0:k=0
   ·rw [if_pos hk0] at lp
    refine aH (ir:=ir220) (by kernel_rfl) ?_;simp +contextual (maxSteps:=1000000) [ir220,ssL,↓ssM,ao,ssU,ssR,hw,ee,lf,h,h',lp];omega
   ·rw [if_neg hk0] at lp
    refine aH (ir:=ir220) (by kernel_rfl) ?_;simp +contextual (maxSteps:=1000000) [ir220,ssL,↓ssM,ao,ssU,ssR,hw,ee,lf,bL,h,h',lp];omega
 ·by_cases h:b.length<k
  all_goals
  refine aH (ir:=ir220) (by kernel_rfl) ?_;simp +contextual (maxSteps:=1000000) [ir220,ssL,↓ssM,ao,ssU,ssR,hw,ee,lf,bL,he,h]
end Go.Proofs.YtppeggedcaabkaaGreatDoor
end

section
namespace Go.Proofs.YtppeggedcaabkaaGreatDoor
open Go Go.Sx
def boP (l:List Bool):List PV:=l.map fun b=>.s (.bool b)
abbrev bS (fl:Bool) (l:List Bool):LV:=.p (.sl (boP l) l.length 1 fl)
abbrev rr (fl:Bool) (l:List Bool) (e:Int):Ob:=some (.cells [bS fl l,.int .i64 e])
theorem ll : ∀ (b:List Bool) (v:Nat),bvA v b=0↔v=0∧b.any id=false
 | [],v=>by simp [bvA]
 | x::r,v=>by
  rw [bvA,ll r]
  cases x<;>simp<;>omega
def wEnd (b:List Bool) (e:Int):Int:=if e=0 then (if 8≤b.length∨b.any id=true then 6 else 0) else e
theorem vI (fl) (P:List UInt8) (b:List Bool) (e) (h28:P.length<2^28) (hb:b <:+ bitsB P):Φ 183 [.ref 0 0] [br fl P b e]=some (.int .i64 (wEnd b e),[br fl P b (wEnd b e)]):=by
 unfold wEnd
 have hl:=k8 hb
 have lf:=rM fl P (8*P.length-b.length) e h28 (by omega)
 rw [show 8*P.length-(8*P.length-b.length)=b.length by omega] at lf
 by_cases he:e=0
 ·subst he
  by_cases h:8≤b.length
  ·have h' : ¬b.length<8:=by omega
   have h2:(8:Int)≤b.length:=by omega
   refine aH (ir:=ir183) (by kernel_rfl) ?_;simp +contextual (maxSteps:=1000000) [ir183,ssL,↓ssM,ao,ssU,ssR,ee,lf,bL,h,h',h2]
  ·have h':b.length<8:=by omega
   have h2 : ¬(8:Int)≤b.length:=by omega
   have g:=oC fl P b.length b 0 h28 (by omega) hb
   unfold wGet at g
   simp only [if_true,Nat.lt_irrefl,if_false,List.take_length] at g
   have hz:=ll b 0
   simp only [true_and] at hz
   generalize bvA 0 b=v at*
   cases ha:b.any id with
   | false=>
    have hv:v=0:=hz.2 ha
    subst hv
    refine aH (ir:=ir183) (by kernel_rfl) ?_;simp +contextual (maxSteps:=1000000) [ir183,ssL,↓ssM,ao,ssU,ssR,ee,lf,bL,h,h',h2,g]
   | true=>
    have hv : ¬v=0:=fun e=>by rw [hz.1 e] at ha;cases ha
    refine aH (ir:=ir183) (by kernel_rfl) ?_;simp +contextual (maxSteps:=1000000) [ir183,ssL,↓ssM,ao,ssU,ssR,ee,lf,bL,h,h',h2,g,hv]
 ·refine aH (ir:=ir183) (by kernel_rfl) ?_;simp +contextual (maxSteps:=1000000) [ir183,ssL,↓ssM,ao,ssU,ssR,ee,lf,bL,he]
end Go.Proofs.YtppeggedcaabkaaGreatDoor
end

section
namespace Go.Proofs.YtppeggedcaabkaaGreatDoor
open Go Go.Sx
def numF (w base:Nat) (r:List Bool):Option (Nat × List Bool):=if r.length<w then none else if 2^64≤base+bvA 0 (r.take w) then none else some (base+bvA 0 (r.take w),r.drop w)
def numR:Nat→Nat→Nat→List Bool→Option (Nat × List Bool)
 | _,_,_,[]=>none
 | _,w,base,false::r=>numF w base r
 | 0,_,_,true::_=>none
 | m+1,w,base,true::r=>numR m (w+1) (base+2^w) r
theorem mw : ∀ (b:List Bool) (m w base v:Nat) (r:List Bool),numR m w base b=some (v,r)→r <:+ b∧v<2^64
 | [],m,w,base,v,r,h=>by cases m<;>cases h
 | false::b,m,w,base,v,r,h=>by
  have h':numF w base b=some (v,r):=by cases m<;>exact h
  unfold numF at h'
  split at h'
  ·cases h'
  ·split at h'
   ·cases h'
   ·obtain ⟨rfl,rfl⟩:_=v∧_=r:=by simpa using h'
    exact ⟨(List.drop_suffix _ _).trans (List.suffix_cons _ _),by omega⟩
 | true::b,0,w,base,v,r,h=>by cases h
 | true::b,m+1,w,base,v,r,h=>by
  have:=mw b m _ _ _ _ h
  exact ⟨this.1.trans (List.suffix_cons _ _),this.2⟩
def wBNum (b:List Bool) (e:Int):Nat × List Bool × Int:=if e=0 then (match numR 62 2 0 b with
 | none=>(0,b,6)
 | some (v,r)=>(v,r,0)) else (0,b,e)
theorem tM (w:Nat) (hw:w<64):shI .shl .u64 1 w=some (.int .u64 (2^w:Nat)):=by
 rw [show (1:Int)=((1:Nat):Int) from rfl,kX 1 w (by omega),Nat.one_mul,Nat.mod_eq_of_lt (Nat.pow_lt_pow_right (by decide) hw)]
def scB:IRC→IRC
 | .scope _ _ b=>b
 | .seq _ b=>scB b
 | c=>c
theorem cq (fl) (P:List UInt8) (k:Nat) (b:List Bool) (e:Int) (v:Nat) (b':List Bool) (e':Int) (h28:P.length<2^28) (hk:k≤64) (hb:b <:+ bitsB P) (hw:wGet k b e=(v,b',e')):
  Φ 220 [.ref 0 0,.int .i64 k] [brn fl P (8*P.length-b.length) e]=some (.int .u64 v,[brn fl P (8*P.length-b'.length) e']):=by
 have:=oC fl P k b e h28 hk hb
 rwa [hw] at this
theorem m8 (k:Nat) (hk:0<k):wGet k [] 0=(0,[],6):=by simp [wGet,hk]
theorem cj (x:Bool) (r:List Bool):wGet 1 (x::r) 0=(x.toNat,r,0):=by simp [wGet,bvA]
theorem oh (k:Nat) (b:List Bool):wGet k b 6=(0,b,6):=by simp [wGet]
set_option maxHeartbeats 1000000 in
theorem i4 (fl) (P:List UInt8) (n0:Nat) (x0:Ob) (h28:P.length<2^28) : ∀ (b:List Bool) (m w base:Nat) (u:Upd) (xs:Env),m+1+w=64→2≤w→base+4=2^w→b <:+ bitsB P→((u=[]∧x0=br fl P b 0)∨u=[(0,br fl P b 0)]) →
  run ⟨Ω,noG,hpL [x0],1⟩ (.scope .skip 0 (scB ir236.body)) ⟨(0,.ref 0 0)::(3,.int .i64 n0)::(4,.int .i64 w)::(5,.int .u64 base)::xs,⟨u,[]⟩⟩=
   (match numR (m+1) w base b with
   | none=>some (.ret,⟨[(2,.int .u64 0)],⟨[(0,brn fl P n0 6)],[]⟩⟩)
   | some (v,r)=>some (.ret,⟨[(2,.int .u64 v)],⟨[(0,br fl P r 0)],[]⟩⟩))
 | [],m,w,base,u,xs,hm,hw,hba,hb,hu=>by
  have g1:=cq fl P 1 [] 0 0 [] 6 h28 (by decide) hb (m8 1 (by decide))
  have g2:=cq fl P w [] 6 0 [] 6 h28 (by omega) hb (oh w [])
  simp only [Int.natCast_one,Int.natCast_zero] at g1 g2
  rw [gC]
  unfold br at hu
  generalize 8*P.length-([]:List Bool).length=N at*
  rcases hu with ⟨rfl,rfl⟩|rfl
  all_goals simp +contextual (maxSteps:=1000000) [ir236,scB,ssL,↓ssM,ao,ssU,ssR,g1,g2,bL,gotK,numR]
 | false::r,m,w,base,u,xs,hm,hw,hba,hb,hu=>by
  have hr:r <:+ bitsB P:=(List.suffix_cons _ _).trans hb
  have hl:=k8 hr
  have g1:=cq fl P 1 (false::r) 0 0 r 0 h28 (by decide) hb (cj false r)
  simp only [Int.natCast_one,Int.natCast_zero] at g1
  have hwl:2^w≤2^63:=Nat.pow_le_pow_right (by decide) (by omega)
  have a1:IntKind.u64.wrap (18446744073709551615-(base:Int))=((18446744073709551615-base:Nat):Int):=by rw [show (18446744073709551615:Int)-base=((18446744073709551615-base:Nat):Int) by omega,b7 _ (by omega)]
  rw [gC]
  unfold br at hu
  generalize hN:8*P.length-(false::r).length=N at*
  by_cases h1:r.length<w
  ·have g2:=cq fl P w r 0 0 r 6 h28 (by omega) hr (by simp [wGet,h1])
   simp only [Int.natCast_zero] at g2
   generalize hN1:8*P.length-r.length=N1 at*
   rcases hu with ⟨rfl,rfl⟩|rfl
   all_goals simp +contextual (maxSteps:=1000000) [ir236,scB,ssL,↓ssM,ao,ssU,ssR,g1,g2,bL,gotK,numR,numF,h1]
  ·have g2:=cq fl P w r 0 (bvA 0 (r.take w)) (r.drop w) 0 h28 (by omega) hr (by simp [wGet,h1])
   have hv:=rN (r.take w) 0 0 (by decide)
   have hv2:bvA 0 (r.take w)<2^64:=Nat.lt_of_lt_of_le hv (Nat.pow_le_pow_right (by decide) (by rw [List.length_take];omega))
   generalize hN1:8*P.length-r.length=N1 at*
   unfold br
   by_cases h2:2^64≤base+bvA 0 (r.take w)
   ·have h3 : ¬bvA 0 (r.take w)≤18446744073709551615-base:=by omega
    have e:numR (m+1) w base (false::r)=none:=by simp only [numR,numF,if_neg h1,if_pos h2]
    rw [e]
    generalize bvA 0 (r.take w)=v at*
    generalize 8*P.length-(r.drop w).length=N2 at*
    generalize 18446744073709551615-base=bb at*
    rcases hu with ⟨rfl,rfl⟩|rfl
    all_goals simp +contextual (maxSteps:=1000000) [ir236,scB,ssL,↓ssM,ao,ssU,ssR,g1,g2,bL,gotK,a1,h3]
   ·have h3:bvA 0 (r.take w)≤18446744073709551615-base:=by omega
    have e:numR (m+1) w base (false::r)=some (base+bvA 0 (r.take w),r.drop w):=by simp only [numR,numF,if_neg h1,if_neg h2]
    have a2:IntKind.u64.wrap ((base:Int)+(bvA 0 (r.take w):Int))=((base+bvA 0 (r.take w):Nat):Int):=by rw [show (base:Int)+(bvA 0 (r.take w):Int)=((base+bvA 0 (r.take w):Nat):Int) by omega,b7 _ (by omega)]
    rw [e]
    simp only []
    generalize base+bvA 0 (r.take w)=v' at*
    generalize bvA 0 (r.take w)=v at*
    generalize 8*P.length-(r.drop w).length=N2 at*
    generalize 18446744073709551615-base=bb at*
    rcases hu with ⟨rfl,rfl⟩|rfl
    all_goals simp +contextual (maxSteps:=1000000) [ir236,scB,ssL,↓ssM,ao,ssU,ssR,g1,g2,bL,gotK,a1,a2,h3]
 | true::r,m,w,base,u,xs,hm,hw,hba,hb,hu=>by
  have hr:r <:+ bitsB P:=(List.suffix_cons _ _).trans hb
  have g1:=cq fl P 1 (true::r) 0 1 r 0 h28 (by decide) hb (cj true r)
  simp only [Int.natCast_one,Int.natCast_zero] at g1
  have hwl:2^w≤2^63:=Nat.pow_le_pow_right (by decide) (by omega)
  have a1:=tM w (by omega)
  have a2:IntKind.u64.wrap ((base:Int)+((2^w:Nat):Int))=((base+2^w:Nat):Int):=by rw [show (base:Int)+((2^w:Nat):Int)=((base+2^w:Nat):Int) by omega,b7 _ (by omega)]
  have a3:IntKind.i64.wrap ((w:Int)+1)=(w:Int)+1:=am _ (by omega) (by omega)
  have hb':base+2^w+4=2^(w+1):=by rw [Nat.pow_succ];omega
  rw [gC]
  cases m with
  | succ m=>
   have h1:(w:Int)+1<64:=by omega
   have h1' : ¬(64:Int)≤(w:Int)+1:=by omega
   have ih:=i4 fl P n0 x0 h28 r m (w+1) (base+2^w) [(0,br fl P r 0)] [] (by omega) (by omega) hb' hr (.inr rfl)
   rw [show ((w+1:Nat):Int)=(w:Int)+1 by omega] at ih
   rw [show numR (m+1+1) w base (true::r)=numR (m+1) (w+1) (base+2^w) r from rfl,←ih]
   clear ih
   unfold br at hu ⊢
   generalize hN:8*P.length-(true::r).length=N at*
   generalize hN1:8*P.length-r.length=N1 at*
   generalize base+2^w=base' at*
   generalize hw2:2^w=w2 at*
   generalize hLB:IRC.scope .skip 0 (scB ir236.body)=LB
   rcases hu with ⟨rfl,rfl⟩|rfl
   all_goals simp +contextual (maxSteps:=1000000) [ir236,scB,ssL,↓ssM,ao,ssU,ssR,g1,gotK,a1,a2,a3,h1,h1']
  | zero=>
   obtain rfl:w=63:=by omega
   obtain rfl:base=9223372036854775804:=by omega
   have a1':shI .shl .u64 1 63=some (.int .u64 9223372036854775808):=rfl
   have a2':IntKind.u64.wrap 18446744073709551612=18446744073709551612:=rfl
   have a4:IntKind.u64.wrap 3=3:=rfl
   have a5:IntKind.i64.wrap 64=64:=rfl
   rw [show numR (0+1) 63 9223372036854775804 (true::r)=numR 0 64 18446744073709551612 r from rfl]
   unfold br at hu ⊢
   generalize hN:8*P.length-(true::r).length=N at*
   cases r with
   | nil=>
    have g2:=cq fl P 1 [] 0 0 [] 6 h28 (by decide) hr (m8 1 (by decide))
    have g3:=cq fl P 64 [] 6 0 [] 6 h28 (by decide) hr (oh 64 [])
    simp only [Int.natCast_one,Int.natCast_zero,Int.cast_ofNat_Int] at g2 g3
    generalize hN1:8*P.length-([]:List Bool).length=N1 at*
    rcases hu with ⟨rfl,rfl⟩|rfl
    all_goals simp +contextual (maxSteps:=1000000) [ir236,scB,ssL,↓ssM,ao,ssU,ssR,g1,g2,g3,bL,gotK,numR,a1',a2',a4,a5]
   | cons x r2=>
    have hr2:r2 <:+ bitsB P:=(List.suffix_cons _ _).trans hr
    have g2:=cq fl P 1 (x::r2) 0 x.toNat r2 0 h28 (by decide) hr (cj x r2)
    cases x with
    | true=>
     have g3:=cq fl P 64 r2 6 0 r2 6 h28 (by decide) hr2 (oh 64 r2)
     simp only [Int.natCast_one,Int.natCast_zero,Int.cast_ofNat_Int,Bool.toNat_true] at g2 g3
     generalize hN1:8*P.length-(true::r2).length=N1 at*
     generalize hN2:8*P.length-r2.length=N2 at*
     rcases hu with ⟨rfl,rfl⟩|rfl
     all_goals simp +contextual (maxSteps:=1000000) [ir236,scB,ssL,↓ssM,ao,ssU,ssR,g1,g2,g3,bL,gotK,numR,a1',a2',a4,a5]
    | false=>
     simp only [Int.natCast_one,Int.natCast_zero,Bool.toNat_false] at g2
     rw [show numR 0 64 18446744073709551612 (false::r2)=numF 64 18446744073709551612 r2 from rfl]
     generalize hN1:8*P.length-(false::r2).length=N1 at*
     generalize hN2:8*P.length-r2.length=N2 at*
     by_cases h1:r2.length<64
     ·have g3:=cq fl P 64 r2 0 0 r2 6 h28 (by decide) hr2 (by simp [wGet,h1])
      simp only [Int.natCast_zero,Int.cast_ofNat_Int,hN2] at g3
      rcases hu with ⟨rfl,rfl⟩|rfl
      all_goals simp +contextual (maxSteps:=1000000) [ir236,scB,ssL,↓ssM,ao,ssU,ssR,g1,g2,g3,bL,gotK,numF,h1,a1',a2',a4,a5]
     ·have g3:=cq fl P 64 r2 0 (bvA 0 (r2.take 64)) (r2.drop 64) 0 h28 (by decide) hr2 (by simp [wGet,h1])
      simp only [Int.cast_ofNat_Int,hN2] at g3
      by_cases h2:2^64≤18446744073709551612+bvA 0 (r2.take 64)
      ·have h3 : ¬(bvA 0 (r2.take 64):Int)≤3:=by omega
       rw [show numF 64 18446744073709551612 r2=none by simp only [numF,if_neg h1,if_pos h2]]
       generalize bvA 0 (r2.take 64)=v at*
       generalize 8*P.length-(r2.drop 64).length=N3 at*
       rcases hu with ⟨rfl,rfl⟩|rfl
       all_goals simp +contextual (maxSteps:=1000000) [ir236,scB,ssL,↓ssM,ao,ssU,ssR,g1,g2,g3,bL,gotK,a1',a2',a4,a5,h3]
      ·have h3:(bvA 0 (r2.take 64):Int)≤3:=by omega
       have a6:IntKind.u64.wrap (18446744073709551612+(bvA 0 (r2.take 64):Int))=((18446744073709551612+bvA 0 (r2.take 64):Nat):Int):=by rw [show (18446744073709551612:Int)+(bvA 0 (r2.take 64):Int)=((18446744073709551612+bvA 0 (r2.take 64):Nat):Int) by omega,b7 _ (by omega)]
       rw [show numF 64 18446744073709551612 r2=some (18446744073709551612+bvA 0 (r2.take 64),r2.drop 64) by simp only [numF,if_neg h1,if_neg h2]]
       simp only []
       generalize 18446744073709551612+bvA 0 (r2.take 64)=v' at*
       generalize bvA 0 (r2.take 64)=v at*
       generalize 8*P.length-(r2.drop 64).length=N3 at*
       rcases hu with ⟨rfl,rfl⟩|rfl
       all_goals simp +contextual (maxSteps:=1000000) [ir236,scB,ssL,↓ssM,ao,ssU,ssR,g1,g2,g3,bL,gotK,a1',a2',a4,a5,a6,h3]
theorem xr (fl) (P:List UInt8) (b:List Bool) (e) (h28:P.length<2^28) (hb:b <:+ bitsB P):Φ 236 [.ref 0 0] [br fl P b e]=some (.int .u64 (wBNum b e).1,[br fl P (wBNum b e).2.1 (wBNum b e).2.2]):=by
 unfold wBNum
 by_cases he:e=0
 ·subst he
  have lp:=i4 fl P (8*P.length-b.length) (br fl P b 0) h28 b 61 2 0 [] [] rfl (by decide) (by decide) hb (.inl ⟨rfl,rfl⟩)
  simp only [Int.natCast_zero,Int.cast_ofNat_Int,ir236,scB] at lp
  cases hr:numR 62 2 0 b with
  | none=>
   rw [hr] at lp
   refine aH (ir:=ir236) (by kernel_rfl) ?_;simp +contextual (maxSteps:=1000000) [ir236,ssL,↓ssM,ao,ssU,ssR,hJ,scoK,lp]
  | some q=>
   obtain ⟨v,r⟩:=q
   rw [hr] at lp
   refine aH (ir:=ir236) (by kernel_rfl) ?_;simp +contextual (maxSteps:=1000000) [ir236,ssL,↓ssM,ao,ssU,ssR,hJ,scoK,lp]
 ·have g:=oC fl P 1 b e h28 (by decide) hb
  have g2:=oC fl P 2 b e h28 (by decide) hb
  unfold wGet at g g2
  simp only [if_neg he,Int.natCast_one,Int.natCast_zero,Int.cast_ofNat_Int] at g g2
  have lp:run ⟨Ω,noG,hpL [br fl P b e],1⟩ (.scope .skip 0 (scB ir236.body)) ⟨[(0,.ref 0 0),(3,.int .i64 (8*P.length-b.length:Nat)),(4,.int .i64 2),(5,.int .u64 0)],⟨[],[]⟩⟩=some (.ret,⟨[(2,.int .u64 0)],⟨[(0,br fl P b e)],[]⟩⟩):=by
   rw [gC]
   simp +contextual (maxSteps:=1000000) [ir236,scB,ssL,↓ssM,ao,ssU,ssR,gotK,g,g2,bL,he]
  simp only [ir236,scB] at lp
  refine aH (ir:=ir236) (by kernel_rfl) ?_;simp +contextual (maxSteps:=1000000) [ir236,ssL,↓ssM,ao,ssU,ssR,hJ,scoK,lp]
  simp [he]
end Go.Proofs.YtppeggedcaabkaaGreatDoor
end

section
namespace Go.Proofs.YtppeggedcaabkaaGreatDoor
open Go Go.Sx
end Go.Proofs.YtppeggedcaabkaaGreatDoor
end

section
namespace Go.Proofs.YtppeggedcaabkaaGreatDoor
open Go Go.Sx
abbrev so (se:Int):Ob:=some (.cells [.ref 1 0,.int .i64 se])
theorem bq (fl P n e k se):Φ 214 [.ref 0 0,.int .i64 k] [so se,brn fl P n e]=some (.tuple [],[so (if se=0 then k else se),brn fl P n e]):=by
 by_cases h:se=0
 all_goals
 refine aH (ir:=ir214) (by kernel_rfl) ?_;simp +contextual (maxSteps:=1000000) [ir214,ssL,↓ssM,ao,ssU,ssR,h]
theorem dG (fl P n):Φ 216 [.ref 0 0] [so 0,brn fl P n 0]=some (.bool true,[so 0,brn fl P n 0]):=by
 refine aH (ir:=ir216) (by kernel_rfl) ?_;simp +contextual (maxSteps:=1000000) [ir216,ssL,↓ssM,ao,ssU,ssR,ee,bq]
theorem pS (fl P n):Φ 216 [.ref 0 0] [so 0,brn fl P n 6]=some (.bool false,[so 6,brn fl P n 6]):=by
 refine aH (ir:=ir216) (by kernel_rfl) ?_;simp +contextual (maxSteps:=1000000) [ir216,ssL,↓ssM,ao,ssU,ssR,ee,bq]
theorem cu (fl P n e se) (h:se≠0):Φ 216 [.ref 0 0] [so se,brn fl P n e]=some (.bool false,[so se,brn fl P n e]):=by
 by_cases he:e=0
 all_goals
 refine aH (ir:=ir216) (by kernel_rfl) ?_;simp +contextual (maxSteps:=1000000) [ir216,ssL,↓ssM,ao,ssU,ssR,ee,bq,h,he]
theorem bd (fl P n e se) (x:Bool):Φ 215 [.ref 0 0,.bool x] [so se,brn fl P n e]=some (.tuple [],[so (if x=true then se else if se=0 then 6 else se),brn fl P n e]):=by
 cases x
 all_goals
 refine aH (ir:=ir215) (by kernel_rfl) ?_;simp +contextual (maxSteps:=1000000) [ir215,ssL,↓ssM,ao,ssU,ssR,bq]
theorem cY (fl) (P:List UInt8) (k:Nat) (b:List Bool) (v:Nat) (b':List Bool) (h28:P.length<2^28) (hk:k≤64) (hb:b <:+ bitsB P) (hw:wGet k b 0=(v,b',0)):
  Φ 212 [.ref 0 0,.int .i64 k] [so 0,brn fl P (8*P.length-b.length) 0]=some (.int .u64 v,[so 0,brn fl P (8*P.length-b'.length) 0]):=by
 have g:=cq fl P k b 0 v b' 0 h28 hk hb hw
 refine aH (ir:=ir212) (by kernel_rfl) ?_;simp +contextual (maxSteps:=1000000) [ir212,ssL,↓ssM,ao,ssU,ssR,dG,g]
theorem fT (fl) (P:List UInt8) (k:Nat) (b:List Bool) (h28:P.length<2^28) (hk:k≤64) (hb:b <:+ bitsB P) (hw:b.length<k):
  Φ 212 [.ref 0 0,.int .i64 k] [so 0,brn fl P (8*P.length-b.length) 0]=some (.int .u64 0,[so 6,brn fl P (8*P.length-b.length) 6]):=by
 have g:=cq fl P k b 0 0 b 6 h28 hk hb (by simp [wGet,hw])
 refine aH (ir:=ir212) (by kernel_rfl) ?_;simp +contextual (maxSteps:=1000000) [ir212,ssL,↓ssM,ao,ssU,ssR,dG,pS,g]
theorem fU (fl P n e se k) (h:se≠0):Φ 212 [.ref 0 0,.int .i64 k] [so se,brn fl P n e]=some (.int .u64 0,[so se,brn fl P n e]):=by
 refine aH (ir:=ir212) (by kernel_rfl) ?_;simp +contextual (maxSteps:=1000000) [ir212,ssL,↓ssM,ao,ssU,ssR,cu,h]
theorem tQ (fl P n e se) (h:se≠0):Φ 213 [.ref 0 0] [so se,brn fl P n e]=some (.int .u64 0,[so se,brn fl P n e]):=by
 refine aH (ir:=ir213) (by kernel_rfl) ?_;simp +contextual (maxSteps:=1000000) [ir213,ssL,↓ssM,ao,ssU,ssR,cu,h]
theorem tP (fl) (P:List UInt8) (b:List Bool) (h28:P.length<2^28) (hb:b <:+ bitsB P):
  Φ 213 [.ref 0 0] [so 0,brn fl P (8*P.length-b.length) 0]=(match numR 62 2 0 b with
  | none=>some (.int .u64 0,[so 6,brn fl P (8*P.length-b.length) 6])
  | some (v,r)=>if v≤2^20 then some (.int .u64 v,[so 0,brn fl P (8*P.length-r.length) 0]) else some (.int .u64 v,[so 4,brn fl P (8*P.length-r.length) 0])):=by
 have g:=xr fl P b 0 h28 hb
 unfold wBNum at g
 simp only [if_true] at g
 cases hr:numR 62 2 0 b with
 | none=>
  rw [hr] at g
  refine aH (ir:=ir213) (by kernel_rfl) ?_;simp +contextual (maxSteps:=1000000) [ir213,ssL,↓ssM,ao,ssU,ssR,dG,pS,g]
 | some q=>
  obtain ⟨v,r⟩:=q
  rw [hr] at g
  by_cases h:v≤2^20
  ·have h':(v:Int)≤1048576:=by omega
   simp only [if_pos h]
   refine aH (ir:=ir213) (by kernel_rfl) ?_;simp +contextual (maxSteps:=1000000) [ir213,ssL,↓ssM,ao,ssU,ssR,dG,pS,bq,g,h']
  ·have h' : ¬(v:Int)≤1048576:=by omega
   simp only [if_neg h]
   refine aH (ir:=ir213) (by kernel_rfl) ?_;simp +contextual (maxSteps:=1000000) [ir213,ssL,↓ssM,ao,ssU,ssR,dG,pS,bq,g,h']
end Go.Proofs.YtppeggedcaabkaaGreatDoor
end

section
namespace Go.Proofs.YtppeggedcaabkaaGreatDoor
open Go Go.Sx
inductive Rd (α:Type) where
 | ok (x:α) (r:List Bool)
 | bad (c:Int)
def Rd.then {α β:Type} (x:Rd α) (f:α→List Bool→Rd β):Rd β:=match x with
 | .ok a r=>f a r
 | .bad c=>.bad c
def getN20 (b:List Bool):Rd Nat:=match numR 62 2 0 b with
 | none=>.bad 6
 | some (v,r)=>if v≤2^20 then .ok v r else .bad 4
def hdE:List Bool→Rd (Bool × Bool × Nat)
 | true::true::true::r=>(getN20 r).then fun v r=>if v=0 then .bad 6 else .ok (true,true,v) r
 | true::true::false::w::r=>(getN20 r).then fun v r=>if v=0 then .bad 6 else .ok (w,!w,v) r
 | true::true::_=>.bad 6
 | y::z::r=>.ok (y||z,y||!z,0) r
 | _=>.bad 6
def okE (le ri:Bool) (l r:Ev):Bool:=(decide (l = .leaf 0)==!le)&&(decide (r = .leaf 0)==!ri)&&decide (Min.min l.n r.n=0)&&!(l.isLeaf&&r.isLeaf&&decide (l.n=r.n))
def getE:Nat→List Bool→Rd Ev
 | _,[]=>.bad 6
 | _,true::r=>(getN20 r).then fun v r=>.ok (.leaf v) r
 | 0,false::_=>.bad 3
 | k+1,false::r=>(hdE r).then fun h r=>(if h.1=true then getE k r else .ok (.leaf 0) r).then fun x r=>(if h.2.1=true then getE k r else .ok (.leaf 0) r).then fun y r=>
   if okE h.1 h.2.1 x y=true then (if (Ev.node h.2.2 x y).max≤2^20 then .ok (.node h.2.2 x y) r else .bad 4) else .bad 6
theorem Rd.then_ok {α β:Type} {x:Rd α} {f:α→List Bool→Rd β} {y:β} {r:List Bool} (h:x.then f = .ok y r) : ∃ a s,x = .ok a s∧f a s = .ok y r:=by
 cases x with
 | ok a s=>exact ⟨a,s,rfl,h⟩
 | bad c=>cases h
theorem gW {b:List Bool} {v:Nat} {r:List Bool} (h:getN20 b = .ok v r):v≤2^20∧r <:+ b:=by
 unfold getN20 at h
 split at h
 ·cases h
 ·rename_i v' r' hr
  split at h
  ·cases h;exact ⟨by assumption,(mw _ _ _ _ _ _ hr).1⟩
  ·cases h
theorem sJ {b:List Bool} {x:Bool × Bool × Nat} {r:List Bool} (h:hdE b = .ok x r):x.2.2≤2^20∧r <:+ b∧(x.1=true∨x.2.1=true):=by
 unfold hdE at h
 split at h
 ·rename_i q
  obtain ⟨v,s,h1,h2⟩:=Rd.then_ok h
  have:=gW h1
  split at h2
  ·cases h2
  ·cases h2
   exact ⟨this.1,this.2.trans ((List.suffix_cons _ _).trans ((List.suffix_cons _ _).trans (List.suffix_cons _ _))),.inl rfl⟩
 ·rename_i w q
  obtain ⟨v,s,h1,h2⟩:=Rd.then_ok h
  have:=gW h1
  split at h2
  ·cases h2
  ·cases h2
   exact ⟨this.1,this.2.trans ((List.suffix_cons _ _).trans ((List.suffix_cons _ _).trans ((List.suffix_cons _ _).trans (List.suffix_cons _ _)))),by cases w<;>simp⟩
 ·cases h
 ·rename_i y z q _ _ _
  cases h
  exact ⟨Nat.zero_le _,(List.suffix_cons _ _).trans (List.suffix_cons _ _),by cases y<;>cases z<;>simp⟩
 ·cases h
theorem gh : ∀ (k:Nat) (b:List Bool) (x:Ev) (r:List Bool),getE k b = .ok x r→x.norm∧x.max≤2^20∧x.depth≤k∧r <:+ b
 | k,[],x,r,h=>by cases k<;>cases h
 | k,true::b,x,r,h=>by
  have h':(getN20 b).then (fun v r=>.ok (Ev.leaf v) r) = .ok x r:=by cases k<;>exact h
  obtain ⟨v,s,h1,h2⟩:=Rd.then_ok h'
  cases h2
  have:=gW h1
  exact ⟨trivial,this.1,Nat.zero_le _,this.2.trans (List.suffix_cons _ _)⟩
 | 0,false::b,x,r,h=>by cases h
 | k+1,false::b,x,r,h=>by
  obtain ⟨hd,s1,h1,h2⟩:=Rd.then_ok h
  obtain ⟨l,s2,h3,h4⟩:=Rd.then_ok h2
  obtain ⟨rr,s3,h5,h6⟩:=Rd.then_ok h4
  have e1:=sJ h1
  have key : ∀ (c:Bool) (s:List Bool) (y:Ev) (s':List Bool),(if c=true then getE k s else Rd.ok (.leaf 0) s) = .ok y s'→y.norm∧y.max≤2^20∧y.depth≤k∧s' <:+ s:=by
   intro c s y s' hq
   cases c with
   | true=>exact gh k s y s' hq
   | false=>cases hq;exact ⟨trivial,by decide,Nat.zero_le _,List.suffix_refl _⟩
  have e2:=key _ _ _ _ h3
  have e3:=key _ _ _ _ h5
  split at h6
  ·rename_i hok
   split at h6
   ·rename_i hm
    cases h6
    unfold okE at hok
    simp only [Bool.and_eq_true,Bool.not_eq_true',decide_eq_true_eq] at hok
    refine ⟨⟨e2.1,e3.1,by have:=hok.1.2;omega,fun hc => ?_⟩,hm,?_,e3.2.2.2.trans (e2.2.2.2.trans (e1.2.1.trans (List.suffix_cons _ _)))⟩
    ·have:=hok.2
     simp [hc.1,hc.2.1,hc.2.2] at this
    ·simp only [Ev.depth]
     have:=e2.2.2.1;have:=e3.2.2.1
     omega
   ·cases h6
  ·cases h6
theorem fG {b:List Bool} {c:Int} (h:getN20 b = .bad c):c≠0:=by
 unfold getN20 at h
 split at h
 ·cases h;decide
 ·split at h<;>cases h;decide
theorem Rd.then_bad {α β:Type} {x:Rd α} {f:α→List Bool→Rd β} {c:Int} (h:x.then f = .bad c):x = .bad c∨∃ a s,x = .ok a s∧f a s = .bad c:=by
 cases x with
 | ok a s=>exact .inr ⟨a,s,rfl,h⟩
 | bad c=>left;cases h;rfl
theorem uB {b:List Bool} {c:Int} (h:hdE b = .bad c):c≠0:=by
 unfold hdE at h
 split at h
 ·rcases Rd.then_bad h with h|⟨v,s,h1,h2⟩
  ·exact fG h
  ·split at h2<;>cases h2;decide
 ·rcases Rd.then_bad h with h|⟨v,s,h1,h2⟩
  ·exact fG h
  ·split at h2<;>cases h2;decide
 ·cases h;decide
 ·cases h
 ·cases h;decide
theorem dA : ∀ (k:Nat) (b:List Bool) (c:Int),getE k b = .bad c→c≠0
 | k,[],c,h=>by cases k<;>cases h<;>decide
 | k,true::b,c,h=>by
  have h':(getN20 b).then (fun v r=>.ok (Ev.leaf v) r) = .bad c:=by cases k<;>exact h
  rcases Rd.then_bad h' with h|⟨v,s,h1,h2⟩
  ·exact fG h
  ·cases h2
 | 0,false::b,c,h=>by cases h;decide
 | k+1,false::b,c,h=>by
  have key : ∀ (q:Bool) (s:List Bool),(if q=true then getE k s else Rd.ok (.leaf 0) s) = .bad c→c≠0:=by
   intro q s hq
   cases q with
   | true=>exact dA k s c hq
   | false=>cases hq
  rcases Rd.then_bad h with h|⟨hd,s1,h1,h2⟩
  ·exact uB h
  ·rcases Rd.then_bad h2 with h|⟨l,s2,h3,h4⟩
   ·exact key _ _ h
   ·rcases Rd.then_bad h4 with h|⟨rr,s3,h5,h6⟩
    ·exact key _ _ h
    ·split at h6
     ·split at h6<;>cases h6;decide
     ·cases h6;decide
theorem um (n:Nat) (h : ¬n≤2^20) (H:Heap) (nx:Nat):Ω 62 [.int .u64 n] H nx=some (.tuple [.p (Ev.leaf 0).pv,.int .i64 4],[],[]):=by
 refine ae (ir:=ir62) (by kernel_rfl) 0 ?_
 have h1 : ¬(n:Int)≤1048576:=by omega
 simp [ir62,Ev.n_l,Ev.ptr_l,ssB,ssU,ssP,appO,h1]
theorem uq (n:Nat) (l r:Ev) (hn:n≤2^20) (h1 : ¬(Ev.mk n l r).err=0) (h2:l.n≤2^21) (h3:r.n≤2^21) (hd:(Ev.mk n l r).depth<2^62) (hm:(Ev.mk n l r).max<2^64) (H:Heap) (nx:Nat):
  Ω 63 [.int .u64 n,.p l.pv,.p r.pv] H nx=some (.tuple [.p (Ev.leaf 0).pv,.int .i64 (Ev.mk n l r).err],[],[]):=by
 refine ae (ir:=ir63) (by kernel_rfl) 0 ?_
 have hmin : ¬(2097152:Int)<n:=by omega
 have e1:=oR n l r (by omega) (by omega)
 have e2:=jM _ hd hm
 generalize Ev.mk n l r=e at*
 have h1' : ¬((e.err:Nat):Int)=0:=by omega
 simp [ir63,ssB,ssU,ssP,appO,e1,e2,hmin,h1,h1',Ev.n_l,Ev.ptr_l]
end Go.Proofs.YtppeggedcaabkaaGreatDoor
end

section
namespace Go.Proofs.YtppeggedcaabkaaGreatDoor
open Go Go.Sx
theorem wY (fl P n) (v:Nat) (l r:Ev) (hv:v≤2^20) (hn:(Ev.node v l r).norm) (hd:(Ev.node v l r).depth≤16) (hl:l.max≤2^20) (hr:r.max≤2^20):
  Φ 217 [.ref 0 0,.int .u64 v,.p l.pv,.p r.pv] [so 0,brn fl P n 0]=if (Ev.node v l r).max≤2^20 then some (.p (Ev.node v l r).pv,[so 0,brn fl P n 0]) else some (.p (Ev.leaf 0).pv,[so 4,brn fl P n 0]):=by
 have hid:=Ev.mk_id hn
 have hm:(Ev.node v l r).max≤v+2^20:=Nat.add_le_add_left (Nat.max_le.2 ⟨hl,hr⟩) v
 have ln:=Ev.n_max l
 have rn:=Ev.n_max r
 by_cases h:(Ev.node v l r).max≤2^20
 ·have he:(Ev.mk v l r).err=0:=by
   rw [hid];unfold Ev.err
   rw [if_neg (by omega),if_neg (by omega)]
  have nd:=oH v l r hv he (by omega) (by omega) (by rw [hid];omega) (by rw [hid];omega)
  rw [hid] at nd
  rw [if_pos h]
  simp only [Ev.pv] at nd ⊢
  generalize (Ev.node v l r).ptr=p at*
  generalize (Ev.node v l r).n=m at*
  generalize l.ptr=p1 at*
  generalize r.ptr=p2 at*
  refine aH (ir:=ir217) (by kernel_rfl) ?_;simp +contextual (maxSteps:=1000000) [ir217,ssL,↓ssM,ao,List.idxOf?_cons,Go.Sx.LV.undef,Go.undef,Go.Sx.splice,Go.Sx.push,Go.Sx.setObj,Go.Sx.setU,Go.Sx.setAll,Go.Sx.leI_eq,ltF,nd,bq]
 ·have he:(Ev.mk v l r).err=4:=by
   rw [hid];unfold Ev.err
   rw [if_neg (by omega),if_pos (by omega)]
  have nd:=uq v l r hv (by rw [he];decide) (by omega) (by omega) (by rw [hid];omega) (by rw [hid];omega)
  rw [he] at nd
  rw [if_neg h]
  simp only [Ev.pv,Ev.n_l,Ev.ptr_l] at nd ⊢
  generalize l.ptr=p1 at*
  generalize r.ptr=p2 at*
  refine aH (ir:=ir217) (by kernel_rfl) ?_;simp +contextual (maxSteps:=1000000) [ir217,ssL,↓ssM,ao,List.idxOf?_cons,Go.Sx.LV.undef,Go.undef,Go.Sx.splice,Go.Sx.push,Go.Sx.setObj,Go.Sx.setU,Go.Sx.setAll,Go.Sx.leI_eq,ltF,nd,bq]
theorem xI (x:Ev):okE true false x (.leaf 0)=(!decide (x = .leaf 0)&&!(x.isLeaf&&decide (x.n=0))):=by
 unfold okE;rw [Bool.eq_iff_iff];simp [Ev.n_l,show (Ev.leaf 0).isLeaf=true from rfl]
 exact fun _=>or_congr Iff.rfl decide_eq_false_iff_not
theorem xJ (x:Ev):okE false true (.leaf 0) x=(!decide (x = .leaf 0)&&!(x.isLeaf&&decide (0=x.n))):=by
 unfold okE;rw [Bool.eq_iff_iff];simp [Ev.n_l,show (Ev.leaf 0).isLeaf=true from rfl]
 exact fun _=>or_congr Iff.rfl decide_eq_false_iff_not
abbrev zE:Ob:=some (.cells [.int .u64 0,.p (.s (.pointer none))])
noncomputable abbrev TL (fl:Bool) (P:List UInt8) (x1:Ob) (d:Int) (le ri:Bool) (base N:Nat) (e se:Int):Option (LV × List (Ob)):=
 bindK (bindK (run ⟨Ω,noG,hpL [so 0,x1],2⟩ (rsC 8 ir182.body) ⟨[(0,.ref 0 0),(1,.int .i64 d),(4,.ref 2 0),(7,.ref 3 0),(8,.ref 4 0),(9,.int .u64 base),(11,.bool le),(12,.bool ri)],⟨[(1,brn fl P N e),(0,so se)],[zE,zE,zE]⟩⟩) (finK ir182 (hpL [so 0,x1]) 2)) (outW [so 0,x1])
section
variable (fl:Bool) (P:List UInt8) (x1:Ob) (d:Int) (base N:Nat) (hw:IntKind.i64.wrap (d+1)=d+1)
theorem xb (le ri:Bool) (e se:Int) (h:se≠0):TL fl P x1 d le ri base N e se=some (.p (Ev.leaf 0).pv,[so se,brn fl P N e]):=by
 unfold TL
 have z0:=bF (.leaf 0)
 have i0:=bi (.leaf 0)
 have b0:=bJ (.leaf 0)
 simp only [Ev.pv,Ev.ptr_l,Ev.n_l,Int.natCast_zero,decide_true,show (Ev.leaf 0).isLeaf=true from rfl] at*
 cases le<;>cases ri<;>simp +contextual (maxSteps:=1000000) [ir182,rsC,ssL,↓ssM,ao,List.idxOf?_cons,Go.Sx.LV.undef,Go.undef,Go.Sx.splice,Go.Sx.push,Go.Sx.setObj,Go.Sx.setU,Go.Sx.setAll,Go.Sx.leI_eq,ltF,cu,bd,h,z0,i0,b0]
include hw
theorem xd (ri:Bool) (c:Int) (n:Nat) (e:Int) (hc:c≠0) (hl:Φ 182 [.ref 0 0,.int .i64 (d+1)] [so 0,brn fl P N 0]=some (.p (Ev.leaf 0).pv,[so c,brn fl P n e])):
  TL fl P x1 d true ri base N 0 0=some (.p (Ev.leaf 0).pv,[so c,brn fl P n e]):=by
 unfold TL
 have z0:=bF (.leaf 0)
 have i0:=bi (.leaf 0)
 have b0:=bJ (.leaf 0)
 simp only [Ev.pv,Ev.ptr_l,Ev.n_l,Int.natCast_zero,decide_true,show (Ev.leaf 0).isLeaf=true from rfl] at*
 cases ri<;>simp +contextual (maxSteps:=1000000) [ir182,rsC,ssL,↓ssM,ao,List.idxOf?_cons,Go.Sx.LV.undef,Go.undef,Go.Sx.splice,Go.Sx.push,Go.Sx.setObj,Go.Sx.setU,Go.Sx.setAll,Go.Sx.leI_eq,ltF,dG,cu,bd,hc,z0,i0,b0,hl,hw]
theorem xe (x:Ev) (N1:Nat) (c:Int) (n:Nat) (e:Int) (hc:c≠0) (hl:Φ 182 [.ref 0 0,.int .i64 (d+1)] [so 0,brn fl P N 0]=some (.p x.pv,[so 0,brn fl P N1 0]))
  (hr:Φ 182 [.ref 0 0,.int .i64 (d+1)] [so 0,brn fl P N1 0]=some (.p (Ev.leaf 0).pv,[so c,brn fl P n e])):
  TL fl P x1 d true true base N 0 0=some (.p (Ev.leaf 0).pv,[so c,brn fl P n e]):=by
 unfold TL
 have z0:=bF (.leaf 0)
 have i0:=bi (.leaf 0)
 have b0:=bJ (.leaf 0)
 have zx:=bF x
 have ix:=bi x
 have bx:=bJ x
 simp only [Ev.pv,Ev.ptr_l,Ev.n_l,Int.natCast_zero,decide_true,show (Ev.leaf 0).isLeaf=true from rfl] at*
 generalize x.ptr=px at*
 generalize x.n=nx' at*
 generalize decide (x = .leaf 0)=zlx at*
 generalize x.isLeaf=lx at*
 simp +contextual (maxSteps:=1000000) [ir182,rsC,ssL,↓ssM,ao,List.idxOf?_cons,Go.Sx.LV.undef,Go.undef,Go.Sx.splice,Go.Sx.push,Go.Sx.setObj,Go.Sx.setU,Go.Sx.setAll,Go.Sx.leI_eq,ltF,dG,cu,bd,hc,z0,i0,b0,zx,ix,bx,hl,hr,hw]
theorem vC (c:Int) (n:Nat) (e:Int) (hc:c≠0) (hr:Φ 182 [.ref 0 0,.int .i64 (d+1)] [so 0,brn fl P N 0]=some (.p (Ev.leaf 0).pv,[so c,brn fl P n e])):
  TL fl P x1 d false true base N 0 0=some (.p (Ev.leaf 0).pv,[so c,brn fl P n e]):=by
 unfold TL
 have z0:=bF (.leaf 0)
 have i0:=bi (.leaf 0)
 have b0:=bJ (.leaf 0)
 simp only [Ev.pv,Ev.ptr_l,Ev.n_l,Int.natCast_zero,decide_true,show (Ev.leaf 0).isLeaf=true from rfl] at*
 simp +contextual (maxSteps:=1000000) [ir182,rsC,ssL,↓ssM,ao,List.idxOf?_cons,Go.Sx.LV.undef,Go.undef,Go.Sx.splice,Go.Sx.push,Go.Sx.setObj,Go.Sx.setU,Go.Sx.setAll,Go.Sx.leI_eq,ltF,dG,cu,bd,hc,z0,i0,b0,hr,hw]
theorem xa (x y:Ev) (N1 N2:Nat) (hl:Φ 182 [.ref 0 0,.int .i64 (d+1)] [so 0,brn fl P N 0]=some (.p x.pv,[so 0,brn fl P N1 0]))
  (hr:Φ 182 [.ref 0 0,.int .i64 (d+1)] [so 0,brn fl P N1 0]=some (.p y.pv,[so 0,brn fl P N2 0]))
  (z:Option (LV × List (Ob))) (hz:z=if okE true true x y=true then Φ 217 [.ref 0 0,.int .u64 base,.p x.pv,.p y.pv] [so 0,brn fl P N2 0] else some (.p (Ev.leaf 0).pv,[so 6,brn fl P N2 0]))
  (hzo:okE true true x y=true→∃ (v:Ev) (c:Int),z=some (.p v.pv,[so c,brn fl P N2 0])):
  TL fl P x1 d true true base N 0 0=z:=by
 unfold TL
 have zx:=bF x
 have ix:=bi x
 have bx:=bJ x
 have zy:=bF y
 have iy:=bi y
 have by':=bJ y
 unfold okE at hz hzo
 simp only [Ev.pv,Ev.ptr_l,Ev.n_l,Int.natCast_zero,decide_true,show (Ev.leaf 0).isLeaf=true from rfl] at*
 generalize x.ptr=px at*
 generalize x.n=nx' at*
 generalize decide (x = .leaf 0)=zlx at*
 generalize x.isLeaf=lx at*
 generalize y.ptr=py at*
 generalize y.n=ny at*
 generalize decide (y = .leaf 0)=zly at*
 generalize y.isLeaf=ly at*
 have hC:(((zlx=false∧zly=false)∧(if ny<nx' then (ny:Int) else nx')=0)∧((lx=false∨ly=false)∨¬(nx':Int)=ny))=(((zlx==!true)&&(zly==!true)&&decide (Min.min nx' ny=0)&&!(lx&&ly&&decide (nx'=ny)))=true):=by
  have e1:(if ny<nx' then (ny:Int) else nx')=0↔Min.min nx' ny=0:=by split<;>omega
  have e2:(nx':Int)=ny↔nx'=ny:=by omega
  simp only [e1,e2]
  generalize Min.min nx' ny=mm
  cases zlx<;>cases zly<;>cases lx<;>cases ly<;>simp
 by_cases hok:((zlx==!true)&&(zly==!true)&&decide (Min.min nx' ny=0)&&!(lx&&ly&&decide (nx'=ny)))=true
 ·rw [if_pos hok] at hz
  obtain ⟨v,c,hv⟩:=hzo hok
  rw [hv] at hz ⊢
  rw [eq_true hok] at hC
  have hz':=hz.symm
  simp +contextual (maxSteps:=1000000) [ir182,rsC,ssL,↓ssM,ao,List.idxOf?_cons,Go.Sx.LV.undef,Go.undef,Go.Sx.splice,Go.Sx.push,Go.Sx.setObj,Go.Sx.setU,Go.Sx.setAll,Go.Sx.leI_eq,ltF,dG,cu,bd,zx,ix,bx,zy,iy,by',hl,hr,hw,hC,hz']
 ·rw [if_neg hok] at hz
  rw [eq_false hok] at hC
  subst hz
  simp +contextual (maxSteps:=1000000) [ir182,rsC,ssL,↓ssM,ao,List.idxOf?_cons,Go.Sx.LV.undef,Go.undef,Go.Sx.splice,Go.Sx.push,Go.Sx.setObj,Go.Sx.setU,Go.Sx.setAll,Go.Sx.leI_eq,ltF,dG,cu,bd,zx,ix,bx,zy,iy,by',hl,hr,hw,hC]
theorem tlL (x:Ev) (N1:Nat) (hl:Φ 182 [.ref 0 0,.int .i64 (d+1)] [so 0,brn fl P N 0]=some (.p x.pv,[so 0,brn fl P N1 0]))
  (z:Option (LV × List (Ob))) (hz:z=if okE true false x (.leaf 0)=true then Φ 217 [.ref 0 0,.int .u64 base,.p x.pv,.p (Ev.leaf 0).pv] [so 0,brn fl P N1 0] else some (.p (Ev.leaf 0).pv,[so 6,brn fl P N1 0]))
  (hzo:okE true false x (.leaf 0)=true→∃ (v:Ev) (c:Int),z=some (.p v.pv,[so c,brn fl P N1 0])):
  TL fl P x1 d true false base N 0 0=z:=by
 unfold TL
 have z0:=bF (.leaf 0)
 have i0:=bi (.leaf 0)
 have b0:=bJ (.leaf 0)
 have zx:=bF x
 have ix:=bi x
 have bx:=bJ x
 rw [xI] at hz hzo
 simp only [Ev.pv,Ev.ptr_l,Ev.n_l,Int.natCast_zero,decide_true,show (Ev.leaf 0).isLeaf=true from rfl] at*
 generalize x.ptr=px at*
 generalize x.n=nx' at*
 generalize decide (x = .leaf 0)=zlx at*
 generalize x.isLeaf=lx at*
 have hC:(zlx=false∧(lx=false∨¬nx'=0))=((!zlx&&!(lx&&decide (nx'=0)))=true):=by
  cases zlx<;>cases lx<;>simp
 by_cases hok:(!zlx&&!(lx&&decide (nx'=0)))=true
 ·rw [if_pos hok] at hz
  obtain ⟨v,c,hv⟩:=hzo hok
  rw [hv] at hz ⊢
  rw [eq_true hok] at hC
  have hz':=hz.symm
  simp +contextual (maxSteps:=1000000) [ir182,rsC,ssL,↓ssM,ao,List.idxOf?_cons,Go.Sx.LV.undef,Go.undef,Go.Sx.splice,Go.Sx.push,Go.Sx.setObj,Go.Sx.setU,Go.Sx.setAll,Go.Sx.leI_eq,ltF,dG,cu,bd,zx,ix,bx,z0,i0,b0,hl,hw,hC,hz']
 ·rw [if_neg hok] at hz
  rw [eq_false hok] at hC
  subst hz
  simp +contextual (maxSteps:=1000000) [ir182,rsC,ssL,↓ssM,ao,List.idxOf?_cons,Go.Sx.LV.undef,Go.undef,Go.Sx.splice,Go.Sx.push,Go.Sx.setObj,Go.Sx.setU,Go.Sx.setAll,Go.Sx.leI_eq,ltF,dG,cu,bd,zx,ix,bx,z0,i0,b0,hl,hw,hC]
theorem tlR (y:Ev) (N2:Nat) (hr:Φ 182 [.ref 0 0,.int .i64 (d+1)] [so 0,brn fl P N 0]=some (.p y.pv,[so 0,brn fl P N2 0]))
  (z:Option (LV × List (Ob))) (hz:z=if okE false true (.leaf 0) y=true then Φ 217 [.ref 0 0,.int .u64 base,.p (Ev.leaf 0).pv,.p y.pv] [so 0,brn fl P N2 0] else some (.p (Ev.leaf 0).pv,[so 6,brn fl P N2 0]))
  (hzo:okE false true (.leaf 0) y=true→∃ (v:Ev) (c:Int),z=some (.p v.pv,[so c,brn fl P N2 0])):
  TL fl P x1 d false true base N 0 0=z:=by
 unfold TL
 have z0:=bF (.leaf 0)
 have i0:=bi (.leaf 0)
 have b0:=bJ (.leaf 0)
 have zy:=bF y
 have iy:=bi y
 have by':=bJ y
 rw [xJ] at hz hzo
 simp only [Ev.pv,Ev.ptr_l,Ev.n_l,Int.natCast_zero,decide_true,show (Ev.leaf 0).isLeaf=true from rfl] at*
 generalize y.ptr=py at*
 generalize y.n=ny at*
 generalize decide (y = .leaf 0)=zly at*
 generalize y.isLeaf=ly at*
 have hC:(zly=false∧(ly=false∨¬(0:Int)=ny))=((!zly&&!(ly&&decide (0=ny)))=true):=by
  have e2:(0:Int)=ny↔0=ny:=by omega
  simp only [e2]
  cases zly<;>cases ly<;>simp
 by_cases hok:(!zly&&!(ly&&decide (0=ny)))=true
 ·rw [if_pos hok] at hz
  obtain ⟨v,c,hv⟩:=hzo hok
  rw [hv] at hz ⊢
  rw [eq_true hok] at hC
  have hz':=hz.symm
  simp +contextual (maxSteps:=1000000) [ir182,rsC,ssL,↓ssM,ao,List.idxOf?_cons,Go.Sx.LV.undef,Go.undef,Go.Sx.splice,Go.Sx.push,Go.Sx.setObj,Go.Sx.setU,Go.Sx.setAll,Go.Sx.leI_eq,ltF,dG,cu,bd,zy,iy,by',z0,i0,b0,hr,hw,hC,hz']
 ·rw [if_neg hok] at hz
  rw [eq_false hok] at hC
  subst hz
  simp +contextual (maxSteps:=1000000) [ir182,rsC,ssL,↓ssM,ao,List.idxOf?_cons,Go.Sx.LV.undef,Go.undef,Go.Sx.splice,Go.Sx.push,Go.Sx.setObj,Go.Sx.setU,Go.Sx.setAll,Go.Sx.leI_eq,ltF,dG,cu,bd,zy,iy,by',z0,i0,b0,hr,hw,hC]
end
end Go.Proofs.YtppeggedcaabkaaGreatDoor
end

section
namespace Go.Proofs.YtppeggedcaabkaaGreatDoor
open Go Go.Sx
def tkC:Nat→IRC→IRC
 | n+1,.seq a b=>.seq a (tkC n b)
 | _,_=>.skip
theorem pL (c:Ctx) : ∀ (k:Nat) (B:IRC) (st:St),run c B st=bindK (run c (tkC k B) st) fun p=>seqK p fun s=>run c (rsC k B) s
 | 0,B,st=>by rw [tkC,dF,bj,bc,rsC];intros;contradiction
 | k+1,.seq a b,st=>by
  rw [tkC,iK,iK,rsC]
  cases run c a st with
  | none=>rfl
  | some p=>
   obtain ⟨ex,s⟩:=p
   cases ex with
   | normal=>rw [bj,bc,bj,bc];exact pL c k b s
   | _=>rfl
 | k+1,.skip,st=>by rw [tkC,dF,bj,bc,rsC,dF]<;>(intros;first|contradiction|rename_i h;cases h)
 | k+1,.region _ _ _,st|k+1,.regq _ _ _,st|k+1,.cond _ _ _,st|k+1,.block _ _,st|k+1,.loop _,st|k+1,.exit _,st|k+1,.ret,st|k+1,.bad,st|k+1,.label _ _,st|k+1,.goto _,st|k+1,.scope _ _ _,st|k+1,.tidy _ _,st=>by
  rw [tkC,dF,bj,bc,rsC]
  all_goals (intros;first|contradiction|rename_i h;cases h|skip)
theorem tY (k:Nat) {f:FuncId} {ir:IRF} {a:List LV} {l:List (Ob)} {st:St} {x:LV × List (Ob)} (hf:findF irs f=some ir) (ha:a.length=ir.params.length)
  (h1:run ⟨Ω,noG,hpL l,l.length⟩ (tkC k ir.body) ⟨ir.params.zip a,⟨[],[]⟩⟩=some (.normal,st)) (h2:bindK (bindK (run ⟨Ω,noG,hpL l,l.length⟩ (rsC k ir.body) st) (finK ir (hpL l) l.length)) (outW l)=some x):Φ f a l=some x:=by
 refine aH hf ?_
 unfold runL
 rw [if_pos ha,pL _ k,h1,bj,bc]
 exact h2
section
variable (fl:Bool) (P:List UInt8) (d:Int)
theorem stA (N0:Nat) (x:LV × List (Ob)) (le ri:Bool) (base N:Nat) (e se:Int) (hT:TL fl P (brn fl P N0 0) d le ri base N e se=some x)
  (h:run ⟨Ω,noG,hpL [so 0,brn fl P N0 0],2⟩ (tkC 8 ir182.body) ⟨[(0,.ref 0 0),(1,.int .i64 d)],⟨[],[]⟩⟩=
   some (.normal,⟨[(0,.ref 0 0),(1,.int .i64 d),(4,.ref 2 0),(7,.ref 3 0),(8,.ref 4 0),(9,.int .u64 base),(11,.bool le),(12,.bool ri)],⟨[(1,brn fl P N e),(0,so se)],[zE,zE,zE]⟩⟩)):
  Φ 182 [.ref 0 0,.int .i64 d] [so 0,brn fl P N0 0]=some x:=
 tY 8 (ir:=ir182) (by kernel_rfl) rfl h hT
end
def EvSpec (fl:Bool) (P:List UInt8) (d:Int) (b:List Bool):Rd Ev→Prop
 | .ok x r=>Φ 182 [.ref 0 0,.int .i64 d] [so 0,brn fl P (8*P.length-b.length) 0]=some (.p x.pv,[so 0,brn fl P (8*P.length-r.length) 0])
 | .bad c=>∃ n e,Φ 182 [.ref 0 0,.int .i64 d] [so 0,brn fl P (8*P.length-b.length) 0]=some (.p (Ev.leaf 0).pv,[so c,brn fl P n e])
section
variable {fl:Bool} {P:List UInt8} {d:Int} {b:List Bool} (h28:P.length<2^28) (hb:b <:+ bitsB P)
include h28 hb
theorem c8 (le ri:Bool) (base n:Nat) (e c:Int) (hc:c≠0) (h:run ⟨Ω,noG,hpL [so 0,brn fl P (8*P.length-b.length) 0],2⟩ (tkC 8 ir182.body) ⟨[(0,.ref 0 0),(1,.int .i64 d)],⟨[],[]⟩⟩=
   some (.normal,⟨[(0,.ref 0 0),(1,.int .i64 d),(4,.ref 2 0),(7,.ref 3 0),(8,.ref 4 0),(9,.int .u64 base),(11,.bool le),(12,.bool ri)],⟨[(1,brn fl P n e),(0,so c)],[zE,zE,zE]⟩⟩)):EvSpec fl P d b (.bad c):=
 ⟨n,e,stA fl P d _ _ le ri base n e c (xb fl P _ d base n le ri e c hc) h⟩
theorem wq (hnil:b=[]):EvSpec fl P d b (.bad 6):=by
 subst hnil
 have g1:=fT fl P 1 [] h28 (by decide) hb (by decide)
 simp only [Int.natCast_one] at g1
 refine c8 h28 hb false true 0 (8*P.length-([]:List Bool).length) 6 6 (by decide) ?_
 generalize 8*P.length-([]:List Bool).length=N at*
 by_cases hd:d=16
 all_goals simp +contextual (maxSteps:=1000000) [ir182,tkC,ssL,↓ssM,ao,ssU,ssR,g1,fU,bq,hd]
theorem uv (r:List Bool) (hbr:b=true::r):EvSpec fl P d b ((getN20 r).then fun v r=>.ok (.leaf v) r):=by
 subst hbr
 have hr:r <:+ bitsB P:=(List.suffix_cons _ _).trans hb
 have g1:=cY fl P 1 (true::r) 1 r h28 (by decide) hb (cj true r)
 have g2:=tP fl P r h28 hr
 simp only [Int.natCast_one] at g1
 unfold getN20 EvSpec
 generalize 8*P.length-(true::r).length=N at*
 generalize 8*P.length-r.length=N1 at*
 cases hn:numR 62 2 0 r with
 | none=>
  rw [hn] at g2
  have lf:=ko 0 (by decide)
  simp only [Rd.then,Ev.n_l,Ev.ptr_l,Int.natCast_zero] at g2 lf ⊢
  refine ⟨N1,6,?_⟩
  refine aH (ir:=ir182) (by kernel_rfl) ?_;simp +contextual (maxSteps:=1000000) [ir182,ssL,↓ssM,ao,ssU,ssR,g1,g2,lf,Ev.n_l,Ev.ptr_l]
 | some q=>
  obtain ⟨v,s⟩:=q
  rw [hn] at g2
  by_cases h:v≤2^20
  ·simp only [if_pos h] at g2 ⊢
   have lf:=ko v h
   simp only [Rd.then,Ev.n_l,Ev.ptr_l] at lf ⊢
   generalize 8*P.length-s.length=N2 at*
   refine aH (ir:=ir182) (by kernel_rfl) ?_;simp +contextual (maxSteps:=1000000) [ir182,ssL,↓ssM,ao,ssU,ssR,g1,g2,lf,Ev.n_l,Ev.ptr_l]
  ·simp only [if_neg h] at g2 ⊢
   have lf:=um v h
   simp only [Rd.then,Ev.n_l,Ev.ptr_l,Int.natCast_zero] at lf ⊢
   refine ⟨8*P.length-s.length,0,?_⟩
   generalize 8*P.length-s.length=N2 at*
   refine aH (ir:=ir182) (by kernel_rfl) ?_;simp +contextual (maxSteps:=1000000) [ir182,ssL,↓ssM,ao,ssU,ssR,g1,g2,lf,Ev.n_l,Ev.ptr_l]
theorem uu (r:List Bool) (hbr:b=false::r) (hd:d=16):EvSpec fl P d b (.bad 3):=by
 subst hbr
 have g1:=cY fl P 1 (false::r) 0 r h28 (by decide) hb (cj false r)
 simp only [Int.natCast_one,Int.natCast_zero] at g1
 refine c8 h28 hb false true 0 (8*P.length-r.length) 0 3 (by decide) ?_
 generalize 8*P.length-(false::r).length=N at*
 generalize 8*P.length-r.length=N1 at*
 simp +contextual (maxSteps:=1000000) [ir182,tkC,ssL,↓ssM,ao,ssU,ssR,g1,fU,bq,hd]
theorem qD (r:List Bool) (hbr:b=false::r) (hd:d≠16) (c:Int) (hh:hdE r = .bad c):EvSpec fl P d b (.bad c):=by
 subst hbr
 have hr:r <:+ bitsB P:=(List.suffix_cons _ _).trans hb
 have g1:=cY fl P 1 (false::r) 0 r h28 (by decide) hb (cj false r)
 simp only [Int.natCast_one,Int.natCast_zero] at g1
 match r,hr with
 | [],hr=>
  cases hh
  have g2:=fT fl P 2 [] h28 (by decide) hr (by decide)
  simp only [Int.cast_ofNat_Int] at g2
  refine c8 h28 hb false true 0 (8*P.length-([]:List Bool).length) 6 6 (by decide) ?_
  generalize 8*P.length-([false]:List Bool).length=N at*
  generalize 8*P.length-([]:List Bool).length=N1 at*
  simp +contextual (maxSteps:=1000000) [ir182,tkC,ssL,↓ssM,ao,ssU,ssR,g1,g2,fU,bq,hd]
 | [y],hr=>
  have:hdE [y] = .bad 6:=by cases y<;>rfl
  rw [this] at hh
  cases hh
  have g2:=fT fl P 2 [y] h28 (by decide) hr (by simp)
  simp only [Int.cast_ofNat_Int] at g2
  refine c8 h28 hb false true 0 (8*P.length - [y].length) 6 6 (by decide) ?_
  generalize 8*P.length - [false,y].length=N at*
  generalize 8*P.length - [y].length=N1 at*
  simp +contextual (maxSteps:=1000000) [ir182,tkC,ssL,↓ssM,ao,ssU,ssR,g1,g2,fU,bq,hd]
 | y::z::r2,hr=>
  have hr2:r2 <:+ bitsB P:=((List.suffix_cons _ _).trans (List.suffix_cons _ _)).trans hr
  cases y with
  | false=>cases z<;>cases hh
  | true=>
   cases z with
   | false=>cases hh
   | true=>
    have g2:=cY fl P 2 (true::true::r2) 3 r2 h28 (by decide) hr (by simp [wGet,bvA])
    simp only [Int.cast_ofNat_Int] at g2
    generalize hN:8*P.length-(false::true::true::r2).length=N at*
    generalize hN1:8*P.length-(true::true::r2).length=N1 at*
    have num : ∀ (r4:List Bool) (le ri:Bool),r4 <:+ bitsB P→((getN20 r4).then fun v r=>if v=0 then Rd.bad 6 else Rd.ok (le,ri,v) r) = .bad c→∃ (v n:Nat) (e:Int),
      Φ 213 [.ref 0 0] [so 0,brn fl P (8*P.length-r4.length) 0]=some (.int .u64 v,[so (if v=0∧e=0 then 0 else c),brn fl P n e])∧(v=0→c=6)∧c≠0:=by
     intro r4 le ri h4 hq
     have g:=tP fl P r4 h28 h4
     unfold getN20 at hq
     cases hn:numR 62 2 0 r4 with
     | none=>
      rw [hn] at g hq
      cases hq
      exact ⟨0,_,6,g,fun _=>rfl,by decide⟩
     | some q=>
      obtain ⟨v,s⟩:=q
      rw [hn] at g hq
      by_cases h:v≤2^20
      ·simp only [if_pos h,Rd.then] at g hq
       by_cases h0:v=0
       ·subst h0
        simp only [if_true] at hq
        cases hq
        exact ⟨0,_,0,g,fun _=>rfl,by decide⟩
       ·rw [if_neg h0] at hq;cases hq
      ·simp only [if_neg h,Rd.then] at g hq
       cases hq
       have h0 : ¬v=0:=by omega
       refine ⟨v,8*P.length-s.length,0,?_,fun e=>absurd e h0,by decide⟩
       rw [if_neg (by simp [h0])]
       exact g
    match r2,hr2 with
    | [],hr2=>
     cases hh
     have g3:=fT fl P 1 [] h28 (by decide) hr2 (by decide)
     simp only [Int.natCast_one] at g3
     refine c8 h28 hb false true 0 (8*P.length-([]:List Bool).length) 6 6 (by decide) ?_
     rw [hN]
     generalize 8*P.length-([]:List Bool).length=N2 at*
     simp +contextual (maxSteps:=1000000) [ir182,tkC,ssL,↓ssM,ao,ssU,ssR,g1,g2,g3,fU,tQ,bd,bq,hd]
    | [false],hr2=>
     cases hh
     have g3:=cY fl P 1 [false] 0 [] h28 (by decide) hr2 (cj false [])
     have g4:=fT fl P 1 [] h28 (by decide) ((List.suffix_cons _ _).trans hr2) (by decide)
     simp only [Int.natCast_one,Int.natCast_zero] at g3 g4
     refine c8 h28 hb false true 0 (8*P.length-([]:List Bool).length) 6 6 (by decide) ?_
     rw [hN]
     generalize 8*P.length-([false]:List Bool).length=N3 at*
     generalize 8*P.length-([]:List Bool).length=N2 at*
     simp +contextual (maxSteps:=1000000) [ir182,tkC,ssL,↓ssM,ao,ssU,ssR,g1,g2,g3,g4,fU,tQ,bd,bq,hd]
    | true::r3,hr2=>
     have hr3:r3 <:+ bitsB P:=(List.suffix_cons _ _).trans hr2
     have g3:=cY fl P 1 (true::r3) 1 r3 h28 (by decide) hr2 (cj true r3)
     simp only [Int.natCast_one] at g3
     obtain ⟨v,n,e,g4,h1,h2⟩:=num r3 true true hr3 hh
     refine c8 h28 hb true true v n e c h2 ?_
     rw [hN]
     generalize 8*P.length-(true::r3).length=N3 at*
     generalize 8*P.length-r3.length=N2 at*
     by_cases h0:v=0
     ·have hc:=h1 h0
      subst h0 hc
      by_cases he:e=0
      all_goals
      simp only [he,and_self,and_false,if_true,if_false,Int.natCast_zero] at g4
      simp +contextual (maxSteps:=1000000) [ir182,tkC,ssL,↓ssM,ao,ssU,ssR,g1,g2,g3,g4,bd,bq,hd,he]
     ·have h0':0<v:=by omega
      simp only [h0,false_and,if_false] at g4
      simp +contextual (maxSteps:=1000000) [ir182,tkC,ssL,↓ssM,ao,ssU,ssR,g1,g2,g3,g4,bd,bq,hd,h0,h0',h2]
    | false::w::r4,hr2=>
     have hr3:w::r4 <:+ bitsB P:=(List.suffix_cons _ _).trans hr2
     have hr4:r4 <:+ bitsB P:=(List.suffix_cons _ _).trans hr3
     have g3:=cY fl P 1 (false::w::r4) 0 (w::r4) h28 (by decide) hr2 (cj false (w::r4))
     have g5:=cY fl P 1 (w::r4) w.toNat r4 h28 (by decide) hr3 (cj w r4)
     simp only [Int.natCast_one,Int.natCast_zero] at g3 g5
     obtain ⟨v,n,e,g4,h1,h2⟩:=num r4 w (!w) hr4 hh
     refine c8 h28 hb w (!w) v n e c h2 ?_
     rw [hN]
     generalize 8*P.length-(false::w::r4).length=N3 at*
     generalize 8*P.length-(w::r4).length=N4 at*
     generalize 8*P.length-r4.length=N2 at*
     by_cases h0:v=0
     ·have hc:=h1 h0
      subst h0 hc
      by_cases he:e=0
      all_goals
      simp only [he,and_self,and_false,if_true,if_false,Int.natCast_zero] at g4
      cases w<;>simp +contextual (maxSteps:=1000000) [ir182,tkC,ssL,↓ssM,ao,ssU,ssR,g1,g2,g3,g4,g5,bd,bq,hd,he]
     ·have h0':0<v:=by omega
      simp only [h0,false_and,if_false] at g4
      cases w<;>simp +contextual (maxSteps:=1000000) [ir182,tkC,ssL,↓ssM,ao,ssU,ssR,g1,g2,g3,g4,g5,bd,bq,hd,h0,h0',h2]
theorem su (r:List Bool) (hbr:b=false::r) (hd:d≠16) (le ri:Bool) (base:Nat) (s:List Bool) (hh:hdE r = .ok (le,ri,base) s) (x:LV × List (Ob))
  (hT:TL fl P (brn fl P (8*P.length-b.length) 0) d le ri base (8*P.length-s.length) 0 0=some x):Φ 182 [.ref 0 0,.int .i64 d] [so 0,brn fl P (8*P.length-b.length) 0]=some x:=by
 subst hbr
 have hr:r <:+ bitsB P:=(List.suffix_cons _ _).trans hb
 have g1:=cY fl P 1 (false::r) 0 r h28 (by decide) hb (cj false r)
 simp only [Int.natCast_one,Int.natCast_zero] at g1
 refine stA fl P d _ x le ri base _ 0 0 hT ?_
 clear hT
 have num : ∀ (r4:List Bool),r4 <:+ bitsB P→((getN20 r4).then fun v r=>if v=0 then Rd.bad 6 else Rd.ok (le,ri,v) r) = .ok (le,ri,base) s →
   Φ 213 [.ref 0 0] [so 0,brn fl P (8*P.length-r4.length) 0]=some (.int .u64 base,[so 0,brn fl P (8*P.length-s.length) 0])∧0<base:=by
  intro r4 h4 hq
  have g:=tP fl P r4 h28 h4
  unfold getN20 at hq
  cases hn:numR 62 2 0 r4 with
  | none=>rw [hn] at hq;cases hq
  | some q=>
   obtain ⟨v,t⟩:=q
   rw [hn] at g hq
   by_cases h:v≤2^20
   ·simp only [if_pos h,Rd.then] at g hq
    by_cases h0:v=0
    ·rw [if_pos h0] at hq;cases hq
    ·rw [if_neg h0] at hq;cases hq
     exact ⟨g,by omega⟩
   ·simp only [if_neg h,Rd.then] at g hq
    cases hq
 match r,hr with
 | [],_=>cases hh
 | [y],_=>cases y<;>cases hh
 | y::z::r2,hr=>
  have hr2:r2 <:+ bitsB P:=((List.suffix_cons _ _).trans (List.suffix_cons _ _)).trans hr
  have g2:=cY fl P 2 (y::z::r2) (2*y.toNat+z.toNat) r2 h28 (by decide) hr (by simp [wGet,bvA])
  simp only [Int.cast_ofNat_Int] at g2
  by_cases h3:y=true∧z=true
  ·obtain ⟨rfl,rfl⟩:=h3
   simp only [Bool.toNat_true,show ((2*1+1:Nat):Int)=3 from rfl] at g2
   generalize hN:8*P.length-(false::true::true::r2).length=N at*
   generalize hN1:8*P.length-(true::true::r2).length=N1 at*
   match r2,hr2 with
   | [],_=>cases hh
   | [false],_=>cases hh
   | true::r3,hr2=>
    have hr3:r3 <:+ bitsB P:=(List.suffix_cons _ _).trans hr2
    have g3:=cY fl P 1 (true::r3) 1 r3 h28 (by decide) hr2 (cj true r3)
    simp only [Int.natCast_one] at g3
    obtain ⟨rfl,rfl⟩:le=true∧ri=true:=by
     obtain ⟨v,t,_,h2⟩:=Rd.then_ok hh
     split at h2
     ·cases h2
     ·cases h2;exact ⟨rfl,rfl⟩
    obtain ⟨g4,h0⟩:=num r3 hr3 hh
    have h0' : ¬base=0:=by omega
    try rw [hN]
    generalize 8*P.length-(true::r3).length=N3 at*
    generalize 8*P.length-r3.length=N2 at*
    generalize 8*P.length-s.length=N5 at*
    simp +contextual (maxSteps:=1000000) [ir182,tkC,ssL,↓ssM,ao,ssU,ssR,g1,g2,g3,g4,bd,bq,hd,h0,h0']
   | false::w::r4,hr2=>
    have hr3:w::r4 <:+ bitsB P:=(List.suffix_cons _ _).trans hr2
    have hr4:r4 <:+ bitsB P:=(List.suffix_cons _ _).trans hr3
    have g3:=cY fl P 1 (false::w::r4) 0 (w::r4) h28 (by decide) hr2 (cj false (w::r4))
    have g5:=cY fl P 1 (w::r4) w.toNat r4 h28 (by decide) hr3 (cj w r4)
    simp only [Int.natCast_one,Int.natCast_zero] at g3 g5
    obtain ⟨rfl,rfl⟩:le=w∧ri=!w:=by
     obtain ⟨v,t,_,h2⟩:=Rd.then_ok hh
     split at h2
     ·cases h2
     ·cases h2;exact ⟨rfl,rfl⟩
    obtain ⟨g4,h0⟩:=num r4 hr4 hh
    have h0' : ¬base=0:=by omega
    try rw [hN]
    generalize 8*P.length-(false::le::r4).length=N3 at*
    generalize 8*P.length-(le::r4).length=N4 at*
    generalize 8*P.length-r4.length=N2 at*
    generalize 8*P.length-s.length=N5 at*
    cases le<;>simp +contextual (maxSteps:=1000000) [ir182,tkC,ssL,↓ssM,ao,ssU,ssR,g1,g2,g3,g4,g5,bd,bq,hd,h0,h0']
  ·have e:hdE (y::z::r2) = .ok (y||z,y||!z,0) r2:=by cases y<;>cases z<;>first|rfl|exact absurd ⟨rfl,rfl⟩ h3
   rw [e] at hh
   cases hh
   generalize hN:8*P.length-(false::y::z::s).length=N at*
   generalize hN1:8*P.length-(y::z::s).length=N1 at*
   generalize 8*P.length-s.length=N2 at*
   cases y<;>cases z
   case true.true=>exact absurd ⟨rfl,rfl⟩ h3
   all_goals
   simp only [Bool.toNat_true,Bool.toNat_false,Nat.mul_zero,Nat.mul_one,Nat.add_zero,Nat.zero_add,Int.natCast_zero,Int.natCast_one,Int.cast_ofNat_Int] at g2
   simp +contextual (maxSteps:=1000000) [ir182,tkC,ssL,↓ssM,ao,ssU,ssR,g1,g2,bd,bq,hd]
end
theorem vL {fl:Bool} {P:List UInt8} (h28:P.length<2^28) : ∀ (k:Nat) (b:List Bool),k≤16→b <:+ bitsB P→EvSpec fl P (16-k:Nat) b (getE k b)
 | k,[],hk,hb=>by
  have e:getE k [] = .bad 6:=by cases k<;>rfl
  rw [e];exact wq h28 hb rfl
 | k,true::r,hk,hb=>by
  have e:getE k (true::r)=(getN20 r).then fun v r=>.ok (.leaf v) r:=by cases k<;>rfl
  rw [e];exact uv h28 hb r rfl
 | 0,false::r,hk,hb=>uu h28 hb r rfl rfl
 | k+1,false::r,hk,hb=>by
  have hr:r <:+ bitsB P:=(List.suffix_cons _ _).trans hb
  have hd:((16-(k+1):Nat):Int)≠16:=by omega
  cases hh:hdE r with
  | bad c=>
   have e:getE (k+1) (false::r) = .bad c:=by rw [getE,hh];rfl
   rw [e];exact qD h28 hb r rfl hd c hh
  | ok q s=>
   obtain ⟨le,ri,base⟩:=q
   obtain ⟨hbase,hs,hlr⟩:=sJ hh
   have hs':=hs.trans hr
   have go:=su (fl:=fl) h28 hb r rfl hd le ri base s hh
   have hw:IntKind.i64.wrap (((16-(k+1):Nat):Int)+1)=((16-(k+1):Nat):Int)+1:=am _ (by omega) (by omega)
   have hd1:((16-k:Nat):Int)=((16-(k+1):Nat):Int)+1:=by omega
   have ih:=fun (b:List Bool) (hb:b <:+ bitsB P)=>vL (fl:=fl) h28 k b (by omega) hb
   rw [hd1] at ih
   generalize ((16-(k+1):Nat):Int)=d at*
   have fin : ∀ (x y:Ev) (t:List Bool),x.norm→y.norm→x.max≤2^20→y.max≤2^20→x.depth≤k→y.depth≤k→okE le ri x y=true →
     Φ 217 [.ref 0 0,.int .u64 base,.p x.pv,.p y.pv] [so 0,brn fl P (8*P.length-t.length) 0]=if (Ev.node base x y).max≤2^20 then some (.p (Ev.node base x y).pv,[so 0,brn fl P (8*P.length-t.length) 0]) else some (.p (Ev.leaf 0).pv,[so 4,brn fl P (8*P.length-t.length) 0]):=by
    intro x y t nx ny mx my dx dy hok
    unfold okE at hok
    simp only [Bool.and_eq_true,Bool.not_eq_true',decide_eq_true_eq] at hok
    refine wY fl P _ base x y hbase ⟨nx,ny,by have:=hok.1.2;omega,fun hc => ?_⟩ (by simp only [Ev.depth];omega) mx my
    have:=hok.2
    simp [hc.1,hc.2.1,hc.2.2] at this
   have ends : ∀ (x y:Ev) (t:List Bool),(∀ z,z=(if okE le ri x y=true then (if (Ev.node base x y).max≤2^20 then some ((.p (Ev.node base x y).pv:LV),[so 0,brn fl P (8*P.length-t.length) 0]) else some (.p (Ev.leaf 0).pv,[so 4,brn fl P (8*P.length-t.length) 0])) else some (.p (Ev.leaf 0).pv,[so 6,brn fl P (8*P.length-t.length) 0])) →
     TL fl P (brn fl P (8*P.length-(false::r).length) 0) d le ri base (8*P.length-s.length) 0 0=z) →
     EvSpec fl P d (false::r) (if okE le ri x y=true then (if (Ev.node base x y).max≤2^20 then .ok (.node base x y) t else .bad 4) else .bad 6):=by
    intro x y t hz
    by_cases h1:okE le ri x y=true
    ·by_cases h2:(Ev.node base x y).max≤2^20
     ·rw [if_pos h1,if_pos h2];exact go _ (hz _ (by rw [if_pos h1,if_pos h2]))
     ·rw [if_pos h1,if_neg h2];exact ⟨_,_,go _ (hz _ (by rw [if_pos h1,if_neg h2]))⟩
    ·rw [if_neg h1];exact ⟨_,_,go _ (hz _ (by rw [if_neg h1]))⟩
   have hl0:(Ev.leaf 0).norm∧(Ev.leaf 0).max≤2^20∧(Ev.leaf 0).depth≤k:=⟨trivial,by decide,Nat.zero_le _⟩
   have ex : ∀ (x y:Ev) (t:List Bool),∃ (v:Ev) (c:Int),(if (Ev.node base x y).max≤2^20 then some ((.p (Ev.node base x y).pv:LV),[so 0,brn fl P (8*P.length-t.length) 0]) else some (.p (Ev.leaf 0).pv,[so 4,brn fl P (8*P.length-t.length) 0]))=some (.p v.pv,[so c,brn fl P (8*P.length-t.length) 0]):=by
    intro x y t
    split
    ·exact ⟨_,_,rfl⟩
    ·exact ⟨_,_,rfl⟩
   rw [getE,hh]
   simp only [Rd.then]
   cases le with
   | true=>
    have hx:=ih s hs'
    cases hgx:getE k s with
    | bad c=>
     rw [hgx] at hx
     obtain ⟨n,e,hx⟩:=hx
     simp only [if_true]
     exact ⟨_,_,go _ (xd fl P _ d base _ hw ri c n e (dA _ _ _ hgx) hx)⟩
    | ok x t=>
     rw [hgx] at hx
     obtain ⟨nx,mx,dx,tx⟩:=gh _ _ _ _ hgx
     simp only [if_true]
     cases ri with
     | true=>
      have hy:=ih t (tx.trans hs')
      cases hgy:getE k t with
      | bad c=>
       rw [hgy] at hy
       obtain ⟨n,e,hy⟩:=hy
       simp only [if_true]
       exact ⟨_,_,go _ (xe fl P _ d base _ hw x _ c n e (dA _ _ _ hgy) hx hy)⟩
      | ok y u=>
       rw [hgy] at hy
       obtain ⟨ny,my,dy,uy⟩:=gh _ _ _ _ hgy
       simp only [if_true]
       refine ends x y u fun z hz => ?_
       refine xa fl P _ d base _ hw x y _ _ hx hy z ?_ ?_
       ·rw [hz]
        by_cases hok:okE true true x y=true
        ·rw [if_pos hok,if_pos hok,fin x y u nx ny mx my dx dy hok]
        ·rw [if_neg hok,if_neg hok]
       ·intro hok;rw [hz,if_pos hok];exact ex x y u
     | false=>
      simp only [Bool.false_eq_true,if_false]
      refine ends x (.leaf 0) t fun z hz => ?_
      refine tlL fl P _ d base _ hw x _ hx z ?_ ?_
      ·rw [hz]
       by_cases hok:okE true false x (.leaf 0)=true
       ·rw [if_pos hok,if_pos hok,fin x _ t nx hl0.1 mx hl0.2.1 dx hl0.2.2 hok]
       ·rw [if_neg hok,if_neg hok]
      ·intro hok;rw [hz,if_pos hok];exact ex x _ t
   | false=>
    obtain rfl:ri=true:=by simpa using hlr
    have hy:=ih s hs'
    simp only [Bool.false_eq_true,if_false,if_true]
    cases hgy:getE k s with
    | bad c=>
     rw [hgy] at hy
     obtain ⟨n,e,hy⟩:=hy
     exact ⟨_,_,go _ (vC fl P _ d base _ hw c n e (dA _ _ _ hgy) hy)⟩
    | ok y u=>
     rw [hgy] at hy
     obtain ⟨ny,my,dy,uy⟩:=gh _ _ _ _ hgy
     refine ends (.leaf 0) y u fun z hz => ?_
     refine tlR fl P _ d base _ hw y _ hy z ?_ ?_
     ·rw [hz]
      by_cases hok:okE false true (.leaf 0) y=true
      ·rw [if_pos hok,if_pos hok,fin _ y u hl0.1 ny hl0.2.1 my hl0.2.2 dy hok]
      ·rw [if_neg hok,if_neg hok]
     ·intro hok;rw [hz,if_pos hok];exact ex _ y u
end Go.Proofs.YtppeggedcaabkaaGreatDoor
end
