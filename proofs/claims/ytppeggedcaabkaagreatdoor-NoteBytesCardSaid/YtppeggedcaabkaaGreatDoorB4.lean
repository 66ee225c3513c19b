/- What the proof of the claim leans on, part 4 of 5: the value machine, the functions as it has them, their specifications. No condition. -/
import Derived.Test.YtppeggedcaabkaaGreatDoorB3
set_option linter.all false
set_option linter.unnecessarySimpa false
set_option linter.unusedSimpArgs false
set_option linter.unusedVariables false
set_option linter.constructorNameAsVariable false
set_option maxHeartbeats 4000000
section
namespace Go.Proofs.YtppeggedcaabkaaGreatDoor
open Go Go.Sx
theorem At.call {H:Heap} {nx wid P pid n:Nat} {h:Hp} {p:List UInt8} (g:At H nx h wid P pid p n) {u:Upd} {m:List (Ob)} {pid' n':Nat} {p':List UInt8} (e2:Post (Go.Sx.look H nx h) (nx+h.new.length) wid pid n u m pid' p' n'):
  At H nx (aft nx h u m) wid P pid' p' n'∧(∀ id,id<nx+h.new.length→id≠wid→(n=0∨id≠pid)→Go.Sx.look H nx (aft nx h u m) id=Go.Sx.look H nx h id)∧h.new.length≤(aft nx h u m).new.length∧(findU (aft nx h u m).upd wid).isSome=true∧(pid'=pid∨nx+h.new.length≤pid'):=by
 have hlook : ∀ id,Go.Sx.look H nx (aft nx h u m) id=Go.Sx.look (Go.Sx.look H nx h) (nx+h.new.length) ⟨u,m⟩ id:=fun id=>dX e2.keys id
 have hlen:(aft nx h u m).new.length=h.new.length+m.length:=by simp [aft,bC]
 have hfun:Go.Sx.look H nx (aft nx h u m)=Go.Sx.look (Go.Sx.look H nx h) (nx+h.new.length) ⟨u,m⟩:=funext hlook
 have hal:=UZ.all g.lt g.ne g.uz (pid:=if n=0 then nx+h.new.length+wid+1 else pid) (by
  by_cases h0:n=0
  ·rw [if_pos h0];exact .inr (by omega)
  ·rw [if_neg h0];exact g.pp.resolve_left h0) e2.form
 have hpp:pid'=pid∨nx+h.new.length≤pid':=by
  rcases e2.pp with ⟨a,b⟩|b
  ·exact .inl b
  ·exact .inr b
 refine ⟨⟨?_,g.lt,g.ne,?_,⟨hal.1.uf,hal.1.zz,hal.1.kk⟩⟩,fun id h1 h2 h3=>by rw [hlook];exact e2.frame id h1 h2 h3,by omega,hal.2,hpp⟩
 ·rw [hfun,hlen,←Nat.add_assoc]
  exact e2.wr
 ·rcases e2.pp with ⟨a,b⟩|b
  ·rw [b]
   rcases g.pp with h|h
   ·omega
   ·exact .inr h
  ·exact .inr (.inr (by omega))
structure Wk (H:Heap) (nx:Nat) (h:Hp) (wid P pid:Nat) (p:List UInt8) (n:Nat) (L:List (Ob)):Prop where
 a:At H nx h wid P pid p n
 k : ∀ (j:Nat) o,L[j]?=some (some o)→Go.Sx.look H nx h (nx+j)=some o
 kl:L.length≤h.new.length
 kp:n=0∨pid<nx∨nx+L.length≤pid
theorem Wk.init {H:Heap} {nx wid pid:Nat} {p:List UInt8} {n:Nat} (g:Wr H nx wid pid p n) (L:List (Ob)):Wk H nx ⟨[],L⟩ wid (if n=0 then nx+wid+1 else pid) pid p n L:=by
 have hlt:=g.lt
 have hl : ∀ id,id<nx→Go.Sx.look H nx ⟨[],L⟩ id=H id:=fun id h=>by simp [Go.Sx.look,findU,h]
 refine ⟨⟨⟨by simp;omega,g.len,g.small,?_⟩,hlt,?_,?_,⟨.u0,fun o h=>by simp [findU] at h,fun id o h=>by simp [findU] at h⟩⟩,?_,Nat.le_refl _,?_⟩
 ·rcases g.at' with ⟨h0,h1⟩|⟨h0,h1,h2,h3,h4⟩
  ·exact .inl ⟨h0,by rw [hl _ hlt];exact h1⟩
  ·exact .inr ⟨h0,by simp;omega,h2,by rw [hl _ hlt];exact h3,by rw [hl _ h1];exact h4⟩
 ·split
  ·omega
  ·rcases g.at' with ⟨h0,h1⟩|⟨h0,h1,h2,h3,h4⟩
   ·omega
   ·exact h2
 ·by_cases h0:n=0
  ·exact .inl h0
  ·rw [if_neg h0];exact .inr (.inl rfl)
 ·intro j o hj
  simp [Go.Sx.look,ltF,hj]
 ·rcases g.at' with ⟨h0,h1⟩|⟨h0,h1,h2,h3,h4⟩
  ·exact .inl h0
  ·exact .inr (.inl h1)
theorem Wk.call {H:Heap} {nx wid P pid n:Nat} {h:Hp} {p:List UInt8} {L:List (Ob)} (w:Wk H nx h wid P pid p n L) {u:Upd} {m:List (Ob)} {pid' n':Nat} {p':List UInt8} (e2:Post (Go.Sx.look H nx h) (nx+h.new.length) wid pid n u m pid' p' n'):
  Wk H nx (aft nx h u m) wid P pid' p' n' L∧(findU (aft nx h u m).upd wid).isSome=true:=by
 obtain ⟨a',hf,hlen,hw,_⟩:=w.a.call e2
 have hlt:=w.a.lt
 have hkl:=w.kl
 refine ⟨⟨a',fun j o hj => ?_,Nat.le_trans w.kl hlen,?_⟩,hw⟩
 ·have hjl:=(List.getElem?_eq_some_iff.1 hj).1
  rw [hf (nx+j) (by omega) (by omega) (by rcases w.kp with h|h|h;exact .inl h;exact .inr (by omega);exact .inr (by omega))]
  exact w.k j o hj
 ·rcases e2.pp with ⟨h0,rfl⟩|h0
  ·exact .inr (w.kp.resolve_left (by omega))
  ·exact .inr (.inr (by omega))
theorem Wk.put {H:Heap} {nx wid P pid n:Nat} {h:Hp} {p:List UInt8} {L:List (Ob)} (w:Wk H nx h wid P pid p n L) (x k:Nat) (hk0:0<k) (hk:k≤64) (hn:n+k<2^30):
  ∃ u m pid',Ω 136 [.ref wid 0,.int .u64 x,.int .i64 k] (Go.Sx.look H nx h) (nx+h.new.length)=some (.tuple [],u,m)∧Wk H nx (aft nx h u m) wid P pid' (addBits p n (bitsOf x k)) (n+k) L∧(findU (aft nx h u m).upd wid).isSome=true:=by
 obtain ⟨u,m,pid',e1,e2⟩:=zF w.a.wr x k hk0 hk hn
 exact ⟨u,m,pid',e1,w.call e2⟩
theorem Wk.num {H:Heap} {nx wid P pid n:Nat} {h:Hp} {p:List UInt8} {L:List (Ob)} (w:Wk H nx h wid P pid p n L) (v:Nat) (hv:v<2^64) (hn:n+200<2^30):
  ∃ u m pid',Ω 137 [.ref wid 0,.int .u64 v] (Go.Sx.look H nx h) (nx+h.new.length)=some (.tuple [],u,m)∧Wk H nx (aft nx h u m) wid P pid' (addBits p n (numBits v 2 62)) (n+(numBits v 2 62).length) L∧(findU (aft nx h u m).upd wid).isSome=true:=by
 obtain ⟨u,m,pid',e1,e2⟩:=yE w.a.wr v hv hn
 exact ⟨u,m,pid',e1,w.call e2⟩
def seqL:IRC→IRC
 | .seq a _=>a
 | x=>x
def seqR:IRC→IRC
 | .seq _ b=>b
 | x=>x
def idBits:Id→List Bool
 | .zero=>bitsOf 0 2++bitsOf 0 1
 | .one=>bitsOf 0 2++bitsOf 1 1
 | .node l r=>if l = .zero then bitsOf 1 2++idBits r else if r = .zero then bitsOf 2 2++idBits l else bitsOf 3 2++idBits l++idBits r
theorem dh (i:Id):0<(idBits i).length:=by
 cases i with
 | node l r=>unfold idBits;split<;>(try split)<;>simp [ae]<;>omega
 | _=>simp [idBits,ae]
def pidA:IRC:=seqL ir132.body
def pidB:IRC:=seqL (seqR ir132.body)
def pidC:IRC:=seqR (seqR ir132.body)
abbrev idC (i:Id):Ob:=some (.cells [.bool i.all,.p i.ptr])
theorem AB (i:Id) (x:LV) (H:Heap) (nx n:Nat):runCS ⟨Ω,noG,H,nx⟩ n pidA ⟨[(0,x),(1,.p i.pv)],⟨[],[]⟩⟩=some (.normal,⟨[(0,x),(3,.ref nx 0)],⟨[],[idC i]⟩⟩):=by
 simp [pidA,seqL,ir132,ssB,ssU,ssP,appO]
theorem AD (i:Id) (x:LV) (H:Heap) (nx n:Nat):runCS ⟨Ω,noG,H,nx⟩ n pidB ⟨[(0,x),(3,.ref nx 0)],⟨[],[idC i]⟩⟩=some (.normal,⟨[(0,x),(3,.ref nx 0),(4,.ref (nx+1) 0),(5,.ref (nx+2) 0)],⟨[],[idC i,idC i.left,idC i.right]⟩⟩):=by
 have l1:=wX i
 have l2:=uJ i
 generalize i.left=l at*
 generalize i.right=r at*
 simp [pidB,seqL,seqR,ir132,ssB,ssU,ssP,appO,l1,l2]
section
variable {H:Heap} {nx wid pid n:Nat} {p:List UInt8}
theorem jo {i:Id} {h:Hp} {u:Upd} {m:List (Ob)} {e:List (Nat × LV)} (N:Nat) (H:Heap) (nx:Nat) (h3:runCS ⟨Ω,noG,H,nx⟩ N pidC ⟨[(0,.ref wid 0),(3,.ref nx 0),(4,.ref (nx+1) 0),(5,.ref (nx+2) 0)],⟨[],[idC i,idC i.left,idC i.right]⟩⟩=some (.normal,⟨e,h⟩)) (hf:finish false H nx (.tuple []) h=some (.tuple [],u,m)):
  Ω 132 [.ref wid 0,.p i.pv] H nx=some (.tuple [],u,m):=by
 refine af (ir:=ir132) (by kernel_rfl) N ?_
 have hr:ir132=⟨[0,1],.seq pidA (.seq pidB pidC),[],false⟩:=rfl
 rw [hr]
 have a:=AB i (.ref wid 0) H nx N
 have b:=AD i (.ref wid 0) H nx N
 generalize pidA=A at*
 generalize pidB=B at*
 generalize pidC=C at*
 simp [ssB,ssU,ak,aj,aa,Go.Sx.splice,appO,Go.Sx.leI_eq,ltF,a,b,h3,hf]
theorem kh (i:Id) (x:Nat) (hx:(i = .zero∧x=0)∨(i = .one∧x=1)) (g:Wr H nx wid pid p n) (hn:n+3<2^30):
  ∃ u m pid',Ω 132 [.ref wid 0,.p i.pv] H nx=some (.tuple [],u,m)∧Post H nx wid pid n u m pid' (addBits p n (bitsOf 0 2++bitsOf x 1)) (n+3):=by
 have a0:=Wk.init g [idC i,idC i.left,idC i.right]
 obtain ⟨u1,m1,q1,f1,a1,_⟩:=a0.put 0 2 (by decide) (by decide) (by omega)
 obtain ⟨u2,m2,q2,f2,a2,w2⟩:=a1.put x 1 (by decide) (by decide) (by omega)
 have hb:addBits (addBits p n (bitsOf 0 2)) (n+2) (bitsOf x 1)=addBits p n (bitsOf 0 2++bitsOf x 1):=by rw [bj,ae]
 rw [hb] at a2
 obtain ⟨u,m,q,f3,f4⟩:=a2.a.post false (pid0:=pid) (n0:=n) (by omega) w2
 refine ⟨u,m,q,jo (e:=[]) 1 H nx ?_ f3,f4⟩
 have z1:=aR i
 have z2:=bg i
 have k0:=a0.k 0 _ rfl
 have c0:((0:Nat):Int)=0:=rfl
 have c1:((1:Nat):Int)=1:=rfl
 have c2:((2:Nat):Int)=2:=rfl
 rw [c0,c2] at f1
 rw [Nat.add_zero] at k0
 generalize (⟨[],[idC i,idC i.left,idC i.right]⟩:Hp)=h0 at*
 rcases hx with ⟨hi,rfl⟩|⟨hi,rfl⟩
 ·rw [c0,c1] at f2
  have n1:(i = .zero)=True:=by simp [hi]
  simp only [n1,decide_true] at z1
  clear hi n1
  simp [pidC,seqR,ir132,ssB,ssU,ak,aj,aa,Go.Sx.splice,appO,Go.Sx.leI_eq,ltF,z1,z2,f1,f2,k0]
 ·rw [c1] at f2
  have n1:(i = .zero)=False:=by simp [hi]
  have n2:(i = .one)=True:=by simp [hi]
  simp only [n1,decide_false] at z1
  simp only [n2,decide_true] at z2
  clear hi n1 n2
  simp [pidC,seqR,ir132,ssB,ssU,ak,aj,aa,Go.Sx.splice,appO,Go.Sx.leI_eq,ltF,z1,z2,f1,f2,k0]
theorem kg : ∀ (i:Id) (H:Heap) (nx wid pid n:Nat) (p:List UInt8),Wr H nx wid pid p n→n+(idBits i).length<2^30 →
  ∃ u m pid',Ω 132 [.ref wid 0,.p i.pv] H nx=some (.tuple [],u,m)∧Post H nx wid pid n u m pid' (addBits p n (idBits i)) (n+(idBits i).length)
 | .zero,H,nx,wid,pid,n,p,g,hn=>kh .zero 0 (.inl ⟨rfl,rfl⟩) g (by simpa [idBits,ae] using hn)
 | .one,H,nx,wid,pid,n,p,g,hn=>kh .one 1 (.inr ⟨rfl,rfl⟩) g (by simpa [idBits,ae] using hn)
 | .node l r,H,nx,wid,pid,n,p,g,hn=>by
  have a0:=Wk.init g [idC (.node l r),idC l,idC r]
  have z1:=aR (.node l r)
  have z2:=bg (.node l r)
  have z3:=aR l
  have z4:=aR r
  have c0:((0:Nat):Int)=0:=rfl
  have c1:((1:Nat):Int)=1:=rfl
  have c2:((2:Nat):Int)=2:=rfl
  have c3:((3:Nat):Int)=3:=rfl
  have n1:(Id.node l r = .zero)=False:=by simp
  have n2:(Id.node l r = .one)=False:=by simp
  simp only [n1,decide_false] at z1
  simp only [n2,decide_false] at z2
  clear n1 n2
  have k0:=a0.k 0 _ rfl
  have k1:=a0.k 1 _ rfl
  have k2:=a0.k 2 _ rfl
  rw [Nat.add_zero] at k0
  by_cases hl:l = .zero
  ·have hB:idBits (.node l r)=bitsOf 1 2++idBits r:=by simp [idBits,hl]
   rw [hB] at hn ⊢
   rw [List.length_append,ae] at hn
   obtain ⟨u1,m1,q1,f1,a1,_⟩:=a0.put 1 2 (by decide) (by decide) (by omega)
   obtain ⟨u2,m2,q2,f2,p2⟩:=kg r _ _ wid q1 (n+2) _ a1.a.wr (by omega)
   obtain ⟨a2,w2⟩:=a1.call p2
   rw [List.length_append,ae,←Nat.add_assoc,bj,ae]
   have hp:=dh r
   obtain ⟨u,m,q,f3,f4⟩:=a2.a.post false (pid0:=pid) (n0:=n) (by omega) w2
   refine ⟨u,m,q,jo (e:=[]) 1 H nx ?_ f3,f4⟩
   rw [c1,c2] at f1
   have n3:(l = .zero)=True:=by simp [hl]
   simp only [n3,decide_true] at z3
   clear n3
   have k3:=a1.k 2 _ rfl
   rw [Id.left_n,Id.right_n]
   generalize (⟨[],[idC (.node l r),idC l,idC r]⟩:Hp)=h0 at*
   generalize Id.node l r=i at*
   clear hl
   simp [pidC,seqR,ir132,ssB,ssU,ak,aj,aa,Go.Sx.splice,appO,Go.Sx.leI_eq,ltF,z1,z2,z3,f1,f2,k0,k1,k3]
  ·simp only [hl,decide_false] at z3
   by_cases hr:r = .zero
   ·have hB:idBits (.node l r)=bitsOf 2 2++idBits l:=by simp [idBits,hl,hr]
    rw [hB] at hn ⊢
    rw [List.length_append,ae] at hn
    obtain ⟨u1,m1,q1,f1,a1,_⟩:=a0.put 2 2 (by decide) (by decide) (by omega)
    obtain ⟨u2,m2,q2,f2,p2⟩:=kg l _ _ wid q1 (n+2) _ a1.a.wr (by omega)
    obtain ⟨a2,w2⟩:=a1.call p2
    rw [List.length_append,ae,←Nat.add_assoc,bj,ae]
    have hp:=dh l
    obtain ⟨u,m,q,f3,f4⟩:=a2.a.post false (pid0:=pid) (n0:=n) (by omega) w2
    refine ⟨u,m,q,jo (e:=[]) 1 H nx ?_ f3,f4⟩
    rw [c2] at f1
    have n4:(r = .zero)=True:=by simp [hr]
    simp only [n4,decide_true] at z4
    clear n4
    have k3:=a1.k 1 _ rfl
    rw [Id.left_n,Id.right_n]
    generalize (⟨[],[idC (.node l r),idC l,idC r]⟩:Hp)=h0 at*
    generalize Id.node l r=i at*
    clear hl hr
    simp [pidC,seqR,ir132,ssB,ssU,ak,aj,aa,Go.Sx.splice,appO,Go.Sx.leI_eq,ltF,z1,z2,z3,z4,f1,f2,k0,k1,k2,k3]
   ·simp only [hr,decide_false] at z4
    have hB:idBits (.node l r)=bitsOf 3 2++idBits l++idBits r:=by simp [idBits,hl,hr]
    rw [hB] at hn ⊢
    rw [List.length_append,List.length_append,ae] at hn
    obtain ⟨u1,m1,q1,f1,a1,_⟩:=a0.put 3 2 (by decide) (by decide) (by omega)
    obtain ⟨u2,m2,q2,f2,p2⟩:=kg l _ _ wid q1 (n+2) _ a1.a.wr (by omega)
    obtain ⟨a2,_⟩:=a1.call p2
    obtain ⟨u3,m3,q3,f3,p3⟩:=kg r _ _ wid q2 (n+2+(idBits l).length) _ a2.a.wr (by omega)
    obtain ⟨a3,w3⟩:=a2.call p3
    rw [List.length_append,List.length_append,ae,←Nat.add_assoc,←Nat.add_assoc,bj,bj,ae,List.length_append,ae,←Nat.add_assoc]
    have hp:=dh l
    obtain ⟨u,m,q,f4,f5⟩:=a3.a.post false (pid0:=pid) (n0:=n) (by omega) w3
    refine ⟨u,m,q,jo (e:=[]) 1 H nx ?_ f4,f5⟩
    rw [c3,c2] at f1
    have k3:=a1.k 1 _ rfl
    have k4:=a2.k 2 _ rfl
    rw [Id.left_n,Id.right_n]
    generalize (⟨[],[idC (.node l r),idC l,idC r]⟩:Hp)=h0 at*
    generalize Id.node l r=i at*
    clear hl hr
    simp [pidC,seqR,ir132,ssB,ssU,ak,aj,aa,Go.Sx.splice,appO,Go.Sx.leI_eq,ltF,z1,z2,z3,z4,f1,f2,f3,k0,k1,k2,k3,k4]
end
end Go.Proofs.YtppeggedcaabkaaGreatDoor
end

section
namespace Go.Proofs.YtppeggedcaabkaaGreatDoor
open Go Go.Sx
structure Wq (H:Heap) (nx:Nat) (h:Hp) (wid P pid:Nat) (p:List UInt8) (n:Nat) (K:List (Nat × Go.Sx.Obj)):Prop where
 a:At H nx h wid P pid p n
 k : ∀ x∈K,Go.Sx.look H nx h x.1=some x.2∧nx≤x.1∧x.1<nx+h.new.length∧(n=0∨x.1≠pid)
section
variable {H:Heap} {nx:Nat} {h:Hp} {wid P pid:Nat} {p:List UInt8} {n:Nat} {K:List (Nat × Go.Sx.Obj)}
theorem Wk.toQ {L:List (Ob)} (w:Wk H nx h wid P pid p n L) (hK : ∀ x∈K,∃ j,x.1=nx+j∧L[j]?=some (some x.2)):Wq H nx h wid P pid p n K:=by
 refine ⟨w.a,fun x hx => ?_⟩
 obtain ⟨j,h1,h2⟩:=hK x hx
 have hj:=(List.getElem?_eq_some_iff.1 h2).1
 have hl:=w.kl
 rw [h1]
 refine ⟨w.k j _ h2,by omega,by omega,?_⟩
 rcases w.kp with h|h|h
 ·exact .inl h
 ·exact .inr (by omega)
 ·exact .inr (by omega)
theorem Wq.call (w:Wq H nx h wid P pid p n K) {u:Upd} {m:List (Ob)} {pid' n':Nat} {p':List UInt8} (e2:Post (Go.Sx.look H nx h) (nx+h.new.length) wid pid n u m pid' p' n'):
  Wq H nx (aft nx h u m) wid P pid' p' n' K∧(findU (aft nx h u m).upd wid).isSome=true:=by
 obtain ⟨a',hf,hlen,hw,_⟩:=w.a.call e2
 have hlt:=w.a.lt
 refine ⟨⟨a',fun x hx => ?_⟩,hw⟩
 obtain ⟨k1,k2,k3,k4⟩:=w.k x hx
 refine ⟨by rw [hf x.1 k3 (by omega) k4];exact k1,k2,by omega,?_⟩
 rcases e2.pp with ⟨h0,rfl⟩|h0
 ·exact .inr (k4.resolve_left (by omega))
 ·exact .inr (by omega)
theorem Wq.put (w:Wq H nx h wid P pid p n K) (x k:Nat) (hk0:0<k) (hk:k≤64) (hn:n+k<2^30):
  ∃ u m pid',Ω 136 [.ref wid 0,.int .u64 x,.int .i64 k] (Go.Sx.look H nx h) (nx+h.new.length)=some (.tuple [],u,m)∧Wq H nx (aft nx h u m) wid P pid' (addBits p n (bitsOf x k)) (n+k) K∧(findU (aft nx h u m).upd wid).isSome=true:=by
 obtain ⟨u,m,pid',e1,e2⟩:=zF w.a.wr x k hk0 hk hn
 exact ⟨u,m,pid',e1,w.call e2⟩
theorem Wq.num (w:Wq H nx h wid P pid p n K) (v:Nat) (hv:v<2^64) (hn:n+200<2^30):
  ∃ u m pid',Ω 137 [.ref wid 0,.int .u64 v] (Go.Sx.look H nx h) (nx+h.new.length)=some (.tuple [],u,m)∧Wq H nx (aft nx h u m) wid P pid' (addBits p n (numBits v 2 62)) (n+(numBits v 2 62).length) K∧(findU (aft nx h u m).upd wid).isSome=true:=by
 obtain ⟨u,m,pid',e1,e2⟩:=yE w.a.wr v hv hn
 exact ⟨u,m,pid',e1,w.call e2⟩
theorem Wq.push (w:Wq H nx h wid P pid p n K) (o:Go.Sx.Obj):Wq H nx (Go.Sx.push h o) wid P pid p n ((nx+h.new.length,o)::K):=by
 have hlt:=w.a.lt
 have lk : ∀ id,id<nx+h.new.length→Go.Sx.look H nx (Go.Sx.push h o) id=Go.Sx.look H nx h id:=fun id hi=>by rw [ao];exact if_neg (by omega)
 have hpl:(Go.Sx.push h o).new.length=h.new.length+1:=az _ _
 refine ⟨⟨⟨by rw [hpl];omega,w.a.wr.len,w.a.wr.small,?_⟩,w.a.lt,w.a.ne,w.a.pp,w.a.uz.push o⟩,fun x hx => ?_⟩
 ·rcases w.a.wr.at' with ⟨h0,h1⟩|⟨h0,h1,h2,h3,h4⟩
  ·exact .inl ⟨h0,by rw [lk _ (by omega)];exact h1⟩
  ·exact .inr ⟨h0,by rw [hpl];omega,h2,by rw [lk _ (by omega)];exact h3,by rw [lk _ (by omega)];exact h4⟩
 ·rcases List.mem_cons.1 hx with rfl|hx
  ·refine ⟨by rw [ao,if_pos rfl],by omega,by rw [hpl];omega,?_⟩
   rcases w.a.wr.at' with ⟨h0,h1⟩|⟨h0,h1,h2,h3,h4⟩
   ·exact .inl h0
   ·exact .inr (Nat.ne_of_gt h1)
  ·obtain ⟨k1,k2,k3,k4⟩:=w.k x hx
   exact ⟨by rw [lk _ k3];exact k1,k2,by rw [hpl];omega,k4⟩
theorem Wq.sub {K':List (Nat × Go.Sx.Obj)} (w:Wq H nx h wid P pid p n K) (hs : ∀ x∈K',x∈K):Wq H nx h wid P pid p n K':=⟨w.a,fun x hx=>w.k x (hs x hx)⟩
theorem dD (nx:Nat) (h:Hp) (o:Go.Sx.Obj) (o':Ob):Go.Sx.setObj nx (Go.Sx.push h o) (nx+h.new.length) o'=⟨h.upd,h.new++[o']⟩:=by
 simp [Go.Sx.setObj,Go.Sx.push,ltF]
end
theorem bI (e:Ev) (H:Heap) (nx:Nat):Ω 139 [.p e.pv] H nx=some (.bool (decide (e = .leaf 0)),[],[]):=by
 refine af (ir:=ir139) (by kernel_rfl) 0 ?_
 cases e with
 | leaf n=>
  have h1:=jM n
  have h2:=qD n (.s (.pointer none))
  by_cases h0:n=0
  ·subst h0
   simp only [Int.natCast_zero,Int.ofNat_zero] at h1 h2
   simp [ir139,Ev.n_l,Ev.ptr_l,h1,h2,ssB,ssU,ssP,appO]
  ·have:((n:Int)==0)=false:=by simp;omega
   simp [ir139,Ev.n_l,Ev.ptr_l,h1,h2,this,h0,ssB,ssU,ssP,appO]
 | node n l r=>
  have h1:=fun cs=>jN n cs
  simp [ir139,Ev.n_n,Ev.ptr_n,h1,ssB,ssU,ssP,appO]
theorem wN (e:Ev) (H:Heap) (nx:Nat):Ω 133 [.p e.pv] H nx=some (.p e.left.pv,[],[]):=by
 cases e
 ·exact nc _ H nx
 ·exact nf _ _ _ _ _ H nx
theorem uj (e:Ev) (H:Heap) (nx:Nat):Ω 134 [.p e.pv] H nx=some (.p e.right.pv,[],[]):=by
 cases e
 ·exact kR _ H nx
 ·exact kS _ _ _ _ _ H nx
theorem bw (e:Ev) (H:Heap) (nx:Nat):Ω 135 [.p e.pv] H nx=some (.bool e.isLeaf,[],[]):=by
 cases e
 ·exact jM _ H nx
 ·exact jN _ _ H nx
theorem bO (e:Ev) (H:Heap) (nx:Nat):Ω 138 [.p e.pv] H nx=some (.int .u64 e.n,[],[]):=qD _ _ H nx
def evKind (n:Nat) (zl zr:Bool):List Bool:=
 if n=0 then (if zl then bitsOf 0 2 else if zr then bitsOf 1 2 else bitsOf 2 2)
 else bitsOf 3 2++(if zl then bitsOf 0 2 else if zr then bitsOf 1 2 else bitsOf 1 1)
theorem pd (n:Nat) (zl zr:Bool):0<(evKind n zl zr).length∧(evKind n zl zr).length≤4:=by
 unfold evKind
 split<;>cases zl<;>cases zr<;>simp [ae]
def evBits:Ev→List Bool
 | .leaf n=>bitsOf 1 1++numBits n 2 62
 | .node n l r=>bitsOf 0 1++evKind n (decide (l = .leaf 0)) (decide (r = .leaf 0))++(if n=0 then [] else numBits n 2 62)++(if l = .leaf 0 then [] else evBits l)++(if r = .leaf 0 then [] else evBits r)
def pevA:IRC:=seqL ir74.body
def pevB:IRC:=seqL (seqR ir74.body)
def pevC:IRC:=seqL (seqR (seqR ir74.body))
def pevD:IRC:=seqL (seqR (seqR (seqR ir74.body)))
def pevE:IRC:=seqL (seqR (seqR (seqR (seqR ir74.body))))
def pevF:IRC:=seqL (seqR (seqR (seqR (seqR (seqR ir74.body)))))
def pevG:IRC:=seqL (seqR (seqR (seqR (seqR (seqR (seqR ir74.body))))))
theorem tt:ir74=⟨[0,1],.seq pevA (.seq pevB (.seq pevC (.seq pevD (.seq pevE (.seq pevF (.seq pevG (.block 1 (.loop ir74_0)))))))),[],false⟩:=rfl
abbrev evO (e:Ev):Go.Sx.Obj:=.cells [.int .u64 e.n,.p e.ptr]
abbrev evC (e:Ev):Ob:=some (evO e)
theorem Av (e:Ev) (x:LV) (H:Heap) (nx n:Nat):runCS ⟨Ω,noG,H,nx⟩ n pevA ⟨[(0,x),(1,.p e.pv)],⟨[],[]⟩⟩=some (.normal,⟨[(0,x),(3,.ref nx 0)],⟨[],[evC e]⟩⟩):=by
 simp [pevA,seqL,ir74,ssB,ssU,ssP,appO]
theorem Aw (e:Ev) (x:LV) (H:Heap) (nx n:Nat):runCS ⟨Ω,noG,H,nx⟩ n pevB ⟨[(0,x),(3,.ref nx 0)],⟨[],[evC e]⟩⟩=some (.normal,⟨[(0,x),(3,.ref nx 0),(4,.ref (nx+1) 0),(5,.ref (nx+2) 0)],⟨[],[evC e,evC e.left,evC e.right]⟩⟩):=by
 have l1:=wN e
 have l2:=uj e
 generalize e.left=l at*
 generalize e.right=r at*
 simp [pevB,seqL,seqR,ir74,ssB,ssU,ssP,appO,l1,l2]
abbrev pevEnv (wid nx:Nat):List (Nat × LV):=[(0,.ref wid 0),(3,.ref nx 0),(4,.ref (nx+1) 0),(5,.ref (nx+2) 0)]
abbrev pevK (nx:Nat) (e:Ev):List (Nat × Go.Sx.Obj):=[(nx,evO e),(nx+1,evO e.left),(nx+2,evO e.right)]
section
variable {H:Heap} {nx:Nat} {h:Hp} {wid P pid:Nat} {p:List UInt8} {n:Nat}
theorem zw (N:Nat) (e:Ev) (w:Wq H nx h wid P pid p n (pevK nx e)) (hl:e.isLeaf=false):runCS ⟨Ω,noG,H,nx⟩ N pevC ⟨pevEnv wid nx,h⟩=some (.normal,⟨(pevEnv wid nx)++[(13,.bool false)],h⟩):=by
 have k0:=(w.k _ (List.mem_cons_self)).1
 have z:=bw e
 rw [hl] at z
 simp [pevC,seqL,seqR,ir74,ssB,ssU,ak,aj,aa,Go.Sx.splice,appO,Go.Sx.leI_eq,ltF,z,k0]
theorem zD (N:Nat) (e:Ev) (w:Wq H nx h wid P pid p n (pevK nx e)) (hl:e.isLeaf=true) (hv:e.n<2^64) (hn:n+201<2^30) : ∃ h' pid',runCS ⟨Ω,noG,H,nx⟩ N pevC ⟨pevEnv wid nx,h⟩=some (.ret,⟨[],h'⟩)∧Wq H nx h' wid P pid' (addBits p n (bitsOf 1 1++numBits e.n 2 62)) (n+(1+(numBits e.n 2 62).length)) (pevK nx e)∧(findU h'.upd wid).isSome=true:=by
 have k0:=(w.k _ (List.mem_cons_self)).1
 have z:=bw e
 rw [hl] at z
 have b:=bO e
 obtain ⟨u1,m1,q1,f1,a1,_⟩:=w.put 1 1 (by decide) (by decide) (by omega)
 obtain ⟨u2,m2,q2,f2,a2,w2⟩:=a1.num e.n hv (by omega)
 have k1:=(a1.k _ (List.mem_cons_self)).1
 have c1:((1:Nat):Int)=1:=rfl
 rw [c1] at f1
 refine ⟨_,q2,?_,by rw [bj,ae,←Nat.add_assoc];exact a2,w2⟩
 simp [pevC,seqL,seqR,ir74,ssB,ssU,ak,aj,aa,Go.Sx.splice,appO,Go.Sx.leI_eq,ltF,z,k0,k1,b,f1,f2]
theorem Ax (N:Nat) (e:Ev) (x:LV) (w:Wq H nx h wid P pid p n (pevK nx e)) (hn:n+201<2^30) : ∃ h' pid',runCS ⟨Ω,noG,H,nx⟩ N pevD ⟨(pevEnv wid nx)++[(13,x)],h⟩=some (.normal,⟨pevEnv wid nx,h'⟩)∧Wq H nx h' wid P pid' (addBits p n (bitsOf 0 1)) (n+1) (pevK nx e)∧(findU h'.upd wid).isSome=true:=by
 obtain ⟨u1,m1,q1,f1,a1,w1⟩:=w.put 0 1 (by decide) (by decide) (by omega)
 have c0:((0:Nat):Int)=0:=rfl
 have c1:((1:Nat):Int)=1:=rfl
 rw [c0,c1] at f1
 refine ⟨_,q1,?_,a1,w1⟩
 simp [pevD,seqL,seqR,ir74,ssB,ssU,ak,aj,aa,Go.Sx.splice,appO,Go.Sx.leI_eq,ltF,f1]
theorem Ay (N:Nat) (e:Ev) (w:Wq H nx h wid P pid p n (pevK nx e)) (hn:n+201<2^30) : ∃ h' pid',runCS ⟨Ω,noG,H,nx⟩ N pevE ⟨pevEnv wid nx,h⟩=some (.normal,⟨pevEnv wid nx,h'⟩) ∧
  Wq H nx h' wid P pid' (addBits p n (evKind e.n (decide (e.left = .leaf 0)) (decide (e.right = .leaf 0)))) (n+(evKind e.n (decide (e.left = .leaf 0)) (decide (e.right = .leaf 0))).length) (pevK nx e)∧(findU h'.upd wid).isSome=true:=by
 have k0:=(w.k _ (List.mem_cons_self)).1
 have k1:=(w.k (nx+1,evO e.left) (by simp)).1
 have k2:=(w.k (nx+2,evO e.right) (by simp)).1
 have z1:=bI e.left
 have z2:=bI e.right
 have b:=bO e
 have c0:((0:Nat):Int)=0:=rfl
 have c1:((1:Nat):Int)=1:=rfl
 have c2:((2:Nat):Int)=2:=rfl
 have c3:((3:Nat):Int)=3:=rfl
 generalize decide (e.left = .leaf 0)=zl at*
 generalize decide (e.right = .leaf 0)=zr at*
 have one : ∀ (v k:Nat),0<k→k≤64→n+k<2^30→evKind e.n zl zr=bitsOf v k→(∀ (u:Upd) (m:List (Ob)),Ω 136 [.ref wid 0,.int .u64 v,.int .i64 k] (Go.Sx.look H nx h) (nx+h.new.length)=some (.tuple [],u,m) →
   runCS ⟨Ω,noG,H,nx⟩ N pevE ⟨pevEnv wid nx,h⟩=some (.normal,⟨pevEnv wid nx,aft nx h u m⟩))→∃ h' pid',runCS ⟨Ω,noG,H,nx⟩ N pevE ⟨pevEnv wid nx,h⟩=some (.normal,⟨pevEnv wid nx,h'⟩) ∧
    Wq H nx h' wid P pid' (addBits p n (evKind e.n zl zr)) (n+(evKind e.n zl zr).length) (pevK nx e)∧(findU h'.upd wid).isSome=true:=by
  intro v k hk0 hk hnk hB hr
  obtain ⟨u1,m1,q1,f1,a1,w1⟩:=w.put v k hk0 hk hnk
  exact ⟨_,q1,hr u1 m1 f1,by rw [hB,ae];exact a1,w1⟩
 have two : ∀ (v k:Nat),0<k→k≤64→n+2+k<2^30→evKind e.n zl zr=bitsOf 3 2++bitsOf v k→(∀ (u:Upd) (m:List (Ob)) (u2:Upd) (m2:List (Ob)),Ω 136 [.ref wid 0,.int .u64 3,.int .i64 2] (Go.Sx.look H nx h) (nx+h.new.length)=some (.tuple [],u,m) →
   Ω 136 [.ref wid 0,.int .u64 v,.int .i64 k] (Go.Sx.look H nx (aft nx h u m)) (nx+(aft nx h u m).new.length)=some (.tuple [],u2,m2) →
   runCS ⟨Ω,noG,H,nx⟩ N pevE ⟨pevEnv wid nx,h⟩=some (.normal,⟨pevEnv wid nx,aft nx (aft nx h u m) u2 m2⟩))→∃ h' pid',runCS ⟨Ω,noG,H,nx⟩ N pevE ⟨pevEnv wid nx,h⟩=some (.normal,⟨pevEnv wid nx,h'⟩) ∧
    Wq H nx h' wid P pid' (addBits p n (evKind e.n zl zr)) (n+(evKind e.n zl zr).length) (pevK nx e)∧(findU h'.upd wid).isSome=true:=by
  intro v k hk0 hk hnk hB hr
  obtain ⟨u1,m1,q1,f1,a1,w1⟩:=w.put 3 2 (by decide) (by decide) (by omega)
  obtain ⟨u2,m2,q2,f2,a2,w2⟩:=a1.put v k hk0 hk hnk
  exact ⟨_,q2,hr u1 m1 u2 m2 f1 f2,by rw [hB,bj,List.length_append,ae,ae,←Nat.add_assoc];exact a2,w2⟩
 by_cases h0:e.n=0
 ·have hb:((e.n:Int)==0)=true:=by simp [h0]
  cases zl with
  | true=>
   refine one 0 2 (by decide) (by decide) (by omega) (by simp [evKind,h0]) fun u m f1 => ?_
   rw [c0,c2] at f1
   simp [pevE,seqL,seqR,ir74,ssB,ssU,ak,aj,aa,Go.Sx.splice,appO,Go.Sx.leI_eq,ltF,k0,k1,k2,z1,z2,b,hb,f1]
  | false=>
   cases zr with
   | true=>
    refine one 1 2 (by decide) (by decide) (by omega) (by simp [evKind,h0]) fun u m f1 => ?_
    rw [c1,c2] at f1
    simp [pevE,seqL,seqR,ir74,ssB,ssU,ak,aj,aa,Go.Sx.splice,appO,Go.Sx.leI_eq,ltF,k0,k1,k2,z1,z2,b,hb,f1]
   | false=>
    refine one 2 2 (by decide) (by decide) (by omega) (by simp [evKind,h0]) fun u m f1 => ?_
    rw [c2] at f1
    simp [pevE,seqL,seqR,ir74,ssB,ssU,ak,aj,aa,Go.Sx.splice,appO,Go.Sx.leI_eq,ltF,k0,k1,k2,z1,z2,b,hb,f1]
 ·have hb:((e.n:Int)==0)=false:=by simp;omega
  cases zl with
  | true=>
   refine two 0 2 (by decide) (by decide) (by omega) (by simp [evKind,h0]) fun u m u2 m2 f1 f2 => ?_
   rw [c0,c2] at f2
   simp [pevE,seqL,seqR,ir74,ssB,ssU,ak,aj,aa,Go.Sx.splice,appO,Go.Sx.leI_eq,ltF,k0,k1,k2,z1,z2,b,hb,f1,f2]
  | false=>
   cases zr with
   | true=>
    refine two 1 2 (by decide) (by decide) (by omega) (by simp [evKind,h0]) fun u m u2 m2 f1 f2 => ?_
    rw [c1,c2] at f2
    simp [pevE,seqL,seqR,ir74,ssB,ssU,ak,aj,aa,Go.Sx.splice,appO,Go.Sx.leI_eq,ltF,k0,k1,k2,z1,z2,b,hb,f1,f2]
   | false=>
    refine two 1 1 (by decide) (by decide) (by omega) (by simp [evKind,h0]) fun u m u2 m2 f1 f2 => ?_
    rw [c1] at f2
    simp [pevE,seqL,seqR,ir74,ssB,ssU,ak,aj,aa,Go.Sx.splice,appO,Go.Sx.leI_eq,ltF,k0,k1,k2,z1,z2,b,hb,f1,f2]
end
end Go.Proofs.YtppeggedcaabkaaGreatDoor
end

section
namespace Go.Proofs.YtppeggedcaabkaaGreatDoor
open Go Go.Sx
section
variable {H:Heap} {nx:Nat} {h:Hp} {wid P pid:Nat} {p:List UInt8} {n:Nat}
theorem Az (N:Nat) (e:Ev) (w:Wq H nx h wid P pid p n (pevK nx e)) (hs:(findU h.upd wid).isSome=true) (hv:e.n<2^64) (hn:n+200<2^30) : ∃ E h' pid',runCS ⟨Ω,noG,H,nx⟩ N pevF ⟨pevEnv wid nx,h⟩=some (.normal,⟨E,h'⟩) ∧
  (Go.Sx.get E 0 = .ref wid 0∧Go.Sx.get E 4 = .ref (nx+1) 0∧Go.Sx.get E 5 = .ref (nx+2) 0) ∧
  Wq H nx h' wid P pid' (addBits p n (if e.n=0 then [] else numBits e.n 2 62)) (n+(if e.n=0 then [] else numBits e.n 2 62).length) (pevK nx e)∧(findU h'.upd wid).isSome=true:=by
 have k0:=(w.k _ (List.mem_cons_self)).1
 have b:=bO e
 by_cases h0:e.n=0
 ·rw [if_pos h0]
  have hb : ¬(0:Int)<e.n:=by omega
  have hb2:((e.n:Int)≤0):=by omega
  refine ⟨pevEnv wid nx++[(68,.bool false)],h,pid,?_,by simp [Go.Sx.get],by simpa [addBits] using w,hs⟩
  have hq:(e.n=0)=True:=by simp [h0]
  simp [pevF,seqL,seqR,ir74,ssB,ssU,ak,aj,aa,Go.Sx.splice,appO,Go.Sx.leI_eq,ltF,k0,b,hq]
 ·rw [if_neg h0]
  have hb:(0:Int)<e.n:=by omega
  have hb2 : ¬((e.n:Int)≤0):=by omega
  obtain ⟨u2,m2,q2,f2,a2,w2⟩:=w.num e.n hv hn
  refine ⟨[(0,.ref wid 0),(4,.ref (nx+1) 0),(5,.ref (nx+2) 0)],_,q2,?_,by simp [Go.Sx.get],a2,w2⟩
  simp [pevF,seqL,seqR,ir74,ssB,ssU,ak,aj,aa,Go.Sx.splice,appO,Go.Sx.leI_eq,ltF,k0,b,hb2,h0,f2]
abbrev halO (l r:Ev):Go.Sx.Obj:=.cells [.int .u64 l.n,.p l.ptr,.int .u64 r.n,.p r.ptr]
theorem AA (N:Nat) (e:Ev) (E:List (Nat × LV)) (hE:Go.Sx.get E 0 = .ref wid 0∧Go.Sx.get E 4 = .ref (nx+1) 0∧Go.Sx.get E 5 = .ref (nx+2) 0) (w:Wq H nx h wid P pid p n (pevK nx e)):
  runCS ⟨Ω,noG,H,nx⟩ N pevG ⟨E,h⟩=some (.normal,⟨[(0,.ref wid 0),(75,.arr (nx+h.new.length) 0 2 2 2 true),(76,.int .i64 2),(77,.int .i64 0)],push h (halO e.left e.right)⟩):=by
 have k1:=(w.k (nx+1,evO e.left) (by simp)).1
 have k2:=(w.k (nx+2,evO e.right) (by simp)).1
 obtain ⟨g0,g4,g5⟩:=hE
 simp [pevG,seqL,seqR,ir74,ssB,ssU,ak,aj,aa,Go.Sx.splice,appO,Go.Sx.leI_eq,ltF,k1,k2,g0,g4,g5]
theorem Ab (N:Nat) (l r e:Ev) (hid:Nat) (j:Nat) (hj:(j=0∧e=l)∨(j=1∧e=r)) (hl:Go.Sx.look H nx h hid=some (halO l r)) (hlt:hid<nx+h.new.length) (hz:e = .leaf 0):
  runCS ⟨Ω,noG,H,nx⟩ N ir74_0 ⟨[(0,.ref wid 0),(75,.arr hid 0 2 2 2 true),(76,.int .i64 2),(77,.int .i64 j)],h⟩=
   some (.normal,⟨[(0,.ref wid 0),(75,.arr hid 0 2 2 2 true),(76,.int .i64 2),(77,.int .i64 (j+1:Nat))],push h (evO e)⟩):=by
 have z:=bI e
 rw [show (decide (e=Ev.leaf 0))=true by simp [hz]] at z
 have ne : ¬hid=nx+h.new.length:=by omega
 have sp:=fun o o'=>dD nx h o o'
 have hq : ∀ o:Go.Sx.Obj,(⟨h.upd,h.new++[some o]⟩:Hp)=push h o:=fun o=>rfl
 have lk : ∀ o:Go.Sx.Obj,Go.Sx.look H nx (push h o) (nx+h.new.length)=some o:=fun o=>by rw [ao,if_pos rfl]
 have lk2 : ∀ o:Go.Sx.Obj,Go.Sx.look H nx (push h o) hid=some (halO l r):=fun o=>by rw [ao,if_neg ne];exact hl
 have w1:IntKind.i64.wrap 1=1:=by decide
 have w2:IntKind.i64.wrap 2=2:=by decide
 rcases hj with ⟨rfl,he⟩|⟨rfl,he⟩<;>subst he<;>clear hz
 ·simp [ir74_0,ssB,ssU,ak,aj,aa,Go.Sx.splice,appO,Go.Sx.leI_eq,ltF,z,hl,sp,hq,lk,lk2,w1]
 ·simp [ir74_0,ssB,ssU,ak,aj,aa,Go.Sx.splice,appO,Go.Sx.leI_eq,ltF,z,hl,sp,hq,lk,lk2,w2]
theorem Ad (N:Nat) (l r e:Ev) (hid:Nat) (j:Nat) (hj:(j=0∧e=l)∨(j=1∧e=r)) (hl:Go.Sx.look H nx h hid=some (halO l r)) (hlt:hid<nx+h.new.length) (hz:e ≠ .leaf 0) {u:Upd} {m:List (Ob)}
  (f:Ω 74 [.ref wid 0,.p e.pv] (Go.Sx.look H nx (push h (evO e))) (nx+(push h (evO e)).new.length)=some (.tuple [],u,m)):
  runCS ⟨Ω,noG,H,nx⟩ N ir74_0 ⟨[(0,.ref wid 0),(75,.arr hid 0 2 2 2 true),(76,.int .i64 2),(77,.int .i64 j)],h⟩=
   some (.normal,⟨[(0,.ref wid 0),(75,.arr hid 0 2 2 2 true),(76,.int .i64 2),(77,.int .i64 (j+1:Nat))],aft nx (push h (evO e)) u m⟩):=by
 have z:=bI e
 rw [show (decide (e=Ev.leaf 0))=false by simp [hz]] at z
 have ne : ¬hid=nx+h.new.length:=by omega
 have sp:=fun o o'=>dD nx h o o'
 have hq : ∀ o:Go.Sx.Obj,(⟨h.upd,h.new++[some o]⟩:Hp)=push h o:=fun o=>rfl
 have lk : ∀ o:Go.Sx.Obj,Go.Sx.look H nx (push h o) (nx+h.new.length)=some o:=fun o=>by rw [ao,if_pos rfl]
 have lk2 : ∀ o:Go.Sx.Obj,Go.Sx.look H nx (push h o) hid=some (halO l r):=fun o=>by rw [ao,if_neg ne];exact hl
 have w1:IntKind.i64.wrap 1=1:=by decide
 have w2:IntKind.i64.wrap 2=2:=by decide
 rcases hj with ⟨rfl,he⟩|⟨rfl,he⟩<;>subst he<;>clear hz
 ·simp [ir74_0,ssB,ssU,ak,aj,aa,Go.Sx.splice,appO,Go.Sx.leI_eq,ltF,z,hl,sp,hq,lk,lk2,w1,f]
 ·simp [ir74_0,ssB,ssU,ak,aj,aa,Go.Sx.splice,appO,Go.Sx.leI_eq,ltF,z,hl,sp,hq,lk,lk2,w2,f]
theorem Ae (N:Nat) (hid:Nat) (x:LV):runCS ⟨Ω,noG,H,nx⟩ N ir74_0 ⟨[(0,x),(75,.arr hid 0 2 2 2 true),(76,.int .i64 2),(77,.int .i64 2)],h⟩=
   some (.exit 1,⟨[(0,x),(75,.arr hid 0 2 2 2 true),(76,.int .i64 2),(77,.int .i64 2),(78,.bool false)],h⟩):=by
 simp [ir74_0,ssB,ssU,ak,aj,aa,Go.Sx.splice,appO,Go.Sx.leI_eq,ltF]
theorem nJ (N:Nat) (l r e:Ev) (hid:Nat) (j:Nat) (hj:(j=0∧e=l)∨(j=1∧e=r)) (w:Wq H nx h wid P pid p n [(hid,halO l r)]) (hs:(findU h.upd wid).isSome=true)
  (ih:e ≠ .leaf 0→∀ (H:Heap) (nx wid pid n:Nat) (p:List UInt8),Wr H nx wid pid p n→n+(evBits e).length+201<2^30 →
   ∃ u m pid',Ω 74 [.ref wid 0,.p e.pv] H nx=some (.tuple [],u,m)∧Post H nx wid pid n u m pid' (addBits p n (evBits e)) (n+(evBits e).length))
  (hn:n+(if e = .leaf 0 then [] else evBits e).length+201<2^30):
  ∃ h' pid',runCS ⟨Ω,noG,H,nx⟩ N ir74_0 ⟨[(0,.ref wid 0),(75,.arr hid 0 2 2 2 true),(76,.int .i64 2),(77,.int .i64 j)],h⟩=
   some (.normal,⟨[(0,.ref wid 0),(75,.arr hid 0 2 2 2 true),(76,.int .i64 2),(77,.int .i64 (j+1:Nat))],h'⟩) ∧
   Wq H nx h' wid P pid' (addBits p n (if e = .leaf 0 then [] else evBits e)) (n+(if e = .leaf 0 then [] else evBits e).length) [(hid,halO l r)]∧(findU h'.upd wid).isSome=true:=by
 obtain ⟨k1,k2,k3,k4⟩:=w.k (hid,halO l r) (by simp)
 have wp:=(w.push (evO e)).sub (K':=[(hid,halO l r)]) (by simp)
 by_cases hz:e = .leaf 0
 ·rw [if_pos hz]
  exact ⟨_,pid,Ab N l r e hid j hj k1 k3 hz,by simpa [addBits] using wp,hs⟩
 ·rw [if_neg hz] at hn ⊢
  obtain ⟨u,m,q,f,po⟩:=ih hz _ _ wid pid n p wp.a.wr hn
  obtain ⟨w2,s2⟩:=wp.call po
  exact ⟨_,q,Ad N l r e hid j hj k1 k3 hz f,w2,s2⟩
end
theorem rT {e:Ev} {wid:Nat} {h:Hp} {u:Upd} {m:List (Ob)} (N:Nat) (H:Heap) (nx:Nat)
  (h3 : ∃ ex E,(ex = .normal∨ex = .ret)∧runCS ⟨Ω,noG,H,nx⟩ N (.seq pevC (.seq pevD (.seq pevE (.seq pevF (.seq pevG (.block 1 (.loop ir74_0))))))) ⟨pevEnv wid nx,⟨[],[evC e,evC e.left,evC e.right]⟩⟩=some (ex,⟨E,h⟩)) (hf:finish false H nx (.tuple []) h=some (.tuple [],u,m)):
  Ω 74 [.ref wid 0,.p e.pv] H nx=some (.tuple [],u,m):=by
 refine af (ir:=ir74) (by kernel_rfl) N ?_
 rw [tt]
 have a:=Av e (.ref wid 0) H nx N
 have b:=Aw e (.ref wid 0) H nx N
 obtain ⟨ex,E,hex,h3⟩:=h3
 generalize pevA=A at*
 generalize pevB=B at*
 generalize IRC.seq pevC (.seq pevD (.seq pevE (.seq pevF (.seq pevG (.block 1 (.loop ir74_0))))))=C at*
 rcases hex with rfl|rfl<;>simp [ssB,ssU,ak,aj,aa,Go.Sx.splice,appO,Go.Sx.leI_eq,ltF,a,b,h3,hf]
theorem iP : ∀ (e:Ev),e.max<2^64→∀ (H:Heap) (nx wid pid n:Nat) (p:List UInt8),Wr H nx wid pid p n→n+(evBits e).length+201<2^30 →
  ∃ u m pid',Ω 74 [.ref wid 0,.p e.pv] H nx=some (.tuple [],u,m)∧Post H nx wid pid n u m pid' (addBits p n (evBits e)) (n+(evBits e).length)
 | .leaf v,hm,H,nx,wid,pid,n,p,g,hn=>by
  have a0:Wq H nx _ wid _ pid p n (pevK nx (.leaf v)):=(Wk.init g [evC (.leaf v),evC (Ev.leaf v).left,evC (Ev.leaf v).right]).toQ (by
   intro x hx
   simp only [pevK,List.mem_cons,List.not_mem_nil,or_false] at hx
   rcases hx with rfl|rfl|rfl
   ·exact ⟨0,rfl,rfl⟩
   ·exact ⟨1,rfl,rfl⟩
   ·exact ⟨2,rfl,rfl⟩)
  have hv:v<2^64:=hm
  obtain ⟨h',q',f1,w1,s1⟩:=zD 63 (.leaf v) a0 rfl hv (by omega)
  have hB:evBits (.leaf v)=bitsOf 1 1++numBits v 2 62:=rfl
  rw [hB,List.length_append,ae]
  obtain ⟨u,m,q,f3,f4⟩:=w1.a.post false (pid0:=pid) (n0:=n) (by omega) s1
  refine ⟨u,m,q,rT 63 H nx ⟨.ret,[],.inr rfl,?_⟩ f3,f4⟩
  simp only [aU,f1]
 | .node v l r,hm,H,nx,wid,pid,n,p,g,hn=>by
  have d1:=Ev.max_l v l r
  have d2:=Ev.max_r v l r
  have hB:evBits (.node v l r)=bitsOf 0 1++evKind v (decide (l = .leaf 0)) (decide (r = .leaf 0))++(if v=0 then [] else numBits v 2 62)++(if l = .leaf 0 then [] else evBits l)++(if r = .leaf 0 then [] else evBits r):=by
   rw [evBits]
  have a0:Wq H nx _ wid _ pid p n (pevK nx (.node v l r)):=(Wk.init g [evC (.node v l r),evC (Ev.node v l r).left,evC (Ev.node v l r).right]).toQ (by
   intro x hx
   simp only [pevK,List.mem_cons,List.not_mem_nil,or_false] at hx
   rcases hx with rfl|rfl|rfl
   ·exact ⟨0,rfl,rfl⟩
   ·exact ⟨1,rfl,rfl⟩
   ·exact ⟨2,rfl,rfl⟩)
  rw [hB] at hn ⊢
  simp only [List.length_append,ae] at hn
  have c:=zw 64 (.node v l r) a0 rfl
  obtain ⟨h1,q1,f1,w1,s1⟩:=Ax 64 (.node v l r) (.bool false) a0 (by omega)
  obtain ⟨h2,q2,f2,w2,s2⟩:=Ay 64 (.node v l r) w1 (by omega)
  have he1:(Ev.node v l r).left=l:=rfl
  have he2:(Ev.node v l r).right=r:=rfl
  have he3:(Ev.node v l r).n=v:=rfl
  rw [he1,he2,he3] at w2
  obtain ⟨E,h3,q3,f3,hE,w3,s3⟩:=Az 64 (.node v l r) w2 s2 (by rw [he3];omega) (by omega)
  rw [he3] at w3
  have f4:=AA 64 (.node v l r) E hE w3
  have w4:=(w3.push (halO l r)).sub (K':=[(nx+h3.new.length,halO l r)]) (by simp)
  obtain ⟨h5,q5,f5,w5,s5⟩:=nJ 64 l r l (nx+h3.new.length) 0 (.inl ⟨rfl,rfl⟩) w4 s3 (fun _=>iP l (by omega)) (by omega)
  obtain ⟨h6,q6,f6,w6,s6⟩:=nJ 64 l r r (nx+h3.new.length) 1 (.inr ⟨rfl,rfl⟩) w5 s5 (fun _=>iP r (by omega)) (by omega)
  have f7:=Ae (H:=H) (nx:=nx) (h:=h6) 64 (nx+h3.new.length) (.ref wid 0)
  obtain ⟨u,m,q,f8,f9⟩:=w6.a.post false (pid0:=pid) (n0:=n) (by omega) s6
  refine ⟨u,m,q,rT 64 H nx ⟨.normal,[(0,.ref wid 0),(75,.arr (nx+h3.new.length) 0 2 2 2 true),(76,.int .i64 2),(77,.int .i64 2),(78,.bool false)],.inl rfl,?_⟩ f8,?_⟩
  ·have lp:iter (runCS ⟨Ω,noG,H,nx⟩ 64 ir74_0) 64 ⟨[(0,.ref wid 0),(75,.arr (nx+h3.new.length) 0 2 2 2 true),(76,.int .i64 2),(77,.int .i64 0)],push h3 (halO l r)⟩=some (.exit 1,⟨[(0,.ref wid 0),(75,.arr (nx+h3.new.length) 0 2 2 2 true),(76,.int .i64 2),(77,.int .i64 2),(78,.bool false)],h6⟩):=by
    exact (aP f5).trans ((aP f6).trans (aN f7 (by simp)))
   simp only [he1,he2] at c f1 f4
   simp only [aU,c,f1,f2,f3,f4,c6,cR,he1,he2,lp,if_pos]
  ·simp only [bj,List.length_append,ae]
   simp only [←Nat.add_assoc]
   exact f9
end Go.Proofs.YtppeggedcaabkaaGreatDoor
end

section
namespace Go.Proofs.YtppeggedcaabkaaGreatDoor
open Go Go.Sx
inductive Ini (H:Heap) (nx:Nat):LV→List UInt8→Prop
 | nil:Ini H nx (.p (.s (.slice none 0 0))) []
 | sl (F:List UInt8):Ini H nx (.p (.sl (bytP F) F.length 1 true)) F
 | arr (F G:List UInt8) (id off:Nat):H id=some (.cells (byt G))→id<nx→off+F.length≤G.length→(G.drop off).take F.length=F→Ini H nx (.arr id off F.length 1 F.length true) F
def Rdy (c:Ctx) (x:LV) (h:Hp) (q:List UInt8):Prop:=∀ b:UInt8,∃ h'' t m,appO c (push h (.cells [.int .u8 b.toNat])) 1 1 x (.arr (c.nx+h.new.length) 0 1 1 1 true)=some ⟨.arr (c.nx+(h.new.length+1)) 0 (q.length+1) 1 (q.length+1) false,h'',t,m⟩ ∧
 Go.Sx.look c.H c.nx h'' (c.nx+(h.new.length+1))=some (.cells (byt (q++[b])))∧h''.upd=[]∧h''.new.length=h.new.length+2
section num
variable {c:Ctx}
theorem Ini.rdy {x:LV} {q:List UInt8} (g:Ini c.H c.nx x q) (h30:q.length<2^31):Rdy c x ⟨[],[]⟩ q:=by
 intro b
 have q41 : ¬1099511627776<q.length+1:=by omega
 have q41':q.length+1≤1099511627776:=by omega
 have z:c.nx+0=c.nx:=rfl
 cases g with
 | nil=>exact ⟨push (push ⟨[],[]⟩ (.cells [.int .u8 b.toNat])) (.cells (byt ([]++[b]))),_,_,by simp [appO,slCells,Go.Sx.look,push,ltF,byt];exact ⟨rfl,rfl⟩,by simp [Go.Sx.look,push,ltF],rfl,rfl⟩
 | sl=>exact ⟨push (push ⟨[],[]⟩ (.cells [.int .u8 b.toNat])) (.cells (byt (q++[b]))),_,_,by simp [appO,slCells,Go.Sx.look,push,ltF,aF,ah,aY,ba,bp,q41,q41'];exact ⟨rfl,rfl⟩,by simp [Go.Sx.look,push,ltF],rfl,rfl⟩
 | arr _ G id off h1 h2 h3 h4=>
  have h3' : ¬G.length<off+q.length:=by omega
  exact ⟨push (push ⟨[],[]⟩ (.cells [.int .u8 b.toNat])) (.cells (byt (q++[b]))),_,_,by simp [appO,slCells,Go.Sx.look,push,ltF,h2,findU,h1,au,m6,m7,h4,aY,ba,bp,q41,q41',h3',h3];exact ⟨rfl,rfl⟩,by simp [Go.Sx.look,push,ltF],rfl,rfl⟩
theorem rO {i:Nat} {h:Hp} {q:List UInt8} (hi:Go.Sx.look c.H c.nx h i=some (.cells (byt q))) (hlt:i<c.nx+h.new.length) (hge:c.nx≤i) (hu:h.upd=[]) (h30:q.length<2^31):Rdy c (.arr i 0 q.length 1 q.length false) h q:=by
 intro b
 have ha:=AV (c:=c) (h:=push h (.cells [.int .u8 b.toNat])) (q:=q) (i:=i) (j:=c.nx+h.new.length) (ex:=false) (b:=b)
  (by rw [nS _ _ _ _ _ hlt];exact hi) (te _ _ _ _) h30
 have hl:(push h (.cells [.int .u8 b.toNat])).new.length=h.new.length+1:=by simp [push]
 rw [hl] at ha
 obtain ⟨f1,f2,f3⟩:=td (c:=c) (h:=h) (i:=i) (ex:=false) (o:=.cells [.int .u8 b.toNat]) (p:=.cells (byt (q++[b]))) (.inr hge) hu
 exact ⟨_,_,_,ha,f1,f2,f3⟩
theorem tm {N:Nat} {h:Hp} {x:LV} {q:List UInt8} {n:Nat} (hn:128≤n) (g:Rdy c x h q) (h30:q.length+1<2^31):
  ∃ h'',runCS c N ir26_0 ⟨[(0,x),(1,.int .u64 n)],h⟩=some (.normal,⟨[(0,.arr (c.nx+(h.new.length+1)) 0 (q.length+1) 1 (q.length+1) false),(1,.int .u64 (n/128:Nat))],h''⟩) ∧
   Rdy c (.arr (c.nx+(h.new.length+1)) 0 (q.length+1) 1 (q.length+1) false) h'' (q++[UInt8.ofNat (n%128+128)]):=by
 have hn':(128:Int)≤n:=by omega
 obtain ⟨h'',t,m,ha,h1,h2,h3⟩:=g (UInt8.ofNat (n%128+128))
 have hb:=wD n
 refine ⟨h'',?_,?_⟩
 ·generalize UInt8.ofNat (n%128+128)=b at*
  simp [ir26_0,ssB,ssU,Go.Sx.callO,Go.Sx.splice,Go.Sx.finish,Go.Sx.setAll,Go.Sx.leI_eq,ltF,hn',hb,ha,A9]
 ·have:=rO h1 (by rw [h3];omega) (by omega) h2 (by simp;omega)
  simpa using this
theorem tj {N:Nat} : ∀ (k n:Nat),k=(vnum n).length→∀ (m:Nat) (h:Hp) (q:List UInt8) (x:LV),k<m→Rdy c x h q→q.length+k<2^31 →
  ∃ (h':Hp) (q':List UInt8) (x':LV) (n':Nat),iter (runCS c N ir26_0) m ⟨[(0,x),(1,.int .u64 n)],h⟩=
   some (.exit 0,⟨[(0,x'),(1,.int .u64 n'),(12,.bool false)],h'⟩)∧q'++[UInt8.ofNat n']=q++vnum n∧Rdy c x' h' q':=by
 intro k
 induction k with
 | zero=>intro n hk;have:=dn n;omega
 | succ k ih=>
  intro n hk m h q x hm g hq
  obtain ⟨m,rfl⟩ : ∃ r,m=r+1:=⟨m-1,by omega⟩
  by_cases hn:n<128
  ·exact ⟨h,q,x,n,aN (xu hn) (by simp),by rw [bQ hn],g⟩
  ·obtain ⟨h'',e1,g'⟩:=tm (N:=N) (n:=n) (by omega) g (by omega)
   rw [aP e1]
   have hv:=fT hn
   rw [hv,List.length_cons] at hk
   obtain ⟨h',q',x',n',e2,e3,e4⟩:=ih (n/128) (by omega) m _ _ _ (by omega) g' (by simp;omega)
   exact ⟨h',q',x',n',e2,by rw [e3,hv];simp,e4⟩
end num
theorem eN {H:Heap} {nx:Nat} {x:LV} {q:List UInt8} (g:Bs H nx x q) (n:Nat) (h64:n<2^64) (hq:q.length<2^30):
  Ω 26 [x,.int .u64 n] H nx=some (.arr nx 0 (q++vnum n).length 1 (q++vnum n).length false,[],[some (.cells (byt (q++vnum n)))]):=by
 refine af (ir:=ir26) (by kernel_rfl) 11 ?_
 have hv:=ai n h64
 have fin : ∀ y,Ini H nx y q→∃ h' q' x' n',iter (runCS ⟨Ω,noG,H,nx⟩ 11 ir26_0) 11 ⟨[(0,y),(1,.int .u64 n)],⟨[],[]⟩⟩=some (.exit 0,⟨[(0,x'),(1,.int .u64 (n':Nat)),(12,.bool false)],h'⟩)∧q'++[UInt8.ofNat n']=q++vnum n∧Rdy ⟨Ω,noG,H,nx⟩ x' h' q':=by
  intro y hy
  obtain ⟨h',q',x',n',e1,e2,e3⟩:=tj (c:=⟨Ω,noG,H,nx⟩) (N:=11) _ n rfl 11 ⟨[],[]⟩ q y (by omega) (Ini.rdy hy (by omega)) (by omega)
  exact ⟨h',q',x',n',e1,e2,e3⟩
 have tl : ∀ y,Ini H nx y q→∃ (h':Hp) (x':LV) (n':Nat) (h'':Hp) (t:List Nat) (m:Bool),iter (runCS ⟨Ω,noG,H,nx⟩ 11 ir26_0) 11 ⟨[(0,y),(1,.int .u64 n)],⟨[],[]⟩⟩=some (.exit 0,⟨[(0,x'),(1,.int .u64 (n':Nat)),(12,.bool false)],h'⟩) ∧
   appO ⟨Ω,noG,H,nx⟩ (push h' (.cells [.int .u8 (IntKind.u8.wrap (n':Int))])) 1 1 x' (.arr (nx+h'.new.length) 0 1 1 1 true)=some ⟨.arr (nx+(h'.new.length+1)) 0 (q++vnum n).length 1 (q++vnum n).length false,h'',t,m⟩ ∧
   finish true H nx (.arr (nx+(h'.new.length+1)) 0 (q++vnum n).length 1 (q++vnum n).length false) h''=some (.arr nx 0 (q++vnum n).length 1 (q++vnum n).length false,[],[some (.cells (byt (q++vnum n)))]):=by
  intro y hy
  obtain ⟨h',q',x',n',e1,e2,e3⟩:=fin y hy
  obtain ⟨h'',t,m,a1,a2,a3,a4⟩:=e3 (UInt8.ofNat n')
  have hlen:q'.length+1=(q++vnum n).length:=by rw [←e2];simp
  rw [hlen,←mV n'] at a1
  rw [e2] at a2
  exact ⟨h',x',n',h'',t,m,e1,a1,cO a3 (Nat.le_add_right _ _) a2⟩
 generalize q++vnum n=Q at*
 cases g with
 | nil=>
  obtain ⟨h',x',n',h'',t,m,e1,e2,e3⟩:=tl _ .nil
  simp [ir26,ssB,ssU,ak,aj,aa,Go.Sx.splice,Go.Sx.leI_eq,ltF,e1,e2,e3]
 | sl _ fl=>
  obtain ⟨h',x',n',h'',t,m,e1,e2,e3⟩:=tl _ (.sl q)
  have tk:List.take q.length (bytP q)=bytP q:=by rw [←ah,List.take_length]
  simp [ir26,ssB,ssU,ak,aj,aa,Go.Sx.splice,Go.Sx.leI_eq,ltF,ah,tk,e1,e2,e3]
 | arr _ G id off cp ex h1 h2 h3 h4=>
  obtain ⟨h',x',n',h'',t,m,e1,e2,e3⟩:=tl _ (.arr q G id off h1 h2 h3 h4)
  simp [ir26,ssB,ssU,ak,aj,aa,Go.Sx.splice,Go.Sx.leI_eq,ltF,h1,h2,e1,e2,e3]
end Go.Proofs.YtppeggedcaabkaaGreatDoor
end

section
namespace Go.Proofs.YtppeggedcaabkaaGreatDoor
open Go Go.Sx
theorem cJ (H:Heap) (nx:Nat) (x:PV) (h:Hp) (hu:h.upd=[]):finish false H nx (.p x) h=some (.p x,[],[]):=by
 simp [finish,frz,frzL,hu,updIds,reach,ren,renU,renN,Go.Sx.ids]
theorem j8 (H:Heap) (nx:Nat):Ω 73 [] H nx=some (.ref nx 0,[],[some (.cells [.p (.s (.slice none 0 0)),.int .i64 0])]):=by
 refine af (ir:=ir73) (by kernel_rfl) 0 ?_
 simp [ir73,ssB,ssU,ssP,appO]
theorem o4 {H:Heap} {nx wid pid n:Nat} {p:List UInt8} (g:Wr H nx wid pid p n) (h0:0<n):Ω 75 [.ref wid 0] H nx=some (.p (.sl (bytP p) p.length 1 false),[],[]):=by
 refine af (ir:=ir75) (by kernel_rfl) 0 ?_
 obtain ⟨h1,h2,h3,h4,h5⟩:=(g.at').resolve_left (by omega)
 have hlen:=g.len
 have hs:=g.small
 have hlt:=g.lt
 have c:=fun id H nx=>sU p id p.length false (by omega) (by omega) H nx
 simp [ir75,ssB,ssU,ssP,appO,hlt,h4,h5,h2,c,au,ah,ay,aE,aJ,aI,aK,av,aD]
theorem oQ {c:Ctx} {n:Nat} {A B:IRC} {st st':St} (h:runCS c n (.seq A B) st=some (.normal,st')) (K:IRC):runCS c n (.seq A (.seq B K)) st=runCS c n K st':=by
 rw [aU] at h ⊢
 cases hA:runCS c n A st with
 | none=>rw [hA] at h;cases h
 | some r=>
  obtain ⟨ex,s⟩:=r
  rw [hA] at h
  cases ex<;>simp only [] at h ⊢
  ·rw [aU,h]
  all_goals simp at h
def pack (l:List Bool):List UInt8:=addBits [] 0 l
def cidA:IRC:=seqL ir72.body
def cidB:IRC:=seqL (seqR ir72.body)
def cidC:IRC:=seqL (seqR (seqR ir72.body))
def cidD:IRC:=seqR (seqR (seqR ir72.body))
theorem sS:ir72=⟨[0],.seq cidA (.seq cidB (.seq cidC cidD)),[(2,none)],false⟩:=rfl
abbrev wr0:Ob:=some (.cells [.p (.s (.slice none 0 0)),.int .i64 0])
theorem z9 (i:Id) (H:Heap) (nx n:Nat):runCS ⟨Ω,noG,H,nx⟩ n (.seq cidA cidB) ⟨[(0,.p i.pv)],⟨[],[]⟩⟩=some (.normal,⟨[(1,.ref nx 0),(3,.ref (nx+1) 0)],⟨[],[idC i,wr0]⟩⟩):=by
 have w:=j8
 simp [cidA,cidB,seqL,seqR,ir72,ssB,ssU,ssP,appO,w]
def cevA:IRC:=seqL ir29.body
def cevB:IRC:=seqL (seqR ir29.body)
def cevC:IRC:=seqL (seqR (seqR ir29.body))
def cevD:IRC:=seqR (seqR (seqR ir29.body))
theorem sR:ir29=⟨[0],.seq cevA (.seq cevB (.seq cevC cevD)),[(2,none)],false⟩:=rfl
theorem z8 (i:Ev) (H:Heap) (nx n:Nat):runCS ⟨Ω,noG,H,nx⟩ n (.seq cevA cevB) ⟨[(0,.p i.pv)],⟨[],[]⟩⟩=some (.normal,⟨[(1,.ref nx 0),(3,.ref (nx+1) 0)],⟨[],[evC i,wr0]⟩⟩):=by
 have w:=j8
 simp [cevA,cevB,seqL,seqR,ir29,ssB,ssU,ssP,appO,w]
theorem u6 {H:Heap} {nx:Nat} {o:Ob} {u:Upd} {m:List (Ob)} {pid' n':Nat} {p':List UInt8} (po:Post (Go.Sx.look H nx ⟨[],[o,wr0]⟩) (nx+2) (nx+1) 0 0 u m pid' p' n'):
  Wr (Go.Sx.look H nx (aft nx ⟨[],[o,wr0]⟩ u m)) (nx+(aft nx ⟨[],[o,wr0]⟩ u m).new.length) (nx+1) pid' p' n'∧(aft nx ⟨[],[o,wr0]⟩ u m).upd=[]:=by
 have hk : ∀ id o',findU u id=some o'→id<nx+(⟨[],[o,wr0]⟩:Hp).new.length:=po.keys
 have hlook:Go.Sx.look H nx (aft nx ⟨[],[o,wr0]⟩ u m)=Go.Sx.look (Go.Sx.look H nx ⟨[],[o,wr0]⟩) (nx+2) ⟨u,m⟩:=funext fun id=>dX hk id
 have hlen:(aft nx ⟨[],[o,wr0]⟩ u m).new.length=2+m.length:=by simp [aft,bC]
 refine ⟨?_,?_⟩
 ·rw [hlook,hlen,←Nat.add_assoc];exact po.wr
 ·have hf:=po.form
  rw [if_pos rfl] at hf
  have h1 : ¬nx+1<nx:=by omega
  cases hf with
  | f1 X=>simp [aft,setAll,Go.Sx.setObj,h1]
  | f2 X Z h=>omega
  | f3 X Z h=>omega
theorem wq (H:Heap) (nx:Nat) (o:Ob):Wr (Go.Sx.look H nx ⟨[],[o,wr0]⟩) (nx+2) (nx+1) 0 [] 0:=
 ⟨by omega,rfl,by decide,.inl ⟨rfl,by simp [Go.Sx.look,ltF]⟩⟩
theorem eh (i:Ev):0<(evBits i).length:=by
 cases i<;>(unfold evBits;simp [ae];try omega)
theorem wE (i:Id) (hb:(idBits i).length<2^29) (H:Heap) (nx:Nat):Ω 72 [.p i.pv] H nx=some (.p (.sl (bytP (pack (idBits i))) (pack (idBits i)).length 1 false),[],[]):=by
 refine af (ir:=ir72) (by kernel_rfl) 0 ?_
 rw [sS]
 obtain ⟨u,m,pid',e,po⟩:=kg i _ _ _ _ _ _ (wq H nx (idC i)) (by omega)
 obtain ⟨w,hu⟩:=u6 po
 have b:=o4 w (by have:=dh i;omega)
 rw [←pack] at b
 have ab:=z9 i H nx 0
 have f:=cJ H nx (.sl (bytP (pack (idBits i))) (pack (idBits i)).length 1 false) _ hu
 have lk:Go.Sx.look H nx ⟨[],[idC i,wr0]⟩ nx=idC i:=by simp [Go.Sx.look,ltF]
 have e':Ω 132 [.ref (nx+1) 0,.p i.pv] (Go.Sx.look H nx ⟨[],[idC i,wr0]⟩) (nx+(⟨[],[idC i,wr0]⟩:Hp).new.length)=some (.tuple [],u,m):=e
 clear e po w hu hb
 generalize pack (idBits i)=B at*
 have hc:runCS ⟨Ω,noG,H,nx⟩ 0 (.seq cidC cidD) ⟨[(1,.ref nx 0),(3,.ref (nx+1) 0)],⟨[],[idC i,wr0]⟩⟩=some (.ret,⟨[(2,.p (.sl (bytP B) B.length 1 false))],aft nx ⟨[],[idC i,wr0]⟩ u m⟩):=by
  generalize (⟨[],[idC i,wr0]⟩:Hp)=h0 at*
  simp [cidC,cidD,seqL,seqR,ir72,ssB,ssU,ak,aj,aa,Go.Sx.splice,appO,Go.Sx.leI_eq,ltF,lk,e',b]
 have ab':=oQ ab
 generalize IRC.seq cidC cidD=K at*
 rw [←ab'] at hc
 generalize IRC.seq cidA (.seq cidB K)=K2 at*
 simp [ssB,ssU,ak,aj,aa,Go.Sx.splice,appO,Go.Sx.leI_eq,ltF,hc,f]
theorem cq (i:Ev) (hm:i.max<2^64) (hb:(evBits i).length<2^29) (H:Heap) (nx:Nat):Ω 29 [.p i.pv] H nx=some (.p (.sl (bytP (pack (evBits i))) (pack (evBits i)).length 1 false),[],[]):=by
 refine af (ir:=ir29) (by kernel_rfl) 0 ?_
 rw [sR]
 obtain ⟨u,m,pid',e,po⟩:=iP i hm _ _ _ _ _ _ (wq H nx (evC i)) (by omega)
 obtain ⟨w,hu⟩:=u6 po
 have b:=o4 w (by have:=eh i;omega)
 rw [←pack] at b
 have ab:=z8 i H nx 0
 have f:=cJ H nx (.sl (bytP (pack (evBits i))) (pack (evBits i)).length 1 false) _ hu
 have lk:Go.Sx.look H nx ⟨[],[evC i,wr0]⟩ nx=evC i:=by simp [Go.Sx.look,ltF]
 have e':Ω 74 [.ref (nx+1) 0,.p i.pv] (Go.Sx.look H nx ⟨[],[evC i,wr0]⟩) (nx+(⟨[],[evC i,wr0]⟩:Hp).new.length)=some (.tuple [],u,m):=e
 clear e po w hu hb
 generalize pack (evBits i)=B at*
 have hc:runCS ⟨Ω,noG,H,nx⟩ 0 (.seq cevC cevD) ⟨[(1,.ref nx 0),(3,.ref (nx+1) 0)],⟨[],[evC i,wr0]⟩⟩=some (.ret,⟨[(2,.p (.sl (bytP B) B.length 1 false))],aft nx ⟨[],[evC i,wr0]⟩ u m⟩):=by
  generalize (⟨[],[evC i,wr0]⟩:Hp)=h0 at*
  simp [cevC,cevD,seqL,seqR,ir29,ssB,ssU,ak,aj,aa,Go.Sx.splice,appO,Go.Sx.leI_eq,ltF,lk,e',b]
 have ab':=oQ ab
 generalize IRC.seq cevC cevD=K at*
 rw [←ab'] at hc
 generalize IRC.seq cevA (.seq cevB K)=K2 at*
 simp [ssB,ssU,ak,aj,aa,Go.Sx.splice,appO,Go.Sx.leI_eq,ltF,hc,f]
end Go.Proofs.YtppeggedcaabkaaGreatDoor
end

section
namespace Go.Proofs.YtppeggedcaabkaaGreatDoor
open Go Go.Sx
def refS (r:BitVec 32) (b:Nat):BitVec 32:=if r.toNat%2=b%2 then r >>> 1 else (r >>> 1) ^^^ 3988292384#32
def refN:Nat→BitVec 32→Nat→BitVec 32
 | 0,r,_=>r
 | k+1,r,b=>refN k (refS r b) (b/2)
def half:Nat→Nat→Nat
 | 0,b=>b
 | k+1,b=>half k (b/2)
theorem xp (r:BitVec 32):r.getLsbD 0=decide (r.toNat%2=1):=by
 rw [BitVec.getLsbD,Nat.testBit_zero]
theorem vO (r:BitVec 32) (b i:Nat) (hi:i<32):(refS r b).getLsbD i=(r.getLsbD (1+i) ^^ ((r.getLsbD 0 ^^ decide (b%2=1))&&(3988292384#32).getLsbD i)):=by
 unfold refS
 rw [xp]
 have h1:=Nat.mod_two_eq_zero_or_one r.toNat
 have h2:=Nat.mod_two_eq_zero_or_one b
 by_cases h:r.toNat%2=b%2
 ·rw [if_pos h,BitVec.getLsbD_ushiftRight,h]
  simp
 ·rw [if_neg h,BitVec.getLsbD_xor,BitVec.getLsbD_ushiftRight]
  have:(decide (r.toNat%2=1) ^^ decide (b%2=1))=true:=by
   rcases h1 with h1|h1<;>rcases h2 with h2|h2<;>simp [h1,h2]<;>omega
  rw [this,Bool.true_and]
theorem yd (r:BitVec 32) (b:Nat) (hb:b<2^32):stp (r ^^^ BitVec.ofNat 32 b)=refS r b ^^^ BitVec.ofNat 32 (b/2):=by
 refine BitVec.eq_of_getLsbD_eq fun i hi => ?_
 rw [yb _ _ hi,BitVec.getLsbD_xor,BitVec.getLsbD_xor,BitVec.getLsbD_xor,vO _ _ _ hi]
 generalize (3988292384#32).getLsbD i=pl
 rw [BitVec.getLsbD_ofNat,BitVec.getLsbD_ofNat,BitVec.getLsbD_ofNat,Nat.testBit_div_two,Nat.testBit_zero,Nat.add_comm 1 i]
 have h0:decide (0<32)=true:=rfl
 have h1:(decide (i+1<32)&&b.testBit (i+1))=b.testBit (i+1):=by
  by_cases h:i+1<32
  ·simp [h]
  ·have:b.testBit (i+1)=false:=Nat.testBit_lt_two_pow (Nat.lt_of_lt_of_le hb (Nat.pow_le_pow_right (by decide) (by omega)))
   simp [this]
 rw [h1,h0]
 simp only [hi,decide_true,Bool.true_and]
 cases r.getLsbD (i+1)<;>cases b.testBit (i+1)<;>cases (r.getLsbD 0 ^^ decide (b%2=1))<;>cases pl<;>rfl
theorem sf : ∀ (k:Nat) (r:BitVec 32) (b:Nat),k≤32→b<2^k→Nat.repeat stp k (r ^^^ BitVec.ofNat 32 b)=refN k r b
 | 0,r,b,_,hb=>by
  obtain rfl:b=0:=by simpa using hb
  show r ^^^ 0#32=r
  simp
 | k+1,r,b,hk,hb=>by
  rw [ku,yd r b (Nat.lt_of_lt_of_le hb (Nat.pow_le_pow_right (by decide) hk)),sf k _ _ (by omega) (by rw [Nat.pow_succ] at hb;omega)]
  rfl
theorem t8 (r:BitVec 32) (b:UInt8):crcB r b=refN 8 r b.toNat:=sf 8 r b.toNat (by decide) b.toNat_lt
theorem vP (r:BitVec 32):binI .rem .u32 (nv r) 2=some (.int .u32 (r.toNat%2:Nat)):=by
 have:binI .rem .u32 (nv r) 2=some (.int .u32 ((r.toNat:Int).tmod 2)):=rfl
 rw [this,Int.tmod_eq_emod_of_nonneg (by omega)]
 norm_cast
theorem xM (b:Nat):binI .rem .u8 (b:Int) 2=some (.int .u8 (b%2:Nat)):=by
 have:binI .rem .u8 (b:Int) 2=some (.int .u8 ((b:Int).tmod 2)):=rfl
 rw [this,Int.tmod_eq_emod_of_nonneg (by omega)]
 norm_cast
theorem fJ (k:IntKind) (x y:Nat) (hy:0<y) (hk : ∀ z:Nat,z≤x→k.wrap (z:Int)=z):binI .quo k (x:Int) (y:Int)=some (.int k (x/y:Nat)):=by
 have:binI .quo k (x:Int) (y:Int)=some (.int k (k.wrap ((x:Int).tdiv y))):=by simp [binI];omega
 rw [this,Int.tdiv_eq_ediv_of_nonneg (by omega)]
 have h2:=hk (x/y) (Nat.div_le_self x y)
 rw [←h2]
 norm_cast
theorem d5 (z:Nat) (h:z<2^32):IntKind.u32.wrap (z:Int)=z:=by
 simp [IntKind.wrap,IntKind.signed,IntKind.bits];omega
theorem wu (z:Nat) (h:z<256):IntKind.u8.wrap (z:Int)=z:=by
 simp [IntKind.wrap,IntKind.signed,IntKind.bits];omega
theorem iY (z:Nat) (h:z<2^64):IntKind.u64.wrap (z:Int)=z:=by
 simp [IntKind.wrap,IntKind.signed,IntKind.bits];omega
theorem vD (r:BitVec 32):binI .quo .u32 (nv r) 2=some (.int .u32 (nv (r >>> 1))):=by
 have:=fJ .u32 r.toNat 2 (by decide) (fun z hz=>d5 z (by have:=r.isLt;omega))
 have e:((2:Nat):Int)=2:=rfl
 rw [e] at this
 rw [nv,this,nv,BitVec.toNat_ushiftRight,Nat.shiftRight_eq_div_pow]
theorem xH (b:Nat) (hb:b<256):binI .quo .u8 (b:Int) 2=some (.int .u8 (b/2:Nat)):=
 fJ .u8 b 2 (by decide) (fun z hz=>wu z (by omega))
section sum
variable (c:Ctx) (h:Hp)
theorem oD (n:Nat) (j:Nat) (hj:j<8) (r:BitVec 32) (b:Nat) (hb:b<256) (x8 x9 x10:LV):
  runCS c n ir58_0 ⟨[(3,.int .u32 (nv r)),(5,.int .u8 b),(6,.int .i64 j),(8,x8),(9,x9),(10,x10)],h⟩=
   some (.normal,⟨[(3,.int .u32 (nv (refS r b))),(5,.int .u8 (b/2:Nat)),(6,.int .i64 (j+1:Nat)),(8,x8),(9,x9),(10,x10)],h⟩):=by
 have h8 : ¬(8:Int)≤j:=by omega
 have hw:IntKind.i64.wrap ((j:Int)+1)=(j:Int)+1:=am _ (by omega) (by omega)
 have hw2:IntKind.u32.wrap ((b%2:Nat):Int)=((b%2:Nat):Int):=d5 _ (by omega)
 have r1:=vP r
 have r2:=xM b
 have q1:=vD r
 have q2:=xH b hb
 have x1:=kI (r >>> 1)
 unfold refS
 generalize hR:r.toNat%2=R at*
 generalize hB:b%2=B at*
 generalize b/2=b' at*
 generalize r >>> 1=r' at*
 by_cases e:R=B
 ·subst e
  simp [ir58_0,ssB,ssU,ssP,appO,h8,hw,r1,r2,q1,q2,x1,hw2]
 ·have e' : ¬(R:Int)=B:=by omega
  simp [ir58_0,ssB,ssU,ssP,appO,h8,hw,r1,r2,q1,q2,x1,hw2,e,e']
theorem pV (n:Nat) (r:BitVec 32) (x5 x8 x9 x10:LV):
  runCS c n ir58_0 ⟨[(3,.int .u32 (nv r)),(5,x5),(6,.int .i64 8),(8,x8),(9,x9),(10,x10)],h⟩=
   some (.exit 2,⟨[(3,.int .u32 (nv r)),(5,x5),(6,.int .i64 8),(8,x8),(9,x9),(10,x10),(15,.bool false)],h⟩):=by
 simp [ir58_0,ssB,ssU,ssP,appO]
theorem pU (n:Nat) (x8 x9 x10:LV) : ∀ (k m j:Nat) (r:BitVec 32) (b:Nat),b<256→j+k=8→k<m→iter (runCS c n ir58_0) m ⟨[(3,.int .u32 (nv r)),(5,.int .u8 b),(6,.int .i64 j),(8,x8),(9,x9),(10,x10)],h⟩=
   some (.exit 2,⟨[(3,.int .u32 (nv (refN k r b))),(5,.int .u8 (half k b:Nat)),(6,.int .i64 8),(8,x8),(9,x9),(10,x10),(15,.bool false)],h⟩):=by
 intro k
 induction k with
 | zero=>
  intro m j r b hb hj hm
  obtain ⟨m,rfl⟩ : ∃ q,m=q+1:=⟨m-1,by omega⟩
  obtain rfl:j=8:=by omega
  exact aN (pV c h n r _ x8 x9 x10) (by simp)
 | succ k ih=>
  intro m j r b hb hj hm
  obtain ⟨m,rfl⟩ : ∃ q,m=q+1:=⟨m-1,by omega⟩
  rw [aP (oD c h n j (by omega) r b hb x8 x9 x10),ih m (j+1) (refS r b) (b/2) (by omega) (by omega) (by omega)]
  rfl
end sum
section sum
variable {c:Ctx}
theorem mI {n:Nat} (hn:9≤n) {h:Hp} {F:List UInt8} {x:LV} (g:Bs (Go.Sx.look c.H c.nx h) (c.nx+h.new.length) x F) (j:Nat) (b:UInt8) (hj:F[j]?=some b) (h62:F.length<2^62) (r:BitVec 32):
  runCS c n ir58_1 ⟨[(3,.int .u32 (nv r)),(8,x),(9,.int .i64 F.length),(10,.int .i64 j)],h⟩=
   some (.normal,⟨[(3,.int .u32 (nv (crcB r b))),(8,x),(9,.int .i64 F.length),(10,.int .i64 (j+1:Nat))],h⟩):=by
 obtain ⟨hlt,hv⟩:=List.getElem?_eq_some_iff.1 hj
 have h8 : ¬(F.length:Int)≤j:=by omega
 have hw:IntKind.i64.wrap ((j:Int)+1)=(j:Int)+1:=am _ (by omega) (by omega)
 have hs:=pU c h n x (.int .i64 F.length) (.int .i64 j) 8 n 0 r b.toNat b.toNat_lt rfl (by omega)
 simp only [Int.natCast_zero,Int.ofNat_zero] at hs
 rw [t8]
 have hb:=bV hj
 cases g with
 | nil=>simp at hj
 | sl _ fl=>simp [ir58_1,ssB,ssU,Go.Sx.callO,Go.Sx.splice,Go.Sx.finish,Go.Sx.push,Go.Sx.setObj,Go.Sx.setU,Go.Sx.setAll,appO,Go.Sx.leI_eq,ltF,h8,hw,hlt,hb,aF,hs]
 | arr _ G id off cp ex h1 h2 h3 h4=>
  have hb2:=bV (eA h4 hj)
  simp [ir58_1,ssB,ssU,Go.Sx.callO,Go.Sx.splice,Go.Sx.finish,Go.Sx.push,Go.Sx.setObj,Go.Sx.setU,Go.Sx.setAll,appO,Go.Sx.leI_eq,ltF,h8,hw,hlt,hb2,h1,hs]
theorem oF {n:Nat} {h:Hp} (len:Nat) (x:LV) (r:BitVec 32):
  runCS c n ir58_1 ⟨[(3,.int .u32 (nv r)),(8,x),(9,.int .i64 len),(10,.int .i64 len)],h⟩=
   some (.exit 0,⟨[(3,.int .u32 (nv r)),(8,x),(9,.int .i64 len),(10,.int .i64 len),(11,.bool false)],h⟩):=by
 simp [ir58_1,ssB,ssU,ssP,appO]
theorem oE {n:Nat} (hn:9≤n) {h:Hp} {F:List UInt8} {x:LV} (g:Bs (Go.Sx.look c.H c.nx h) (c.nx+h.new.length) x F) (h62:F.length<2^62) : ∀ (k m j:Nat) (r:BitVec 32),j+k=F.length→k<m →
  iter (runCS c n ir58_1) m ⟨[(3,.int .u32 (nv r)),(8,x),(9,.int .i64 F.length),(10,.int .i64 j)],h⟩=
   some (.exit 0,⟨[(3,.int .u32 (nv (crcL r (F.drop j)))),(8,x),(9,.int .i64 F.length),(10,.int .i64 F.length),(11,.bool false)],h⟩):=by
 intro k
 induction k with
 | zero=>
  intro m j r hj hm
  obtain ⟨m,rfl⟩ : ∃ q,m=q+1:=⟨m-1,by omega⟩
  obtain rfl:j=F.length:=by omega
  rw [List.drop_length]
  exact aN (oF _ _ r) (by simp)
 | succ k ih=>
  intro m j r hj hm
  obtain ⟨m,rfl⟩ : ∃ q,m=q+1:=⟨m-1,by omega⟩
  have hlt:j<F.length:=by omega
  rw [aP (mI hn g j F[j] (List.getElem?_eq_getElem hlt) h62 r),ih m (j+1) _ (by omega) (by omega),List.drop_eq_getElem_cons hlt]
  rfl
end sum
theorem mR (x:BitVec 32):IntKind.u32.wrap (4294967295-nv x)=nv (~~~ x):=by
 have hx:=x.isLt
 rw [nv,nv,BitVec.toNat_not]
 have e:(4294967295:Int)-(x.toNat:Int)=((2^32-1-x.toNat:Nat):Int):=by omega
 rw [e,d5 _ (by omega)]
theorem AH {F:List UInt8} {x:LV} {H:Heap} {nx:Nat} (g:Bs H nx x F) (h62:F.length<2^62):Ω 58 [x] H nx=some (.int .u32 (nv (crc F)),[],[]):=by
 refine af (ir:=ir58) (by kernel_rfl) (F.length+9) ?_
 have hs:=oE (c:=⟨Ω,noG,H,nx⟩) (n:=F.length+9) (by omega) (h:=⟨[],[]⟩) (x:=x) (F:=F) g.in h62 F.length (F.length+9) 0 4294967295#32 (by omega) (by omega)
 have h1:nv 4294967295#32=4294967295:=rfl
 rw [List.drop_zero,h1] at hs
 simp only [Int.natCast_zero,Int.ofNat_zero] at hs
 have e:F=[]∨F≠[]:=by cases F<;>simp
 cases g with
 | nil=>
  simp only [List.length_nil,Int.natCast_zero,Int.ofNat_zero] at hs
  simp [ir58,ssB,ssU,Go.Sx.callO,Go.Sx.splice,Go.Sx.finish,Go.Sx.push,Go.Sx.setObj,Go.Sx.setU,Go.Sx.setAll,appO,Go.Sx.leI_eq,ltF,hs,mR,crc]
 | sl _ fl=>simp [ir58,ssB,ssU,Go.Sx.callO,Go.Sx.splice,Go.Sx.finish,Go.Sx.push,Go.Sx.setObj,Go.Sx.setU,Go.Sx.setAll,appO,Go.Sx.leI_eq,ltF,hs,mR,crc]
 | arr _ G id off cp ex h1 h2 h3 h4=>simp [ir58,ssB,ssU,Go.Sx.callO,Go.Sx.splice,Go.Sx.finish,Go.Sx.push,Go.Sx.setObj,Go.Sx.setU,Go.Sx.setAll,appO,Go.Sx.leI_eq,ltF,hs,mR,crc]
theorem vT (x:BitVec 32) (H:Heap) (nx:Nat):Ω 57 [.int .u32 (nv x)] H nx=some (.p (.sl (bytP (le4 x)) 4 1 true),[],[]):=by
 refine af (ir:=ir57) (by kernel_rfl) 0 ?_
 have q : ∀ (y k:Nat),y=2^k→binI .quo .u32 (nv x) (y:Int)=some (.int .u32 (nv (x >>> k))):=fun y k e=>by
  rw [nv,fJ .u32 x.toNat y (by rw [e];exact Nat.pow_pos (by decide)) (fun z hz=>d5 z (by have:=x.isLt;omega)),nv,BitVec.toNat_ushiftRight,Nat.shiftRight_eq_div_pow,e]
 have q8:=q 256 8 rfl
 have q16:=q 65536 16 rfl
 have q24:=q 16777216 24 rfl
 have e8:((256:Nat):Int)=256:=rfl
 have e16:((65536:Nat):Int)=65536:=rfl
 have e24:((16777216:Nat):Int)=16777216:=rfl
 rw [e8] at q8
 rw [e16] at q16
 rw [e24] at q24
 simp [ir57,ssB,ssU,ssP,appO,q8,q16,q24,kH,le4,bytP]
inductive Grow (nx:Nat):LV→Hp→List UInt8→Prop
 | nil:Grow nx (.p (.s (.slice none 0 0))) ⟨[],[]⟩ []
 | arr (k:Nat) (F:List UInt8):F≠[]→Grow nx (.arr (nx+k) 0 F.length 1 F.length false) ⟨[],List.replicate k none++[some (.cells (byt F))]⟩ F
theorem Grow.look {H:Heap} {nx:Nat} {x:LV} {h:Hp} {F:List UInt8} (g:Grow nx x h F) (id:Nat) (hid:id<nx):Go.Sx.look H nx h id=H id:=by
 cases g<;>simp [Go.Sx.look,findU,hid]
theorem Grow.Bs {H:Heap} {nx:Nat} {x y:LV} {h:Hp} {F G:List UInt8} (g:Grow nx x h F) (b:Bs H nx y G):Bs (Go.Sx.look H nx h) (nx+h.new.length) y G:=
 b.mono (fun id hid=>g.look id hid) (by omega)
theorem xP (k:Nat) (a b:Ob):(List.replicate k none++[a]).set k b=List.replicate k none++[b]:=by
 rw [List.set_append_right _ _ (by simp)]
 simp
theorem Grow.app {c:Ctx} {x y:LV} {h:Hp} {F G:List UInt8} (g:Grow c.nx x h F) (b:YtppeggedcaabkaaGreatDoor.Bs c.H c.nx y G) (h30:F.length+G.length<2^31):
  ∃ x' h' t m,appO c h 1 1 x y=some ⟨x',h',t,m⟩∧Grow c.nx x' h' (F++G):=by
 have hy:=(g.Bs b).cells
 cases G with
 | nil=>
  rw [List.append_nil]
  cases g with
  | nil=>exact ⟨_,_,Go.Sx.ids y,false,by simp [appO,hy,bp],.nil⟩
  | arr k F hF=>exact ⟨_,_,Go.Sx.ids y,false,by simp [appO,hy,bp],.arr k F hF⟩
 | cons u G=>
  have hne : ¬(u::G).length=0:=by simp
  generalize hE:u::G=E at*
  have hE0:E≠[]:=by rw [←hE];simp
  have h41 : ¬2^40<E.length*1:=by omega
  have h41':E.length*1≤2^40:=by omega
  cases g with
  | nil=>
   refine ⟨_,_,Go.Sx.ids y,false,?_,.arr 0 E hE0⟩
   simp [appO,hy,au,hne,push]
   omega
  | arr k F hF=>
   have hl:Go.Sx.look c.H c.nx ⟨[],List.replicate k none++[some (.cells (byt F))]⟩ (c.nx+k)=some (.cells (byt F)):=by
    simp [Go.Sx.look,ltF]
   have hF':F++E≠[]:=by simp [hF]
   refine ⟨_,_,(c.nx+k)::Go.Sx.ids y,true,?_,.arr (k+1) (F++E) hF'⟩
   have q : ¬2^40<(F.length+E.length)*1:=by omega
   have hln:(List.replicate k (none:Ob)++[some (Go.Sx.Obj.cells (byt F))]).length=k+1:=by simp
   have hset:=xP k (some (Go.Sx.Obj.cells (byt F))) none
   simp [appO,hy,au,hne,hl,push,Go.Sx.setObj,ltF,aY,List.replicate_succ',hset]
   omega
inductive Bss (H:Heap) (nx:Nat):List LV→List (List UInt8)→Prop
 | nil:Bss H nx [] []
 | cons {x:LV} {F:List UInt8} {xs:List LV} {Fs:List (List UInt8)} : Bs H nx x F→Bss H nx xs Fs→Bss H nx (x::xs) (F::Fs)
theorem Bss.length_eq {H:Heap} {nx:Nat} {xs:List LV} {Fs:List (List UInt8)} (g:Bss H nx xs Fs):xs.length=Fs.length:=by
 induction g with
 | nil=>rfl
 | cons _ _ ih=>simp [ih]
theorem Bss.get {H:Heap} {nx:Nat} {xs:List LV} {Fs:List (List UInt8)} (g:Bss H nx xs Fs) : ∀ (j:Nat) (h1:j<xs.length) (h2:j<Fs.length),Bs H nx xs[j] Fs[j]:=by
 induction g with
 | nil=>intro j h1;simp at h1
 | cons b _ ih=>
  intro j h1 h2
  cases j with
  | zero=>exact b
  | succ j=>exact ih j (by simpa using h1) (by simpa using h2)
section join
variable {c:Ctx}
theorem tc {n:Nat} {h:Hp} {x y:LV} {xs:List LV} {F G:List UInt8} (g:Grow c.nx x h F) (b:Bs c.H c.nx y G) (h30:F.length+G.length<2^31) (aid cp:Nat) (ex:Bool) (ha:c.H aid=some (.cells xs)) (haid:aid<c.nx) (j:Nat) (hj:xs[j]?=some y) (hx:xs.length<2^31):
  ∃ x' h',runCS c n ir36_0 ⟨[(3,x),(6,.arr aid 0 xs.length 1 cp ex),(7,.int .i64 xs.length),(8,.int .i64 j)],h⟩=
   some (.normal,⟨[(3,x'),(6,.arr aid 0 xs.length 1 cp ex),(7,.int .i64 xs.length),(8,.int .i64 (j+1:Nat))],h'⟩)∧Grow c.nx x' h' (F++G):=by
 obtain ⟨x',h',t,m,e,g'⟩:=g.app b h30
 refine ⟨x',h',?_,g'⟩
 obtain ⟨hlt,hv⟩:=List.getElem?_eq_some_iff.1 hj
 have h8 : ¬(xs.length:Int)≤j:=by omega
 have hw:IntKind.i64.wrap ((j:Int)+1)=(j:Int)+1:=am _ (by omega) (by omega)
 have hl:Go.Sx.look c.H c.nx h aid=some (.cells xs):=by rw [g.look aid haid];exact ha
 simp [ir36_0,ssB,ssU,Go.Sx.callO,Go.Sx.splice,Go.Sx.finish,Go.Sx.setAll,Go.Sx.leI_eq,ltF,h8,hw,hlt,hl,hj,hv,e]
theorem uT {n:Nat} {h:Hp} (len:Nat) (x y:LV):
  runCS c n ir36_0 ⟨[(3,x),(6,y),(7,.int .i64 len),(8,.int .i64 len)],h⟩=
   some (.exit 0,⟨[(3,x),(6,y),(7,.int .i64 len),(8,.int .i64 len),(9,.bool false)],h⟩):=by
 simp [ir36_0,ssB,ssU,ssP,appO]
theorem uS {n:Nat} {xs:List LV} {Fs:List (List UInt8)} (hb:Bss c.H c.nx xs Fs) (aid cp:Nat) (ex:Bool) (ha:c.H aid=some (.cells xs)) (haid:aid<c.nx) (hx:xs.length<2^31) (h30:Fs.flatten.length<2^31):
  ∀ (k m j:Nat) (x:LV) (h:Hp),Grow c.nx x h (Fs.take j).flatten→j+k=xs.length→k<m →
  ∃ x' h',iter (runCS c n ir36_0) m ⟨[(3,x),(6,.arr aid 0 xs.length 1 cp ex),(7,.int .i64 xs.length),(8,.int .i64 j)],h⟩=
   some (.exit 0,⟨[(3,x'),(6,.arr aid 0 xs.length 1 cp ex),(7,.int .i64 xs.length),(8,.int .i64 xs.length),(9,.bool false)],h'⟩)∧Grow c.nx x' h' Fs.flatten:=by
 have hlen:=hb.length_eq
 intro k
 induction k with
 | zero=>
  intro m j x h g hj hm
  obtain ⟨m,rfl⟩ : ∃ q,m=q+1:=⟨m-1,by omega⟩
  obtain rfl:j=xs.length:=by omega
  rw [hlen,List.take_length] at g
  exact ⟨x,h,aN (uT _ _ _) (by simp),g⟩
 | succ k ih=>
  intro m j x h g hj hm
  obtain ⟨m,rfl⟩ : ∃ q,m=q+1:=⟨m-1,by omega⟩
  have hlt:j<xs.length:=by omega
  have hlt2:j<Fs.length:=by omega
  have hbj:Bs c.H c.nx xs[j] Fs[j]:=hb.get j hlt hlt2
  have hsplit:Fs.flatten=((Fs.take j).flatten++Fs[j])++(Fs.drop (j+1)).flatten:=by
   conv=>lhs;rw [←List.take_append_drop j Fs,List.drop_eq_getElem_cons hlt2]
   rw [List.flatten_append,List.flatten_cons,List.append_assoc]
  have hl2:=congrArg List.length hsplit
  rw [List.length_append,List.length_append] at hl2
  obtain ⟨x',h',e,g'⟩:=tc (n:=n) g hbj (by omega) aid cp ex ha haid j (List.getElem?_eq_getElem hlt) hx
  rw [aP e]
  refine ih m (j+1) x' h' ?_ (by omega) (by omega)
  rw [List.take_succ_eq_append_getElem hlt2,List.flatten_append]
  simpa using g'
end join
def sum' (F:List UInt8):LV:=if F=[] then .p (.s (.slice none 0 0)) else .p (.sl (bytP F) F.length 1 false)
theorem Grow.done {H:Heap} {nx:Nat} {x:LV} {h:Hp} {F:List UInt8} (g:Grow nx x h F):finish false H nx x h=some (sum' F,[],[]):=by
 cases g with
 | nil=>rfl
 | arr k F hF=>
  have hl:(List.replicate k (none:Ob)++[some (.cells (byt F))])[k]?=some (some (.cells (byt F))):=by simp
  simp [finish,frz,frzL,ltF,hl,au,ay,av,Go.Sx.ids,updIds,reach,ren,renU,renN,sum',hF]
theorem mH (xs:List LV) (Fs:List (List UInt8)) (H:Heap) (nx aid cp:Nat) (ex:Bool) (ha:H aid=some (.cells xs)) (haid:aid<nx) (hb:Bss H nx xs Fs) (hx:xs.length<2^31) (h30:Fs.flatten.length<2^31):
  Ω 36 [.arr aid 0 xs.length 1 cp ex] H nx=some (sum' Fs.flatten,[],[]):=by
 refine af (ir:=ir36) (by kernel_rfl) (xs.length+1) ?_
 obtain ⟨x',h',e,g⟩:=uS (c:=⟨Ω,noG,H,nx⟩) (n:=xs.length+1) hb aid cp ex ha haid hx h30 xs.length (xs.length+1) 0 _ _ .nil (by omega) (by omega)
 have d:=g.done (H:=H)
 simp only [Int.natCast_zero,Int.ofNat_zero] at e
 simp [ir36,ssB,ssU,ak,aj,aa,Go.Sx.splice,appO,Go.Sx.leI_eq,ltF,e,d]
end Go.Proofs.YtppeggedcaabkaaGreatDoor
end

section
namespace Go.Proofs.YtppeggedcaabkaaGreatDoor
open Go Go.Sx
def pc (l:List PV):List LV:=l.map LV.p
theorem bd:pc []=[]:=rfl
theorem aS (x:PV) (l:List PV):pc (x::l) = .p x::pc l:=rfl
theorem ms (l m:List PV):pc (l++m)=pc l++pc m:=by simp [pc]
theorem cv (l:List PV):(pc l).length=l.length:=by simp [pc]
theorem eS (l:List PV):ids.idsL (pc l)=[]:=by
 induction l with
 | nil=>rfl
 | cons x l ih=>rw [aS,ids.idsL,ih];rfl
theorem eY (nx:Nat) (s:List Nat) (l:List PV):ren.go nx s (pc l)=some (pc l):=by
 induction l with
 | nil=>rfl
 | cons x l ih=>rw [aS,ren.go,ih];rfl
theorem lJ (l:List PV):allP (pc l)=some l:=by
 induction l with
 | nil=>rfl
 | cons x l ih=>rw [aS,allP,ih]
theorem ij (l:List PV):List.take l.length (pc l)=pc l:=by rw [←cv,List.take_length]
theorem ze (l:List PV):List.map LV.p l=pc l:=rfl
def bolP (l:List Bool):List PV:=l.map fun b=>.s (.bool b)
theorem jG:bolP []=[]:=rfl
theorem sM (b:Bool) (l:List Bool):bolP (b::l) = .s (.bool b)::bolP l:=rfl
theorem tX (l m:List Bool):bolP (l++m)=bolP l++bolP m:=by simp [bolP]
theorem bK (l:List Bool):(bolP l).length=l.length:=by simp [bolP]
inductive Bl:LV→List Bool→Prop
 | nil:Bl (.p (.s (.slice none 0 0))) []
 | sl (l:List Bool) (fl:Bool):Bl (.p (.sl (bolP l) l.length 1 fl)) l
abbrev blV (l:List Bool):LV:=.p (.sl (bolP l) l.length 1 false)
theorem oR (k:Nat) (hk:k≤64) (H:Heap) (nx:Nat):Ω 142 [.int .i64 k] H nx=some (.int .i64 k,[],[]):=by
 refine af (ir:=ir142) (by kernel_rfl) 0 ?_
 have h1:(0:Int)≤k:=by omega
 have h2:(k:Int)≤64:=by omega
 simp [ir142,ssB,ssU,ssP,appO,h1,h2]
theorem vE (n:Nat) (h:n<2^64):binI .quo .u64 (n:Int) 2=some (.int .u64 (n/2:Nat)):=fJ .u64 n 2 (by decide) (fun z hz=>iY z (by omega))
theorem vQ (n:Nat):binI .rem .u64 (n:Int) 2=some (.int .u64 (n%2:Nat)):=by
 have:binI .rem .u64 (n:Int) 2=some (.int .u64 ((n:Int).tmod 2)):=by simp [binI]
 rw [this,Int.tmod_eq_emod_of_nonneg (by omega)]
 norm_cast
def Own (c:Ctx) (y:LV) (h:Hp) (l:List Bool):Prop:=h.upd=[]∧((y = .p (.s (.slice none 0 0))∧l=[])∨∃ i ex,l≠[]∧y = .arr i 0 l.length 1 l.length ex∧Go.Sx.look c.H c.nx h i=some (.cells (pc (bolP l)))∧i<c.nx+h.new.length)
theorem tG {c:Ctx} (hO:c.O=Ω) {N:Nat} {h:Hp} {y X:LV} {l:List Bool} (g:Own c y h l) (n k j:Nat) (hn:n<2^64) (hk:k≤64) (hj:j<k) (hl:l.length≤64):
  ∃ y' h',runCS c N ir80_0 ⟨[(0,X),(1,.int .u64 n),(2,.int .i64 k),(7,y),(8,.int .i64 j)],h⟩=some (.normal,⟨[(0,X),(1,.int .u64 (n/2:Nat)),(2,.int .i64 k),(7,y'),(8,.int .i64 (j+1:Nat))],h'⟩)∧Own c y' h' (decide (n%2=1)::l):=by
 have w:=oR k hk
 rw [←hO] at w
 have q:=vE n hn
 have r:=vQ n
 have hjk : ¬(k:Int)≤j:=by omega
 have hw:IntKind.i64.wrap ((j:Int)+1)=(j:Int)+1:=am _ (by omega) (by omega)
 have he:(((n%2:Nat):Int)==1)=decide (n%2=1):=by
  rcases Nat.mod_two_eq_zero_or_one n with h|h<;>simp [h]
 generalize n/2=n2 at*
 generalize n%2=t at*
 obtain ⟨hu,⟨rfl,rfl⟩|⟨i,ex,hne,rfl,hlk,hi⟩⟩:=g
 ·refine ⟨.arr (c.nx+h.new.length) 0 1 1 1 true,push h (.cells (pc (bolP [decide (t=1)]))),?_,hu,.inr ⟨_,true,by simp,rfl,by rw [ao,if_pos rfl],by rw [az];omega⟩⟩
  simp [ir80_0,ssB,ssU,ak,aj,aa,Go.Sx.splice,Go.Sx.leI_eq,ltF,w,q,r,hjk,hw,he,appO,slCells,bolP,pc,hO]
 ·have hi' : ¬i=c.nx+h.new.length:=by omega
  refine ⟨.arr (c.nx+(h.new.length+1)) 0 (l.length+1) 1 (l.length+1) false,push (push h (.cells (pc (bolP [decide (t=1)])))) (.cells (pc (bolP (decide (t=1)::l)))),?_,hu,.inr ⟨_,false,by simp,rfl,by rw [ao,if_pos (by rw [az])],by rw [az,az];omega⟩⟩
  have hlk' : ∀ o,Go.Sx.look c.H c.nx (push h o) i=some (.cells (pc (bolP l))):=fun o=>by rw [ao,if_neg hi'];exact hlk
  have hlk2 : ∀ o,Go.Sx.look c.H c.nx (push h o) (c.nx+h.new.length)=some o:=fun o=>by rw [ao,if_pos rfl]
  have hl0 : ¬l.length=0:=by simpa using hne
  have h41 : ¬1099511627776<l.length+1:=by omega
  have tk:List.take l.length (pc (bolP l))=pc (bolP l):=by rw [←bK,ij]
  generalize decide (t=1)=b at*
  simp [ir80_0,ssB,ssU,ak,aj,aa,Go.Sx.splice,Go.Sx.leI_eq,ltF,w,q,r,hjk,hw,he,appO,slCells,hlk',hlk2,hl0,h41,cv,bK,aS,sM,jG,bd,tk,az,hO,Nat.add_comm 1]
theorem vU {c:Ctx} (hO:c.O=Ω) {N:Nat} {h:Hp} {y X n:LV} (k:Nat) (hk:k≤64):
  runCS c N ir80_0 ⟨[(0,X),(1,n),(2,.int .i64 k),(7,y),(8,.int .i64 k)],h⟩=some (.exit 0,⟨[(0,X),(1,n),(2,.int .i64 k),(7,y),(8,.int .i64 k),(12,.bool false)],h⟩):=by
 have w:=oR k hk
 rw [←hO] at w
 simp [ir80_0,ssB,ssU,ak,aj,aa,Go.Sx.splice,Go.Sx.leI_eq,ltF,w,hO]
theorem oX (n j:Nat):n.testBit j=decide (n/2^j%2=1):=by
 rw [Nat.testBit_eq_decide_div_mod_eq]
theorem tF {c:Ctx} (hO:c.O=Ω) {N:Nat} {X:LV} (n k:Nat) (hn:n<2^64) (hk:k≤64) : ∀ (d j m:Nat) (y:LV) (h:Hp),j+d=k→d<m→Own c y h (bitsOf n j) →
  ∃ y' h' n',iter (runCS c N ir80_0) m ⟨[(0,X),(1,.int .u64 (n/2^j:Nat)),(2,.int .i64 k),(7,y),(8,.int .i64 j)],h⟩=some (.exit 0,⟨[(0,X),(1,n'),(2,.int .i64 k),(7,y'),(8,.int .i64 k),(12,.bool false)],h'⟩)∧Own c y' h' (bitsOf n k):=by
 intro d
 induction d with
 | zero=>
  intro j m y h hj hm g
  obtain ⟨m,rfl⟩ : ∃ r,m=r+1:=⟨m-1,by omega⟩
  obtain rfl:j=k:=by omega
  exact ⟨y,h,_,aN (vU hO j hk) (by simp),g⟩
 | succ d ih=>
  intro j m y h hj hm g
  obtain ⟨m,rfl⟩ : ∃ r,m=r+1:=⟨m-1,by omega⟩
  obtain ⟨y1,h1,e1,g1⟩:=tG hO (N:=N) (X:=X) g (n/2^j) k j (Nat.lt_of_le_of_lt (Nat.div_le_self _ _) hn) hk (by omega) (by rw [ae];omega)
  rw [aP e1]
  have hd:n/2^j/2=n/2^(j+1):=by rw [Nat.div_div_eq_div_mul,Nat.pow_succ]
  rw [hd]
  refine ih (j+1) m y1 h1 (by omega) (by omega) ?_
  rw [←oX] at g1
  exact g1
theorem ck {x:LV} {l:List Bool} (g:Bl x l) (n k:Nat) (hn:n<2^64) (hk0:0<k) (hk:k≤64) (h30:l.length<2^31) (H:Heap) (nx:Nat):
  Ω 80 [x,.int .u64 n,.int .i64 k] H nx=some (blV (l++bitsOf n k),[],[]):=by
 refine af (ir:=ir80) (by kernel_rfl) 65 ?_
 obtain ⟨y,h,n',e1,hu,hor⟩:=tF (c:=⟨Ω,noG,H,nx⟩) rfl (N:=65) (X:=x) n k hn hk k 0 65 (.p (.s (.slice none 0 0))) ⟨[],[]⟩ (by omega) (by omega) ⟨rfl,.inl ⟨rfl,rfl⟩⟩
 obtain ⟨i,ex,hne,rfl,hlk,hi⟩:=hor.resolve_left (by rintro ⟨_,h⟩;have:=ae n k;rw [h] at this;simp at this;omega)
 simp only [Nat.pow_zero,Nat.div_one] at e1
 have hB:=ae n k
 have c0:((0:Nat):Int)=0:=rfl
 rw [c0] at e1
 dsimp only at hlk hi
 generalize bitsOf n k=B at*
 have hi' : ¬i=nx+h.new.length:=by omega
 have hB0 : ¬k=0:=by omega
 have hBl:B.length=k:=hB
 have q41 : ¬1099511627776<k:=by omega
 have q42 : ¬1099511627776<l.length+k:=by omega
 have q43 : ¬1099511627776<l.length:=by omega
 have tk:List.take k (pc (bolP B))=pc (bolP B):=by rw [←hBl,←bK,ij]
 have tl:List.take l.length (pc (bolP l))=pc (bolP l):=by rw [←bK,ij]
 have e2:=e1
 rw [hBl] at e2
 have key : ∀ (h0:Hp) (j:Nat),h0.upd=[]→nx≤j→Go.Sx.look H nx h0 j=some (.cells (pc (bolP (l++B))))→finish false H nx (.arr j 0 (l.length+k) 1 (l.length+k) false) h0=some (blV (l++B),[],[]):=by
  intro h0 j hu0 hj hlk0
  have hjn : ¬j<nx:=by omega
  have hnew:h0.new[j-nx]?=some (some (.cells (pc (bolP (l++B))))):=by
   rw [Go.Sx.look,if_neg hjn] at hlk0
   cases hq:h0.new[j-nx]? with
   | none=>rw [hq] at hlk0;cases hlk0
   | some o=>rw [hq] at hlk0;exact congrArg some hlk0
  have tkk:List.take (l.length+k) (pc (bolP (l++B)))=pc (bolP (l++B)):=by
   have:=ij (bolP (l++B))
   rwa [bK,List.length_append,hBl] at this
  simp [finish,frz,frzL,hjn,hnew,cv,tkk,lJ,hu0,updIds,reach,ren,renU,renN,Go.Sx.ids,bK,hBl]
 cases g with
 | nil=>
  obtain ⟨h2,t,m,a1,a2,a3,a4⟩ : ∃ h2 t m,appO ⟨Ω,noG,H,nx⟩ (push h (.cells [])) 1 1 (.arr (nx+h.new.length) 0 0 1 0 true) (.arr i 0 k 1 k ex)=some ⟨.arr (nx+(h.new.length+1)) 0 k 1 k false,h2,t,m⟩∧h2.upd=[]∧Go.Sx.look H nx h2 (nx+(h.new.length+1))=some (.cells (pc (bolP B)))∧True:=by
   have lk0 : ∀ o,Go.Sx.look H nx (push h o) (nx+h.new.length)=some o:=fun o=>by rw [ao,if_pos rfl]
   have lk1 : ∀ o,Go.Sx.look H nx (push h o) i=some (.cells (pc (bolP B))):=fun o=>by rw [ao,if_neg hi'];exact hlk
   refine ⟨push (push h (.cells [])) (.cells (pc (bolP B))),[nx+h.new.length,i],false,?_,hu,by rw [ao,if_pos (by rw [az])],trivial⟩
   simp [appO,slCells,lk0,lk1,cv,bK,hBl,tk,hB0,q41,az,Go.Sx.ids]
  have b1:appO ⟨Ω,noG,H,nx⟩ (push h (.cells [])) 1 1 (.arr (nx+h.new.length) 0 0 1 0 true) (.p (.s (.slice none 0 0)))=some ⟨.arr (nx+h.new.length) 0 0 1 0 true,push h (.cells []),[],false⟩:=by simp [appO,slCells,Go.Sx.ids]
  have f:=key h2 _ a2 (by omega) a3
  simp only [List.length_nil,Nat.zero_add] at f
  simp [ir80,ssB,ssU,ak,aj,aa,Go.Sx.splice,Go.Sx.leI_eq,ltF,e2,a1,b1,f]
 | sl _ fl=>
  by_cases hl0:l.length=0
  ·obtain rfl:l=[]:=List.eq_nil_of_length_eq_zero hl0
   obtain ⟨h2,t,m,a1,a2,a3,a4⟩ : ∃ h2 t m,appO ⟨Ω,noG,H,nx⟩ (push h (.cells [])) 1 1 (.arr (nx+h.new.length) 0 0 1 0 true) (.arr i 0 k 1 k ex)=some ⟨.arr (nx+(h.new.length+1)) 0 k 1 k false,h2,t,m⟩∧h2.upd=[]∧Go.Sx.look H nx h2 (nx+(h.new.length+1))=some (.cells (pc (bolP B)))∧True:=by
    have lk0 : ∀ o,Go.Sx.look H nx (push h o) (nx+h.new.length)=some o:=fun o=>by rw [ao,if_pos rfl]
    have lk1 : ∀ o,Go.Sx.look H nx (push h o) i=some (.cells (pc (bolP B))):=fun o=>by rw [ao,if_neg hi'];exact hlk
    refine ⟨push (push h (.cells [])) (.cells (pc (bolP B))),[nx+h.new.length,i],false,?_,hu,by rw [ao,if_pos (by rw [az])],trivial⟩
    simp [appO,slCells,lk0,lk1,cv,bK,hBl,tk,hB0,q41,az,Go.Sx.ids]
   have b1:appO ⟨Ω,noG,H,nx⟩ (push h (.cells [])) 1 1 (.arr (nx+h.new.length) 0 0 1 0 true) (.p (.sl [] 0 1 fl))=some ⟨.arr (nx+h.new.length) 0 0 1 0 true,push h (.cells []),[],false⟩:=by simp [appO,slCells,Go.Sx.ids]
   have f:=key h2 _ a2 (by omega) a3
   simp only [List.length_nil,Nat.zero_add] at f
   simp only [jG,List.length_nil] at e2
   simp [ir80,ssB,ssU,ak,aj,aa,Go.Sx.splice,Go.Sx.leI_eq,ltF,e2,a1,b1,f,jG]
  ·have lk0 : ∀ o,Go.Sx.look H nx (push h o) (nx+h.new.length)=some o:=fun o=>by rw [ao,if_pos rfl]
   have lk1 : ∀ o,Go.Sx.look H nx (push h o) i=some (.cells (pc (bolP B))):=fun o=>by rw [ao,if_neg hi'];exact hlk
   have b1:appO ⟨Ω,noG,H,nx⟩ (push h (.cells [])) 1 1 (.arr (nx+h.new.length) 0 0 1 0 true) (.p (.sl (bolP l) l.length 1 fl))=some ⟨.arr (nx+(h.new.length+1)) 0 l.length 1 l.length false,push (push h (.cells [])) (.cells (pc (bolP l))),[nx+h.new.length],false⟩:=by
    simp [appO,slCells,lk0,cv,bK,hl0,q43,az,Go.Sx.ids,ze]
   have hi3 : ¬i=nx+(push h (.cells [])).new.length:=by rw [az];omega
   have lk2 : ∀ o o',Go.Sx.look H nx (push (push h o) o') i=some (.cells (pc (bolP B))):=fun o o'=>by rw [ao,if_neg (by rw [az];omega)];exact lk1 o
   have lk3 : ∀ o o',Go.Sx.look H nx (push (push h o) o') (nx+(h.new.length+1))=some o':=fun o o'=>by rw [ao,if_pos (by rw [az])]
   obtain ⟨h2,t,m,a1,a2,a3,a4⟩ : ∃ h2 t m,appO ⟨Ω,noG,H,nx⟩ (push (push h (.cells [])) (.cells (pc (bolP l)))) 1 1 (.arr (nx+(h.new.length+1)) 0 l.length 1 l.length false) (.arr i 0 k 1 k ex)=some ⟨.arr (nx+(h.new.length+2)) 0 (l.length+k) 1 (l.length+k) false,h2,t,m⟩∧h2.upd=[]∧Go.Sx.look H nx h2 (nx+(h.new.length+2))=some (.cells (pc (bolP (l++B))))∧True:=by
    refine ⟨push (Go.Sx.setObj nx (push (push h (.cells [])) (.cells (pc (bolP l)))) (nx+(h.new.length+1)) none) (.cells (pc (bolP (l++B)))),[nx+(h.new.length+1),i],true,?_,by rw [ke,cw _ _ _ _ (by omega)];exact hu,by rw [ao,if_pos (by rw [aG,az,az])],trivial⟩
    simp [appO,slCells,lk2,lk3,cv,bK,hBl,tk,hB0,q42,az,Go.Sx.ids,tX,ms]
   have f:=key h2 _ a2 (by omega) a3
   simp [ir80,ssB,ssU,ak,aj,aa,Go.Sx.splice,Go.Sx.leI_eq,ltF,e2,a1,b1,f]
end Go.Proofs.YtppeggedcaabkaaGreatDoor
end

section
namespace Go.Proofs.YtppeggedcaabkaaGreatDoor
open Go Go.Sx
theorem xO (k:IntKind) (x y:Nat) (hy:0<y):binI .rem k (x:Int) (y:Int)=some (.int k (x%y:Nat)):=by
 have:binI .rem k (x:Int) (y:Int)=some (.int k ((x:Int).tmod y)):=by simp [binI];omega
 rw [this,Int.tmod_eq_emod_of_nonneg (by omega)]
 norm_cast
theorem pP (n:Nat):binI .rem .u64 (n:Int) 128=some (.int .u64 (n%128:Nat)):=xO .u64 n 128 (by decide)
theorem pJ (n:Nat) (h:n<2^64):binI .quo .u64 (n:Int) 128=some (.int .u64 (n/128:Nat)):=fJ .u64 n 128 (by decide) (fun z hz=>iY z (by omega))
theorem gZ : ∀ (n:Nat),n<2^64→∀ (H:Heap) (nx:Nat),Ω 32 [.int .u64 n] H nx=some (.arr nx 0 (vnum n).length 1 (vnum n).length (decide (n<128)),[],[some (.cells (byt (vnum n)))]):=by
 intro n
 induction n using Nat.strongRecOn with
 | ind n ih=>
  intro h64 H nx
  refine af (ir:=ir32) (by kernel_rfl) 0 ?_
  have w:=mV n
  by_cases hn:n<128
  ·have h1 : ¬(128:Int)≤n:=by omega
   rw [bQ hn]
   generalize UInt8.ofNat n=b at*
   simp [ir32,ssB,ssU,ssP,appO,h1,hn,w,byt]
  ·have h1:(128:Int)≤n:=by omega
   have i:=ih (n/128) (by omega) (by omega)
   have r:=pP n
   have q:=pJ n h64
   have a:IntKind.u64.wrap (((n%128:Nat):Int)+128)=((n%128+128:Nat):Int):=by
    rw [show (((n%128:Nat):Int)+128)=((n%128+128:Nat):Int) by omega,iY _ (by omega)]
   have w:=mV (n%128+128)
   have hv:=dn (n/128)
   have hv0 : ¬(vnum (n/128)).length=0:=by omega
   have hvl:=ai n h64
   rw [fT hn,List.length_cons] at hvl ⊢
   have h41 : ¬1099511627776<1+(vnum (n/128)).length:=by omega
   have h42 : ¬1099511627776<(vnum (n/128)).length+1:=by omega
   generalize UInt8.ofNat (n%128+128)=b at*
   generalize n/128=m at*
   generalize n%128+128=s at*
   generalize n%128=t at*
   generalize decide (m<128)=ex at*
   rw [ba]
   generalize vnum m=V at*
   simp [ir32,ssB,ssU,ssP,appO,h1,hn,i,r,q,a,w,au,ah,ay,aE,aJ,aI,aK,av,aD,hv0,h41,h42,Nat.add_comm 1]
section frame
theorem yA {H:Heap} {nx:Nat} {x y:LV} {F G:List UInt8} (f:Bs H nx x F) (g:Bs H nx y G) (h30:F.length+G.length<2^31) (aid:Nat) (ha:H aid=some (.cells [x,y])) (haid:aid<nx):
  Ω 36 [.arr aid 0 2 1 2 true] H nx=some (sum' (F++G),[],[]):=by
 have:=mH [x,y] [F,G] H nx aid 2 true ha haid (.cons f (.cons g .nil)) (by simp) (by simpa using h30)
 simpa using this
theorem nP {H:Heap} {nx:Nat} {x y z:LV} {F G K:List UInt8} (f:Bs H nx x F) (g:Bs H nx y G) (k:Bs H nx z K) (h30:F.length+G.length+K.length<2^31) (aid:Nat) (ha:H aid=some (.cells [x,y,z])) (haid:aid<nx):
  Ω 36 [.arr aid 0 3 1 3 true] H nx=some (sum' (F++G++K),[],[]):=by
 have:=mH [x,y,z] [F,G,K] H nx aid 3 true ha haid (.cons f (.cons g (.cons k .nil))) (by simp) (by simp;omega)
 simpa using this
theorem co {F:List UInt8} (h:F≠[]):sum' F = .p (.sl (bytP F) F.length 1 false):=by simp [sum',h]
theorem mf (x:BitVec 32):(le4 x).length=4:=rfl
theorem qw (x:BitVec 32) (fl:Bool) (H:Heap) (nx:Nat):Bs H nx (.p (.sl (bytP (le4 x)) 4 1 fl)) (le4 x):=.sl (le4 x) fl
theorem fM {H:Heap} {nx:Nat} {x:LV} {P:List UInt8} (g:Bs H nx x P) (h30:P.length<2^30):
  Ω 17 [x] H nx=some (.p (.sl (bytP (frame P)) (frame P).length 1 false),[],[]):=by
 refine af (ir:=ir17) (by kernel_rfl) 0 ?_
 have hw:=kG P.length
 unfold frame
 generalize BitVec.ofNat 32 P.length=N at*
 have hs1:sum' (le4 N++P) = .p (.sl (bytP (le4 N++P)) (le4 N++P).length 1 false):=co (by simp [le4])
 have hs2 : ∀ S,sum' (le4 N++le4 S++P) = .p (.sl (bytP (le4 N++le4 S++P)) (le4 N++le4 S++P).length 1 false):=fun S=>co (by simp [le4])
 have hl1:(le4 N++P).length<2^62:=by simp [le4];omega
 have hsum:=fun fl H nx=>AH (.sl (le4 N++P) fl:Bs H nx _ _) hl1
 generalize hF1:le4 N++P=F1 at*
 have f1:=vT N
 have f2:=vT (crc F1)
 have b1:=qw N true
 have b2:=qw (crc F1) true
 have j2 : ∀ (H:Heap) (nx aid:Nat),H aid=some (.cells [.p (.sl (bytP (le4 N)) 4 1 true),x])→aid<nx→Bs H nx x P→Ω 36 [.arr aid 0 2 1 2 true] H nx=some (sum' F1,[],[]):=fun H nx aid h1 h2 h3=>by
  rw [←hF1]
  exact yA (b1 H nx) h3 (by rw [mf];omega) aid h1 h2
 have j3 : ∀ (H:Heap) (nx aid:Nat),H aid=some (.cells [.p (.sl (bytP (le4 N)) 4 1 true),.p (.sl (bytP (le4 (crc F1))) 4 1 true),x])→aid<nx→Bs H nx x P→Ω 36 [.arr aid 0 3 1 3 true] H nx=some (sum' (le4 N++le4 (crc F1)++P),[],[]):=fun H nx aid h1 h2 h3=>
  nP (b1 H nx) (b2 H nx) h3 (by rw [mf,mf];omega) aid h1 h2
 have hs3:=hs2 (crc F1)
 generalize le4 N++le4 (crc F1)++P=F2 at*
 generalize bytP (le4 N)=p1 at*
 generalize bytP (le4 (crc F1))=p2 at*
 cases g with
 | nil=>
  have hb : ∀ (H:Heap) (nx:Nat),Bs H nx (.p (.s (.slice none 0 0))) []:=fun H nx=>.nil
  simp only [List.length_nil,Int.natCast_zero,Int.ofNat_zero] at hw
  simp [ir17,ssB,ssU,ssP,appO,hw,f1,f2,j2,j3,hb,hs1,hs3,hsum]
 | sl _ fl=>
  have hb : ∀ (H:Heap) (nx:Nat),Bs H nx (.p (.sl (bytP P) P.length 1 fl)) P:=fun H nx=>.sl P fl
  simp [ir17,ssB,ssU,ssP,appO,hw,f1,f2,j2,j3,hb,hs1,hs3,hsum]
 | arr _ G id off cp ex h1 h2 h3 h4=>
  have hb : ∀ (H:Heap) (nx:Nat),H id=some (.cells (byt G))→id<nx→Bs H nx (.arr id off P.length 1 cp ex) P:=fun H nx e1 e2=>.arr P G id off cp ex e1 e2 h3 h4
  have hk : ∀ k,id<nx+k:=fun k=>by omega
  simp [ir17,ssB,ssU,ssP,appO,hw,f1,f2,j2,j3,hb,hs1,hs3,hsum,h1,h2,hk]
end frame
end Go.Proofs.YtppeggedcaabkaaGreatDoor
end

section
namespace Go.Proofs.YtppeggedcaabkaaGreatDoor
open Go Go.Sx
theorem vz {c:Ctx} {N:Nat} {h:Hp} (b j:Nat) (hj:j<b) (hb:b≤63):runCS c N ir141_0 ⟨[(0,.int .i64 b),(3,.int .u64 (2^j:Nat)),(4,.int .i64 j)],h⟩=some (.normal,⟨[(0,.int .i64 b),(3,.int .u64 (2^(j+1):Nat)),(4,.int .i64 (j+1:Nat))],h⟩):=by
 have h1 : ¬(b:Int)≤j:=by omega
 have hw:IntKind.i64.wrap ((j:Int)+1)=(j:Int)+1:=am _ (by omega) (by omega)
 have hp:2^(j+1)≤2^63:=Nat.pow_le_pow_right (by decide) (by omega)
 have he:2^(j+1)=2^j*2:=Nat.pow_succ _ _
 have hm:IntKind.u64.wrap (((2^j:Nat):Int)*2)=((2^(j+1):Nat):Int):=by
  rw [aM _ (by omega) (by omega),he]
  omega
 generalize (2^(j+1):Nat)=y at*
 generalize (2^j:Nat)=x at*
 simp [ir141_0,ssB,ssU,ssP,appO,h1,hw,hm]
theorem xF {c:Ctx} {N:Nat} {h:Hp} (b:Nat) (x:LV):runCS c N ir141_0 ⟨[(0,.int .i64 b),(3,x),(4,.int .i64 b)],h⟩=some (.exit 0,⟨[(0,.int .i64 b),(3,x),(4,.int .i64 b),(7,.bool false)],h⟩):=by
 simp [ir141_0,ssB,ssU,ssP,appO]
theorem vy {c:Ctx} {N:Nat} {h:Hp} (b:Nat) (hb:b≤63) : ∀ (d j m:Nat),j+d=b→d<m→iter (runCS c N ir141_0) m ⟨[(0,.int .i64 b),(3,.int .u64 (2^j:Nat)),(4,.int .i64 j)],h⟩=some (.exit 0,⟨[(0,.int .i64 b),(3,.int .u64 (2^b:Nat)),(4,.int .i64 b),(7,.bool false)],h⟩):=by
 intro d
 induction d with
 | zero=>
  intro j m hj hm
  obtain ⟨m,rfl⟩ : ∃ r,m=r+1:=⟨m-1,by omega⟩
  obtain rfl:j=b:=by omega
  exact aN (xF j _) (by simp)
 | succ d ih=>
  intro j m hj hm
  obtain ⟨m,rfl⟩ : ∃ r,m=r+1:=⟨m-1,by omega⟩
  rw [aP (vz b j (by omega) hb)]
  exact ih (j+1) m (by omega) (by omega)
theorem si (b:Nat) (hb:b≤63) (H:Heap) (nx:Nat):Ω 141 [.int .i64 b] H nx=some (.int .u64 (2^b:Nat),[],[]):=by
 refine af (ir:=ir141) (by kernel_rfl) 64 ?_
 have e:=vy (c:=⟨Ω,noG,H,nx⟩) (N:=64) (h:=⟨[],[]⟩) b hb b 0 64 (by omega) (by omega)
 have e':iter (runCS ⟨Ω,noG,H,nx⟩ 64 ir141_0) 64 ⟨[(0,.int .i64 b),(3,.int .u64 1),(4,.int .i64 0)],⟨[],[]⟩⟩=some (.exit 0,⟨[(0,.int .i64 b),(3,.int .u64 (2^b:Nat)),(4,.int .i64 b),(7,.bool false)],⟨[],[]⟩⟩):=e
 generalize (2^b:Nat)=y at*
 simp [ir141,ssB,ssU,ssP,appO,e']
section num
variable {c:Ctx} (hO:c.O=Ω)
include hO
theorem pT {N:Nat} {h:Hp} {x:LV} {l:List Bool} (g:Bl x l) (h30:l.length<2^31) (v b:Nat) (hv:v<2^64) (hb:b<64) (hvb:2^b≤v):
  runCS c N ir79_0 ⟨[(0,x),(1,.int .u64 v),(5,.int .i64 b)],h⟩=some (.normal,⟨[(0,blV (l++[true])),(1,.int .u64 (v-2^b:Nat)),(5,.int .i64 (b+1:Nat))],h⟩):=by
 have p:=si b (by omega)
 have q:=ck g 1 1 (by decide) (by decide) (by decide) h30
 have hB:bitsOf 1 1=[true]:=by decide
 rw [hB] at q
 have c1:((1:Nat):Int)=1:=rfl
 rw [c1] at q
 rw [←hO] at p q
 have h1 : ¬(64:Int)≤b:=by omega
 have hw:IntKind.i64.wrap ((b:Int)+1)=(b:Int)+1:=am _ (by omega) (by omega)
 generalize (2^b:Nat)=y at*
 have h2:(y:Int)≤v:=by omega
 have hs:IntKind.u64.wrap ((v:Int)-y)=((v-y:Nat):Int):=by rw [aM _ (by omega) (by omega)];omega
 have h3:y≤v:=hvb
 generalize (v-y:Nat)=z at*
 simp [ir79_0,ssB,ssU,ak,aj,aa,Go.Sx.splice,Go.Sx.leI_eq,ltF,p,q,h1,h2,h3,hw,hs,hO]
theorem lw {N:Nat} {h:Hp} {x:LV} (v b:Nat) (hb:b≤64) (hvb:b=64∨v<2^b):
  runCS c N ir79_0 ⟨[(0,x),(1,.int .u64 v),(5,.int .i64 b)],h⟩=some (.exit 0,⟨[(0,x),(1,.int .u64 v),(5,.int .i64 b),(13,.bool false)],h⟩):=by
 by_cases h64:b=64
 ·subst h64
  simp [ir79_0,ssB,ssU,ak,aj,aa,Go.Sx.splice,Go.Sx.leI_eq,ltF,hO]
 ·have p:=si b (by omega)
  rw [←hO] at p
  have h1 : ¬(64:Int)≤b:=by omega
  have h2:=hvb.resolve_left h64
  generalize (2^b:Nat)=y at*
  have h3 : ¬(y:Int)≤v:=by omega
  have h4 : ¬y≤v:=by omega
  simp [ir79_0,ssB,ssU,ak,aj,aa,Go.Sx.splice,Go.Sx.leI_eq,ltF,p,h1,h3,h4,hO]
theorem pS {N:Nat} {h:Hp} : ∀ (f q v b:Nat) (x:LV) (l:List Bool),b+f=64→f<q→v<2^64→0<b→Bl x l→l.length+f<2^31 →
  ∃ x' v' b' k,iter (runCS c N ir79_0) q ⟨[(0,x),(1,.int .u64 v),(5,.int .i64 b)],h⟩=some (.exit 0,⟨[(0,x'),(1,.int .u64 (v':Nat)),(5,.int .i64 (b':Nat)),(13,.bool false)],h⟩) ∧
   Bl x' (l++List.replicate k true)∧numBits v b f=List.replicate k true++false::bitsOf v' b'∧b'≤64∧0<b'∧v'<2^64∧k≤f:=by
 intro f
 induction f with
 | zero=>
  intro q v b x l hb hq hv hb0 g hl
  obtain ⟨q,rfl⟩ : ∃ r,q=r+1:=⟨q-1,by omega⟩
  exact ⟨x,v,b,0,aN (lw hO v b (by omega) (.inl (by omega))) (by simp),by simpa using g,rfl,by omega,hb0,hv,Nat.le_refl _⟩
 | succ f ih=>
  intro q v b x l hb hq hv hb0 g hl
  obtain ⟨q,rfl⟩ : ∃ r,q=r+1:=⟨q-1,by omega⟩
  have hpos:0<2^b:=Nat.two_pow_pos b
  have hsh:0<v >>> b↔2^b≤v:=by rw [Nat.shiftRight_eq_div_pow];exact Nat.div_pos_iff.trans ⟨fun h=>h.2,fun h=>⟨hpos,h⟩⟩
  by_cases hs:2^b≤v
  ·rw [aP (pT hO g (by omega) v b hv (by omega) hs)]
   obtain ⟨x',v',b',k,e1,e2,e3,e4,e5,e6,e7⟩:=ih q (v-2^b) (b+1) (blV (l++[true])) (l++[true]) (by omega) (by omega) (Nat.lt_of_le_of_lt (Nat.sub_le _ _) hv) (by omega) (.sl _ false) (by simp;omega)
   refine ⟨x',v',b',k+1,e1,?_,?_,e4,e5,e6,by omega⟩
   ·simpa [List.replicate_succ,List.append_assoc] using e2
   ·rw [numBits,if_pos (hsh.2 hs),e3];rfl
  ·exact ⟨x,v,b,0,aN (lw hO v b (by omega) (.inr (by omega))) (by simp),by simpa using g,by rw [numBits,if_neg (fun h=>hs (hsh.1 h))];rfl,by omega,hb0,hv,Nat.zero_le _⟩
end num
theorem mD {x:LV} {l:List Bool} (g:Bl x l) (v:Nat) (hv:v<2^64) (h30:l.length+200<2^31) (H:Heap) (nx:Nat):
  Ω 79 [x,.int .u64 v] H nx=some (blV (l++numBits v 2 62),[],[]):=by
 refine af (ir:=ir79) (by kernel_rfl) 63 ?_
 obtain ⟨x',v',b',k,e1,e2,e3,e4,e5,e6,e7⟩:=pS (c:=⟨Ω,noG,H,nx⟩) rfl (N:=63) (h:=⟨[],[]⟩) 62 63 v 2 x l rfl (by decide) hv (by decide) g (by omega)
 have q1:=ck e2 0 1 (by decide) (by decide) (by decide) (by simp;omega)
 have hB:bitsOf 0 1=[false]:=by decide
 rw [hB] at q1
 have q2:=ck (.sl (l++List.replicate k true++[false]) false) v' b' e6 e5 e4 (by simp;omega)
 have hl:l++List.replicate k true++[false]++bitsOf v' b'=l++numBits v 2 62:=by rw [e3];simp
 rw [hl] at q2
 have c0:((0:Nat):Int)=0:=rfl
 have c1:((1:Nat):Int)=1:=rfl
 have c2:((2:Nat):Int)=2:=rfl
 rw [c0,c1] at q1
 rw [c2] at e1
 generalize l++List.replicate k true++[false]=L1 at*
 generalize l++numBits v 2 62=L2 at*
 have f:=fun h hu=>cJ H nx (.sl (bolP L2) L2.length 1 false) h hu
 simp [ir79,ssB,ssU,ak,aj,aa,Go.Sx.splice,Go.Sx.leI_eq,ltF,e1,q1,q2,f]
end Go.Proofs.YtppeggedcaabkaaGreatDoor
end

section
namespace Go.Proofs.YtppeggedcaabkaaGreatDoor
open Go Go.Sx
def valB (l:List Bool) (i:Nat):Nat→Nat
 | 0=>0
 | k+1=>2*valB l i k+(if l.getD (i+k) false then 1 else 0)
theorem mU (l:List Bool) (i:Nat) : ∀ k,valB l i k<2^k
 | 0=>by simp [valB]
 | k+1=>by
  have:=mU l i k
  rw [valB,Nat.pow_succ]
  split<;>omega
theorem wC {l:List Bool} {j:Nat} (h:j<l.length):(bolP l)[j]?=some (.s (.bool (l.getD j false))):=by
 simp [bolP,h,List.getD]
section
variable {c:Ctx} {N:Nat} {h:Hp}
theorem tA {x:LV} {l:List Bool} (g:Bl x l) (h30:l.length<2^31) (out:LV) (i k b:Nat) (hi:i<2^31) (hk:k<8) (hb:b<128):
  runCS c N ir34_0 ⟨[(0,x),(3,out),(4,.int .i64 i),(5,.int .u8 b),(6,.int .i64 k)],h⟩=
   some (.normal,⟨[(0,x),(3,out),(4,.int .i64 i),(5,.int .u8 (2*b+(if l.getD (i+k) false then 1 else 0):Nat)),(6,.int .i64 (k+1:Nat))],h⟩):=by
 have h1 : ¬(8:Int)≤k:=by omega
 have w1:IntKind.i64.wrap ((i:Int)+k)=((i+k:Nat):Int):=by rw [am _ (by omega) (by omega)];omega
 have w2:IntKind.i64.wrap ((k:Int)+1)=(k:Int)+1:=am _ (by omega) (by omega)
 have w3:IntKind.u8.wrap ((b:Int)*2)=((2*b:Nat):Int):=by
  simp [IntKind.wrap,IntKind.signed,IntKind.bits];omega
 have w4:IntKind.u8.wrap (((2*b:Nat):Int)+1)=((2*b+1:Nat):Int):=by
  simp [IntKind.wrap,IntKind.signed,IntKind.bits];omega
 generalize hj:i+k=j at*
 by_cases hlt:j<l.length
 ·have gt : ¬(l.length:Int)≤j:=by omega
  have gt' : ¬l.length≤j:=by omega
  have hg : ∀ hh:j<(bolP l).length,(bolP l)[j] = .s (.bool (l.getD j false)):=fun hh=>by
   have:=wC hlt
   rw [List.getElem?_eq_getElem hh] at this
   exact Option.some.inj this
  cases g with
  | nil=>simp at hlt
  | sl _ fl=>
   generalize l.getD j false=y at*
   generalize hb1:2*b+1=b1 at*
   cases y
   ·rw [if_neg (by simp),Nat.add_zero]
    generalize 2*b=b2 at*
    simp [ir34_0,ssB,ssU,ssP,appO,h1,w1,w2,w3,w4,gt,gt',hg,hlt,bK]
   ·rw [if_pos rfl]
    generalize hb2:2*b=b2 at*
    simp [ir34_0,ssB,ssU,ssP,appO,h1,w1,w2,w3,w4,gt,gt',hg,hlt,bK]
    omega
 ·have gt:(l.length:Int)≤j:=by omega
  have gt':l.length≤j:=by omega
  have hd:l.getD j false=false:=by simp [List.getD,List.getElem?_eq_none gt']
  rw [hd,if_neg (by simp),Nat.add_zero]
  generalize 2*b=b2 at*
  cases g with
  | nil=>
   have gt2:(0:Int)≤j:=by omega
   simp [ir34_0,ssB,ssU,ssP,appO,h1,w1,w2,w3,gt2]
  | sl _ fl=>simp [ir34_0,ssB,ssU,ssP,appO,h1,w1,w2,w3,gt,gt']
theorem vJ (x out i b:LV):runCS c N ir34_0 ⟨[(0,x),(3,out),(4,i),(5,b),(6,.int .i64 8)],h⟩=some (.exit 2,⟨[(0,x),(3,out),(4,i),(5,b),(6,.int .i64 8),(14,.bool false)],h⟩):=by
 simp [ir34_0,ssB,ssU,ssP,appO]
theorem tz {x:LV} {l:List Bool} (g:Bl x l) (h30:l.length<2^31) (out:LV) (i:Nat) (hi:i<2^31) : ∀ (d k m:Nat),k+d=8→d<m →
  iter (runCS c N ir34_0) m ⟨[(0,x),(3,out),(4,.int .i64 i),(5,.int .u8 (valB l i k)),(6,.int .i64 k)],h⟩=
   some (.exit 2,⟨[(0,x),(3,out),(4,.int .i64 i),(5,.int .u8 (valB l i 8)),(6,.int .i64 8),(14,.bool false)],h⟩):=by
 intro d
 induction d with
 | zero=>
  intro k m hk hm
  obtain ⟨m,rfl⟩ : ∃ r,m=r+1:=⟨m-1,by omega⟩
  obtain rfl:k=8:=by omega
  exact aN (vJ _ _ _ _) (by simp)
 | succ d ih=>
  intro k m hk hm
  obtain ⟨m,rfl⟩ : ∃ r,m=r+1:=⟨m-1,by omega⟩
  have hv:=mU l i k
  have hp:2^k≤2^7:=Nat.pow_le_pow_right (by decide) (by omega)
  rw [aP (tA g h30 out i k (valB l i k) hi (by omega) (by omega))]
  exact ih (k+1) m (by omega) (by omega)
def Acc (c:Ctx) (x:LV) (h:Hp) (q:List UInt8):Prop:=h.upd=[]∧Rdy c x h q∧((q=[]∧x = .p (.s (.slice none 0 0)))∨∃ i,q≠[]∧c.nx≤i∧x = .arr i 0 q.length 1 q.length false∧Go.Sx.look c.H c.nx h i=some (.cells (byt q)))
theorem vL {x out:LV} {l:List Bool} {q:List UInt8} (g:Bl x l) (h30:l.length<2^30) (hN:9≤N) (a:Acc c out h q) (hq:q.length+1<2^31) (i:Nat) (hi:i<l.length):
  ∃ out' h',runCS c N ir34_1 ⟨[(0,x),(3,out),(4,.int .i64 i)],h⟩=some (.normal,⟨[(0,x),(3,out'),(4,.int .i64 (i+8:Nat))],h'⟩)∧Acc c out' h' (q++[UInt8.ofNat (valB l i 8)]):=by
 obtain ⟨hu,hr,_⟩:=a
 obtain ⟨h'',t,m,e1,e2,e3,e4⟩:=hr (UInt8.ofNat (valB l i 8))
 have hv:=mU l i 8
 have ht:((UInt8.ofNat (valB l i 8)).toNat:Int)=(valB l i 8:Nat):=by simp;omega
 have lp:=tz (c:=c) (N:=N) (h:=h) g (by omega) out i (by omega) 8 0 N (by omega) (by omega)
 have hw:IntKind.i64.wrap ((i:Int)+8)=(i:Int)+8:=am _ (by omega) (by omega)
 have gt : ¬(l.length:Int)≤i:=by omega
 have gt' : ¬l.length≤i:=by omega
 have lp':iter (runCS c N ir34_0) N ⟨[(0,x),(3,out),(4,.int .i64 i),(5,.int .u8 0),(6,.int .i64 0)],h⟩=
   some (.exit 2,⟨[(0,x),(3,out),(4,.int .i64 i),(5,.int .u8 (valB l i 8)),(6,.int .i64 8),(14,.bool false)],h⟩):=lp
 rw [ht] at e1
 have own:Rdy c (.arr (c.nx+(h.new.length+1)) 0 (q.length+1) 1 (q.length+1) false) h'' (q++[UInt8.ofNat (valB l i 8)]):=by
  have:=rO e2 (by rw [e4];omega) (by omega) e3 (by simp;omega)
  simpa using this
 refine ⟨.arr (c.nx+(h.new.length+1)) 0 (q.length+1) 1 (q.length+1) false,h'',?_,e3,own,.inr ⟨c.nx+(h.new.length+1),by simp,Nat.le_add_right _ _,by simp,e2⟩⟩
 clear own
 generalize valB l i 8=v at*
 cases g with
 | nil=>simp at hi
 | sl _ fl=>simp [ir34_1,ssB,ssU,ak,aj,aa,Go.Sx.splice,Go.Sx.leI_eq,ltF,gt,gt',hi,lp',e1,hw]
theorem rZ {x out:LV} {l:List Bool} (g:Bl x l) (i:Nat) (hi:l.length≤i):runCS c N ir34_1 ⟨[(0,x),(3,out),(4,.int .i64 i)],h⟩=some (.exit 0,⟨[(0,x),(3,out),(4,.int .i64 i),(10,.bool false)],h⟩):=by
 have gt:(l.length:Int)≤i:=by omega
 cases g with
 | nil=>
  have gt2:(0:Int)≤i:=by omega
  simp [ir34_1,ssB,ssU,ak,aj,aa,Go.Sx.splice,Go.Sx.leI_eq,ltF,gt2]
 | sl _ fl=>simp [ir34_1,ssB,ssU,ak,aj,aa,Go.Sx.splice,Go.Sx.leI_eq,ltF,gt,hi]
def packR (l:List Bool):Nat→Nat→List UInt8
 | 0,_=>[]
 | f+1,i=>if i<l.length then UInt8.ofNat (valB l i 8)::packR l f (i+8) else []
theorem vK {x:LV} {l:List Bool} (g:Bl x l) (h30:l.length<2^30) (hN:9≤N) : ∀ (f m i:Nat) (out:LV) (h:Hp) (q:List UInt8),l.length<i+8*f→f<m→q.length≤i→Acc c out h q →
  ∃ out' h' i',iter (runCS c N ir34_1) m ⟨[(0,x),(3,out),(4,.int .i64 i)],h⟩=some (.exit 0,⟨[(0,x),(3,out'),(4,i'),(10,.bool false)],h'⟩)∧Acc c out' h' (q++packR l f i):=by
 intro f
 induction f with
 | zero=>
  intro m i out h q hl hm hq a
  obtain ⟨m,rfl⟩ : ∃ r,m=r+1:=⟨m-1,by omega⟩
  exact ⟨out,h,_,aN (rZ g i (by omega)) (by simp),by simpa [packR] using a⟩
 | succ f ih=>
  intro m i out h q hl hm hq a
  obtain ⟨m,rfl⟩ : ∃ r,m=r+1:=⟨m-1,by omega⟩
  by_cases hi:i<l.length
  ·obtain ⟨out',h',e1,a'⟩:=vL (N:=N) g h30 hN a (by omega) i hi
   rw [aP e1]
   obtain ⟨out2,h2,i2,e2,a2⟩:=ih m (i+8) out' h' _ (by omega) (by omega) (by simp;omega) a'
   exact ⟨out2,h2,i2,e2,by rw [packR,if_pos hi];simpa using a2⟩
  ·exact ⟨out,h,_,aN (rZ g i (by omega)) (by simp),by rw [packR,if_neg hi];simpa using a⟩
end
theorem xI {x:LV} {l:List Bool} (g:Bl x l) (h30:l.length<2^30) (H:Heap) (nx:Nat):Ω 34 [x] H nx=some (sum' (packR l (l.length+1) 0),[],[]):=by
 refine af (ir:=ir34) (by kernel_rfl) (l.length+10) ?_
 obtain ⟨out,h,i',e1,hu,hr,hor⟩:=vK (c:=⟨Ω,noG,H,nx⟩) (N:=l.length+10) g h30 (by omega) (l.length+1) (l.length+10) 0 (.p (.s (.slice none 0 0))) ⟨[],[]⟩ [] (by omega) (by omega) (by simp)
  ⟨rfl,Ini.rdy .nil (by simp),.inl ⟨rfl,rfl⟩⟩
 have f:finish false H nx out h=some (sum' ([]++packR l (l.length+1) 0),[],[]):=by
  generalize []++packR l (l.length+1) 0=q at*
  rcases hor with ⟨rfl,rfl⟩|⟨i,hne,hi,rfl,hlk⟩
  ·exact cJ _ _ _ _ hu
  ·have hjn : ¬i<nx:=by simp only [] at hi;omega
   have hnew:h.new[i-nx]?=some (some (.cells (byt q))):=by
    simp only [] at hlk
    rw [Go.Sx.look,if_neg hjn] at hlk
    cases hq:h.new[i-nx]? with
    | none=>rw [hq] at hlk;cases hlk
    | some o=>rw [hq] at hlk;exact congrArg some hlk
   rw [co hne]
   simp [finish,frz,frzL,hjn,hnew,au,ay,av,hu,updIds,reach,ren,renU,renN,Go.Sx.ids]
 have c0:((0:Nat):Int)=0:=rfl
 rw [c0] at e1
 rw [List.nil_append] at f
 generalize packR l (l.length+1) 0=q at*
 simp [ir34,ssB,ssU,ak,aj,aa,Go.Sx.splice,Go.Sx.leI_eq,ltF,e1,f]
end Go.Proofs.YtppeggedcaabkaaGreatDoor
end

section
namespace Go.Proofs.YtppeggedcaabkaaGreatDoor
open Go Go.Sx
def valL:Nat→List Bool→Nat
 | v,[]=>v
 | v,b::r=>valL (2*v+(if b then 1 else 0)) r
theorem wh (v:Nat) (l m:List Bool):valL v (l++m)=valL (valL v l) m:=by
 induction l generalizing v with
 | nil=>rfl
 | cons b l ih=>rw [List.cons_append,valL,valL,ih]
def sb (x:UInt8) (k:Nat) (b:Bool):UInt8:=if b then x ||| UInt8.ofNat (128 >>> k) else x
theorem zK : ∀ k:Fin 8,∀ v:Fin 256,v.val<2^k.val→UInt8.ofNat (v.val*2^(8-k.val)) ||| UInt8.ofNat (128 >>> k.val)=UInt8.ofNat ((2*v.val+1)*2^(7-k.val)):=by decide +kernel
theorem v6 (v k:Nat) (b:Bool) (hk:k<8) (hv:v<2^k):sb (UInt8.ofNat (v*2^(8-k))) k b=UInt8.ofNat ((2*v+(if b then 1 else 0))*2^(7-k)):=by
 have hp:2^k≤2^7:=Nat.pow_le_pow_right (by decide) (by omega)
 cases b
 ·have:8-k=(7-k)+1:=by omega
  rw [this,Nat.pow_succ]
  simp only [sb,Bool.false_eq_true,if_false,Nat.add_zero]
  congr 1
  rw [Nat.mul_comm 2 v,Nat.mul_assoc,Nat.mul_comm 2]
 ·exact zK ⟨k,hk⟩ ⟨v,by omega⟩ hv
theorem sG (p:List UInt8) (x:UInt8) (k:Nat) (b:Bool) (h0:0<k) (hk:k<8):addBit (p++[x]) (8*p.length+k) b=p++[sb x k b]:=by
 have h1 : ¬(8*p.length+k)%8=0:=by omega
 have h2:(8*p.length+k)/8=p.length:=by omega
 have h3:(8*p.length+k)%8=k:=by omega
 have hk0 : ¬k=0:=by omega
 unfold addBit sb
 simp only [h2,h3,hk0,if_false]
 cases b<;>simp
theorem o5 (p:List UInt8) (b:Bool):addBit p (8*p.length) b=p++[sb 0 0 b]:=by
 have h1:(8*p.length)%8=0:=by omega
 have h2:(8*p.length)/8=p.length:=by omega
 unfold addBit sb
 simp only [h1,if_pos,h2]
 cases b<;>simp
theorem jD (p:List UInt8) : ∀ (l:List Bool) (v k:Nat),0<k→k+l.length≤8→v<2^k→addBits (p++[UInt8.ofNat (v*2^(8-k))]) (8*p.length+k) l=p++[UInt8.ofNat (valL v l*2^(8-(k+l.length)))]
 | [],v,k,h0,hk,hv=>rfl
 | b::r,v,k,h0,hk,hv=>by
  rw [List.length_cons] at hk
  rw [addBits,sG p _ k b h0 (by omega),v6 v k b (by omega) hv,List.length_cons,valL,show k+(r.length+1)=(k+1)+r.length by omega,show 8*p.length+k+1=8*p.length+(k+1) by omega]
  have:7-k=8-(k+1):=by omega
  rw [this]
  refine jD p r _ (k+1) (by omega) (by omega) ?_
  rw [Nat.pow_succ]
  split<;>omega
theorem lI (p:List UInt8) (l:List Bool) (h0:l≠[]) (h8:l.length≤8):addBits p (8*p.length) l=p++[UInt8.ofNat (valL 0 l*2^(8-l.length))]:=by
 cases l with
 | nil=>exact absurd rfl h0
 | cons b r=>
  rw [List.length_cons] at h8
  have e:=v6 0 0 b (by decide) (by decide)
  have e0:UInt8.ofNat (0*2^(8-0))=0:=by decide
  rw [e0] at e
  rw [addBits,o5,e,valL,List.length_cons,show r.length+1=1+r.length by omega]
  exact jD p r _ 1 (by decide) (by omega) (by split<;>decide)
def packL:Nat→List Bool→List UInt8
 | 0,_=>[]
 | f+1,l=>if l=[] then [] else UInt8.ofNat (valL 0 (l.take 8)*2^(8-(l.take 8).length))::packL f (l.drop 8)
theorem d6 : ∀ (f:Nat) (p:List UInt8) (l:List Bool),l.length<8*f→addBits p (8*p.length) l=p++packL f l
 | 0,p,l,h=>by omega
 | f+1,p,l,h=>by
  by_cases h0:l=[]
  ·subst h0;simp [packL,addBits]
  ·rw [packL,if_neg h0]
   have hl:0<l.length:=List.length_pos_iff.2 h0
   conv=>lhs;rw [←List.take_append_drop 8 l,bj]
   have ht:(l.take 8)≠[]:=by
    intro he
    have:=congrArg List.length he
    rw [List.length_take,List.length_nil] at this
    omega
   rw [lI p _ ht (by simp;omega)]
   by_cases hd:l.drop 8=[]
   ·rw [hd]
    cases f<;>simp [addBits,packL]
   ·have h8:8<l.length:=by
     have:=List.length_pos_iff.2 hd
     simp at this
     omega
    have hlen:(l.take 8).length=8:=by simp;omega
    have e:8*p.length+(l.take 8).length=8*(p++[UInt8.ofNat (valL 0 (l.take 8)*2^(8-(l.take 8).length))]).length:=by rw [hlen];simp;omega
    rw [e,d6 f _ _ (by simp;omega)]
    simp
theorem oZ (l:List Bool) (i:Nat) : ∀ k,valB l i k=valL 0 ((l.drop i).take k)*2^(k-((l.drop i).take k).length)
 | 0=>by simp [valB,valL]
 | k+1=>by
  rw [valB,oZ l i k]
  by_cases hlt:i+k<l.length
  ·have h1:((l.drop i).take k).length=k:=by simp;omega
   have h2:(l.drop i).take (k+1)=(l.drop i).take k++[l.getD (i+k) false]:=by
    rw [List.take_succ_eq_append_getElem (by simp;omega)]
    simp [List.getD,hlt]
   have h3:((l.drop i).take (k+1)).length=k+1:=by simp;omega
   rw [h3,h1,h2,wh]
   simp [valL,Nat.mul_comm]
  ·have h1:(l.drop i).take (k+1)=l.drop i:=List.take_of_length_le (by simp;omega)
   have h2:(l.drop i).take k=l.drop i:=List.take_of_length_le (by simp;omega)
   have h3:l.getD (i+k) false=false:=by simp [List.getD,List.getElem?_eq_none (by omega:l.length≤i+k)]
   rw [h1,h2,h3]
   have h4:(l.drop i).length≤k:=by simp;omega
   rw [show k+1-(l.drop i).length=(k-(l.drop i).length)+1 by omega,Nat.pow_succ]
   simp only [Bool.false_eq_true,if_false,Nat.add_zero]
   rw [Nat.mul_comm 2,Nat.mul_assoc]
theorem rP (l:List Bool) : ∀ (f i:Nat),packR l f i=packL f (l.drop i)
 | 0,i=>rfl
 | f+1,i=>by
  rw [packR,packL,rP l f (i+8),oZ,List.drop_drop]
  by_cases h:i<l.length
  ·rw [if_pos h,if_neg (by intro he;have:=congrArg List.length he;simp at this;omega)]
  ·rw [if_neg h,if_pos (List.drop_eq_nil_of_le (by omega))]
theorem j9 (l:List Bool):packR l (l.length+1) 0=pack l:=by
 have h:=d6 (l.length+1) [] l (by omega)
 rw [rP,List.drop_zero,pack]
 simpa using h.symm
end Go.Proofs.YtppeggedcaabkaaGreatDoor
end

section
namespace Go.Proofs.YtppeggedcaabkaaGreatDoor
open Go Go.Sx
def Id.rv:Id→PV
 | .zero=>.imm [.s (.int .i64 0),.s (.pointer none),.s (.pointer none)] 0
 | .one=>.imm [.s (.int .i64 1),.s (.pointer none),.s (.pointer none)] 0
 | .node l r=>.imm [.s (.int .i64 2),l.rv,r.rv] 0
theorem Id.rv_z:Id.zero.rv = .imm [.s (.int .i64 0),.s (.pointer none),.s (.pointer none)] 0:=rfl
theorem Id.rv_o:Id.one.rv = .imm [.s (.int .i64 1),.s (.pointer none),.s (.pointer none)] 0:=rfl
theorem Id.rv_n (l r:Id):(Id.node l r).rv = .imm [.s (.int .i64 2),l.rv,r.rv] 0:=rfl
theorem pM (H:Heap) (nx:Nat):Ω 60 [] H nx=some (.p Id.zero.rv,[],[]):=by
 refine af (ir:=ir60) (by kernel_rfl) 0 ?_
 simp [ir60,Id.rv_z,ssB,ssU,ssP,appO]
theorem zH (l r:Id) (H:Heap) (nx:Nat):Ω 64 [.p l.rv,.p r.rv] H nx=some (.p (Id.pair l r).rv,[],[]):=by
 refine af (ir:=ir64) (by kernel_rfl) 0 ?_
 unfold Id.pair
 cases l<;>cases r
 all_goals simp [ir64,Id.rv_z,Id.rv_o,Id.rv_n,ssB,ssU,ssP,appO]
def obP (fl:Bool):Option (List UInt8)→PV
 | none=>.s (.slice none 0 0)
 | some l=>.sl (bytP l) l.length 1 fl
theorem cL (b:UInt8) (l:List UInt8):bytP (b::l) = .s (.int .u8 b.toNat)::bytP l:=rfl
theorem bZ (l:List UInt8):List.take l.length (bytP l)=bytP l:=by rw [←ah,List.take_length]
theorem cZ (fl:Bool):obP fl none = .s (.slice none 0 0):=rfl
theorem cf (fl:Bool) (l:List UInt8):obP fl (some l) = .sl (bytP l) l.length 1 fl:=rfl
def mkId:Nat→Option (List UInt8)→Id × Option (List UInt8)
 | _,none=>(.zero,none)
 | _,some []=>(.zero,none)
 | 0,some (b::p)=>(if b.toNat%2=0 then .zero else .one,some p)
 | m+1,some (b::p)=>
  if b.toNat%4<2 then (if b.toNat%2=0 then .zero else .one,some p)
  else (Id.pair (mkId m (some p)).1 (mkId m (mkId m (some p)).2).1,(mkId m (mkId m (some p)).2).2)
theorem vS (b:UInt8) (k:Nat) (hk:0<k):binI .rem .u8 b.toNat (k:Int)=some (.int .u8 (b.toNat%k:Nat)):=by
 have:binI .rem .u8 (b.toNat:Int) (k:Int)=some (.int .u8 ((b.toNat:Int).tmod k)):=by simp [binI];omega
 rw [this,Int.tmod_eq_emod_of_nonneg (by omega)]
 norm_cast
theorem jq (b:UInt8):binI .rem .u8 b.toNat 4=some (.int .u8 (b.toNat%4:Nat)):=vS b 4 (by decide)
theorem tC (b:UInt8):binI .rem .u8 b.toNat 2=some (.int .u8 (b.toNat%2:Nat)):=vS b 2 (by decide)
theorem pL (m:Nat) (H:Heap) (nx:Nat):Ω 21 [.p (.s (.slice none 0 0)),.int .i64 m] H nx=some (.tuple [.p Id.zero.rv,.p (.s (.slice none 0 0))],[],[]):=by
 refine af (ir:=ir21) (by kernel_rfl) 0 ?_
 simp [ir21,ssB,ssU,ssP,appO,pM,Id.rv_z]
theorem tw (m:Nat) (fl:Bool) (H:Heap) (nx:Nat):Ω 21 [.p (.sl [] 0 1 fl),.int .i64 m] H nx=some (.tuple [.p Id.zero.rv,.p (.s (.slice none 0 0))],[],[]):=by
 refine af (ir:=ir21) (by kernel_rfl) 0 ?_
 simp [ir21,ssB,ssU,ssP,appO,pM,Id.rv_z]
theorem kq (m:Nat) (b:UInt8) (p:List UInt8) (fl:Bool) (h30:p.length<2^31) (hm:m=0∨b.toNat%4<2) (H:Heap) (nx:Nat):
  Ω 21 [.p (obP fl (some (b::p))),.int .i64 m] H nx=some (.tuple [.p (if b.toNat%2=0 then Id.zero else Id.one).rv,.p (obP fl (some p))],[],[]):=by
 refine af (ir:=ir21) (by kernel_rfl) 0 ?_
 have r4:=jq b
 have hp1 : ¬((p.length:Int)+1=0):=by omega
 have hp2:bytP []=[]:=rfl
 have r2:=tC b
 have hw:IntKind.i64.wrap ((b.toNat%2:Nat):Int)=((b.toNat%2:Nat):Int):=am _ (by omega) (by omega)
 have hc:(if b.toNat%2=0 then Id.zero else Id.one).rv = .imm [.s (.int .i64 (b.toNat%2:Nat)),.s (.pointer none),.s (.pointer none)] 0:=by
  rcases Nat.mod_two_eq_zero_or_one b.toNat with h|h<;>simp [h,Id.rv_z,Id.rv_o]
 rw [hc]
 generalize b.toNat%2=x at*
 by_cases h0:m=0
 ·subst h0
  simp [ir21,ssB,ssU,ssP,appO,cf,cL,ah,bZ,hp1,hp2,r4,r2,hw]
 ·have h4:=hm.resolve_left h0
  have h4':((b.toNat%4:Nat):Int)<2:=by omega
  have h0':((m:Int)==0)=false:=by simp;omega
  have h5 : ¬(2:Int)≤((b.toNat%4:Nat):Int):=by omega
  generalize b.toNat%4=y at*
  simp [ir21,ssB,ssU,ssP,appO,cf,cL,ah,bZ,hp1,hp2,r4,r2,hw,h5,h0']
def short (x:Option (List UInt8)):Prop:=∀ l,x=some l→l.length<2^31
theorem gr : ∀ (m:Nat) (x:Option (List UInt8)),short x→short (mkId m x).2
 | _,none,h=>by unfold mkId;exact h
 | _,some [],h=>by unfold mkId;intro l hl;cases hl
 | 0,some (b::p),h=>by
  unfold mkId
  intro l hl
  obtain rfl:=Option.some.inj hl
  have:=h _ rfl
  simp at this;omega
 | m+1,some (b::p),h=>by
  have hp:short (some p):=fun l hl=>by
   obtain rfl:=Option.some.inj hl
   have:=h _ rfl
   simp at this;omega
  unfold mkId
  split
  ·exact hp
  ·exact gr m _ (gr m _ hp)
theorem pK : ∀ (m:Nat) (x:Option (List UInt8)) (fl:Bool),m<100→short x→∀ (H:Heap) (nx:Nat),
  Ω 21 [.p (obP fl x),.int .i64 m] H nx=some (.tuple [.p (mkId m x).1.rv,.p (obP fl (mkId m x).2)],[],[])
 | m,none,fl,hm,hx,H,nx=>by
  unfold mkId;exact pL m H nx
 | m,some [],fl,hm,hx,H,nx=>by
  unfold mkId;exact tw m fl H nx
 | 0,some (b::p),fl,hm,hx,H,nx=>by
  have:=hx _ rfl
  unfold mkId;exact kq 0 b p fl (by simp at this;omega) (.inl rfl) H nx
 | m+1,some (b::p),fl,hm,hx,H,nx=>by
  have hl:=hx _ rfl
  have hp:short (some p):=fun l hl'=>by
   obtain rfl:=Option.some.inj hl'
   simp at hl;omega
  unfold mkId
  split
  ·rename_i h4
   exact kq (m+1) b p fl (by simp at hl;omega) (.inr h4) H nx
  ·rename_i h4
   refine af (ir:=ir21) (by kernel_rfl) 0 ?_
   have r4:=jq b
   have hp1 : ¬((p.length:Int)+1=0):=by omega
   have hp2:bytP []=[]:=rfl
   have h4' : ¬((b.toNat%4:Nat):Int)<2:=by omega
   have h0':(((m+1:Nat):Int)==0)=false:=by simp;omega
   have h5:(2:Int)≤((b.toNat%4:Nat):Int):=by omega
   have hw:IntKind.i64.wrap (((m+1:Nat):Int)-1)=(m:Int):=by rw [am _ (by omega) (by omega)];omega
   have e1:=pK m (some p) fl (by omega) hp
   have e2:=pK m (mkId m (some p)).2 fl (by omega) (gr _ _ hp)
   have e3:=zH (mkId m (some p)).1 (mkId m (mkId m (some p)).2).1
   generalize mkId m (some p)=y at*
   generalize mkId m y.2=z at*
   generalize (m+1:Nat)=M at*
   generalize b.toNat%4=t at*
   rw [cf] at e1
   simp [ir21,ssB,ssU,ssP,appO,cf,cL,ah,bZ,hp1,hp2,r4,hw,h5,h0',e1,e2,e3]
end Go.Proofs.YtppeggedcaabkaaGreatDoor
end

section
namespace Go.Proofs.YtppeggedcaabkaaGreatDoor
open Go Go.Sx
mutual
def Ev.kl:Ev→PV
 | .leaf _=>.s (.pointer none)
 | .node _ l _=>l.rv
def Ev.kr:Ev→PV
 | .leaf _=>.s (.pointer none)
 | .node _ _ r=>r.rv
def Ev.rv:Ev→PV
 | .leaf n=>.imm [.s (.int .u64 n),.s (.pointer none),.s (.pointer none)] 0
 | .node n l r=>.imm [.s (.int .u64 n),l.rv,r.rv] 0
end
theorem Ev.rv_l (n:Nat):(Ev.leaf n).rv = .imm [.s (.int .u64 n),.s (.pointer none),.s (.pointer none)] 0:=by rw [Ev.rv]
theorem Ev.rv_n (n:Nat) (l r:Ev):(Ev.node n l r).rv = .imm [.s (.int .u64 n),l.rv,r.rv] 0:=by rw [Ev.rv]
theorem Ev.rv_imm (e:Ev) : ∃ cs,e.rv = .imm cs 0:=by
 cases e
 ·exact ⟨_,Ev.rv_l _⟩
 ·exact ⟨_,Ev.rv_n _ _ _⟩
theorem ko (n:Nat) (H:Heap) (nx:Nat):Ω 59 [.int .u64 n] H nx=some (.p (Ev.leaf n).rv,[],[]):=by
 refine af (ir:=ir59) (by kernel_rfl) 0 ?_
 simp [ir59,Ev.rv_l,ssB,ssU,ssP,appO]
def Ev.norm:Ev→Prop
 | .leaf _=>True
 | .node _ l r=>l.norm∧r.norm∧(l.n=0∨r.n=0)∧¬(l.isLeaf=true∧r.isLeaf=true∧l.n=r.n)
theorem Ev.norm_up (e:Ev) (k:Nat):(e.up k).norm↔e.norm:=by cases e<;>exact Iff.rfl
theorem Ev.norm_down (e:Ev) (k:Nat):(e.down k).norm↔e.norm:=by cases e<;>exact Iff.rfl
theorem Ev.leaf_down (e:Ev) (k:Nat):(e.down k).isLeaf=e.isLeaf:=by cases e<;>rfl
theorem Ev.down_0 (e:Ev):e.down 0=e:=by cases e<;>rfl
theorem Ev.down_depth (e:Ev) (k:Nat):(e.down k).depth=e.depth:=by cases e<;>rfl
theorem Ev.down_max (e:Ev) (k:Nat) (h:k≤e.n):(e.down k).max+k=e.max:=by
 cases e<;>simp [Ev.down,Ev.max,Ev.n] at h ⊢ <;> omega
theorem Ev.mk_norm {n:Nat} {l r:Ev} (hl:l.norm) (hr:r.norm):(Ev.mk n l r).norm:=by
 unfold Ev.mk
 split
 ·trivial
 ·rename_i hc
  refine ⟨(Ev.norm_down _ _).2 hl,(Ev.norm_down _ _).2 hr,?_,?_⟩
  ·rw [Ev.down_n,Ev.down_n]
   rcases Nat.le_total l.n r.n with h|h
   ·left;rw [Nat.min_eq_left h];omega
   ·right;rw [Nat.min_eq_right h];omega
  ·rw [Ev.leaf_down,Ev.leaf_down,Ev.down_n,Ev.down_n]
   rintro ⟨h1,h2,h3⟩
   exact hc ⟨h1,h2,by omega⟩
theorem Ev.mk_id {n:Nat} {l r:Ev} (h:(Ev.node n l r).norm):Ev.mk n l r = .node n l r:=by
 obtain ⟨_,_,h1,h2⟩:=h
 unfold Ev.mk
 rw [if_neg h2,show Min.min l.n r.n=0 by omega,Ev.down_0,Ev.down_0,Nat.add_zero]
theorem Ev.mk_depth (n:Nat) (l r:Ev):(Ev.mk n l r).depth≤1+Max.max l.depth r.depth:=by
 unfold Ev.mk
 split
 ·simp [Ev.depth]
 ·simp [Ev.depth,Ev.down_depth]
theorem Ev.mk_max (n:Nat) (l r:Ev):(Ev.mk n l r).max=n+Max.max l.max r.max:=by
 unfold Ev.mk
 split
 ·rename_i h
  obtain ⟨h1,h2,h3⟩:=h
  cases l with
  | node=>cases h1
  | leaf a=>
   cases r with
   | node=>cases h2
   | leaf b=>
    simp only [Ev.n] at h3
    subst h3
    simp [Ev.max,Ev.n]
 ·have h1:=Ev.down_max l (Min.min l.n r.n) (Nat.min_le_left _ _)
  have h2:=Ev.down_max r (Min.min l.n r.n) (Nat.min_le_right _ _)
  simp only [Ev.max]
  omega
theorem wz:IntKind.u64.wrap 0=0:=by decide
theorem rX : ∀ (e:Ev),e.norm→e.max<2^63→∀ (H:Heap) (nx:Nat),Ω 114 [.p e.rv] H nx=some (.int .u64 e.n,[],[])
 | .leaf n,_,_,H,nx=>by
  refine af (ir:=ir114) (by kernel_rfl) 0 ?_
  simp [ir114,Ev.rv_l,Ev.n_l,ssB,ssU,ssP,appO]
 | .node n l r,hn,hm,H,nx=>by
  refine af (ir:=ir114) (by kernel_rfl) 0 ?_
  have d1:=Ev.max_l n l r
  have d2:=Ev.max_r n l r
  have m1:=Ev.n_max l
  have m2:=Ev.n_max r
  have e1:=rX l hn.1 (by omega)
  have e2:=rX r hn.2.1 (by omega)
  obtain ⟨cl,hcl⟩:=Ev.rv_imm l
  have w1:IntKind.u64.wrap ((n:Int)+l.n)=(n:Int)+l.n:=aM _ (by omega) (by omega)
  have w2:IntKind.u64.wrap ((n:Int)+r.n)=(n:Int)+r.n:=aM _ (by omega) (by omega)
  have w0:IntKind.u64.wrap (n:Int)=n:=aM _ (by omega) (by omega)
  have h0:=hn.2.2.1
  rw [hcl] at e1
  generalize l.n=a at*
  generalize r.n=b at*
  rcases h0 with rfl|rfl
  ·by_cases hb:b=0
   ·subst hb
    simp [ir114,Ev.rv_n,Ev.n_n,hcl,e1,e2,w0,w1,w2,ssB,ssU,ssP,appO]
   ·have hb':(0:Int)<b:=by omega
    have hb2:0<b:=by omega
    simp [ir114,Ev.rv_n,Ev.n_n,hcl,e1,e2,w0,w1,w2,hb',hb2,hb,ssB,ssU,ssP,appO]
  ·have hb' : ¬(a:Int)<0:=by omega
   simp [ir114,Ev.rv_n,Ev.n_n,hcl,e1,e2,w0,w1,w2,hb',ssB,ssU,ssP,appO]
theorem vH (n a b:Nat) (l r:Ev) (hl:l = .leaf a) (hr:r = .leaf a) (h1:n+a<2^64) (H:Heap) (nx:Nat):Ω 61 [.int .u64 n,.p l.rv,.p r.rv] H nx=some (.p (Ev.leaf (n+a)).rv,[],[]):=by
 refine af (ir:=ir61) (by kernel_rfl) 0 ?_
 have hw:IntKind.u64.wrap ((n:Int)+a)=((n+a:Nat):Int):=by rw [aM _ (by omega) (by omega)];omega
 have e:=ko (n+a)
 subst hl hr
 generalize n+a=m at*
 simp [ir61,Ev.rv_l,ssB,ssU,ssP,appO,hw,e]
theorem vI (n:Nat) (l r:Ev) (hl:l.norm) (hr:r.norm) (hc : ¬(l.isLeaf=true∧r.isLeaf=true∧l.n=r.n)) (h1:n+l.max<2^63) (h2:r.max<2^63) (H:Heap) (nx:Nat):
  Ω 61 [.int .u64 n,.p l.rv,.p r.rv] H nx=some (.p (Ev.node (n+Min.min l.n r.n) (l.down (Min.min l.n r.n)) (r.down (Min.min l.n r.n))).rv,[],[]):=by
 refine af (ir:=ir61) (by kernel_rfl) 0 ?_
 have m1:=Ev.n_max l
 have m2:=Ev.n_max r
 have e1:=rX l hl (by omega)
 have e2:=rX r hr h2
 have hw1 : ∀ m:Nat,m≤l.n→IntKind.u64.wrap ((n:Int)+m)=((n+m:Nat):Int):=fun m hm=>by rw [aM _ (by omega) (by omega)];omega
 have hw2 : ∀ m:Nat,m≤l.n→IntKind.u64.wrap ((l.n:Int)-m)=((l.n-m:Nat):Int):=fun m hm=>by rw [aM _ (by omega) (by omega)];omega
 have hw3 : ∀ m:Nat,m≤r.n→IntKind.u64.wrap ((r.n:Int)-m)=((r.n-m:Nat):Int):=fun m hm=>by rw [aM _ (by omega) (by omega)];omega
 by_cases hlt:r.n<l.n
 ·rw [show Min.min l.n r.n=r.n by omega]
  have a1:=hw1 r.n (by omega)
  have a2:=hw2 r.n (by omega)
  have a3:=hw3 r.n (by omega)
  have hlt':(r.n:Int)<l.n:=by omega
  generalize n+r.n=t at*
  cases l with
  | leaf a=>
   cases r with
   | leaf b=>
    simp only [Ev.n_l] at*
    have hne:((a:Int)==b)=false:=by simp;omega
    have hne' : ¬a=b:=by omega
    rw [Ev.rv_l] at e1 e2
    simp [ir61,Ev.rv_l,Ev.rv_n,Ev.down,ssB,ssU,ssP,appO,e1,e2,wz,a1,a2,a3,hlt,hlt',hne,hne']
   | node b b1 b2=>
    simp only [Ev.n_l,Ev.n_n] at*
    obtain ⟨cb,hcb⟩:=Ev.rv_imm b1
    obtain ⟨cb2,hcb2⟩:=Ev.rv_imm b2
    rw [Ev.rv_l] at e1
    rw [Ev.rv_n,hcb,hcb2] at e2
    simp [ir61,Ev.rv_l,Ev.rv_n,Ev.down,ssB,ssU,ssP,appO,e1,e2,wz,a1,a2,a3,hlt,hlt',hcb,hcb2]
  | node a x y=>
   obtain ⟨ca,hca⟩:=Ev.rv_imm x
   obtain ⟨ca2,hca2⟩:=Ev.rv_imm y
   cases r with
   | leaf b=>
    simp only [Ev.n_l,Ev.n_n] at*
    rw [Ev.rv_l] at e2
    rw [Ev.rv_n,hca,hca2] at e1
    simp [ir61,Ev.rv_l,Ev.rv_n,Ev.down,ssB,ssU,ssP,appO,e1,e2,wz,a1,a2,a3,hlt,hlt',hca,hca2]
   | node b b1 b2=>
    obtain ⟨cb,hcb⟩:=Ev.rv_imm b1
    obtain ⟨cb2,hcb2⟩:=Ev.rv_imm b2
    simp only [Ev.n_n] at*
    rw [Ev.rv_n,hcb,hcb2] at e2
    rw [Ev.rv_n,hca,hca2] at e1
    simp [ir61,Ev.rv_l,Ev.rv_n,Ev.down,ssB,ssU,ssP,appO,e1,e2,wz,a1,a2,a3,hlt,hlt',hca,hca2,hcb,hcb2]
 ·rw [show Min.min l.n r.n=l.n by omega]
  have a1:=hw1 l.n (by omega)
  have a2:=hw2 l.n (by omega)
  have a3:=hw3 l.n (by omega)
  have hlt' : ¬(r.n:Int)<l.n:=by omega
  generalize n+l.n=t at*
  cases l with
  | leaf a=>
   cases r with
   | leaf b=>
    simp only [Ev.n_l] at*
    have hne' : ¬a=b:=fun h=>hc ⟨rfl,rfl,h⟩
    have hne:((a:Int)==b)=false:=by simp;omega
    rw [Ev.rv_l] at e1 e2
    simp [ir61,Ev.rv_l,Ev.rv_n,Ev.down,ssB,ssU,ssP,appO,e1,e2,wz,a1,a2,a3,hlt,hlt',hne,hne']
   | node b b1 b2=>
    simp only [Ev.n_l,Ev.n_n] at*
    obtain ⟨cb,hcb⟩:=Ev.rv_imm b1
    obtain ⟨cb2,hcb2⟩:=Ev.rv_imm b2
    rw [Ev.rv_l] at e1
    rw [Ev.rv_n,hcb,hcb2] at e2
    simp [ir61,Ev.rv_l,Ev.rv_n,Ev.down,ssB,ssU,ssP,appO,e1,e2,wz,a1,a2,a3,hlt,hlt',hcb,hcb2]
  | node a x y=>
   obtain ⟨ca,hca⟩:=Ev.rv_imm x
   obtain ⟨ca2,hca2⟩:=Ev.rv_imm y
   cases r with
   | leaf b=>
    simp only [Ev.n_l,Ev.n_n] at*
    rw [Ev.rv_l] at e2
    rw [Ev.rv_n,hca,hca2] at e1
    simp [ir61,Ev.rv_l,Ev.rv_n,Ev.down,ssB,ssU,ssP,appO,e1,e2,wz,a1,a2,a3,hlt,hlt',hca,hca2]
   | node b b1 b2=>
    obtain ⟨cb,hcb⟩:=Ev.rv_imm b1
    obtain ⟨cb2,hcb2⟩:=Ev.rv_imm b2
    simp only [Ev.n_n] at*
    rw [Ev.rv_n,hcb,hcb2] at e2
    rw [Ev.rv_n,hca,hca2] at e1
    simp [ir61,Ev.rv_l,Ev.rv_n,Ev.down,ssB,ssU,ssP,appO,e1,e2,wz,a1,a2,a3,hlt,hlt',hca,hca2,hcb,hcb2]
theorem zG (n:Nat) (l r:Ev) (hl:l.norm) (hr:r.norm) (h1:n+l.max<2^63) (h2:r.max<2^63) (H:Heap) (nx:Nat):
  Ω 61 [.int .u64 n,.p l.rv,.p r.rv] H nx=some (.p (Ev.mk n l r).rv,[],[]):=by
 unfold Ev.mk
 by_cases hc:l.isLeaf=true∧r.isLeaf=true∧l.n=r.n
 ·rw [if_pos hc]
  cases l with
  | leaf a=>
   cases r with
   | leaf b=>
    obtain rfl:a=b:=hc.2.2
    exact vH n a a _ _ rfl rfl (by simp [Ev.max] at h1;omega) H nx
   | node b b1 b2=>cases hc.2.1
  | node a a1 a2=>cases hc.1
 ·rw [if_neg hc]
  exact vI n l r hl hr hc h1 h2 H nx
end Go.Proofs.YtppeggedcaabkaaGreatDoor
end

section
namespace Go.Proofs.YtppeggedcaabkaaGreatDoor
open Go Go.Sx
theorem yI (e:Ev) (n:Nat) (h:e.n+n<2^64) (H:Heap) (nx:Nat):Ω 146 [.p e.rv,.int .u64 n] H nx=some (.p (e.up n).rv,[],[]):=by
 refine af (ir:=ir146) (by kernel_rfl) 0 ?_
 have hw:IntKind.u64.wrap ((e.n:Int)+n)=((e.n+n:Nat):Int):=by rw [aM _ (by omega) (by omega)];omega
 cases e with
 | leaf a=>
  simp only [Ev.n_l] at hw
  simp [ir146,Ev.rv_l,Ev.up,hw,ssB,ssU,ssP,appO]
 | node a l r=>
  simp only [Ev.n_n] at hw
  obtain ⟨cl,hcl⟩:=Ev.rv_imm l
  obtain ⟨cr,hcr⟩:=Ev.rv_imm r
  simp [ir146,Ev.rv_n,Ev.up,hw,hcl,hcr,ssB,ssU,ssP,appO]
def Ev.lf:Ev→Ev
 | .leaf n=>.leaf n
 | .node n l _=>l.up n
def Ev.rt:Ev→Ev
 | .leaf n=>.leaf n
 | .node n _ r=>r.up n
theorem Ev.lf_max (e:Ev):e.lf.max≤e.max:=by
 cases e with
 | leaf=>exact Nat.le_refl _
 | node n l r=>have:=Ev.max_l n l r;simp only [Ev.lf,Ev.up_max];omega
theorem Ev.rt_max (e:Ev):e.rt.max≤e.max:=by
 cases e with
 | leaf=>exact Nat.le_refl _
 | node n l r=>have:=Ev.max_r n l r;simp only [Ev.rt,Ev.up_max];omega
theorem Ev.lf_norm {e:Ev} (h:e.norm):e.lf.norm:=by
 cases e with
 | leaf=>trivial
 | node n l r=>exact (Ev.norm_up _ _).2 h.1
theorem Ev.rt_norm {e:Ev} (h:e.norm):e.rt.norm:=by
 cases e with
 | leaf=>trivial
 | node n l r=>exact (Ev.norm_up _ _).2 h.2.1
theorem Ev.lf_depth (e:Ev) (d:Nat) (h:e.depth≤d+1):e.lf.depth≤d:=by
 cases e with
 | leaf=>exact Nat.zero_le _
 | node n l r=>simp only [Ev.lf,Ev.up_depth];simp only [Ev.depth] at h;omega
theorem Ev.rt_depth (e:Ev) (d:Nat) (h:e.depth≤d+1):e.rt.depth≤d:=by
 cases e with
 | leaf=>exact Nat.zero_le _
 | node n l r=>simp only [Ev.rt,Ev.up_depth];simp only [Ev.depth] at h;omega
theorem vG (e:Ev) (h:e.max<2^64) (H:Heap) (nx:Nat):Ω 92 [.p e.rv] H nx=some (.p e.lf.rv,[],[]):=by
 refine af (ir:=ir92) (by kernel_rfl) 0 ?_
 cases e with
 | leaf a=>simp [ir92,Ev.rv_l,Ev.lf,ssB,ssU,ssP,appO]
 | node a l r=>
  have m1:=Ev.max_l a l r
  have m2:=l.n_max
  have e1:=yI l a (by omega)
  obtain ⟨cl,hcl⟩:=Ev.rv_imm l
  rw [hcl] at e1
  simp [ir92,Ev.rv_n,Ev.lf,ssB,ssU,ssP,appO,hcl,e1]
theorem rY (e:Ev) (h:e.max<2^64) (H:Heap) (nx:Nat):Ω 93 [.p e.rv] H nx=some (.p e.rt.rv,[],[]):=by
 refine af (ir:=ir93) (by kernel_rfl) 0 ?_
 cases e with
 | leaf a=>simp [ir93,Ev.rv_l,Ev.rt,ssB,ssU,ssP,appO]
 | node a l r=>
  have m1:=Ev.max_r a l r
  have m2:=r.n_max
  have e1:=yI r a (by omega)
  obtain ⟨cl,hcl⟩:=Ev.rv_imm l
  obtain ⟨cr,hcr⟩:=Ev.rv_imm r
  rw [hcr] at e1
  simp [ir93,Ev.rv_n,Ev.rt,ssB,ssU,ssP,appO,hcl,hcr,e1]
def Ev.rleq:Nat→Ev→Ev→Bool
 | 0,a,b=>decide (a.n≤b.n)
 | d+1,a,b=>if a.isLeaf&&b.isLeaf then decide (a.n≤b.n) else Ev.rleq d a.lf b.lf&&Ev.rleq d a.rt b.rt
theorem ls (n m:Nat) (H:Heap) (nx:Nat):Ω 44 [.p (Ev.leaf n).rv,.p (Ev.leaf m).rv] H nx=some (.bool (decide (n≤m)),[],[]):=by
 refine af (ir:=ir44) (by kernel_rfl) 0 ?_
 simp [ir44,Ev.rv_l,ssB,ssU,ssP,appO]
 try exact decide_eq_decide.2 Iff.rfl
theorem AF : ∀ (d:Nat) (a b:Ev),a.depth≤d→b.depth≤d→a.max<2^63→b.max<2^63→∀ (H:Heap) (nx:Nat),Ω 44 [.p a.rv,.p b.rv] H nx=some (.bool (Ev.rleq d a b),[],[]):=by
 intro d
 induction d with
 | zero=>
  intro a b ha hb _ _ H nx
  cases a with
  | node n l r=>simp [Ev.depth] at ha
  | leaf n=>
   cases b with
   | node n l r=>simp [Ev.depth] at hb
   | leaf m=>exact ls n m H nx
 | succ d ih=>
  intro a b ha hb hma hmb H nx
  have e1:=ih a.lf b.lf (a.lf_depth d ha) (b.lf_depth d hb) (Nat.lt_of_le_of_lt a.lf_max hma) (Nat.lt_of_le_of_lt b.lf_max hmb)
  have e2:=ih a.rt b.rt (a.rt_depth d ha) (b.rt_depth d hb) (Nat.lt_of_le_of_lt a.rt_max hma) (Nat.lt_of_le_of_lt b.rt_max hmb)
  have l1:=vG a (by omega)
  have l2:=vG b (by omega)
  have r1:=rY a (by omega)
  have r2:=rY b (by omega)
  have hu:Ev.rleq (d+1) a b=if a.isLeaf&&b.isLeaf then decide (a.n≤b.n) else Ev.rleq d a.lf b.lf&&Ev.rleq d a.rt b.rt:=rfl
  generalize Ev.rleq d a.lf b.lf=x at*
  generalize Ev.rleq d a.rt b.rt=y at*
  generalize a.lf=al at*
  generalize a.rt=ar at*
  generalize b.lf=bl at*
  generalize b.rt=br at*
  cases a with
  | leaf n=>
   cases b with
   | leaf m=>rw [hu];exact ls n m H nx
   | node m u v=>
    rw [hu]
    refine af (ir:=ir44) (by kernel_rfl) 0 ?_
    obtain ⟨cu,hcu⟩:=Ev.rv_imm u
    rw [Ev.rv_l] at l1 r1
    rw [Ev.rv_n,hcu] at l2 r2
    cases x<;>simp [ir44,Ev.rv_l,Ev.rv_n,hcu,Ev.isLeaf,ssB,ssU,ssP,appO,e1,e2,l1,l2,r1,r2]
  | node n s t=>
   rw [hu]
   refine af (ir:=ir44) (by kernel_rfl) 0 ?_
   obtain ⟨cs,hcs⟩:=Ev.rv_imm s
   rw [Ev.rv_n,hcs] at l1 r1
   obtain ⟨cb,hcb⟩:=Ev.rv_imm b
   rw [hcb] at l2 r2
   cases x<;>simp [ir44,Ev.rv_n,hcs,hcb,Ev.isLeaf,ssB,ssU,ssP,appO,e1,e2,l1,l2,r1,r2]
theorem oA : ∀ (d:Nat) (a:Ev) (m:Nat),Ev.rleq d a (.leaf m)=true→a.n≤m
 | 0,a,m,h=>of_decide_eq_true h
 | d+1,a,m,h=>by
  cases a with
  | leaf n=>exact of_decide_eq_true h
  | node n l r=>
   simp only [Ev.rleq,Ev.isLeaf,Bool.false_and,Bool.false_eq_true,if_false,Bool.and_eq_true] at h
   have:=oA d _ m h.1
   simp only [Ev.lf,Ev.up_n] at this
   simp only [Ev.n]
   omega
theorem iR : ∀ (d n:Nat) (b:Ev),b.norm→b.depth≤d→Ev.rleq d (.leaf n) b=decide (n≤b.n)
 | 0,n,b,_,_=>rfl
 | d+1,n,b,hb,hd=>by
  cases b with
  | leaf m=>rfl
  | node m l r=>
   have e1:=iR d n _ (Ev.lf_norm hb) (Ev.lf_depth _ d hd)
   have e2:=iR d n _ (Ev.rt_norm hb) (Ev.rt_depth _ d hd)
   have h0:=hb.2.2.1
   have hu:Ev.rleq (d+1) (.leaf n) (.node m l r)=(Ev.rleq d (.leaf n) (Ev.node m l r).lf&&Ev.rleq d (.leaf n) (Ev.node m l r).rt):=rfl
   rw [hu,e1,e2]
   have q1:(Ev.node m l r).lf.n=l.n+m:=Ev.up_n _ _
   have q2:(Ev.node m l r).rt.n=r.n+m:=Ev.up_n _ _
   have q3:(Ev.node m l r).n=m:=rfl
   generalize (Ev.node m l r).lf.n=x at*
   generalize (Ev.node m l r).rt.n=y at*
   generalize (Ev.node m l r).n=z at*
   rw [←Bool.decide_and]
   exact decide_eq_decide.2 (by omega)
theorem ky : ∀ (d:Nat) (a b:Ev),a.depth≤d→b.depth≤d→b.norm→Ev.rleq d a b=Ev.leq d a b
 | 0,a,b,_,_,_=>rfl
 | d+1,a,b,ha,hb,hn=>by
  cases a with
  | leaf n=>rw [iR _ _ _ hn hb];rfl
  | node n l r=>
   have e1:=ky d _ _ (Ev.lf_depth _ d ha) (Ev.lf_depth _ d hb) (Ev.lf_norm hn)
   have e2:=ky d _ _ (Ev.rt_depth _ d ha) (Ev.rt_depth _ d hb) (Ev.rt_norm hn)
   have hl:b.left.up b.n=b.lf:=by cases b<;>simp [Ev.left,Ev.up,Ev.lf,Ev.n]
   have hr:b.right.up b.n=b.rt:=by cases b<;>simp [Ev.right,Ev.up,Ev.rt,Ev.n]
   have hlq:Ev.leq (d+1) (.node n l r) b=if b.n<n∧b.isLeaf then false else Ev.leq d (l.up n) (b.left.up b.n)&&Ev.leq d (r.up n) (b.right.up b.n):=rfl
   have hrq:Ev.rleq (d+1) (.node n l r) b=(Ev.rleq d (Ev.node n l r).lf b.lf&&Ev.rleq d (Ev.node n l r).rt b.rt):=by simp [Ev.rleq,Ev.isLeaf]
   rw [hlq,hrq,hl,hr,←show Ev.lf (.node n l r)=l.up n from rfl,←show Ev.rt (.node n l r)=r.up n from rfl,←e1,←e2]
   split
   ·rename_i hc
    obtain ⟨h1,h2⟩:=hc
    cases b with
    | node=>cases h2
    | leaf m=>
     cases hq:Ev.rleq d (Ev.node n l r).lf (Ev.leaf m).lf with
     | false=>rfl
     | true=>
      have:=oA d _ m hq
      simp only [Ev.lf,Ev.up_n] at this
      simp only [Ev.n] at h1
      omega
   ·rfl
theorem j5 : ∀ (d d':Nat) (a b:Ev),a.depth≤d→a.depth≤d'→Ev.leq d a b=Ev.leq d' a b
 | d,d',.leaf n,b,_,_=>by cases d<;>cases d'<;>rfl
 | 0,_,.node n l r,b,h,_=>by simp [Ev.depth] at h
 | _,0,.node n l r,b,_,h=>by simp [Ev.depth] at h
 | d+1,d'+1,.node n l r,b,h,h'=>by
  have q:=Nat.le_max_left l.depth r.depth
  have q':=Nat.le_max_right l.depth r.depth
  simp only [Ev.depth] at h h'
  simp only [Ev.leq]
  rw [j5 d d' (l.up n) _ (by rw [Ev.up_depth];omega) (by rw [Ev.up_depth];omega),j5 d d' (r.up n) _ (by rw [Ev.up_depth];omega) (by rw [Ev.up_depth];omega)]
theorem AE (a b:Ev) (hb:b.norm) (ha':a.max<2^63) (hb':b.max<2^63) (H:Heap) (nx:Nat):Ω 44 [.p a.rv,.p b.rv] H nx=some (.bool (Ev.leqb a b),[],[]):=by
 rw [AF (Max.max a.depth b.depth) a b (Nat.le_max_left _ _) (Nat.le_max_right _ _) ha' hb' H nx,ky _ a b (Nat.le_max_left _ _) (Nat.le_max_right _ _) hb,j5 _ a.depth a b (Nat.le_max_left _ _) (Nat.le_refl _)]
 rfl
def mkEv:Nat→Option (List UInt8)→Ev × Option (List UInt8)
 | _,none=>(.leaf 0,none)
 | _,some []=>(.leaf 0,none)
 | 0,some (b::p)=>(.leaf (b.toNat/4%8),some p)
 | m+1,some (b::p)=>
  if b.toNat%4<2 then (.leaf (b.toNat/4%8),some p)
  else (Ev.mk (b.toNat/4%4) (mkEv m (some p)).1 (mkEv m (mkEv m (some p)).2).1,(mkEv m (mkEv m (some p)).2).2)
theorem gq : ∀ (m:Nat) (x:Option (List UInt8)),short x→short (mkEv m x).2
 | _,none,h=>by unfold mkEv;exact h
 | _,some [],h=>by unfold mkEv;intro l hl;cases hl
 | 0,some (b::p),h=>by
  unfold mkEv
  intro l hl
  obtain rfl:=Option.some.inj hl
  have:=h _ rfl
  simp at this;omega
 | m+1,some (b::p),h=>by
  have hp:short (some p):=fun l hl=>by
   obtain rfl:=Option.some.inj hl
   have:=h _ rfl
   simp at this;omega
  unfold mkEv
  split
  ·exact hp
  ·exact gq m _ (gq m _ hp)
theorem bP : ∀ (m:Nat) (x:Option (List UInt8)),(mkEv m x).1.norm∧(mkEv m x).1.depth≤m∧(mkEv m x).1.max≤7+3*m
 | _,none=>by unfold mkEv;exact ⟨trivial,Nat.zero_le _,Nat.zero_le _⟩
 | _,some []=>by unfold mkEv;exact ⟨trivial,Nat.zero_le _,Nat.zero_le _⟩
 | 0,some (b::p)=>by unfold mkEv;exact ⟨trivial,Nat.zero_le _,by simp only [Ev.max];omega⟩
 | m+1,some (b::p)=>by
  unfold mkEv
  split
  ·exact ⟨trivial,Nat.zero_le _,by simp only [Ev.max];omega⟩
  ·obtain ⟨a1,a2,a3⟩:=bP m (some p)
   obtain ⟨b1,b2,b3⟩:=bP m (mkEv m (some p)).2
   refine ⟨Ev.mk_norm a1 b1,Nat.le_trans (Ev.mk_depth _ _ _) (by omega),?_⟩
   rw [Ev.mk_max]
   omega
theorem rV (b:UInt8):binI .quo .u8 b.toNat 4=some (.int .u8 (b.toNat/4:Nat)):=by
 have hb:=b.toNat_lt
 have:binI .quo .u8 (b.toNat:Int) 4=some (.int .u8 (IntKind.u8.wrap ((b.toNat:Int).tdiv 4))):=by simp [binI]
 rw [this,Int.tdiv_eq_ediv_of_nonneg (by omega)]
 have:IntKind.u8.wrap ((b.toNat:Int)/4)=((b.toNat/4:Nat):Int):=by
  simp [IntKind.wrap,IntKind.signed,IntKind.bits]
  omega
 rw [this]
theorem xN (n:Nat):binI .rem .u8 (n:Int) 8=some (.int .u8 (n%8:Nat)):=by
 have:binI .rem .u8 (n:Int) 8=some (.int .u8 ((n:Int).tmod 8)):=by simp [binI]
 rw [this,Int.tmod_eq_emod_of_nonneg (by omega)]
 norm_cast
theorem vR (n:Nat):binI .rem .u8 (n:Int) 4=some (.int .u8 (n%4:Nat)):=by
 have:binI .rem .u8 (n:Int) 4=some (.int .u8 ((n:Int).tmod 4)):=by simp [binI]
 rw [this,Int.tmod_eq_emod_of_nonneg (by omega)]
 norm_cast
theorem ot (m:Nat) (H:Heap) (nx:Nat):Ω 19 [.p (.s (.slice none 0 0)),.int .i64 m] H nx=some (.tuple [.p (Ev.leaf 0).rv,.p (.s (.slice none 0 0))],[],[]):=by
 refine af (ir:=ir19) (by kernel_rfl) 0 ?_
 have e:=ko 0
 simp only [Int.natCast_zero,Int.ofNat_zero] at e
 simp [ir19,ssB,ssU,ssP,appO,e,Ev.rv_l]
theorem pO (m:Nat) (fl:Bool) (H:Heap) (nx:Nat):Ω 19 [.p (.sl [] 0 1 fl),.int .i64 m] H nx=some (.tuple [.p (Ev.leaf 0).rv,.p (.s (.slice none 0 0))],[],[]):=by
 refine af (ir:=ir19) (by kernel_rfl) 0 ?_
 have e:=ko 0
 simp only [Int.natCast_zero,Int.ofNat_zero] at e
 simp [ir19,ssB,ssU,ssP,appO,e,Ev.rv_l]
theorem jh (m:Nat) (b:UInt8) (p:List UInt8) (fl:Bool) (h30:p.length<2^31) (hm:m=0∨b.toNat%4<2) (H:Heap) (nx:Nat):
  Ω 19 [.p (obP fl (some (b::p))),.int .i64 m] H nx=some (.tuple [.p (Ev.leaf (b.toNat/4%8)).rv,.p (obP fl (some p))],[],[]):=by
 refine af (ir:=ir19) (by kernel_rfl) 0 ?_
 have r4:=jq b
 have hp1 : ¬((p.length:Int)+1=0):=by omega
 have hp2:bytP []=[]:=rfl
 have q4:=rV b
 have r8:=xN (b.toNat/4)
 have hw:IntKind.u64.wrap ((b.toNat/4%8:Nat):Int)=((b.toNat/4%8:Nat):Int):=aM _ (by omega) (by omega)
 have e:=ko (b.toNat/4%8)
 generalize b.toNat/4%8=x at*
 generalize b.toNat/4=x4 at*
 by_cases h0:m=0
 ·subst h0
  simp [ir19,ssB,ssU,ssP,appO,cf,cL,ah,bZ,hp1,hp2,r4,q4,r8,hw,e]
 ·have h4:=hm.resolve_left h0
  have h4':((b.toNat%4:Nat):Int)<2:=by omega
  have h0':((m:Int)==0)=false:=by simp;omega
  have h5 : ¬(2:Int)≤((b.toNat%4:Nat):Int):=by omega
  generalize b.toNat%4=y at*
  simp [ir19,ssB,ssU,ssP,appO,cf,cL,ah,bZ,hp1,hp2,r4,q4,r8,hw,h5,h0',e]
theorem jp : ∀ (m:Nat) (x:Option (List UInt8)) (fl:Bool),m<100→short x→∀ (H:Heap) (nx:Nat),
  Ω 19 [.p (obP fl x),.int .i64 m] H nx=some (.tuple [.p (mkEv m x).1.rv,.p (obP fl (mkEv m x).2)],[],[])
 | m,none,fl,hm,hx,H,nx=>by
  unfold mkEv;exact ot m H nx
 | m,some [],fl,hm,hx,H,nx=>by
  unfold mkEv;exact pO m fl H nx
 | 0,some (b::p),fl,hm,hx,H,nx=>by
  have:=hx _ rfl
  unfold mkEv;exact jh 0 b p fl (by simp at this;omega) (.inl rfl) H nx
 | m+1,some (b::p),fl,hm,hx,H,nx=>by
  have hl:=hx _ rfl
  have hp:short (some p):=fun l hl'=>by
   obtain rfl:=Option.some.inj hl'
   simp at hl;omega
  unfold mkEv
  split
  ·rename_i h4
   exact jh (m+1) b p fl (by simp at hl;omega) (.inr h4) H nx
  ·rename_i h4
   refine af (ir:=ir19) (by kernel_rfl) 0 ?_
   have r4:=jq b
   have hp1 : ¬((p.length:Int)+1=0):=by omega
   have hp2:bytP []=[]:=rfl
   have q4:=rV b
   have r4':=vR (b.toNat/4)
   have h4' : ¬((b.toNat%4:Nat):Int)<2:=by omega
   have h0':(((m+1:Nat):Int)==0)=false:=by simp;omega
   have h5:(2:Int)≤((b.toNat%4:Nat):Int):=by omega
   have hw:IntKind.i64.wrap (((m+1:Nat):Int)-1)=(m:Int):=by rw [am _ (by omega) (by omega)];omega
   have hw2:IntKind.u64.wrap ((b.toNat/4%4:Nat):Int)=((b.toNat/4%4:Nat):Int):=aM _ (by omega) (by omega)
   obtain ⟨a1,a2,a3⟩:=bP m (some p)
   obtain ⟨b1,b2,b3⟩:=bP m (mkEv m (some p)).2
   have e1:=jp m (some p) fl (by omega) hp
   have e2:=jp m (mkEv m (some p)).2 fl (by omega) (gq _ _ hp)
   have e3:=zG (b.toNat/4%4) (mkEv m (some p)).1 (mkEv m (mkEv m (some p)).2).1 a1 b1 (by omega) (by omega)
   generalize mkEv m (some p)=y at*
   generalize mkEv m y.2=z at*
   generalize (m+1:Nat)=M at*
   generalize b.toNat%4=t at*
   generalize b.toNat/4%4=u at*
   generalize b.toNat/4=u4 at*
   rw [cf] at e1
   simp [ir19,ssB,ssU,ssP,appO,cf,cL,ah,bZ,hp1,hp2,r4,q4,r4',hw,hw2,h5,h0',e1,e2,e3]
end Go.Proofs.YtppeggedcaabkaaGreatDoor
end

section
namespace Go.Proofs.YtppeggedcaabkaaGreatDoor
open Go Go.Sx
def Id.kind:Id→Nat
 | .zero=>0
 | .one=>1
 | .node _ _=>2
theorem Id.rv_imm (i:Id) : ∃ a b,i.rv = .imm [.s (.int .i64 i.kind),a,b] 0:=by
 cases i
 ·exact ⟨_,_,Id.rv_z⟩
 ·exact ⟨_,_,Id.rv_o⟩
 ·exact ⟨_,_,Id.rv_n _ _⟩
theorem Id.kind_z (i:Id):((i.kind:Int)==0)=decide (i = .zero):=by cases i<;>simp [Id.kind]
theorem Bl.ids {x:LV} {l:List Bool} (g:Bl x l):Go.Sx.ids x=[]:=by cases g<;>rfl
theorem vF : ∀ (i:Id) (x:LV) (l:List Bool),Bl x l→l.length+(idBits i).length<2^31→∀ (H:Heap) (nx:Nat),Ω 83 [x,.p i.rv] H nx=some (blV (l++idBits i),[],[])
 | .zero,x,l,g,hl,H,nx=>by
  have hB:idBits .zero=bitsOf 0 2++bitsOf 0 1:=rfl
  rw [hB] at hl ⊢
  rw [List.length_append,ae,ae] at hl
  have q1:=ck g 0 2 (by decide) (by decide) (by decide) (by omega)
  have q2:=ck (.sl (l++bitsOf 0 2) false) 0 1 (by decide) (by decide) (by decide) (by rw [List.length_append,ae];omega)
  have c0:((0:Nat):Int)=0:=rfl
  have c1:((1:Nat):Int)=1:=rfl
  have c2:((2:Nat):Int)=2:=rfl
  rw [c0,c2] at q1
  rw [c0,c1,List.append_assoc] at q2
  have gi:=g.ids
  refine af (ir:=ir83) (by kernel_rfl) 0 ?_
  have w0:IntKind.u64.wrap 0=0:=by decide
  generalize l++bitsOf 0 2=L1 at*
  generalize l++(bitsOf 0 2++bitsOf 0 1)=L2 at*
  have f:=fun h hu=>cJ H nx (.sl (bolP L2) L2.length 1 false) h hu
  simp [ir83,ssB,ssU,ak,aj,aa,Go.Sx.splice,Go.Sx.leI_eq,ltF,Id.rv_z,q1,q2,w0,gi,f]
 | .one,x,l,g,hl,H,nx=>by
  have hB:idBits .one=bitsOf 0 2++bitsOf 1 1:=rfl
  rw [hB] at hl ⊢
  rw [List.length_append,ae,ae] at hl
  have q1:=ck g 0 2 (by decide) (by decide) (by decide) (by omega)
  have q2:=ck (.sl (l++bitsOf 0 2) false) 1 1 (by decide) (by decide) (by decide) (by rw [List.length_append,ae];omega)
  have c0:((0:Nat):Int)=0:=rfl
  have c1:((1:Nat):Int)=1:=rfl
  have c2:((2:Nat):Int)=2:=rfl
  rw [c0,c2] at q1
  rw [c1,List.append_assoc] at q2
  have gi:=g.ids
  refine af (ir:=ir83) (by kernel_rfl) 0 ?_
  have w0:IntKind.u64.wrap 1=1:=by decide
  generalize l++bitsOf 0 2=L1 at*
  generalize l++(bitsOf 0 2++bitsOf 1 1)=L2 at*
  have f:=fun h hu=>cJ H nx (.sl (bolP L2) L2.length 1 false) h hu
  simp [ir83,ssB,ssU,ak,aj,aa,Go.Sx.splice,Go.Sx.leI_eq,ltF,Id.rv_o,q1,q2,w0,gi,f]
 | .node s t,x,l,g,hl,H,nx=>by
  obtain ⟨a1,b1,hs⟩:=Id.rv_imm s
  obtain ⟨a2,b2,ht⟩:=Id.rv_imm t
  have ks:=Id.kind_z s
  have kt:=Id.kind_z t
  have c1:((1:Nat):Int)=1:=rfl
  have c2:((2:Nat):Int)=2:=rfl
  have c3:((3:Nat):Int)=3:=rfl
  have gi:=g.ids
  refine af (ir:=ir83) (by kernel_rfl) 0 ?_
  by_cases h1:s = .zero
  ·have hB:idBits (.node s t)=bitsOf 1 2++idBits t:=by simp [idBits,h1]
   rw [hB] at hl ⊢
   rw [List.length_append,ae] at hl
   have q1:=ck g 1 2 (by decide) (by decide) (by decide) (by omega)
   have q2:=vF t _ _ (.sl (l++bitsOf 1 2) false) (by rw [List.length_append,ae];omega)
   rw [c1,c2] at q1
   rw [List.append_assoc,ht] at q2
   generalize l++bitsOf 1 2=L1 at*
   generalize l++(bitsOf 1 2++idBits t)=L2 at*
   have f:=fun h hu=>cJ H nx (.sl (bolP L2) L2.length 1 false) h hu
   have ks':((s.kind:Int)==0)=true:=by rw [ks];simp [h1]
   generalize (s.kind:Int)=k1 at*
   generalize (t.kind:Int)=k2 at*
   simp [ir83,ssB,ssU,ak,aj,aa,Go.Sx.splice,Go.Sx.leI_eq,ltF,Id.rv_n,hs,ht,ks',q1,q2,gi,f]
  ·have ks':((s.kind:Int)==0)=false:=by rw [ks];simp [h1]
   by_cases h2:t = .zero
   ·have hB:idBits (.node s t)=bitsOf 2 2++idBits s:=by simp [idBits,h1,h2]
    rw [hB] at hl ⊢
    rw [List.length_append,ae] at hl
    have q1:=ck g 2 2 (by decide) (by decide) (by decide) (by omega)
    have q2:=vF s _ _ (.sl (l++bitsOf 2 2) false) (by rw [List.length_append,ae];omega)
    rw [c2] at q1
    rw [List.append_assoc,hs] at q2
    generalize l++bitsOf 2 2=L1 at*
    generalize l++(bitsOf 2 2++idBits s)=L2 at*
    have f:=fun h hu=>cJ H nx (.sl (bolP L2) L2.length 1 false) h hu
    have kt':((t.kind:Int)==0)=true:=by rw [kt];simp [h2]
    generalize (s.kind:Int)=k1 at*
    generalize (t.kind:Int)=k2 at*
    simp [ir83,ssB,ssU,ak,aj,aa,Go.Sx.splice,Go.Sx.leI_eq,ltF,Id.rv_n,hs,ht,ks',kt',q1,q2,gi,f]
   ·have kt':((t.kind:Int)==0)=false:=by rw [kt];simp [h2]
    have hB:idBits (.node s t)=bitsOf 3 2++idBits s++idBits t:=by simp [idBits,h1,h2]
    rw [hB] at hl ⊢
    rw [List.length_append,List.length_append,ae] at hl
    have q1:=ck g 3 2 (by decide) (by decide) (by decide) (by omega)
    have q2:=vF s _ _ (.sl (l++bitsOf 3 2) false) (by rw [List.length_append,ae];omega)
    have q3:=vF t _ _ (.sl (l++bitsOf 3 2++idBits s) false) (by rw [List.length_append,List.length_append,ae];omega)
    rw [c3,c2] at q1
    rw [hs] at q2
    rw [ht] at q3
    rw [←List.append_assoc,←List.append_assoc]
    generalize l++bitsOf 3 2=L1 at*
    generalize L1++idBits s=L2 at*
    generalize L2++idBits t=L3 at*
    have f:=fun h hu=>cJ H nx (.sl (bolP L3) L3.length 1 false) h hu
    generalize (s.kind:Int)=k1 at*
    generalize (t.kind:Int)=k2 at*
    simp [ir83,ssB,ssU,ak,aj,aa,Go.Sx.splice,Go.Sx.leI_eq,ltF,Id.rv_n,hs,ht,ks',kt',q1,q2,q3,gi,f]
end Go.Proofs.YtppeggedcaabkaaGreatDoor
end

section
namespace Go.Proofs.YtppeggedcaabkaaGreatDoor
open Go Go.Sx
theorem vY (e:Ev) (H:Heap) (nx:Nat):Ω 81 [.p e.rv] H nx=some (.bool (decide (e = .leaf 0)),[],[]):=by
 refine af (ir:=ir81) (by kernel_rfl) 0 ?_
 cases e with
 | leaf n=>
  by_cases h0:n=0
  ·subst h0
   simp [ir81,Ev.rv_l,ssB,ssU,ssP,appO]
  ·have:((n:Int)==0)=false:=by simp;omega
   simp [ir81,Ev.rv_l,this,h0,ssB,ssU,ssP,appO]
 | node n l r=>
  obtain ⟨cl,hcl⟩:=Ev.rv_imm l
  simp [ir81,Ev.rv_n,hcl,ssB,ssU,ssP,appO]
theorem oi (v:Nat) (hv:v<2^64) {x:LV} {l:List Bool} (g:Bl x l) (hl:l.length+201<2^31) (H:Heap) (nx:Nat):Ω 35 [x,.p (Ev.leaf v).rv] H nx=some (blV (l++evBits (.leaf v)),[],[]):=by
 have hB:evBits (.leaf v)=bitsOf 1 1++numBits v 2 62:=rfl
 rw [hB]
 have q1:=ck g 1 1 (by decide) (by decide) (by decide) (by omega)
 have q2:=mD (.sl (l++bitsOf 1 1) false) v hv (by rw [List.length_append,ae];omega)
 have c1:((1:Nat):Int)=1:=rfl
 rw [c1] at q1
 rw [List.append_assoc] at q2
 have gi:=g.ids
 refine af (ir:=ir35) (by kernel_rfl) 0 ?_
 generalize l++bitsOf 1 1=L1 at*
 generalize l++(bitsOf 1 1++numBits v 2 62)=L2 at*
 have f:=fun h hu=>cJ H nx (.sl (bolP L2) L2.length 1 false) h hu
 simp [ir35,ssB,ssU,ak,aj,aa,Go.Sx.splice,Go.Sx.leI_eq,ltF,Ev.rv_l,q1,q2,gi,f]
theorem cV : ∀ (e:Ev),e.norm→e.max<2^64→∀ (x:LV) (l:List Bool),Bl x l→l.length+(evBits e).length+201<2^31→∀ (H:Heap) (nx:Nat),Ω 35 [x,.p e.rv] H nx=some (blV (l++evBits e),[],[])
 | .leaf v,_,hm,x,l,g,hl,H,nx=>oi v hm g (by omega) H nx
 | .node v s t,hn,hm,x,l,g,hl,H,nx=>by
  have d1:=Ev.max_l v s t
  have d2:=Ev.max_r v s t
  obtain ⟨a1,hs⟩:=Ev.rv_imm s
  obtain ⟨a2,ht⟩:=Ev.rv_imm t
  have ks:=vY s
  have kt:=vY t
  have hnz : ¬(s = .leaf 0∧t = .leaf 0):=by
   rintro ⟨rfl,rfl⟩
   exact hn.2.2.2 ⟨rfl,rfl,rfl⟩
  have c0:((0:Nat):Int)=0:=rfl
  have c1:((1:Nat):Int)=1:=rfl
  have c2:((2:Nat):Int)=2:=rfl
  have c3:((3:Nat):Int)=3:=rfl
  have gi:=g.ids
  have hB:evBits (.node v s t)=bitsOf 0 1++evKind v (decide (s = .leaf 0)) (decide (t = .leaf 0))++(if v=0 then [] else numBits v 2 62)++(if s = .leaf 0 then [] else evBits s)++(if t = .leaf 0 then [] else evBits t):=by rw [evBits]
  rw [hB] at hl ⊢
  have q0:=ck g 0 1 (by decide) (by decide) (by decide) (by omega)
  rw [c0,c1] at q0
  have L0:(l++bitsOf 0 1).length=l.length+1:=by rw [List.length_append,ae]
  refine af (ir:=ir35) (by kernel_rfl) 0 ?_
  simp only [List.length_append,ae] at hl
  have g0:Bl (blV (l++bitsOf 0 1)) (l++bitsOf 0 1):=.sl _ false
  simp only [←List.append_assoc]
  generalize l++bitsOf 0 1=M at*
  by_cases hv0:v=0
  ·have hb:((v:Int)==0)=true:=by simp [hv0]
   have hvT:(v=0)=True:=by simp [hv0]
   by_cases hs0:s = .leaf 0
   ·have ht0 : ¬t = .leaf 0:=fun h=>hnz ⟨hs0,h⟩
    have hsT:(s = .leaf 0)=True:=by simp [hs0]
    have hk:evKind v true false=bitsOf 0 2:=by simp [evKind,hv0]
    simp only [hsT,ht0,decide_true,decide_false,hk,if_true,if_false,hvT] at hl ks kt ⊢
    simp only [List.length_append,List.length_nil,ae] at hl
    simp only [←List.append_assoc,List.append_nil]
    have q1:=ck (.sl M false) 0 2 (by decide) (by decide) (by decide) (by omega)
    rw [c0,c2] at q1
    have L1:(M++bitsOf 0 2).length=M.length+2:=by rw [List.length_append,ae]
    generalize M++bitsOf 0 2=M1 at*
    have q2:=cV t hn.2.1 (by omega) _ _ (.sl M1 false) (by omega)
    rw [ht] at q2
    have L2:(M1++evBits t).length=M1.length+(evBits t).length:=List.length_append
    generalize M1++evBits t=M2 at*
    have f:=fun h hu=>cJ H nx (.sl (bolP M2) M2.length 1 false) h hu
    rw [hs] at ks
    rw [ht] at kt
    simp [ir35,ssB,ssU,ak,aj,aa,Go.Sx.splice,Go.Sx.leI_eq,ltF,Ev.rv_n,hs,ht,ks,kt,hb,q0,q1,q2,gi,f]
   ·by_cases ht0:t = .leaf 0
    ·have htT:(t = .leaf 0)=True:=by simp [ht0]
     have hk:evKind v false true=bitsOf 1 2:=by simp [evKind,hv0]
     simp only [hs0,htT,decide_true,decide_false,hk,if_true,if_false,hvT] at hl ks kt ⊢
     simp only [List.length_append,List.length_nil,ae] at hl
     simp only [←List.append_assoc,List.append_nil]
     have q1:=ck (.sl M false) 1 2 (by decide) (by decide) (by decide) (by omega)
     rw [c1,c2] at q1
     have L1:(M++bitsOf 1 2).length=M.length+2:=by rw [List.length_append,ae]
     generalize M++bitsOf 1 2=M1 at*
     have q2:=cV s hn.1 (by omega) _ _ (.sl M1 false) (by omega)
     rw [hs] at q2
     have L2:(M1++evBits s).length=M1.length+(evBits s).length:=List.length_append
     generalize M1++evBits s=M2 at*
     have f:=fun h hu=>cJ H nx (.sl (bolP M2) M2.length 1 false) h hu
     rw [hs] at ks
     rw [ht] at kt
     simp [ir35,ssB,ssU,ak,aj,aa,Go.Sx.splice,Go.Sx.leI_eq,ltF,Ev.rv_n,hs,ht,ks,kt,hb,q0,q1,q2,gi,f]
    ·skip
     have hk:evKind v false false=bitsOf 2 2:=by simp [evKind,hv0]
     simp only [hs0,ht0,decide_true,decide_false,hk,if_true,if_false,hvT] at hl ks kt ⊢
     simp only [List.length_append,List.length_nil,ae] at hl
     simp only [←List.append_assoc,List.append_nil]
     have q1:=ck (.sl M false) 2 2 (by decide) (by decide) (by decide) (by omega)
     rw [c2] at q1
     have L1:(M++bitsOf 2 2).length=M.length+2:=by rw [List.length_append,ae]
     generalize M++bitsOf 2 2=M1 at*
     have q2:=cV s hn.1 (by omega) _ _ (.sl M1 false) (by omega)
     rw [hs] at q2
     have L2:(M1++evBits s).length=M1.length+(evBits s).length:=List.length_append
     generalize M1++evBits s=M2 at*
     have q3:=cV t hn.2.1 (by omega) _ _ (.sl M2 false) (by omega)
     rw [ht] at q3
     have L3:(M2++evBits t).length=M2.length+(evBits t).length:=List.length_append
     generalize M2++evBits t=M3 at*
     have f:=fun h hu=>cJ H nx (.sl (bolP M3) M3.length 1 false) h hu
     rw [hs] at ks
     rw [ht] at kt
     simp [ir35,ssB,ssU,ak,aj,aa,Go.Sx.splice,Go.Sx.leI_eq,ltF,Ev.rv_n,hs,ht,ks,kt,hb,q0,q1,q2,q3,gi,f]
  ·have hb:((v:Int)==0)=false:=by simp;omega
   by_cases hs0:s = .leaf 0
   ·have ht0 : ¬t = .leaf 0:=fun h=>hnz ⟨hs0,h⟩
    have hsT:(s = .leaf 0)=True:=by simp [hs0]
    have hk:evKind v true false=bitsOf 3 2++bitsOf 0 2:=by simp [evKind,hv0]
    simp only [hsT,ht0,decide_true,decide_false,hk,if_true,if_false,hv0] at hl ks kt ⊢
    simp only [List.length_append,List.length_nil,ae] at hl
    simp only [←List.append_assoc,List.append_nil]
    have q1:=ck (.sl M false) 3 2 (by decide) (by decide) (by decide) (by omega)
    rw [c3,c2] at q1
    have L1:(M++bitsOf 3 2).length=M.length+2:=by rw [List.length_append,ae]
    generalize M++bitsOf 3 2=M1 at*
    have q2:=ck (.sl M1 false) 0 2 (by decide) (by decide) (by decide) (by omega)
    rw [c0,c2] at q2
    have L2:(M1++bitsOf 0 2).length=M1.length+2:=by rw [List.length_append,ae]
    generalize M1++bitsOf 0 2=M2 at*
    have q3:=mD (.sl M2 false) v (by omega) (by omega)
    have L3:(M2++numBits v 2 62).length=M2.length+(numBits v 2 62).length:=List.length_append
    generalize M2++numBits v 2 62=M3 at*
    have q4:=cV t hn.2.1 (by omega) _ _ (.sl M3 false) (by omega)
    rw [ht] at q4
    have L4:(M3++evBits t).length=M3.length+(evBits t).length:=List.length_append
    generalize M3++evBits t=M4 at*
    have f:=fun h hu=>cJ H nx (.sl (bolP M4) M4.length 1 false) h hu
    rw [hs] at ks
    rw [ht] at kt
    simp [ir35,ssB,ssU,ak,aj,aa,Go.Sx.splice,Go.Sx.leI_eq,ltF,Ev.rv_n,hs,ht,ks,kt,hb,q0,q1,q2,q3,q4,gi,f]
   ·by_cases ht0:t = .leaf 0
    ·have htT:(t = .leaf 0)=True:=by simp [ht0]
     have hk:evKind v false true=bitsOf 3 2++bitsOf 1 2:=by simp [evKind,hv0]
     simp only [hs0,htT,decide_true,decide_false,hk,if_true,if_false,hv0] at hl ks kt ⊢
     simp only [List.length_append,List.length_nil,ae] at hl
     simp only [←List.append_assoc,List.append_nil]
     have q1:=ck (.sl M false) 3 2 (by decide) (by decide) (by decide) (by omega)
     rw [c3,c2] at q1
     have L1:(M++bitsOf 3 2).length=M.length+2:=by rw [List.length_append,ae]
     generalize M++bitsOf 3 2=M1 at*
     have q2:=ck (.sl M1 false) 1 2 (by decide) (by decide) (by decide) (by omega)
     rw [c1,c2] at q2
     have L2:(M1++bitsOf 1 2).length=M1.length+2:=by rw [List.length_append,ae]
     generalize M1++bitsOf 1 2=M2 at*
     have q3:=mD (.sl M2 false) v (by omega) (by omega)
     have L3:(M2++numBits v 2 62).length=M2.length+(numBits v 2 62).length:=List.length_append
     generalize M2++numBits v 2 62=M3 at*
     have q4:=cV s hn.1 (by omega) _ _ (.sl M3 false) (by omega)
     rw [hs] at q4
     have L4:(M3++evBits s).length=M3.length+(evBits s).length:=List.length_append
     generalize M3++evBits s=M4 at*
     have f:=fun h hu=>cJ H nx (.sl (bolP M4) M4.length 1 false) h hu
     rw [hs] at ks
     rw [ht] at kt
     simp [ir35,ssB,ssU,ak,aj,aa,Go.Sx.splice,Go.Sx.leI_eq,ltF,Ev.rv_n,hs,ht,ks,kt,hb,q0,q1,q2,q3,q4,gi,f]
    ·skip
     have hk:evKind v false false=bitsOf 3 2++bitsOf 1 1:=by simp [evKind,hv0]
     simp only [hs0,ht0,decide_true,decide_false,hk,if_true,if_false,hv0] at hl ks kt ⊢
     simp only [List.length_append,List.length_nil,ae] at hl
     simp only [←List.append_assoc,List.append_nil]
     have q1:=ck (.sl M false) 3 2 (by decide) (by decide) (by decide) (by omega)
     rw [c3,c2] at q1
     have L1:(M++bitsOf 3 2).length=M.length+2:=by rw [List.length_append,ae]
     generalize M++bitsOf 3 2=M1 at*
     have q2:=ck (.sl M1 false) 1 1 (by decide) (by decide) (by decide) (by omega)
     rw [c1] at q2
     have L2:(M1++bitsOf 1 1).length=M1.length+1:=by rw [List.length_append,ae]
     generalize M1++bitsOf 1 1=M2 at*
     have q3:=mD (.sl M2 false) v (by omega) (by omega)
     have L3:(M2++numBits v 2 62).length=M2.length+(numBits v 2 62).length:=List.length_append
     generalize M2++numBits v 2 62=M3 at*
     have q4:=cV s hn.1 (by omega) _ _ (.sl M3 false) (by omega)
     rw [hs] at q4
     have L4:(M3++evBits s).length=M3.length+(evBits s).length:=List.length_append
     generalize M3++evBits s=M4 at*
     have q5:=cV t hn.2.1 (by omega) _ _ (.sl M4 false) (by omega)
     rw [ht] at q5
     have L5:(M4++evBits t).length=M4.length+(evBits t).length:=List.length_append
     generalize M4++evBits t=M5 at*
     have f:=fun h hu=>cJ H nx (.sl (bolP M5) M5.length 1 false) h hu
     rw [hs] at ks
     rw [ht] at kt
     simp [ir35,ssB,ssU,ak,aj,aa,Go.Sx.splice,Go.Sx.leI_eq,ltF,Ev.rv_n,hs,ht,ks,kt,hb,q0,q1,q2,q3,q4,q5,gi,f]
end Go.Proofs.YtppeggedcaabkaaGreatDoor
end

section
namespace Go.Proofs.YtppeggedcaabkaaGreatDoor
open Go Go.Sx
abbrev bstr (s:List UInt8):LV:=.str ⟨s.toArray⟩
def txt (s:List UInt8):List UInt8:=vnum s.length++s
theorem iW (s:List UInt8):(List.map (fun (x:UInt8)=>LV.int .u8 x.toNat) s)=byt s:=rfl
theorem oT (s:List UInt8):(⟨s.toArray⟩:ByteArray).size=s.length:=by simp [ByteArray.size]
theorem fo {H:Heap} {nx:Nat} {x:LV} {q:List UInt8} (g:Bs H nx x q) (s:List UInt8) (hq:q.length<2^30) (hs:s.length<2^30):
  Ω 28 [x,bstr s] H nx=some (.arr nx 0 (q++txt s).length 1 (q++txt s).length false,[],[some (.cells (byt (q++txt s)))]):=by
 refine af (ir:=ir28) (by kernel_rfl) 0 ?_
 have hw:IntKind.u64.wrap (s.length:Int)=s.length:=aM _ (by omega) (by omega)
 have hv:=ai s.length (by omega)
 have hv0:=dn s.length
 have hQ:q++txt s=(q++vnum s.length)++s:=by rw [txt,List.append_assoc]
 have hQl:(q++vnum s.length).length<2^31:=by simp;omega
 have n:=fun H nx (g':Bs H nx x q)=>eN g' s.length (by omega) hq
 rw [hQ]
 generalize q++vnum s.length=Q at*
 have q1 : ¬1099511627776<Q.length+s.length:=by omega
 have fin:(∀ h:Hp,(∀ id,id<nx→Go.Sx.look H nx h id=H id)→Ω 26 [x,.int .u64 s.length] (Go.Sx.look H nx h) nx=some (.arr nx 0 Q.length 1 Q.length false,[],[some (.cells (byt Q))])):=fun h hh=>n _ _ (g.mono hh (Nat.le_refl _))
 have f0:=fin ⟨[],[]⟩ (fun id hi=>by simp [Go.Sx.look,findU,hi])
 have sz:=oT s
 have lk:Go.Sx.look H nx (push ⟨[],[]⟩ (.cells (byt Q))) nx=some (.cells (byt Q)):=by simp [Go.Sx.look,push,ltF]
 have z : ∀ y:Nat,y+([]:List (Ob)).length=y:=fun y=>rfl
 cases hs0:s with
 | nil=>
  subst hs0
  have a:=cO (H:=H) (nx:=nx) (i:=nx) (L:=Q.length) (h:=push ⟨[],[]⟩ (.cells (byt Q))) (q:=Q) (ex:=false) rfl (Nat.le_refl _) lk
  have ap:appO ⟨Ω,noG,H,nx⟩ (push ⟨[],[]⟩ (.cells (byt Q))) 1 1 (.arr nx 0 Q.length 1 Q.length false) (bstr [])=some ⟨.arr nx 0 Q.length 1 Q.length false,push ⟨[],[]⟩ (.cells (byt Q)),[],false⟩:=by simp [appO,slCells,Go.Sx.ids,ByteArray.size]
  rw [List.append_nil]
  simp only [List.length_nil,Int.natCast_zero,Int.ofNat_zero] at f0 hw sz
  simp [ir28,ssB,ssU,ak,aj,aa,Go.Sx.splice,Go.Sx.leI_eq,ltF,f0,hw,sz,a,ap,bf]
 | cons b r=>
  rw [←hs0]
  have hs1 : ¬s.length=0:=by rw [hs0];simp
  have ap:appO ⟨Ω,noG,H,nx⟩ (push ⟨[],[]⟩ (.cells (byt Q))) 1 1 (.arr nx 0 Q.length 1 Q.length false) (bstr s)=some ⟨.arr (nx+1) 0 (Q.length+s.length) 1 (Q.length+s.length) false,push (Go.Sx.setObj nx (push ⟨[],[]⟩ (.cells (byt Q))) nx none) (.cells (byt (Q++s))),[nx],true⟩:=by
   simp [appO,slCells,Go.Sx.ids,sz,au,hs1,lk,q1,az,iW,aY]
  have lk2:Go.Sx.look H nx (push (Go.Sx.setObj nx (push ⟨[],[]⟩ (.cells (byt Q))) nx none) (.cells (byt (Q++s)))) (nx+1)=some (.cells (byt (Q++s))):=by
   rw [ao,if_pos (by rw [aG,az];rfl)]
  have a:=cO (H:=H) (nx:=nx) (i:=nx+1) (L:=Q.length+s.length) (h:=push (Go.Sx.setObj nx (push ⟨[],[]⟩ (.cells (byt Q))) nx none) (.cells (byt (Q++s)))) (q:=Q++s) (ex:=false) (by rw [ke,cw _ _ _ _ (by omega)];rfl) (by omega) lk2
  simp [ir28,ssB,ssU,ak,aj,aa,Go.Sx.splice,Go.Sx.leI_eq,ltF,f0,hw,sz,a,ap,bf]
theorem fK (s:List UInt8) (hs:s.length<2^30) (H:Heap) (nx:Nat):
  Ω 33 [bstr s] H nx=some (.arr nx 0 (txt s).length 1 (txt s).length s.isEmpty,[],[some (.cells (byt (txt s)))]):=by
 refine af (ir:=ir33) (by kernel_rfl) 0 ?_
 have hw:IntKind.u64.wrap (s.length:Int)=s.length:=aM _ (by omega) (by omega)
 have hv:=ai s.length (by omega)
 have hQl:(vnum s.length).length<2^31:=by omega
 have n:=gZ s.length (by omega)
 have hd:s.isEmpty=true→decide (s.length<128)=true:=by cases s<;>simp
 rw [txt]
 have hex:=hd
 generalize decide (s.length<128)=ex at*
 generalize vnum s.length=Q at*
 have q1 : ¬1099511627776<Q.length+s.length:=by omega
 have sz:=oT s
 have lk : ∀ o,Go.Sx.look H nx (push (push ⟨[],[]⟩ (.cells (byt Q))) o) nx=some (.cells (byt Q)):=fun o=>by rw [ao,if_neg (by rw [az];simp)];simp [Go.Sx.look,push,ltF]
 have lk1:Go.Sx.look H nx (push (push ⟨[],[]⟩ (.cells (byt Q))) (.cells (byt s))) (nx+1)=some (.cells (byt s)):=by rw [ao,if_pos (by rw [az];rfl)]
 cases hs0:s with
 | nil=>
  have he:ex=true:=hd (by rw [hs0];rfl)
  subst hs0 he
  have a:=cO (H:=H) (nx:=nx) (i:=nx) (L:=Q.length) (h:=push (push ⟨[],[]⟩ (.cells (byt Q))) (.cells (byt []))) (q:=Q) (ex:=true) rfl (Nat.le_refl _) (lk _)
  have ap:appO ⟨Ω,noG,H,nx⟩ (push (push ⟨[],[]⟩ (.cells (byt Q))) (.cells (byt []))) 1 1 (.arr nx 0 Q.length 1 Q.length true) (.arr (nx+1) 0 0 1 0 false)=some ⟨.arr nx 0 Q.length 1 Q.length true,push (push ⟨[],[]⟩ (.cells (byt Q))) (.cells (byt [])),[nx+1],false⟩:=by
   have lk1':Go.Sx.look H nx (push (push ⟨[],[]⟩ (.cells (byt Q))) (.cells [])) (nx+1)=some (.cells []):=lk1
   simp [appO,slCells,Go.Sx.ids,lk1',bp]
  rw [List.append_nil]
  simp only [List.length_nil,Int.natCast_zero,Int.ofNat_zero] at n hw sz
  simp only [bp] at a ap
  simp [ir33,ssB,ssU,ak,aj,aa,Go.Sx.splice,Go.Sx.leI_eq,ltF,n,hw,sz,a,ap,bf,az,ByteArray.size]
 | cons b r=>
  rw [←hs0]
  have hs1 : ¬s.length=0:=by rw [hs0];simp
  have hse:s.isEmpty=false:=by rw [hs0];rfl
  rw [hse]
  have tk:List.take s.length (byt s)=byt s:=ay s
  cases ex with
  | true=>
   have ap:appO ⟨Ω,noG,H,nx⟩ (push (push ⟨[],[]⟩ (.cells (byt Q))) (.cells (byt s))) 1 1 (.arr nx 0 Q.length 1 Q.length true) (.arr (nx+1) 0 s.length 1 s.length false)=some ⟨.arr (nx+2) 0 (Q.length+s.length) 1 (Q.length+s.length) false,push (push (push ⟨[],[]⟩ (.cells (byt Q))) (.cells (byt s))) (.cells (byt (Q++s))),[nx,nx+1],false⟩:=by
    simp [appO,slCells,Go.Sx.ids,au,hs1,lk,lk1,q1,az,aY,tk,ay]
   have lk2:Go.Sx.look H nx (push (push (push ⟨[],[]⟩ (.cells (byt Q))) (.cells (byt s))) (.cells (byt (Q++s)))) (nx+2)=some (.cells (byt (Q++s))):=by
    rw [ao,if_pos (by rw [az,az];rfl)]
   have a:=cO (H:=H) (nx:=nx) (i:=nx+2) (L:=Q.length+s.length) (h:=push (push (push ⟨[],[]⟩ (.cells (byt Q))) (.cells (byt s))) (.cells (byt (Q++s)))) (q:=Q++s) (ex:=false) rfl (by omega) lk2
   simp [ir33,ssB,ssU,ak,aj,aa,Go.Sx.splice,Go.Sx.leI_eq,ltF,n,hw,sz,a,ap,bf,az,iW]
  | false=>
   have ap:appO ⟨Ω,noG,H,nx⟩ (push (push ⟨[],[]⟩ (.cells (byt Q))) (.cells (byt s))) 1 1 (.arr nx 0 Q.length 1 Q.length false) (.arr (nx+1) 0 s.length 1 s.length false)=some ⟨.arr (nx+2) 0 (Q.length+s.length) 1 (Q.length+s.length) false,push (Go.Sx.setObj nx (push (push ⟨[],[]⟩ (.cells (byt Q))) (.cells (byt s))) nx none) (.cells (byt (Q++s))),[nx,nx+1],true⟩:=by
    simp [appO,slCells,Go.Sx.ids,au,hs1,lk,lk1,q1,az,aY,tk,ay]
   have lk2:Go.Sx.look H nx (push (Go.Sx.setObj nx (push (push ⟨[],[]⟩ (.cells (byt Q))) (.cells (byt s))) nx none) (.cells (byt (Q++s)))) (nx+2)=some (.cells (byt (Q++s))):=by
    rw [ao,if_pos (by rw [aG,az,az];rfl)]
   have a:=cO (H:=H) (nx:=nx) (i:=nx+2) (L:=Q.length+s.length) (h:=push (Go.Sx.setObj nx (push (push ⟨[],[]⟩ (.cells (byt Q))) (.cells (byt s))) nx none) (.cells (byt (Q++s)))) (q:=Q++s) (ex:=false) (by rw [ke,cw _ _ _ _ (by omega)];rfl) (by omega) lk2
   simp [ir33,ssB,ssU,ak,aj,aa,Go.Sx.splice,Go.Sx.leI_eq,ltF,n,hw,sz,a,ap,bf,az,iW]
end Go.Proofs.YtppeggedcaabkaaGreatDoor
end

section
namespace Go.Proofs.YtppeggedcaabkaaGreatDoor
open Go Go.Sx
def nodeB (n:Int):Bool:=decide (0≤n)&&decide (n<12)
theorem kO (n:Int) (H:Heap) (nx:Nat):Ω 91 [.int .i64 n] H nx=some (.bool (nodeB n),[],[]):=by
 refine af (ir:=ir91) (by kernel_rfl) 0 ?_
 unfold nodeB
 by_cases h1:0≤n
 ·by_cases h2:n<12
  ·have h3 : ¬(12:Int)≤n:=by omega
   simp [ir91,ssB,ssU,ssP,appO,h1,h2,h3]
  ·have h3:(12:Int)≤n:=by omega
   simp [ir91,ssB,ssU,ssP,appO,h1,h2,h3]
 ·simp [ir91,ssB,ssU,ssP,appO,h1]
structure Gft where
 no:Nat
 fr:Int
 to:Int
 sh:Id
abbrev Gft.pv (g:Gft):PV:=.agg [.s (.int .u64 g.no),.s (.int .i64 g.fr),.s (.int .i64 g.to),.s (.bool g.sh.all),g.sh.ptr]
abbrev Gft.rv (g:Gft):PV:=.agg [.s (.int .u64 g.no),.s (.int .i64 g.fr),.s (.int .i64 g.to),g.sh.rv]
def Gft.right (g:Gft):Bool:=decide (1≤g.no)&&(decide (g.no<2^62)&&(nodeB g.fr&&(nodeB g.to&&(decide (g.fr≠g.to)&&decide (g.sh ≠ .zero)))))
theorem pj (g:Gft) (H:Heap) (nx:Nat):Ω 42 [.p g.pv] H nx=some (.bool g.right,[],[]):=by
 refine af (ir:=ir42) (by kernel_rfl) 0 ?_
 obtain ⟨no,fr,to,sh⟩:=g
 have n1:=kO fr
 have n2:=kO to
 have z:=aR sh
 unfold Gft.right
 simp only
 rw [show decide (sh ≠ .zero)=!(decide (sh = .zero)) by simp]
 generalize decide (sh = .zero)=zz at*
 by_cases h1:1≤no
 ·have h1':(1:Int)≤no:=by omega
  by_cases h2:no<2^62
  ·have h2' : ¬(4611686018427387904:Int)≤no:=by omega
   have h2'' : ¬4611686018427387904≤no:=by omega
   cases hf:nodeB fr<;>rw [hf] at n1
   ·simp [ir42,ssB,ssU,ssP,appO,h1,h1',h2',h2'',n1]
   ·cases ht:nodeB to<;>rw [ht] at n2
    ·simp [ir42,ssB,ssU,ssP,appO,h1,h1',h2',h2'',n1,n2]
    ·by_cases h3:fr=to
     ·have h3':(fr != to)=false:=by simp [h3]
      rw [h3] at n1 h3' ⊢
      simp [ir42,ssB,ssU,ssP,appO,h1,h1',h2',h2'',n1]
     ·have h3'':(fr != to)=true:=by simp [h3]
      have h0:no<4611686018427387904:=h2
      cases zz<;>simp [ir42,ssB,ssU,ssP,appO,h1,h1',h2',h2'',n1,n2,h3,h3'',z,h0]
  ·have h2':(4611686018427387904:Int)≤no:=by omega
   have h2'':4611686018427387904≤no:=by omega
   have h0 : ¬no<4611686018427387904:=by omega
   simp [ir42,ssB,ssU,ssP,appO,h1,h1',h2',h2'',h0]
 ·have h1' : ¬(1:Int)≤no:=by omega
  have h1'':no=0:=by omega
  subst h1''
  simp [ir42,ssB,ssU,ssP,appO]
theorem ow (g:Gft) (H:Heap) (nx:Nat):Ω 43 [.p g.rv] H nx=some (.bool g.right,[],[]):=by
 refine af (ir:=ir43) (by kernel_rfl) 0 ?_
 obtain ⟨no,fr,to,sh⟩:=g
 have z:=Id.kind_z sh
 obtain ⟨sa,sb,hs⟩:=Id.rv_imm sh
 unfold Gft.right nodeB
 simp only [Gft.rv,hs]
 rw [show decide (sh ≠ .zero)=!(decide (sh = .zero)) by simp]
 generalize decide (sh = .zero)=zz at*
 generalize (sh.kind:Int)=kd at*
 by_cases h1:1≤no
 ·have h1' : ¬(no:Int)≤0:=by omega
  have h1'' : ¬no=0:=by omega
  by_cases h2:no<2^62
  ·have h2' : ¬(4611686018427387904:Int)≤no:=by omega
   have h2'' : ¬4611686018427387904≤no:=by omega
   by_cases f1:0≤fr
   ·by_cases f2:fr<12
    ·have f3 : ¬(12:Int)≤fr:=by omega
     by_cases t1:0≤to
     ·by_cases t2:to<12
      ·have t3 : ¬(12:Int)≤to:=by omega
       by_cases h3:fr=to
       ·rw [h3]
        rw [h3] at f1 f2 f3
        simp [ir43,ssB,ssU,ssP,appO,h1,h1',h1'',h2',h2'',f1,f2,f3]
       ·have h3'':(fr != to)=true:=by simp [h3]
        have h0:no<4611686018427387904:=h2
        cases zz<;>(simp [ir43,ssB,ssU,ssP,appO,h1,h1',h1'',h2',h2'',f1,f2,f3,t1,t2,t3,h3,h3'',z,h0];simpa using z)
      ·have t3:(12:Int)≤to:=by omega
       simp [ir43,ssB,ssU,ssP,appO,h1,h1',h1'',h2',h2'',f1,f2,f3,t1,t2,t3]
     ·simp [ir43,ssB,ssU,ssP,appO,h1,h1',h1'',h2',h2'',f1,f2,f3,t1]
    ·have f3:(12:Int)≤fr:=by omega
     simp [ir43,ssB,ssU,ssP,appO,h1,h1',h1'',h2',h2'',f1,f2,f3]
   ·simp [ir43,ssB,ssU,ssP,appO,h1,h1',h1'',h2',h2'',f1]
  ·have h2':(4611686018427387904:Int)≤no:=by omega
   have h2'':4611686018427387904≤no:=by omega
   have h0 : ¬no<4611686018427387904:=by omega
   simp [ir43,ssB,ssU,ssP,appO,h1,h1',h1'',h2',h2'',h0]
 ·have h1'':no=0:=by omega
  subst h1''
  simp [ir43,ssB,ssU,ssP,appO]
def Gft.bytes (g:Gft):List UInt8:=vnum g.no++vnum g.fr.toNat++vnum g.to.toNat++txt (pack (idBits g.sh))
theorem aV (l:List Bool):(pack l).length≤l.length:=by
 have : ∀ (l:List Bool) (p:List UInt8) (n:Nat),p.length=(n+7)/8→(addBits p n l).length=(n+l.length+7)/8:=by
  intro l
  induction l with
  | nil=>intro p n h;simpa [addBits] using h
  | cons b l ih=>
   intro p n h
   rw [addBits,ih _ (n+1) (jC p n b h),List.length_cons]
   congr 1
   omega
 have h:=this l [] 0 rfl
 rw [pack,h]
 omega
theorem Gft.right_lt {g:Gft} (h:g.right=true):g.no<2^62∧(∃ f t:Nat,g.fr=f∧g.to=t∧f<12∧t<12):=by
 simp only [Gft.right,nodeB,Bool.and_eq_true,decide_eq_true_eq] at h
 obtain ⟨_,h2,⟨h3,h4⟩,⟨h5,h6⟩,_⟩:=h
 exact ⟨h2,g.fr.toNat,g.to.toNat,by omega,by omega,by omega,by omega⟩
theorem vB {H:Heap} {nx:Nat} {x:LV} {q:List UInt8} (b:Bs H nx x q) (no f t:Nat) (sh:Id) (hno:no<2^64) (hf:f<12) (ht:t<12) (hq:q.length<2^20) (hs:(idBits sh).length<2^20):
  Ω 27 [x,.p (Gft.pv ⟨no,f,t,sh⟩)] H nx=some (.p (.sl (bytP (q++Gft.bytes ⟨no,f,t,sh⟩)) (q++Gft.bytes ⟨no,f,t,sh⟩).length 1 false),[],[]):=by
 have v1:=ai no hno
 have v2:=ai f (by omega)
 have v3:=ai t (by omega)
 have hp:=aV (idBits sh)
 have w1:IntKind.u64.wrap (f:Int)=f:=aM _ (by omega) (by omega)
 have w2:IntKind.u64.wrap (t:Int)=t:=aM _ (by omega) (by omega)
 have c:=wE sh (by omega)
 have n1:=fun H nx (g':Bs H nx x q)=>eN g' no hno (by omega)
 have hE:q++Gft.bytes ⟨no,f,t,sh⟩=(((q++vnum no)++vnum f)++vnum t)++txt (pack (idBits sh)):=by simp [Gft.bytes]
 rw [hE]
 have l1:(q++vnum no).length<2^21:=by simp;omega
 generalize q++vnum no=Q1 at*
 have n2:=fun H nx y (g':Bs H nx y Q1)=>eN g' f (by omega) (by omega)
 have l2:(Q1++vnum f).length<2^22:=by simp;omega
 generalize Q1++vnum f=Q2 at*
 have n3:=fun H nx y (g':Bs H nx y Q2)=>eN g' t (by omega) (by omega)
 have l3:(Q2++vnum t).length<2^23:=by simp;omega
 generalize Q2++vnum t=Q3 at*
 have tx:=fun H nx y (g':Bs H nx y Q3)=>fo g' (pack (idBits sh)) (by omega) (by omega)
 generalize pack (idBits sh)=B at*
 generalize Q3++txt B=Q4 at*
 have m2 : ∀ (H:Heap) (nx id:Nat),H id=some (.cells (byt Q1))→id<nx→Ω 26 [.arr id 0 Q1.length 1 Q1.length false,.int .u64 f] H nx=_:=fun H nx id h1 h2=>n2 H nx _ (.whole h1 h2)
 have m3 : ∀ (H:Heap) (nx id:Nat),H id=some (.cells (byt Q2))→id<nx→Ω 26 [.arr id 0 Q2.length 1 Q2.length false,.int .u64 t] H nx=_:=fun H nx id h1 h2=>n3 H nx _ (.whole h1 h2)
 have mt : ∀ (H:Heap) (nx id:Nat),H id=some (.cells (byt Q3))→id<nx→Ω 28 [.arr id 0 Q3.length 1 Q3.length false,bstr B] H nx=_:=fun H nx id h1 h2=>tx H nx _ (.whole h1 h2)
 have bb:bytesL (byt B)=some B:=aO B
 refine af (ir:=ir27) (by kernel_rfl) 0 ?_
 cases b with
 | nil=>
  have m1 : ∀ (H:Heap) (nx:Nat),Ω 26 [.p (.s (.slice none 0 0)),.int .u64 no] H nx=_:=fun H nx=>n1 H nx .nil
  simp [ir27,ssB,ssU,ssP,appO,m1,m2,m3,mt,w1,w2,c,bb,aF,ah,au,ah,ay,aE,aJ,aI,aK,av,aD]
 | sl _ fl=>
  have m1 : ∀ (H:Heap) (nx:Nat),Ω 26 [.p (.sl (bytP q) q.length 1 fl),.int .u64 no] H nx=_:=fun H nx=>n1 H nx (.sl q fl)
  simp [ir27,ssB,ssU,ssP,appO,m1,m2,m3,mt,w1,w2,c,bb,aF,ah,au,ah,ay,aE,aJ,aI,aK,av,aD]
 | arr _ G id off cp ex h1 h2 h3 h4=>
  have m1 : ∀ (H:Heap) (nx:Nat),H id=some (.cells (byt G))→id<nx→Ω 26 [.arr id off q.length 1 cp ex,.int .u64 no] H nx=_:=fun H nx e1 e2=>n1 H nx (.arr q G id off cp ex e1 e2 h3 h4)
  have hk : ∀ k,id<nx+k:=fun k=>by omega
  have hne : ¬id=nx:=by omega
  have hne2 : ∀ k,¬id=nx+k:=fun k=>by omega
  simp [ir27,ssB,ssU,ssP,appO,m1,m2,m3,mt,w1,w2,c,bb,aF,ah,au,ah,ay,aE,aJ,aI,aK,av,aD,h1,h2,hk,hne,hne2]
theorem rR {l:List Bool} (h:0<l.length):pack l≠[]:=by
 rw [←j9,packR,if_pos h]
 simp
theorem pN (l:List Bool) (h0:0<l.length) (h30:l.length<2^30) (H:Heap) (nx:Nat):Ω 34 [blV l] H nx=some (.p (.sl (bytP (pack l)) (pack l).length 1 false),[],[]):=by
 rw [xI (.sl l false) h30,j9,co (rR h0)]
theorem uR {H:Heap} {nx:Nat} {x y z w:LV} {F G K M:List UInt8} (f:Bs H nx x F) (g:Bs H nx y G) (k:Bs H nx z K) (m:Bs H nx w M) (h30:F.length+G.length+K.length+M.length<2^31) (aid:Nat) (ha:H aid=some (.cells [x,y,z,w])) (haid:aid<nx):
  Ω 36 [.arr aid 0 4 1 4 true] H nx=some (sum' (F++G++K++M),[],[]):=by
 have:=mH [x,y,z,w] [F,G,K,M] H nx aid 4 true ha haid (.cons f (.cons g (.cons k (.cons m .nil)))) (by simp) (by simp;omega)
 simpa using this
theorem tE (no f t:Nat) (sh:Id) (hno:no<2^64) (hf:f<12) (ht:t<12) (hs:(idBits sh).length<2^20) (H:Heap) (nx:Nat):
  Ω 38 [.p (Gft.rv ⟨no,f,t,sh⟩)] H nx=some (.p (.sl (bytP (Gft.bytes ⟨no,f,t,sh⟩)) (Gft.bytes ⟨no,f,t,sh⟩).length 1 false),[],[]):=by
 have v1:=ai no hno
 have v2:=ai f (by omega)
 have v3:=ai t (by omega)
 have v4:=dn no
 have hp:=aV (idBits sh)
 have w1:IntKind.u64.wrap (f:Int)=f:=aM _ (by omega) (by omega)
 have w2:IntKind.u64.wrap (t:Int)=t:=aM _ (by omega) (by omega)
 have ci:=vF sh _ _ .nil (by simp;omega)
 rw [List.nil_append] at ci
 have cb:=pN (idBits sh) (dh sh) (by omega)
 have ct:=fK (pack (idBits sh)) (by omega)
 have n1:=gZ no hno
 have n2:=gZ f (by omega)
 have n3:=gZ t (by omega)
 have tl:(txt (pack (idBits sh))).length<2^22:=by
  have:=ai (pack (idBits sh)).length (by omega)
  rw [txt,List.length_append];omega
 have hE:Gft.bytes ⟨no,f,t,sh⟩=vnum no++vnum f++vnum t++txt (pack (idBits sh)):=by simp [Gft.bytes]
 rw [hE]
 have hne:vnum no++vnum f++vnum t++txt (pack (idBits sh))≠[]:=by
  intro h
  have:=congrArg List.length h
  simp only [List.length_append,List.length_nil] at this
  omega
 obtain ⟨ka,kb,hsh⟩:=Id.rv_imm sh
 rw [hsh] at ci
 simp only [Gft.rv,hsh]
 generalize (sh.kind:Int)=kd at*
 generalize (pack (idBits sh)).isEmpty=e4 at*
 generalize decide (no<128)=e1 at*
 generalize decide (f<128)=e2 at*
 generalize decide (t<128)=e3 at*
 generalize idBits sh=I at*
 generalize txt (pack I)=T at*
 generalize pack I=B at*
 generalize vnum no=V1 at*
 generalize vnum f=V2 at*
 generalize vnum t=V3 at*
 have j4 : ∀ (H:Heap) (nx aid i1 i2 i3 i4:Nat),H aid=some (.cells [.arr i1 0 V1.length 1 V1.length e1,.arr i2 0 V2.length 1 V2.length e2,.arr i3 0 V3.length 1 V3.length e3,.arr i4 0 T.length 1 T.length e4])→aid<nx →
   H i1=some (.cells (byt V1))→i1<nx→H i2=some (.cells (byt V2))→i2<nx→H i3=some (.cells (byt V3))→i3<nx→H i4=some (.cells (byt T))→i4<nx →
   Ω 36 [.arr aid 0 4 1 4 true] H nx=some (sum' (V1++V2++V3++T),[],[]):=
  fun H nx aid i1 i2 i3 i4 h0 h0' a1 b1 a2 b2 a3 b3 a4 b4=>uR (.whole a1 b1) (.whole a2 b2) (.whole a3 b3) (.whole a4 b4) (by omega) aid h0 h0'
 rw [co hne] at j4
 generalize V1++V2++V3++T=Q at*
 have bb:bytesL (byt B)=some B:=aO B
 refine af (ir:=ir38) (by kernel_rfl) 0 ?_
 have jj:=fun (H:Heap) (nx:Nat)=>j4 H (nx+6) (nx+5) (nx+1) (nx+2) (nx+3) (nx+4)
 simp [ir38,ssB,ssU,ssP,appO,n1,n2,n3,w1,w2,ci,cb,ct,bb,aF,ah,au,ah,ay,aE,aJ,aI,aK,av,aD,jj]
end Go.Proofs.YtppeggedcaabkaaGreatDoor
end

section
namespace Go.Proofs.YtppeggedcaabkaaGreatDoor
open Go Go.Sx
abbrev ann:List PV:=[.s (.int .i64 1),.s (.string ⟨#[]⟩),.s (.string ⟨#[65,110,110]⟩)]
theorem sT (fl:Bool) (H:Heap) (nx:Nat):Ω 128 [.p (.sl ann 1 3 fl)] H nx=some (.p (.sl ann 1 3 false),[],[]):=by
 refine af (ir:=ir128) (by kernel_rfl) 0 ?_
 simp [ir128,ssB,ssU,ssP,appO]
theorem o8 (H:Heap) (nx:Nat):Ω 128 [.p (.s (.slice none 0 0))] H nx=some (.p (.s (.slice none 0 0)),[],[]):=by
 refine af (ir:=ir128) (by kernel_rfl) 0 ?_
 simp [ir128,ssB,ssU,ssP,appO]
def crd (a:Bool) (fl:Bool):PV:=if a then .sl ann 1 3 fl else .s (.slice none 0 0)
theorem eM (fl:Bool):crd true fl = .sl ann 1 3 fl:=rfl
theorem eL (fl:Bool):crd false fl = .s (.slice none 0 0):=rfl
theorem na (a fl:Bool) (H:Heap) (nx:Nat):Ω 179 [.p (.agg [crd a fl])] H nx=some (.p (crd a false),[],[]):=by
 refine af (ir:=ir179) (by kernel_rfl) 0 ?_
 have c1:=fun fl=>sT fl
 have c2:=o8
 cases a
 ·rw [eL,eL];simp [ir179,ssB,ssU,ssP,appO,c2]
 ·rw [eM,eM];simp [ir179,ssB,ssU,ssP,appO,c1]
theorem t6 (a fl:Bool) (H:Heap) (nx:Nat):Ω 71 [.p (.agg [crd a fl])] H nx=some (.int .i64 (if a then 1 else 0),[],[]):=by
 refine af (ir:=ir71) (by kernel_rfl) 0 ?_
 cases a
 ·rw [eL];simp [ir71,ssB,ssU,ssP,appO]
 ·rw [eM];simp [ir71,ssB,ssU,ssP,appO]
structure Vsn where
 ev:Ev
 nm:Bool
 gone:Bool
abbrev Vsn.pv (v:Vsn) (fl:Bool):PV:=.agg [.s (.int .u64 v.ev.n),v.ev.ptr,crd v.nm fl,.s (.bool v.gone)]
abbrev Vsn.rv (v:Vsn) (fl:Bool):PV:=.agg [v.ev.rv,crd v.nm fl,.s (.bool v.gone)]
theorem tN (v:Vsn) (fl:Bool) (H:Heap) (nx:Nat):Ω 89 [.p (v.pv fl)] H nx=some (.bool (!v.gone||!v.nm),[],[]):=by
 refine af (ir:=ir89) (by kernel_rfl) 0 ?_
 obtain ⟨ev,nm,gone⟩:=v
 have l:=fun nm fl=>t6 nm fl
 cases gone
 ·simp [ir89,ssB,ssU,ssP,appO]
 ·cases nm
  ·simp [ir89,ssB,ssU,ssP,appO,l]
  ·simp [ir89,ssB,ssU,ssP,appO,l]
end Go.Proofs.YtppeggedcaabkaaGreatDoor
end

section
namespace Go.Proofs.YtppeggedcaabkaaGreatDoor
open Go Go.Sx
def crdB (a:Bool):List UInt8:=if a then [1,1,0,3,65,110,110] else [0]
theorem t9:crdB true=vnum 1++[1]++txt []++txt [65,110,110]:=by
 have h0:=bQ (show 0<128 by decide)
 have h1:=bQ (show 1<128 by decide)
 have h3:=bQ (show 3<128 by decide)
 simp [crdB,txt,h0,h1,h3]
theorem pa:crdB false=vnum 0:=by
 have h0:=bQ (show 0<128 by decide)
 simp [crdB,h0]
theorem uw {H:Heap} {nx:Nat} {x:LV} {q:List UInt8} (b:Bs H nx x q) (hq:q.length<2^20):
  Ω 178 [x,.p (.s (.slice none 0 0))] H nx=some (.p (.sl (bytP (q++vnum 0)) (q++vnum 0).length 1 false),[],[]):=by
 refine af (ir:=ir178) (by kernel_rfl) 2 ?_
 have n:=fun H nx (g':Bs H nx x q)=>eN g' 0 (by decide) (by omega)
 generalize q++vnum 0=Q at*
 have lo : ∀ (h:Hp) (y:LV),runCS ⟨Ω,noG,H,nx⟩ 2 ir178_0 ⟨[(0,y),(12,.p (.s (.slice none 0 0))),(13,.int .i64 0),(14,.int .i64 0)],h⟩=some (.exit 0,⟨[(0,y),(12,.p (.s (.slice none 0 0))),(13,.int .i64 0),(14,.int .i64 0),(15,.bool false)],h⟩):=fun h y=>by
  simp [ir178_0,ssB,ssU,ssP,appO]
 have lp : ∀ (h:Hp) (y:LV),iter (runCS ⟨Ω,noG,H,nx⟩ 2 ir178_0) 2 ⟨[(0,y),(12,.p (.s (.slice none 0 0))),(13,.int .i64 0),(14,.int .i64 0)],h⟩=some (.exit 0,⟨[(0,y),(12,.p (.s (.slice none 0 0))),(13,.int .i64 0),(14,.int .i64 0),(15,.bool false)],h⟩):=fun h y=>aN (lo h y) (by simp)
 have w0:IntKind.u64.wrap 0=0:=by decide
 simp only [Int.natCast_zero,Int.ofNat_zero] at n
 cases b with
 | nil=>
  have m1 : ∀ (H:Heap) (nx:Nat),Ω 26 [.p (.s (.slice none 0 0)),.int .u64 0] H nx=_:=fun H nx=>n H nx .nil
  simp [ir178,ssB,ssU,ssP,appO,m1,w0,lp,au,ah,ay,aE,aJ,aI,aK,av,aD]
 | sl _ fl=>
  have m1 : ∀ (H:Heap) (nx:Nat),Ω 26 [.p (.sl (bytP q) q.length 1 fl),.int .u64 0] H nx=_:=fun H nx=>n H nx (.sl q fl)
  simp [ir178,ssB,ssU,ssP,appO,m1,w0,lp,au,ah,ay,aE,aJ,aI,aK,av,aD]
 | arr _ G id off cp ex h1 h2 h3 h4=>
  have m1 : ∀ (H:Heap) (nx:Nat),H id=some (.cells (byt G))→id<nx→Ω 26 [.arr id off q.length 1 cp ex,.int .u64 0] H nx=_:=fun H nx e1 e2=>n H nx (.arr q G id off cp ex e1 e2 h3 h4)
  have hk : ∀ k,id<nx+k:=fun k=>by omega
  have hne : ¬id=nx:=by omega
  have hne2 : ∀ k,¬id=nx+k:=fun k=>by omega
  simp [ir178,ssB,ssU,ssP,appO,m1,w0,lp,au,ah,ay,aE,aJ,aI,aK,av,aD,h1,h2,hk,hne,hne2]
theorem ux {H:Heap} {nx:Nat} {x:LV} {q:List UInt8} (b:Bs H nx x q) (hq:q.length<2^20):
  Ω 178 [x,.p (.sl ann 1 3 false)] H nx=some (.p (.sl (bytP (q++vnum 1++[1]++txt []++txt [65,110,110])) (q++vnum 1++[1]++txt []++txt [65,110,110]).length 1 false),[],[]):=by
 refine af (ir:=ir178) (by kernel_rfl) 3 ?_
 have n:=fun H nx (g':Bs H nx x q)=>eN g' 1 (by decide) (by omega)
 have v1:=ai 1 (by decide)
 have v0:=dn 1
 have l1:(q++vnum 1).length<2^21:=by simp;omega
 generalize q++vnum 1=Q at*
 have l2:(Q++[1]).length<2^22:=by simp;omega
 have l2':(Q++[1]).length=Q.length+1:=by simp
 have t1:=fun H nx y (g':Bs H nx y (Q++[1]))=>fo g' [] (by omega) (by decide)
 have b2:byt (Q++[1])=byt Q++[.int .u8 1]:=by rw [aY];rfl
 have ht0:(txt []).length<20:=by have:=ai 0 (by decide);simpa [txt] using (by omega:(vnum 0).length<20)
 have l3:(Q++[1]++txt []).length<2^23:=by rw [List.length_append];omega
 have t1' : ∀ (H:Heap) (nx id:Nat),H id=some (.cells (byt Q++[.int .u8 1]))→id<nx→Ω 28 [.arr id 0 (Q.length+1) 1 (Q.length+1) false,.str ⟨#[]⟩] H nx=_:=fun H nx id h1 h2=>t1 H nx _ (.whole' (l2'.symm) (by rw [b2];exact h1) h2)
 generalize Q++[1]++txt []=Q2 at*
 have t2:=fun H nx y (g':Bs H nx y Q2)=>fo g' [65,110,110] (by omega) (by decide)
 have t2' : ∀ (H:Heap) (nx id:Nat),H id=some (.cells (byt Q2))→id<nx→Ω 28 [.arr id 0 Q2.length 1 Q2.length false,.str ⟨#[65,110,110]⟩] H nx=_:=fun H nx id h1 h2=>t2 H nx _ (.whole h1 h2)
 generalize Q2++txt [65,110,110]=Q3 at*
 have q41 : ¬1099511627776<Q.length+1:=by omega
 have w1:IntKind.u64.wrap 1=1:=by decide
 have w2:IntKind.i64.wrap 1=1:=by decide
 have w3:IntKind.u8.wrap 1=1:=by decide
 have e:=Eq.refl (runCS ⟨Ω,noG,H,nx⟩ 3 ir178_0 ⟨[(0,.arr nx 0 Q.length 1 Q.length false),(12,.p (.sl ann 1 3 false)),(13,.int .i64 1),(14,.int .i64 0)],⟨[],[some (.cells (byt Q))]⟩⟩)
 conv at e=>rhs;simp [ir178_0,ssB,ssU,ssP,appO,t1',t2',w2,w3,q41,au,ah,ay,aE,aJ,aI,aK,av,aD]
 have lo : ∀ (h:Hp) (y:LV),runCS ⟨Ω,noG,H,nx⟩ 3 ir178_0 ⟨[(0,y),(12,.p (.sl ann 1 3 false)),(13,.int .i64 1),(14,.int .i64 1)],h⟩=some (.exit 0,⟨[(0,y),(12,.p (.sl ann 1 3 false)),(13,.int .i64 1),(14,.int .i64 1),(15,.bool false)],h⟩):=fun h y=>by
  simp [ir178_0,ssB,ssU,ssP,appO]
 have lp:=(aP (n:=2) e).trans (aN (n:=1) (lo _ _) (by simp))
 cases b with
 | nil=>
  have m1 : ∀ (H:Heap) (nx:Nat),Ω 26 [.p (.s (.slice none 0 0)),.int .u64 1] H nx=_:=fun H nx=>n H nx .nil
  simp [ir178,ssB,ssU,ssP,appO,m1,w1,lp,au,ah,ay,aE,aJ,aI,aK,av,aD]
 | sl _ fl=>
  have m1 : ∀ (H:Heap) (nx:Nat),Ω 26 [.p (.sl (bytP q) q.length 1 fl),.int .u64 1] H nx=_:=fun H nx=>n H nx (.sl q fl)
  simp [ir178,ssB,ssU,ssP,appO,m1,w1,lp,au,ah,ay,aE,aJ,aI,aK,av,aD]
 | arr _ G id off cp ex h1 h2 h3 h4=>
  have m1 : ∀ (H:Heap) (nx:Nat),H id=some (.cells (byt G))→id<nx→Ω 26 [.arr id off q.length 1 cp ex,.int .u64 1] H nx=_:=fun H nx e1 e2=>n H nx (.arr q G id off cp ex e1 e2 h3 h4)
  have hk : ∀ k,id<nx+k:=fun k=>by omega
  have hne : ¬id=nx:=by omega
  have hne2 : ∀ k,¬id=nx+k:=fun k=>by omega
  simp [ir178,ssB,ssU,ssP,appO,m1,w1,lp,au,ah,ay,aE,aJ,aI,aK,av,aD,h1,h2,hk,hne,hne2]
theorem vA {H:Heap} {nx:Nat} {x:LV} {q:List UInt8} (b:Bs H nx x q) (a fl:Bool) (hq:q.length<2^20):
  Ω 140 [x,.p (.agg [crd a fl])] H nx=some (.p (.sl (bytP (q++crdB a)) (q++crdB a).length 1 false),[],[]):=by
 refine af (ir:=ir140) (by kernel_rfl) 1 ?_
 have c:=na a fl
 have f : ∀ H nx x,Bs H nx x q→Ω 178 [x,.p (crd a false)] H nx=some (.p (.sl (bytP (q++crdB a)) (q++crdB a).length 1 false),[],[]):=by
  intro H nx x b
  cases a
  ·rw [pa];exact uw b hq
  ·rw [t9]
   have:=ux b hq
   rw [eM]
   simpa only [List.append_assoc] using this
 generalize q++crdB a=Q at*
 cases a<;>simp only [eM,eL] at c f ⊢
 all_goals
  cases b with
  | nil=>
   have m1:=fun H nx=>f H nx _ .nil
   simp [ir140,ssB,ssU,ssP,appO,m1,c,au,ah,ay,aE,aJ,aI,aK,av,aD]
  | sl _ fl'=>
   have m1:=fun H nx=>f H nx _ (.sl q fl')
   simp [ir140,ssB,ssU,ssP,appO,m1,c,au,ah,ay,aE,aJ,aI,aK,av,aD]
  | arr _ G id off cp ex h1 h2 h3 h4=>
   have m1:=fun H nx e1 e2=>f H nx _ (.arr q G id off cp ex e1 e2 h3 h4)
   have hk : ∀ k,id<nx+k:=fun k=>by omega
   have hne : ¬id=nx:=by omega
   have hne2 : ∀ k,¬id=nx+k:=fun k=>by omega
   simp [ir140,ssB,ssU,ssP,appO,m1,c,au,ah,ay,aE,aJ,aI,aK,av,aD,h1,h2,hk,hne,hne2]
end Go.Proofs.YtppeggedcaabkaaGreatDoor
end

section
namespace Go.Proofs.YtppeggedcaabkaaGreatDoor
open Go Go.Sx
def Vsn.bytes (v:Vsn):List UInt8:=txt (pack (evBits v.ev))++(if v.gone then [1] else 0::crdB v.nm)
theorem io (s:List UInt8) (h:s.length<2^19):(txt s).length<2^19+20:=by
 have:=ai s.length (by omega)
 rw [txt,List.length_append];omega
theorem tM (v:Vsn) (fl:Bool) (hm:v.ev.max<2^64) (hb:(evBits v.ev).length<2^18) (H:Heap) (nx:Nat):
  Ω 76 [.p (v.pv fl)] H nx=some (.p (.sl (bytP v.bytes) v.bytes.length 1 false),[],[]):=by
 refine af (ir:=ir76) (by kernel_rfl) 0 ?_
 obtain ⟨ev,nm,gone⟩:=v
 unfold Vsn.bytes
 simp only at hm hb ⊢
 have hp:=aV (evBits ev)
 have c:=cq ev hm (by omega)
 have bb:=aO (pack (evBits ev))
 have t1:=fun H nx=>fo (.nil:Bs H nx (.p (.s (.slice none 0 0))) []) (pack (evBits ev)) (by decide) (by omega)
 have tl:=io (pack (evBits ev)) (by omega)
 simp only [List.nil_append] at t1
 generalize txt (pack (evBits ev))=T at*
 generalize pack (evBits ev)=B at*
 have q41 : ¬1099511627776<T.length+1:=by omega
 have b1:byt (T++[1])=byt T++[.int .u8 1]:=by rw [aY];rfl
 cases gone with
 | true=>
  have tk1:List.take (T.length+1) (byt T++[.int .u8 1])=byt T++[.int .u8 1]:=List.take_of_length_le (by simp [au])
  have ap1:allP (byt T++[.int .u8 1])=some (bytP (T++[1])):=by rw [←b1,av]
  simp [ir76,ssB,ssU,ssP,appO,c,bb,t1,aF,ah,au,aE,aJ,ay,av,q41,tk1,ap1]
 | false=>
  have b0:byt (T++[0])=byt T++[.int .u8 0]:=by rw [aY];rfl
  have l0:T.length+1=(T++[(0:UInt8)]).length:=by simp
  have pc:=fun H nx y (g:Bs H nx y (T++[0]))=>vA g nm fl (by simp;omega)
  have hE:T++0::crdB nm=T++[0]++crdB nm:=by simp
  simp only [Bool.false_eq_true,if_false]
  rw [hE]
  generalize T++[0]++crdB nm=Q at*
  have pc' : ∀ (H:Heap) (nx id:Nat),H id=some (.cells (byt T++[.int .u8 0]))→id<nx→Ω 140 [.arr id 0 (T.length+1) 1 (T.length+1) false,.p (.agg [crd nm fl])] H nx=_:=fun H nx id h1 h2=>pc H nx _ (.whole' l0 (by rw [b0];exact h1) h2)
  simp [ir76,ssB,ssU,ssP,appO,c,bb,t1,aF,ah,au,ah,ay,aE,aJ,aI,aK,av,aD,q41,pc']
end Go.Proofs.YtppeggedcaabkaaGreatDoor
end

section
namespace Go.Proofs.YtppeggedcaabkaaGreatDoor
open Go Go.Sx
theorem pR (k:Nat) (hk:k<128) (H:Heap) (nx:Nat):Ω 32 [.int .u64 k] H nx=some (.arr nx 0 1 1 1 true,[],[some (.cells (byt [UInt8.ofNat k]))]):=by
 have n:=gZ k (by omega) H nx
 rw [bQ hk] at n
 simpa [hk] using n
theorem xJ (H:Heap) (nx:Nat):Ω 143 [.p (.s (.slice none 0 0))] H nx=some (.p (.sl (bytP [0]) 1 1 true),[],[]):=by
 refine af (ir:=ir143) (by kernel_rfl) 2 ?_
 have n : ∀ (H:Heap) (nx:Nat),Ω 32 [.int .u64 0] H nx=some (.arr nx 0 1 1 1 true,[],[some (.cells [.int .u8 0])]):=fun H nx=>pR 0 (by decide) H nx
 have w0:IntKind.u64.wrap 0=0:=by decide
 have lo : ∀ (h:Hp) (y:LV),runCS ⟨Ω,noG,H,nx⟩ 2 ir143_0 ⟨[(3,y),(10,.p (.s (.slice none 0 0))),(11,.int .i64 0),(12,.int .i64 0)],h⟩=some (.exit 0,⟨[(3,y),(10,.p (.s (.slice none 0 0))),(11,.int .i64 0),(12,.int .i64 0),(13,.bool false)],h⟩):=fun h y=>by
  simp [ir143_0,ssB,ssU,ssP,appO]
 have lp:=fun h y=>aN (n:=1) (lo h y) (by simp)
 simp [ir143,ssB,ssU,ssP,appO,n,w0,lp,bytP]
theorem xK (fl:Bool) (H:Heap) (nx:Nat):Ω 143 [.p (.sl ann 1 3 fl)] H nx=some (.p (.sl (bytP (crdB true)) 7 1 false),[],[]):=by
 refine af (ir:=ir143) (by kernel_rfl) 3 ?_
 have n : ∀ (H:Heap) (nx:Nat),Ω 32 [.int .u64 1] H nx=some (.arr nx 0 1 1 1 true,[],[some (.cells (byt [1]))]):=fun H nx=>pR 1 (by decide) H nx
 have h0:=bQ (show 0<128 by decide)
 have h3:=bQ (show 3<128 by decide)
 have t0 : ∀ (H:Heap) (nx:Nat),Ω 33 [.str ⟨#[]⟩] H nx=some (.arr nx 0 1 1 1 true,[],[some (.cells (byt [0]))]):=fun H nx=>by
  have:=fK [] (by decide) H nx
  rw [show txt []=[0] by simp [txt,h0]] at this
  exact this
 have t1 : ∀ (H:Heap) (nx:Nat),Ω 33 [.str ⟨#[65,110,110]⟩] H nx=some (.arr nx 0 4 1 4 false,[],[some (.cells (byt [3,65,110,110]))]):=fun H nx=>by
  have:=fK [65,110,110] (by decide) H nx
  rw [show txt [65,110,110]=[3,65,110,110] by simp [txt,h3]] at this
  exact this
 have w1:IntKind.u64.wrap 1=1:=by decide
 have w2:IntKind.i64.wrap 1=1:=by decide
 have w3:IntKind.u8.wrap 1=1:=by decide
 have j : ∀ (H:Heap) (nx aid i1 i2 i3 i4:Nat),H aid=some (.cells [.arr i1 0 1 1 1 true,.arr i2 0 1 1 1 true,.arr i3 0 1 1 1 true,.arr i4 0 4 1 4 false])→aid<nx →
   H i1=some (.cells (byt [1]))→i1<nx→H i2=some (.cells [.int .u8 1])→i2<nx→H i3=some (.cells (byt [0]))→i3<nx→H i4=some (.cells (byt [3,65,110,110]))→i4<nx →
   Ω 36 [.arr aid 0 4 1 4 true] H nx=some (.p (.sl (bytP (crdB true)) 7 1 false),[],[]):=
  fun H nx aid i1 i2 i3 i4 h0 h0' a1 b1 a2 b2 a3 b3 a4 b4=>by
   have q1:Bs H nx (.arr i1 0 1 1 1 true) [1]:=.whole' (by rfl) a1 b1
   have q2:Bs H nx (.arr i2 0 1 1 1 true) [1]:=.whole' (by rfl) a2 b2
   have q3:Bs H nx (.arr i3 0 1 1 1 true) [0]:=.whole' (by rfl) a3 b3
   have q4:Bs H nx (.arr i4 0 4 1 4 false) [3,65,110,110]:=.whole' (by rfl) a4 b4
   rw [uR q1 q2 q3 q4 (by decide) aid h0 h0']
   rfl
 have jj:=fun (H:Heap) (nx:Nat)=>j H (nx+6) (nx+5) nx (nx+2) (nx+3) (nx+4)
 generalize hA:byt [3,65,110,110]=A at*
 generalize hB:byt [0]=B at*
 generalize hC:byt [1]=C at*
 have iA:ids.idsL A=[]:=by rw [←hA];exact aE _
 have iB:ids.idsL B=[]:=by rw [←hB];exact aE _
 have iC:ids.idsL C=[]:=by rw [←hC];exact aE _
 have e:=Eq.refl (runCS ⟨Ω,noG,H,nx⟩ 3 ir143_0 ⟨[(3,.arr nx 0 1 1 1 true),(10,.p (.sl ann 1 3 fl)),(11,.int .i64 1),(12,.int .i64 0)],⟨[],[some (.cells C)]⟩⟩)
 conv at e=>rhs;simp [ir143_0,ssB,ssU,ssP,appO,t0,t1,w2,w3,jj,iA,iB,iC]
 have lo : ∀ (h:Hp) (y:LV),runCS ⟨Ω,noG,H,nx⟩ 3 ir143_0 ⟨[(3,y),(10,.p (.sl ann 1 3 fl)),(11,.int .i64 1),(12,.int .i64 1)],h⟩=some (.exit 0,⟨[(3,y),(10,.p (.sl ann 1 3 fl)),(11,.int .i64 1),(12,.int .i64 1),(13,.bool false)],h⟩):=fun h y=>by
  simp [ir143_0,ssB,ssU,ssP,appO]
 have lp:=(aP (n:=2) e).trans (aN (n:=1) (lo _ _) (by simp))
 simp [ir143,ssB,ssU,ssP,appO,n,w1,lp]
theorem jL (a:Bool):(crdB a).length≤7:=by cases a<;>decide
theorem pY (v:Vsn) (fl:Bool) (hn:v.ev.norm) (hm:v.ev.max<2^64) (hb:(evBits v.ev).length<2^18) (H:Heap) (nx:Nat):
  Ω 82 [.p (v.rv fl)] H nx=some (.p (.sl (bytP v.bytes) v.bytes.length 1 false),[],[]):=by
 refine af (ir:=ir82) (by kernel_rfl) 0 ?_
 obtain ⟨ev,nm,gone⟩:=v
 unfold Vsn.bytes
 simp only at hm hb hn ⊢
 have hp:=aV (evBits ev)
 have c:=cV ev hn hm _ _ .nil (by simp;omega)
 rw [List.nil_append] at c
 have r:=pN (evBits ev) (eh ev) (by omega)
 have bb:=aO (pack (evBits ev))
 have t1:=fK (pack (evBits ev)) (by omega)
 have he:(pack (evBits ev)).isEmpty=false:=by
  have:=rR (eh ev)
  cases h:pack (evBits ev) with
  | nil=>exact absurd h this
  | cons=>rfl
 rw [he] at t1
 have tl:=io (pack (evBits ev)) (by omega)
 obtain ⟨cs,hcs⟩:=Ev.rv_imm ev
 simp only [Vsn.rv,hcs]
 rw [hcs] at c
 generalize evBits ev=I at*
 generalize txt (pack I)=T at*
 generalize pack I=B at*
 have q41 : ¬1099511627776<T.length+1:=by omega
 have b1:byt (T++[1])=byt T++[.int .u8 1]:=by rw [aY];rfl
 cases gone with
 | true=>
  have tk1:List.take (T.length+1) (byt T++[.int .u8 1])=byt T++[.int .u8 1]:=List.take_of_length_le (by simp [au])
  have ap1:allP (byt T++[.int .u8 1])=some (bytP (T++[1])):=by rw [←b1,av]
  simp [ir82,ssB,ssU,ssP,appO,c,r,bb,t1,aF,ah,au,aE,aJ,ay,av,q41,tk1,ap1]
 | false=>
  have cl:=jL nm
  have hE:T++0::crdB nm=T++[0]++crdB nm:=by simp
  simp only [Bool.false_eq_true,if_false]
  have hne:T++[0]++crdB nm≠[]:=by simp
  rw [hE]
  have j : ∀ (H:Heap) (nx aid i1 i2:Nat) (y:LV),Bs H nx y (crdB nm)→H aid=some (.cells [.arr i1 0 T.length 1 T.length false,.arr i2 0 1 1 1 true,y])→aid<nx→H i1=some (.cells (byt T))→i1<nx→H i2=some (.cells [.int .u8 0])→i2<nx →
    Ω 36 [.arr aid 0 3 1 3 true] H nx=some (sum' (T++[0]++crdB nm),[],[]):=fun H nx aid i1 i2 y g h0 h0' a1 b1 a2 b2=>
   nP (.whole a1 b1) (.whole' (F:=[0]) (by rfl) a2 b2:Bs H nx (.arr i2 0 1 1 1 true) [0]) g (by simp;omega) aid h0 h0'
  rw [co hne] at j
  cases nm with
  | false=>
   have cc:=xJ
   have j':=fun (H:Heap) (nx:Nat)=>j H (nx+4) (nx+3) (nx+1) (nx+2) (.p (.sl (bytP [0]) 1 1 true)) (.sl [0] true)
   generalize T++[0]++crdB false=Q at*
   generalize bytP [0]=Z at*
   simp [ir82,ssB,ssU,ssP,appO,eL,c,r,bb,t1,cc,aF,ah,au,ah,ay,aE,aJ,aI,aK,av,aD,j']
  | true=>
   have cc:=xK
   have j':=fun (H:Heap) (nx:Nat)=>j H (nx+4) (nx+3) (nx+1) (nx+2) (.p (.sl (bytP (crdB true)) 7 1 false)) (.sl (crdB true) false)
   generalize T++[0]++crdB true=Q at*
   generalize bytP (crdB true)=Z at*
   simp [ir82,ssB,ssU,ssP,appO,eM,c,r,bb,t1,cc,aF,ah,au,ah,ay,aE,aJ,aI,aK,av,aD,j']
end Go.Proofs.YtppeggedcaabkaaGreatDoor
end

section
namespace Go.Proofs.YtppeggedcaabkaaGreatDoor
open Go Go.Sx
def hasK (k:Int):Int:=if k=1∨k=2 then 9 else if k=3 then 31 else if k=4 then 3 else if k=5 then 0 else if k=6 then 44 else if k=7 then 64 else -1
theorem gP (k:Int) (H:Heap) (nx:Nat):Ω 25 [.int .i64 k] H nx=some (.int .i64 (hasK k),[],[]):=by
 refine af (ir:=ir25) (by kernel_rfl) 0 ?_
 unfold hasK
 by_cases h1:k=1
 ·subst h1;simp [ir25,ssB,ssU,ssP,appO]
 by_cases h2:k=2
 ·subst h2;simp [ir25,ssB,ssU,ssP,appO]
 by_cases h3:k=3
 ·subst h3;simp [ir25,ssB,ssU,ssP,appO]
 by_cases h4:k=4
 ·subst h4;simp [ir25,ssB,ssU,ssP,appO]
 by_cases h5:k=5
 ·subst h5;simp [ir25,ssB,ssU,ssP,appO]
 by_cases h6:k=6
 ·subst h6;simp [ir25,ssB,ssU,ssP,appO]
 by_cases h7:k=7
 ·subst h7;simp [ir25,ssB,ssU,ssP,appO]
 simp [ir25,ssB,ssU,ssP,appO,h1,h2,h3,h4,h5,h6,h7]
theorem ti (n:Int) (H:Heap) (nx:Nat):Ω 39 [.int .i64 n] H nx=some (.bool (nodeB n),[],[]):=by
 refine af (ir:=ir39) (by kernel_rfl) 0 ?_
 unfold nodeB
 by_cases h1:0≤n
 ·by_cases h2:n<12
  ·have h3 : ¬(12:Int)≤n:=by omega
   simp [ir39,ssB,ssU,ssP,appO,h1,h2,h3]
  ·have h3:(12:Int)≤n:=by omega
   simp [ir39,ssB,ssU,ssP,appO,h1,h2,h3]
 ·simp [ir39,ssB,ssU,ssP,appO,h1]
end Go.Proofs.YtppeggedcaabkaaGreatDoor
end

section
namespace Go.Proofs.YtppeggedcaabkaaGreatDoor
open Go Go.Sx
def Id.norm:Id→Prop
 | .node l r=>l.norm∧r.norm∧¬(l = .zero∧r = .zero)∧¬(l = .one∧r = .one)
 | _=>True
theorem Id.pair_norm {l r:Id} (hl:l.norm) (hr:r.norm):(Id.pair l r).norm:=by
 unfold Id.pair
 split
 ·trivial
 ·split
  ·trivial
  ·rename_i h1 h2
   exact ⟨hl,hr,h1,h2⟩
theorem Id.pair_id {l r:Id} (h:(Id.node l r).norm):Id.pair l r = .node l r:=by
 obtain ⟨_,_,h1,h2⟩:=h
 unfold Id.pair
 rw [if_neg h1,if_neg h2]
theorem Id.pair_depth (l r:Id):(Id.pair l r).depth≤1+Max.max l.depth r.depth:=by
 unfold Id.pair
 split
 ·exact Nat.zero_le _
 ·split
  ·exact Nat.zero_le _
  ·exact Nat.le_refl _
theorem fG : ∀ (m:Nat) (x:Option (List UInt8)),(mkId m x).1.norm∧(mkId m x).1.depth≤m
 | _,none=>by unfold mkId;exact ⟨trivial,Nat.zero_le _⟩
 | _,some []=>by unfold mkId;exact ⟨trivial,Nat.zero_le _⟩
 | 0,some (b::p)=>by
  unfold mkId
  split<;>exact ⟨trivial,Nat.zero_le _⟩
 | m+1,some (b::p)=>by
  unfold mkId
  split
  ·split<;>exact ⟨trivial,Nat.zero_le _⟩
  ·obtain ⟨a1,a2⟩:=fG m (some p)
   obtain ⟨b1,b2⟩:=fG m (mkId m (some p)).2
   exact ⟨Id.pair_norm a1 b1,Nat.le_trans (Id.pair_depth _ _) (by omega)⟩
theorem pZ : ∀ (i:Id),i.norm→i.depth≤16→∀ (H:Heap) (nx:Nat),Ω 22 [.p i.rv] H nx=some (.p i.pv,[],[])
 | .zero,_,_,H,nx=>by
  refine af (ir:=ir22) (by kernel_rfl) 0 ?_
  have z:=cU
  simp [ir22,Id.rv_z,ssB,ssU,ssP,appO,z,Id.all_z,Id.ptr_z]
 | .one,_,_,H,nx=>by
  refine af (ir:=ir22) (by kernel_rfl) 0 ?_
  have z:=jY
  simp [ir22,Id.rv_o,ssB,ssU,ssP,appO,z,Id.all_o,Id.ptr_o]
 | .node l r,hn,hd,H,nx=>by
  refine af (ir:=ir22) (by kernel_rfl) 0 ?_
  have hd':(Id.node l r).depth=1+Max.max l.depth r.depth:=rfl
  have e1:=pZ l hn.1 (by omega)
  have e2:=pZ r hn.2.1 (by omega)
  have e3:=yl l r (by rw [Id.pair_id hn];omega)
  rw [Id.pair_id hn,if_pos hd] at e3
  obtain ⟨a1,b1,h1⟩:=Id.rv_imm l
  obtain ⟨a2,b2,h2⟩:=Id.rv_imm r
  rw [h1] at e1
  rw [h2] at e2
  rw [Id.rv_n]
  generalize Id.node l r=i at*
  generalize (l.kind:Int)=k1 at*
  generalize (r.kind:Int)=k2 at*
  simp [ir22,ssB,ssU,ssP,appO,h1,h2,e1,e2,e3]
theorem wg : ∀ (e:Ev),e.norm→e.depth≤16→e.max≤2^20→∀ (H:Heap) (nx:Nat),Ω 20 [.p e.rv] H nx=some (.p e.pv,[],[])
 | .leaf n,_,_,hm,H,nx=>by
  refine af (ir:=ir20) (by kernel_rfl) 0 ?_
  have z:=lS n hm
  rw [Ev.rv_l]
  generalize Ev.leaf n=e at*
  simp [ir20,ssB,ssU,ssP,appO,z]
 | .node n l r,hn,hd,hm,H,nx=>by
  refine af (ir:=ir20) (by kernel_rfl) 0 ?_
  have hd':(Ev.node n l r).depth=1+Max.max l.depth r.depth:=rfl
  have d1:=Ev.max_l n l r
  have d2:=Ev.max_r n l r
  have m1:=Ev.n_max l
  have m2:=Ev.n_max r
  have e1:=wg l hn.1 (by omega) (by omega)
  have e2:=wg r hn.2.1 (by omega) (by omega)
  have hid:=Ev.mk_id hn
  have her:(Ev.node n l r).err=0:=by
   unfold Ev.err
   rw [if_neg (by omega),if_neg (by omega)]
  have e3:=qG n l r (by have:=Ev.n_max (.node n l r);simp only [Ev.n] at this;omega) (by rw [hid];exact her) (by omega) (by omega) (by rw [hid];omega) (by rw [hid];omega)
  rw [hid] at e3
  obtain ⟨c1,h1⟩:=Ev.rv_imm l
  obtain ⟨c2,h2⟩:=Ev.rv_imm r
  rw [h1] at e1
  rw [h2] at e2
  rw [Ev.rv_n]
  generalize Ev.node n l r=e at*
  simp [ir20,ssB,ssU,ssP,appO,h1,h2,e1,e2,e3]
end Go.Proofs.YtppeggedcaabkaaGreatDoor
end

section
namespace Go.Proofs.YtppeggedcaabkaaGreatDoor
open Go Go.Sx
structure Ent where
 id:Nat
 v:Vsn
abbrev Ent.row (fl:Bool) (x:Ent):List PV:=[.s (.int .u32 x.id),.s (.int .u64 x.v.ev.n),x.v.ev.ptr,crd x.v.nm fl,.s (.bool x.v.gone)]
abbrev Ent.rrow (fl:Bool) (x:Ent):List PV:=[.s (.int .u32 x.id),x.v.ev.rv,crd x.v.nm fl,.s (.bool x.v.gone)]
def rows (f:Ent→List PV):List Ent→List PV
 | []=>[]
 | x::l=>f x++rows f l
theorem bM (f:Ent→List PV) (k:Nat) (hf : ∀ x,(f x).length=k) : ∀ l,(rows f l).length=l.length*k
 | []=>by simp [rows]
 | x::l=>by rw [rows,List.length_append,hf,bM f k hf l,List.length_cons,Nat.succ_mul,Nat.add_comm]
theorem hJ (f:Ent→List PV) (k:Nat) (hf : ∀ x,(f x).length=k) : ∀ (l:List Ent) (j:Nat) (x:Ent),l[j]?=some x→List.take k (List.drop (j*k) (rows f l))=f x
 | [],j,x,h=>by simp at h
 | y::l,0,x,h=>by
  simp only [List.getElem?_cons_zero,Option.some.injEq] at h
  subst h
  rw [Nat.zero_mul,List.drop_zero,rows,←hf y,List.take_left']
  rfl
 | y::l,j+1,x,h=>by
  rw [List.getElem?_cons_succ] at h
  rw [rows,show (j+1)*k=(f y).length+j*k by rw [hf,Nat.succ_mul,Nat.add_comm],←List.drop_drop,List.drop_left']
  ·exact hJ f k hf l j x h
  ·rfl
def Ent.bytes (x:Ent):List UInt8:=vnum x.id++txt x.v.bytes
def entB:List Ent→List UInt8
 | []=>[]
 | x::l=>x.bytes++entB l
theorem xE {H:Heap} {nx:Nat} {h:Hp} (N:Nat) (L:List Ent) (fl ff:Bool) (j:Nat) (x:Ent) (hj:L[j]?=some x) (Q:List UInt8) (i:Nat) (hi:Go.Sx.look H nx h i=some (.cells (byt Q))) (hlt:i<nx+h.new.length) (hL:L.length<2^31)
  (hid:x.id<2^32) (hm:x.v.ev.max<2^64) (hb:(evBits x.v.ev).length<2^18) (hq:Q.length<2^28):
  ∃ o1 o2,runCS ⟨Ω,noG,H,nx⟩ N ir30_0 ⟨[(0,.arr i 0 Q.length 1 Q.length false),(12,.p (.sl (rows (Ent.row fl) L) L.length 5 ff)),(13,.int .i64 L.length),(14,.int .i64 j)],h⟩=
   some (.normal,⟨[(0,.arr (nx+(h.new.length+2)) 0 (Q++x.bytes).length 1 (Q++x.bytes).length false),(12,.p (.sl (rows (Ent.row fl) L) L.length 5 ff)),(13,.int .i64 L.length),(14,.int .i64 (j+1:Nat))],push (push (push h o1) o2) (.cells (byt (Q++x.bytes)))⟩):=by
 obtain ⟨hjl,_⟩:=List.getElem?_eq_some_iff.1 hj
 have hr:=hJ (Ent.row fl) 5 (fun _=>rfl) L j x hj
 have hrl:=bM (Ent.row fl) 5 (fun _=>rfl) L
 have g1 : ¬(L.length:Int)≤j:=by omega
 have w1:IntKind.i64.wrap ((j:Int)+1)=(j:Int)+1:=am _ (by omega) (by omega)
 have w2:IntKind.u64.wrap (x.id:Int)=x.id:=aM _ (by omega) (by omega)
 have v1:=ai x.id (by omega)
 have hle:j*5+5≤(rows (Ent.row fl) L).length:=by rw [hrl];omega
 have n1 : ∀ (H:Heap) (nx:Nat),H i=some (.cells (byt Q))→i<nx→Ω 26 [.arr i 0 Q.length 1 Q.length false,.int .u64 x.id] H nx=_:=fun H nx e1 e2=>eN (.whole e1 e2) x.id (by omega) (by omega)
 have vb:=tM x.v fl hm hb
 have hp:=aV (evBits x.v.ev)
 have tl:=io (pack (evBits x.v.ev)) (by omega)
 have hvl:x.v.bytes.length<2^19+40:=by
  unfold Vsn.bytes
  rw [List.length_append]
  have:=jL x.v.nm
  split<;>simp<;>omega
 have t1 : ∀ (H:Heap) (nx id:Nat),H id=some (.cells (byt (Q++vnum x.id)))→id<nx→Ω 28 [.arr id 0 (Q++vnum x.id).length 1 (Q++vnum x.id).length false,bstr x.v.bytes] H nx=_:=fun H nx id e1 e2=>fo (.whole e1 e2) x.v.bytes (by simp;omega) (by omega)
 have hE:Q++x.bytes=Q++vnum x.id++txt x.v.bytes:=by simp [Ent.bytes]
 have bb:=aO x.v.bytes
 rw [hE]
 generalize Q++vnum x.id++txt x.v.bytes=Q2 at*
 generalize Q++vnum x.id=Q1 at*
 generalize x.v.bytes=B at*
 generalize rows (Ent.row fl) L=R at*
 have tk:List.take 5 (List.drop (j*5) (List.map LV.p R))=pc (Ent.row fl x):=by rw [←List.map_drop,←List.map_take,hr];rfl
 have ne0 : ¬i=nx+h.new.length:=by omega
 have ne1 : ∀ k,¬i=nx+(h.new.length+k):=fun k=>by omega
 have lt1 : ∀ k,i<nx+(h.new.length+k):=fun k=>by omega
 have so:=fun o o'=>dD nx h o o'
 have hq' : ∀ o:Go.Sx.Obj,(⟨h.upd,h.new++[some o]⟩:Hp)=push h o:=fun o=>rfl
 have e:=Eq.refl (runCS ⟨Ω,noG,H,nx⟩ N ir30_0 ⟨[(0,.arr i 0 Q.length 1 Q.length false),(12,.p (.sl R L.length 5 ff)),(13,.int .i64 L.length),(14,.int .i64 j)],h⟩)
 conv at e=>rhs;simp [ir30_0,ssB,ssU,ak,aj,aa,Go.Sx.splice,Go.Sx.leI_eq,ltF,g1,w1,w2,hjl,tk,aS,bd,hle,so,hq',ao,az,ne0,ne1,lt1,hi,aE,n1,vb,t1,bb,aF,ah,au,bf]
 refine ⟨.cells (pc (Ent.row fl x)),.cells (byt Q1),e.trans ?_⟩
 rfl
theorem vx {H:Heap} {nx:Nat} {h:Hp} (N n:Nat) (y X:LV):runCS ⟨Ω,noG,H,nx⟩ N ir30_0 ⟨[(0,y),(12,X),(13,.int .i64 n),(14,.int .i64 n)],h⟩=some (.exit 0,⟨[(0,y),(12,X),(13,.int .i64 n),(14,.int .i64 n),(15,.bool false)],h⟩):=by
 simp [ir30_0,ssB,ssU,ssP,appO]
def Ent.fit (x:Ent):Prop:=x.id<2^32∧x.v.ev.max<2^64∧(evBits x.v.ev).length<2^18
theorem xD {H:Heap} {nx:Nat} (N:Nat) (L:List Ent) (fl ff:Bool) (hL:L.length<2^31) (hf : ∀ x∈L,x.fit) : ∀ (d j m:Nat) (Q:List UInt8) (i:Nat) (h:Hp),j+d=L.length→d<m→Go.Sx.look H nx h i=some (.cells (byt Q))→i<nx+h.new.length→nx≤i→h.upd=[]→Q.length+(entB (L.drop j)).length<2^28 →
  ∃ h' i',iter (runCS ⟨Ω,noG,H,nx⟩ N ir30_0) m ⟨[(0,.arr i 0 Q.length 1 Q.length false),(12,.p (.sl (rows (Ent.row fl) L) L.length 5 ff)),(13,.int .i64 L.length),(14,.int .i64 j)],h⟩=
   some (.exit 0,⟨[(0,.arr i' 0 (Q++entB (L.drop j)).length 1 (Q++entB (L.drop j)).length false),(12,.p (.sl (rows (Ent.row fl) L) L.length 5 ff)),(13,.int .i64 L.length),(14,.int .i64 L.length),(15,.bool false)],h'⟩) ∧
   Go.Sx.look H nx h' i'=some (.cells (byt (Q++entB (L.drop j))))∧nx≤i'∧h'.upd=[]:=by
 intro d
 induction d with
 | zero=>
  intro j m Q i h hj hm hi hlt hge hu hq
  obtain ⟨m,rfl⟩ : ∃ r,m=r+1:=⟨m-1,by omega⟩
  obtain rfl:j=L.length:=by omega
  rw [List.drop_length,entB,List.append_nil]
  exact ⟨h,i,aN (vx N _ _ _) (by simp),hi,hge,hu⟩
 | succ d ih=>
  intro j m Q i h hj hm hi hlt hge hu hq
  obtain ⟨m,rfl⟩ : ∃ r,m=r+1:=⟨m-1,by omega⟩
  have hjl:j<L.length:=by omega
  have hd:L.drop j=L[j]::L.drop (j+1):=List.drop_eq_getElem_cons hjl
  obtain ⟨f1,f2,f3⟩:=hf L[j] (List.getElem_mem hjl)
  have hE:Q++entB (L.drop j)=(Q++L[j].bytes)++entB (L.drop (j+1)):=by rw [hd,entB,List.append_assoc]
  have hEl:=congrArg List.length hE
  rw [List.length_append,List.length_append] at hEl
  obtain ⟨o1,o2,e1⟩:=xE N L fl ff j L[j] (List.getElem?_eq_getElem hjl) Q i hi hlt hL f1 f2 f3 (by omega)
  rw [aP e1,hE]
  refine ih (j+1) m (Q++L[j].bytes) (nx+(h.new.length+2)) _ (by omega) (by omega) ?_ ?_ (by omega) hu (by omega)
  ·rw [ao,if_pos (by rw [az,az])]
  ·rw [az,az,az];omega
def entP (f:Ent→List PV) (k:Nat) (L:List Ent):PV:=if L=[] then .s (.slice none 0 0) else .sl (rows f L) L.length k false
theorem wT {H:Heap} {nx i:Nat} {h:Hp} {q:List UInt8} (hu:h.upd=[]) (hi:nx≤i) (hl:Go.Sx.look H nx h i=some (.cells (byt q))):
  finish false H nx (.arr i 0 q.length 1 q.length false) h=some (.p (.sl (bytP q) q.length 1 false),[],[]):=by
 have hjn : ¬i<nx:=by omega
 have hnew:h.new[i-nx]?=some (some (.cells (byt q))):=by
  rw [Go.Sx.look,if_neg hjn] at hl
  cases hq:h.new[i-nx]? with
  | none=>rw [hq] at hl;cases hl
  | some o=>rw [hq] at hl;exact congrArg some hl
 simp [finish,frz,frzL,hjn,hnew,au,ay,av,hu,updIds,reach,ren,renU,renN,Go.Sx.ids]
theorem je {H:Heap} {nx:Nat} {x:LV} {q:List UInt8} (b:Bs H nx x q) (L:List Ent) (fl:Bool) (hL:L.length<100) (hf : ∀ x∈L,x.fit) (hq:q.length+(entB L).length<2^27):
  Ω 30 [x,.p (entP (Ent.row fl) 5 L)] H nx=some (.p (.sl (bytP (q++vnum L.length++entB L)) (q++vnum L.length++entB L).length 1 false),[],[]):=by
 refine af (ir:=ir30) (by kernel_rfl) (L.length+1) ?_
 have v1:=ai L.length (by omega)
 have w1:IntKind.u64.wrap (L.length:Int)=L.length:=aM _ (by omega) (by omega)
 have n:=fun H nx (g':Bs H nx x q)=>eN g' L.length (by omega) (by omega)
 have l1:(q++vnum L.length).length≤q.length+10:=by simp;omega
 generalize q++vnum L.length=Q at*
 have lk:Go.Sx.look H nx ⟨[],[some (.cells (byt Q))]⟩ nx=some (.cells (byt Q)):=by simp [Go.Sx.look,ltF]
 have lp : ∃ h' i',iter (runCS ⟨Ω,noG,H,nx⟩ (L.length+1) ir30_0) (L.length+1) ⟨[(0,.arr nx 0 Q.length 1 Q.length false),(12,.p (entP (Ent.row fl) 5 L)),(13,.int .i64 L.length),(14,.int .i64 0)],⟨[],[some (.cells (byt Q))]⟩⟩=
   some (.exit 0,⟨[(0,.arr i' 0 (Q++entB L).length 1 (Q++entB L).length false),(12,.p (entP (Ent.row fl) 5 L)),(13,.int .i64 L.length),(14,.int .i64 L.length),(15,.bool false)],h'⟩) ∧
   Go.Sx.look H nx h' i'=some (.cells (byt (Q++entB L)))∧nx≤i'∧h'.upd=[]:=by
  by_cases h0:L=[]
  ·subst h0
   have hE:Q++entB []=Q:=by simp [entB]
   rw [hE]
   exact ⟨_,nx,aN (n:=0) (vx 1 0 _ _) (by simp),lk,Nat.le_refl _,rfl⟩
  ·rw [entP,if_neg h0]
   exact xD (L.length+1) L fl false (by omega) hf L.length 0 (L.length+1) Q nx _ (by omega) (by omega) lk (by simp) (Nat.le_refl _) rfl (by rw [List.drop_zero];omega)
 obtain ⟨h',i',e1,e2,e3,e4⟩:=lp
 have f:=wT e4 e3 e2
 generalize Q++entB L=Q2 at*
 have len : ∀ z,entP (Ent.row fl) 5 L=z→(z = .s (.slice none 0 0)∧L.length=0)∨∃ R,z = .sl R L.length 5 false:=by
  intro z hz
  unfold entP at hz
  split at hz
  ·rename_i h;exact .inl ⟨hz.symm,by rw [h];rfl⟩
  ·exact .inr ⟨_,hz.symm⟩
 have lz:=len _ rfl
 clear len
 generalize entP (Ent.row fl) 5 L=z at*
 rcases lz with ⟨rfl,h0⟩|⟨R,rfl⟩
 ·rw [h0] at e1 n w1 ⊢
  simp only [Int.natCast_zero,Int.ofNat_zero] at e1 n w1
  cases b with
  | nil=>
   have m1:=fun H nx=>n H nx .nil
   simp [ir30,ssB,ssU,ak,aj,aa,Go.Sx.splice,Go.Sx.leI_eq,ltF,bf,m1,w1,e1,f,push]
  | sl _ fl'=>
   have m1:=fun H nx=>n H nx (.sl q fl')
   simp [ir30,ssB,ssU,ak,aj,aa,Go.Sx.splice,Go.Sx.leI_eq,ltF,bf,m1,w1,e1,f,push]
  | arr _ G id off cp ex h1 h2 h3 h4=>
   have m1:=fun H nx e1 e2=>n H nx (.arr q G id off cp ex e1 e2 h3 h4)
   have m2:=m1 (Go.Sx.look H nx ⟨[],[]⟩) nx (by simp [Go.Sx.look,findU,h2,h1]) h2
   simp [ir30,ssB,ssU,ak,aj,aa,Go.Sx.splice,Go.Sx.leI_eq,ltF,bf,m2,w1,e1,f,push]
 ·cases b with
  | nil=>
   have m1:=fun H nx=>n H nx .nil
   simp [ir30,ssB,ssU,ak,aj,aa,Go.Sx.splice,Go.Sx.leI_eq,ltF,bf,m1,w1,e1,f,push]
  | sl _ fl'=>
   have m1:=fun H nx=>n H nx (.sl q fl')
   simp [ir30,ssB,ssU,ak,aj,aa,Go.Sx.splice,Go.Sx.leI_eq,ltF,bf,m1,w1,e1,f,push]
  | arr _ G id off cp ex h1 h2 h3 h4=>
   have m1:=fun H nx e1 e2=>n H nx (.arr q G id off cp ex e1 e2 h3 h4)
   have m2:=m1 (Go.Sx.look H nx ⟨[],[]⟩) nx (by simp [Go.Sx.look,findU,h2,h1]) h2
   simp [ir30,ssB,ssU,ak,aj,aa,Go.Sx.splice,Go.Sx.leI_eq,ltF,bf,m2,w1,e1,f,push]
end Go.Proofs.YtppeggedcaabkaaGreatDoor
end

section
namespace Go.Proofs.YtppeggedcaabkaaGreatDoor
open Go Go.Sx
theorem sd {H:Heap} {nx:Nat} {h:Hp} (N:Nat) (L:List Ent) (fl ff:Bool) (j:Nat) (x:Ent) (hj:L[j]?=some x) (Q:List UInt8) (y:LV) (hy:(∃ f2,y = .p (.sl (bytP Q) Q.length 1 f2))∨∃ i ex,y = .arr i 0 Q.length 1 Q.length ex∧Go.Sx.look H nx h i=some (.cells (byt Q))∧i<nx+h.new.length) (hL:L.length<2^31)
  (hid:x.id<2^32) (hn:x.v.ev.norm) (hm:x.v.ev.max<2^64) (hb:(evBits x.v.ev).length<2^18) (hq:Q.length<2^28):
  ∃ h',runCS ⟨Ω,noG,H,nx⟩ N ir37_0 ⟨[(3,y),(10,.p (.sl (rows (Ent.rrow fl) L) L.length 4 ff)),(11,.int .i64 L.length),(12,.int .i64 j)],h⟩=
   some (.normal,⟨[(3,.p (.sl (bytP (Q++x.bytes)) (Q++x.bytes).length 1 false)),(10,.p (.sl (rows (Ent.rrow fl) L) L.length 4 ff)),(11,.int .i64 L.length),(12,.int .i64 (j+1:Nat))],h'⟩)∧h'.upd=h.upd:=by
 obtain ⟨hjl,_⟩:=List.getElem?_eq_some_iff.1 hj
 have hr:=hJ (Ent.rrow fl) 4 (fun _=>rfl) L j x hj
 have hrl:=bM (Ent.rrow fl) 4 (fun _=>rfl) L
 have g1 : ¬(L.length:Int)≤j:=by omega
 have w1:IntKind.i64.wrap ((j:Int)+1)=(j:Int)+1:=am _ (by omega) (by omega)
 have w2:IntKind.u64.wrap (x.id:Int)=x.id:=aM _ (by omega) (by omega)
 have v1:=ai x.id (by omega)
 have v0:=dn x.id
 have hle:j*4+4≤(rows (Ent.rrow fl) L).length:=by rw [hrl];omega
 have n1:=gZ x.id (by omega)
 have vb:=pY x.v fl hn hm hb
 have hp:=aV (evBits x.v.ev)
 have tl:=io (pack (evBits x.v.ev)) (by omega)
 have hvl:x.v.bytes.length<2^19+40:=by
  unfold Vsn.bytes
  rw [List.length_append]
  have:=jL x.v.nm
  split<;>simp<;>omega
 have t1:=fK x.v.bytes (by omega)
 have tl2:=ai x.v.bytes.length (by omega)
 have tl3:(txt x.v.bytes).length=(vnum x.v.bytes.length).length+x.v.bytes.length:=by rw [txt,List.length_append]
 have hE:Q++x.bytes=Q++vnum x.id++txt x.v.bytes:=by simp [Ent.bytes]
 have bb:=aO x.v.bytes
 obtain ⟨cs,hcs⟩:=Ev.rv_imm x.v.ev
 have hne:Q++vnum x.id++txt x.v.bytes≠[]:=by
  intro h
  have:=congrArg List.length h
  simp only [List.length_append,List.length_nil] at this
  omega
 rw [hE]
 have j3 : ∀ (H:Heap) (nx aid i1 i2:Nat) (y:LV) (e1 e2:Bool),Bs H nx y Q→H aid=some (.cells [y,.arr i1 0 (vnum x.id).length 1 (vnum x.id).length e1,.arr i2 0 (txt x.v.bytes).length 1 (txt x.v.bytes).length e2])→aid<nx→H i1=some (.cells (byt (vnum x.id)))→i1<nx→H i2=some (.cells (byt (txt x.v.bytes)))→i2<nx →
   Ω 36 [.arr aid 0 3 1 3 true] H nx=some (sum' (Q++vnum x.id++txt x.v.bytes),[],[]):=fun H nx aid i1 i2 y e1 e2 g h0 h0' a1 b1 a2 b2=>
  nP g (.whole a1 b1) (.whole a2 b2) (by omega) aid h0 h0'
 rw [co hne] at j3
 simp only [Vsn.rv,hcs] at vb
 have rr:Ent.rrow fl x=[.s (.int .u32 x.id),.imm cs 0,crd x.v.nm fl,.s (.bool x.v.gone)]:=by simp only [Ent.rrow,hcs]
 rw [rr] at hr
 generalize Q++vnum x.id++txt x.v.bytes=Q2 at*
 generalize txt x.v.bytes=T at*
 generalize vnum x.id=V at*
 generalize x.v.bytes=B at*
 generalize decide (x.id<128)=e1 at*
 generalize B.isEmpty=e2 at*
 generalize rows (Ent.rrow fl) L=R at*
 have tk:List.take 4 (List.drop (j*4) (List.map LV.p R))=pc [.s (.int .u32 x.id),.imm cs 0,crd x.v.nm fl,.s (.bool x.v.gone)]:=by rw [←List.map_drop,←List.map_take,hr];rfl
 have so:=fun o o'=>dD nx h o o'
 have hq' : ∀ o:Go.Sx.Obj,(⟨h.upd,h.new++[some o]⟩:Hp)=push h o:=fun o=>rfl
 rcases hy with ⟨f2,rfl⟩|⟨i,ex,rfl,hi,hlt⟩
 ·have jj:=fun (H:Heap)=>j3 H (nx+(h.new.length+1+1+1+1)) (nx+(h.new.length+1+1+1)) (nx+(h.new.length+1)) (nx+(h.new.length+1+1)) (.p (.sl (bytP Q) Q.length 1 f2)) e1 e2 (.sl Q f2)
  have e:=Eq.refl (runCS ⟨Ω,noG,H,nx⟩ N ir37_0 ⟨[(3,.p (.sl (bytP Q) Q.length 1 f2)),(10,.p (.sl R L.length 4 ff)),(11,.int .i64 L.length),(12,.int .i64 j)],h⟩)
  conv at e=>rhs;simp [ir37_0,ssB,ssU,ak,aj,aa,Go.Sx.splice,Go.Sx.leI_eq,ltF,g1,w1,w2,hjl,tk,aS,bd,hle,so,hq',ao,az,aE,n1,vb,t1,bb,aF,ah,au,bf,jj]
  exact ⟨_,e,rfl⟩
 ·have ne0 : ¬i=nx+h.new.length:=by omega
  have ne1 : ∀ k,¬i=nx+(h.new.length+k):=fun k=>by omega
  have ne2 : ¬i=nx+(h.new.length+1+1):=by omega
  have ne3 : ¬i=nx+(h.new.length+1+1+1):=by omega
  have nf1 : ¬nx+(h.new.length+1)=i:=by omega
  have nf2 : ¬nx+(h.new.length+1+1)=i:=by omega
  have nf3 : ¬nx+(h.new.length+1+1+1)=i:=by omega
  have lt1 : ∀ k,i<nx+(h.new.length+k):=fun k=>by omega
  have lt3:i<nx+(h.new.length+1+1+1+1):=by omega
  have jj:=fun (H:Heap) (g:H i=some (.cells (byt Q)))=>j3 H (nx+(h.new.length+1+1+1+1)) (nx+(h.new.length+1+1+1)) (nx+(h.new.length+1)) (nx+(h.new.length+1+1)) (.arr i 0 Q.length 1 Q.length ex) e1 e2 (.whole g lt3)
  have e:=Eq.refl (runCS ⟨Ω,noG,H,nx⟩ N ir37_0 ⟨[(3,.arr i 0 Q.length 1 Q.length ex),(10,.p (.sl R L.length 4 ff)),(11,.int .i64 L.length),(12,.int .i64 j)],h⟩)
  conv at e=>rhs;simp [ir37_0,ssB,ssU,ak,aj,aa,Go.Sx.splice,Go.Sx.leI_eq,ltF,g1,w1,w2,hjl,tk,aS,bd,hle,so,hq',ao,az,aE,n1,vb,t1,bb,aF,ah,au,bf,jj,ne0,ne1,ne2,ne3,nf1,nf2,nf3,lt1,lt3,hi]
  exact ⟨_,e,rfl⟩
theorem vM {H:Heap} {nx:Nat} {h:Hp} (N n:Nat) (y X:LV):runCS ⟨Ω,noG,H,nx⟩ N ir37_0 ⟨[(3,y),(10,X),(11,.int .i64 n),(12,.int .i64 n)],h⟩=some (.exit 0,⟨[(3,y),(10,X),(11,.int .i64 n),(12,.int .i64 n),(13,.bool false)],h⟩):=by
 simp [ir37_0,ssB,ssU,ssP,appO]
theorem xL {H:Heap} {nx:Nat} (N:Nat) (L:List Ent) (fl ff:Bool) (hL:L.length<2^31) (hf : ∀ x∈L,x.fit∧x.v.ev.norm) : ∀ (d j m:Nat) (Q:List UInt8) (f2:Bool) (h:Hp),j+d=L.length→d<m→h.upd=[]→Q.length+(entB (L.drop j)).length<2^28 →
  ∃ h' f3,iter (runCS ⟨Ω,noG,H,nx⟩ N ir37_0) m ⟨[(3,.p (.sl (bytP Q) Q.length 1 f2)),(10,.p (.sl (rows (Ent.rrow fl) L) L.length 4 ff)),(11,.int .i64 L.length),(12,.int .i64 j)],h⟩=
   some (.exit 0,⟨[(3,.p (.sl (bytP (Q++entB (L.drop j))) (Q++entB (L.drop j)).length 1 f3)),(10,.p (.sl (rows (Ent.rrow fl) L) L.length 4 ff)),(11,.int .i64 L.length),(12,.int .i64 L.length),(13,.bool false)],h'⟩)∧h'.upd=[]∧(f2=false→f3=false):=by
 intro d
 induction d with
 | zero=>
  intro j m Q f2 h hj hm hu hq
  obtain ⟨m,rfl⟩ : ∃ r,m=r+1:=⟨m-1,by omega⟩
  obtain rfl:j=L.length:=by omega
  rw [List.drop_length,entB,List.append_nil]
  exact ⟨h,f2,aN (vM N _ _ _) (by simp),hu,id⟩
 | succ d ih=>
  intro j m Q f2 h hj hm hu hq
  obtain ⟨m,rfl⟩ : ∃ r,m=r+1:=⟨m-1,by omega⟩
  have hjl:j<L.length:=by omega
  have hd:L.drop j=L[j]::L.drop (j+1):=List.drop_eq_getElem_cons hjl
  obtain ⟨⟨f1,f2',f3⟩,f4⟩:=hf L[j] (List.getElem_mem hjl)
  have hE:Q++entB (L.drop j)=(Q++L[j].bytes)++entB (L.drop (j+1)):=by rw [hd,entB,List.append_assoc]
  have hEl:=congrArg List.length hE
  rw [List.length_append,List.length_append] at hEl
  obtain ⟨h',e1,e2⟩:=sd (H:=H) (nx:=nx) (h:=h) N L fl ff j L[j] (List.getElem?_eq_getElem hjl) Q _ (.inl ⟨f2,rfl⟩) hL f1 f4 f2' f3 (by omega)
  rw [aP e1,hE]
  obtain ⟨h2,f5,q1,q2,q3⟩:=ih (j+1) m (Q++L[j].bytes) false h' (by omega) (by omega) (by rw [e2];exact hu) (by omega)
  exact ⟨h2,f5,q1,q2,fun _=>q3 rfl⟩
theorem lr (L:List Ent) (fl:Bool) (hL:L.length<100) (hf : ∀ x∈L,x.fit∧x.v.ev.norm) (hq:(entB L).length<2^27) (H:Heap) (nx:Nat):
  Ω 37 [.p (entP (Ent.rrow fl) 4 L)] H nx=some (.p (.sl (bytP (vnum L.length++entB L)) (vnum L.length++entB L).length 1 L.isEmpty),[],[]):=by
 refine af (ir:=ir37) (by kernel_rfl) (L.length+1) ?_
 have w1:IntKind.u64.wrap (L.length:Int)=L.length:=aM _ (by omega) (by omega)
 have n:=fun H nx=>gZ L.length (by omega) H nx
 have v1:=ai L.length (by omega)
 cases L with
 | nil=>
  have n0 : ∀ (H:Heap) (nx:Nat),Ω 32 [.int .u64 0] H nx=some (.arr nx 0 1 1 1 true,[],[some (.cells [.int .u8 0])]):=fun H nx=>pR 0 (by decide) H nx
  have w0:IntKind.u64.wrap 0=0:=by decide
  have lp:=fun h y=>aN (n:=0) (vM (H:=H) (nx:=nx) (h:=h) 1 0 y (.p (.s (.slice none 0 0)))) (by simp)
  have v0:=bQ (show 0<128 by decide)
  have c0:((0:Nat):Int)=0:=rfl
  simp only [c0] at lp
  simp [ir37,ssB,ssU,ssP,appO,entP,n0,w0,lp,bytP,entB,v0]
 | cons x0 L0=>
  generalize hLL:x0::L0=L at*
  have hne:L≠[]:=by rw [←hLL];simp
  have hpos:0<L.length:=by rw [←hLL];simp
  have hie:L.isEmpty=false:=by rw [←hLL];rfl
  have h0:L[0]?=some x0:=by rw [←hLL];rfl
  have hd:L.drop 1=L0:=by rw [←hLL];rfl
  obtain ⟨⟨f1,f2',f3⟩,f4⟩:=hf x0 (by rw [←hLL];exact List.mem_cons_self)
  have hE:entB L=x0.bytes++entB L0:=by rw [←hLL];rfl
  have hEl:=congrArg List.length hE
  rw [List.length_append] at hEl
  rw [entP,if_neg hne,hie]
  generalize hV:vnum L.length=V at*
  have lk:Go.Sx.look H nx ⟨[],[some (.cells (byt V))]⟩ nx=some (.cells (byt V)):=by simp [Go.Sx.look,ltF]
  generalize decide (L.length<128)=ex at*
  obtain ⟨h1,e1,e2⟩:=sd (H:=H) (nx:=nx) (h:=⟨[],[some (.cells (byt V))]⟩) (L.length+1) L fl false 0 x0 h0 V _ (.inr ⟨nx,ex,rfl,lk,by simp⟩) (by omega) f1 f4 f2' f3 (by omega)
  obtain ⟨h2,f5,q1,q2,q3⟩:=xL (H:=H) (nx:=nx) (L.length+1) L fl false (by omega) hf (L.length-1) 1 L.length (V++x0.bytes) false h1 (by omega) (by omega) e2 (by rw [hd];simp;omega)
  have q4:=q3 rfl
  subst q4
  have lp:=(aP (n:=L.length) e1).trans q1
  have hE2:V++x0.bytes++entB (L.drop 1)=V++entB L:=by rw [hd,hE,List.append_assoc]
  rw [hE2] at lp
  have c0:((0:Nat):Int)=0:=rfl
  simp only [c0] at lp
  generalize V++entB L=Q at*
  have f:=cJ H nx (.sl (bytP Q) Q.length 1 false) h2 q2
  generalize rows (Ent.rrow fl) L=R at*
  simp [ir37,ssB,ssU,ak,aj,aa,Go.Sx.splice,Go.Sx.leI_eq,ltF,bf,push,w1,n,lp,f]
end Go.Proofs.YtppeggedcaabkaaGreatDoor
end

section
namespace Go.Proofs.YtppeggedcaabkaaGreatDoor
open Go Go.Sx
structure Nte where
 kind:Int
 fr:Int
 to:Int
 ses:Nat
 seq:Int
 last:Bool
 ev:Ev
 ents:List Ent
 gift:Gft
 no:Nat
abbrev Nte.cells (fl:Bool) (x:Nte):List PV:=[.s (.int .i64 x.kind),.s (.int .i64 x.fr),.s (.int .i64 x.to),.s (.int .u64 x.ses),.s (.int .i64 x.seq),.s (.bool x.last),.s (.int .u64 x.ev.n),x.ev.ptr,entP (Ent.row fl) 5 x.ents,
 .s (.int .u64 x.gift.no),.s (.int .i64 x.gift.fr),.s (.int .i64 x.gift.to),.s (.bool x.gift.sh.all),x.gift.sh.ptr,.s (.int .u64 x.no)]
abbrev Nte.pv (fl:Bool) (x:Nte):PV:=.agg (x.cells fl)
def toldB (n:Nte) (x:Ent):Bool:=(!x.v.gone||!x.v.nm)&&Ev.leqb x.v.ev n.ev
theorem zW (x:Ent) (n:Nte) (fl fl2:Bool) (hx:x.v.ev.max<2^63) (hn:n.ev.max<2^63) (id:Nat) (H:Heap) (nx:Nat) (hl:H id=some (.cells (pc (n.cells fl2)))) (hid:id<nx):
  Ω 88 [.p (.agg (x.row fl)),.ref id 0] H nx=some (.bool (!toldB n x),[],[]):=by
 refine af (ir:=ir88) (by kernel_rfl) 0 ?_
 have r:=tN x.v fl
 have l:=pf x.v.ev n.ev hx hn
 have ne : ¬id=nx:=by omega
 have hk : ∀ k,id<nx+k:=fun k=>by omega
 unfold toldB
 rw [Nte.cells] at hl
 simp only [aS,bd] at hl
 generalize (!x.v.gone||!x.v.nm)=a at*
 generalize Ev.leqb x.v.ev n.ev=b at*
 cases a
 ·simp [ir88,ssB,ssU,ssP,appO,hl,hid,ne,hk,r,l]
 ·cases b<;>simp [ir88,ssB,ssU,ssP,appO,hl,hid,ne,hk,r,l]
section
variable {H:Heap} {nx:Nat} {h:Hp}
abbrev tfn (id:Nat):LV:=.fn 88 [] [.ref id 0]
theorem xi (N:Nat) (L:List Ent) (fl ff fl2:Bool) (n:Nte) (j:Nat) (x:Ent) (hj:L[j]?=some x) (hL:L.length<2^31) (hx:x.v.ev.max<2^63) (hn:n.ev.max<2^63) (id:Nat) (hl:Go.Sx.look H nx h id=some (.cells (pc (n.cells fl2)))) (hid:id<nx+h.new.length):
  runCS ⟨Ω,noG,H,nx⟩ N ir144_0 ⟨[(0,.p (.sl (rows (Ent.row fl) L) L.length 5 ff)),(1,tfn id),(7,.int .i64 L.length),(8,.int .i64 j)],h⟩=
   if toldB n x then some (.normal,⟨[(0,.p (.sl (rows (Ent.row fl) L) L.length 5 ff)),(1,tfn id),(7,.int .i64 L.length),(8,.int .i64 (j+1:Nat))],h⟩) else some (.ret,⟨[(4,.int .i64 j)],h⟩):=by
 obtain ⟨hjl,_⟩:=List.getElem?_eq_some_iff.1 hj
 have hr:=hJ (Ent.row fl) 5 (fun _=>rfl) L j x hj
 have hrl:=bM (Ent.row fl) 5 (fun _=>rfl) L
 have g1 : ¬(L.length:Int)≤j:=by omega
 have w1:IntKind.i64.wrap ((j:Int)+1)=(j:Int)+1:=am _ (by omega) (by omega)
 have hle:j*5+5≤(rows (Ent.row fl) L).length:=by rw [hrl];omega
 have t:=zW x n fl fl2 hx hn id (Go.Sx.look H nx h) (nx+h.new.length) hl hid
 generalize toldB n x=b at*
 generalize rows (Ent.row fl) L=R at*
 have tk:List.take 5 (List.drop (j*5) (List.map LV.p R))=pc (Ent.row fl x):=by rw [←List.map_drop,←List.map_take,hr];rfl
 cases b<;>simp [ir144_0,ssB,ssU,ak,aj,aa,Go.Sx.splice,Go.Sx.leI_eq,ltF,g1,w1,hjl,tk,aS,bd,hle,t]
theorem uQ (N n:Nat) (y f:LV):runCS ⟨Ω,noG,H,nx⟩ N ir144_0 ⟨[(0,y),(1,f),(7,.int .i64 n),(8,.int .i64 n)],h⟩=some (.exit 0,⟨[(0,y),(1,f),(7,.int .i64 n),(8,.int .i64 n),(9,.bool false)],h⟩):=by
 simp [ir144_0,ssB,ssU,ak,aj,aa,Go.Sx.splice,Go.Sx.leI_eq,ltF]
theorem xh (N:Nat) (L:List Ent) (fl ff fl2:Bool) (n:Nte) (hL:L.length<2^31) (hx : ∀ x∈L,x.v.ev.max<2^63) (hn:n.ev.max<2^63) (id:Nat) (hl:Go.Sx.look H nx h id=some (.cells (pc (n.cells fl2)))) (hid:id<nx+h.new.length) : ∀ (d j m:Nat),j+d=L.length→d<m →
  (((L.drop j).all (toldB n)=true∧iter (runCS ⟨Ω,noG,H,nx⟩ N ir144_0) m ⟨[(0,.p (.sl (rows (Ent.row fl) L) L.length 5 ff)),(1,tfn id),(7,.int .i64 L.length),(8,.int .i64 j)],h⟩=
   some (.exit 0,⟨[(0,.p (.sl (rows (Ent.row fl) L) L.length 5 ff)),(1,tfn id),(7,.int .i64 L.length),(8,.int .i64 L.length),(9,.bool false)],h⟩)) ∨
   ((L.drop j).all (toldB n)=false∧∃ k:Nat,iter (runCS ⟨Ω,noG,H,nx⟩ N ir144_0) m ⟨[(0,.p (.sl (rows (Ent.row fl) L) L.length 5 ff)),(1,tfn id),(7,.int .i64 L.length),(8,.int .i64 j)],h⟩=some (.ret,⟨[(4,.int .i64 k)],h⟩))):=by
 intro d
 induction d with
 | zero=>
  intro j m hj hm
  obtain ⟨m,rfl⟩ : ∃ r,m=r+1:=⟨m-1,by omega⟩
  obtain rfl:j=L.length:=by omega
  exact .inl ⟨by simp,aN (uQ N _ _ _) (by simp)⟩
 | succ d ih=>
  intro j m hj hm
  obtain ⟨m,rfl⟩ : ∃ r,m=r+1:=⟨m-1,by omega⟩
  have hjl:j<L.length:=by omega
  have hd:L.drop j=L[j]::L.drop (j+1):=List.drop_eq_getElem_cons hjl
  have e:=xi N L fl ff fl2 n j L[j] (List.getElem?_eq_getElem hjl) hL (hx _ (List.getElem_mem hjl)) hn id hl hid
  rw [hd,List.all_cons]
  by_cases ht:toldB n L[j]=true
  ·rw [if_pos ht] at e
   rw [aP e,ht,Bool.true_and]
   exact ih (j+1) m (by omega) (by omega)
  ·rw [if_neg ht] at e
   refine .inr ⟨by simp [ht],j,aN e (by simp)⟩
end
theorem sV (L:List Ent) (fl fl2:Bool) (n:Nte) (hL:L.length<2^31) (hx : ∀ x∈L,x.v.ev.max<2^63) (hn:n.ev.max<2^63) (id:Nat) (H:Heap) (nx:Nat) (hl:H id=some (.cells (pc (n.cells fl2)))) (hid:id<nx):
  Ω 87 [.p (entP (Ent.row fl) 5 L),tfn id] H nx=some (.bool (!L.all (toldB n)),[],[]):=by
 have ix : ∀ (H:Heap) (nx:Nat),H id=some (.cells (pc (n.cells fl2)))→id<nx→∃ v:Int,Ω 144 [.p (entP (Ent.row fl) 5 L),tfn id] H nx=some (.int .i64 v,[],[])∧decide (0≤v)=!L.all (toldB n):=by
  intro H nx hl hid
  have hlk:Go.Sx.look H nx ⟨[],[]⟩ id=some (.cells (pc (n.cells fl2))):=by simp [Go.Sx.look,findU,hid,hl]
  by_cases h0:L=[]
  ·subst h0
   refine ⟨-1,?_,by simp⟩
   refine af (ir:=ir144) (by kernel_rfl) 1 ?_
   have lp:=fun h y f=>aN (n:=0) (uQ (H:=H) (nx:=nx) (h:=h) 1 0 y f) (by simp)
   have c0:((0:Nat):Int)=0:=rfl
   simp only [c0] at lp
   simp [ir144,ssB,ssU,ssP,appO,entP,lp]
  ·rw [entP,if_neg h0]
   have lp:=xh (H:=H) (nx:=nx) (h:=⟨[],[]⟩) (L.length+1) L fl false fl2 n hL hx hn id hlk (by simpa using hid) L.length 0 (L.length+1) (by omega) (by omega)
   rw [List.drop_zero] at lp
   have c0:((0:Nat):Int)=0:=rfl
   simp only [c0] at lp
   rcases lp with ⟨ha,e⟩|⟨ha,k,e⟩
   ·refine ⟨-1,af (ir:=ir144) (by kernel_rfl) (L.length+1) ?_,by simp [ha]⟩
    generalize rows (Ent.row fl) L=R at*
    simp [ir144,ssB,ssU,ssP,appO,e]
   ·refine ⟨k,af (ir:=ir144) (by kernel_rfl) (L.length+1) ?_,by simp [ha]⟩
    generalize rows (Ent.row fl) L=R at*
    simp [ir144,ssB,ssU,ssP,appO,e]
 refine af (ir:=ir87) (by kernel_rfl) 0 ?_
 obtain ⟨v,e,hv⟩:=ix (Go.Sx.look H nx ⟨[],[]⟩) nx (by simp [Go.Sx.look,findU,hid,hl]) hid
 rw [←hv]
 generalize entP (Ent.row fl) 5 L=z at*
 have f:=fun b=>cJ H nx (.s (.bool b)) ⟨[],[]⟩ rfl
 simp [ir87,ssB,ssU,ak,aj,aa,Go.Sx.splice,Go.Sx.leI_eq,ltF,e,f]
theorem AP (n:Nte) (fl:Bool) (hL:n.ents.length<2^31) (hx : ∀ x∈n.ents,x.v.ev.max<2^63) (hn:n.ev.max<2^63) (H:Heap) (nx:Nat):
  Ω 41 [.p (n.pv fl)] H nx=some (.bool (n.ents.all (toldB n)),[],[]):=by
 refine af (ir:=ir41) (by kernel_rfl) 0 ?_
 have c:=fun H nx id hl hid=>sV n.ents fl fl n hL hx hn id H nx hl hid
 generalize n.ents.all (toldB n)=b at*
 simp only [Nte.cells,aS,bd] at c
 simp only [Nte.pv,Nte.cells]
 generalize entP (Ent.row fl) 5 n.ents=z at*
 cases b<;>simp [ir41,ssB,ssU,ssP,appO,c]
end Go.Proofs.YtppeggedcaabkaaGreatDoor
end

section
namespace Go.Proofs.YtppeggedcaabkaaGreatDoor
open Go Go.Sx
def noneB (e:Ev):Bool:=Ev.leqb e (.leaf 0)&&Ev.leqb (.leaf 0) e
def plainB (g:Gft):Bool:=decide (g.no=0)&&(decide (g.fr=0)&&(decide (g.to=0)&&decide (g.sh = .zero)))
def partB (h p:Int) (b:Bool):Bool:=match binI .and .i64 h p with
 | some (.int _ v)=>decide (0<v)||b
 | _=>false
def Nte.zeroB (h:Int) (x:Nte):Bool:=partB h 1 (decide (x.ses=0))&&(partB h 2 (decide (x.seq=0))&&(partB h 16 (!x.last)&&(partB h 8 (noneB x.ev)&&(partB h 4 x.ents.isEmpty&&(partB h 32 (plainB x.gift)&&partB h 64 (decide (x.no=0)))))))
end Go.Proofs.YtppeggedcaabkaaGreatDoor
end

section
namespace Go.Proofs.YtppeggedcaabkaaGreatDoor
open Go Go.Sx
theorem zt (h p:Int) (b:Bool) (H:Heap) (nx:Nat):
  Ω 84 [.int .i64 p,.bool b,.p (.imm [.s (.int .i64 h)] 0)] H nx=some (.bool (partB h p b),[],[]):=by
 obtain ⟨v,hv⟩ : ∃ v,binI .and .i64 h p=some (.int .i64 v):=⟨_,rfl⟩
 have e:partB h p b=(decide (0<v)||b):=by rw [partB,hv]
 refine af (ir:=ir84) (by kernel_rfl) 0 ?_
 rw [e]
 by_cases h0:0<v
 ·have h1 : ¬v≤0:=by omega
  simp [ir84,ssI,↓ssJ,List.idxOf?_cons,Go.Sx.LV.undef,Go.undef,Go.Sx.callO,Go.Sx.splice,Go.Sx.finish,Go.Sx.look,Go.Sx.push,Go.Sx.setObj,Go.Sx.setU,Go.Sx.setAll,appO,Go.Sx.leI_eq,ltF,hv,h0,h1]
 ·have h1:v≤0:=by omega
  simp [ir84,ssI,↓ssJ,List.idxOf?_cons,Go.Sx.LV.undef,Go.undef,Go.Sx.callO,Go.Sx.splice,Go.Sx.finish,Go.Sx.look,Go.Sx.push,Go.Sx.setObj,Go.Sx.setU,Go.Sx.setAll,appO,Go.Sx.leI_eq,ltF,hv,h0,h1]
theorem ee (f:Ent→List PV) (k:Nat) (L:List Ent):(L=[]∧entP f k L = .s (.slice none 0 0))∨(L≠[]∧0<L.length∧entP f k L = .sl (rows f L) L.length k false):=by
 unfold entP
 split
 ·rename_i h;exact .inl ⟨h,rfl⟩
 ·rename_i h;exact .inr ⟨h,List.length_pos_iff.2 h,rfl⟩
theorem AU (n:Nte) (fl:Bool) (hev:n.ev.max<2^63) (H:Heap) (nx:Nat):Ω 40 [.p (n.pv fl)] H nx=some (.bool (n.zeroB (hasK n.kind)),[],[]):=by
 refine af (ir:=ir40) (by kernel_rfl) 0 ?_
 have hk:=fun H nx=>gP n.kind H nx
 have sm:=fun H nx=>wP n.ev (.leaf 0) hev (by simp [Ev.max]) H nx
 have iz:=fun H nx=>aR n.gift.sh H nx
 unfold Nte.zeroB
 generalize hasK n.kind=h at*
 have e0:(Ev.leaf 0).pv = .agg [.s (.int .u64 0),.s (.pointer none)]:=rfl
 have en:n.ev.pv = .agg [.s (.int .u64 n.ev.n),n.ev.ptr]:=rfl
 have ei:n.gift.sh.pv = .agg [.s (.bool n.gift.sh.all),n.gift.sh.ptr]:=rfl
 rw [e0,en] at sm
 rw [ei] at iz
 have hlen : ∃ z,entP (Ent.row fl) 5 n.ents=z∧((z = .s (.slice none 0 0)∧n.ents.isEmpty=true)∨∃ R m,z = .sl R (m+1) 5 false∧n.ents.isEmpty=false):=by
  refine ⟨_,rfl,?_⟩
  rcases ee (Ent.row fl) 5 n.ents with ⟨h,e⟩|⟨h,h',e⟩
  ·exact .inl ⟨e,by simp [h]⟩
  ·exact .inr ⟨_,n.ents.length-1,by rw [e];congr 1;omega,by simp [h]⟩
 obtain ⟨z,hz,hlen⟩:=hlen
 simp only [Nte.pv,Nte.cells,hz]
 have hn:noneB n.ev=(Ev.leqb n.ev (.leaf 0)&&Ev.leqb (.leaf 0) n.ev):=rfl
 rw [←hn] at sm
 unfold plainB
 generalize noneB n.ev=b4 at*
 generalize n.gift.sh.all=sa at*
 generalize n.gift.sh.ptr=sp at*
 generalize (decide (n.gift.sh = .zero))=b8 at*
 generalize n.ev.ptr=ep at*
 generalize n.ev.n=evn at*
 generalize n.ents.isEmpty=b5 at*
 rcases hlen with ⟨rfl,rfl⟩|⟨R,m,rfl,rfl⟩
 all_goals
  have m1 : ∀ m:Nat,¬((m:Int)+1=0):=fun m=>by omega
  simp +contextual (maxSteps:=1000000) [ir40,ssI,↓ssJ,List.idxOf?_cons,Go.Sx.LV.undef,Go.undef,Go.Sx.callO,Go.Sx.splice,Go.Sx.finish,Go.Sx.look,Go.Sx.push,Go.Sx.setObj,Go.Sx.setU,Go.Sx.setAll,appO,Go.Sx.leI_eq,ltF,hk,sm,iz,zt,Bool.and_assoc,m1]
def Nte.right (n:Nte):Bool:=decide (0≤hasK n.kind)&&nodeB n.fr&&nodeB n.to&&!decide (n.fr=n.to)&&(n.zeroB (hasK n.kind)&&decide (0≤n.seq)&&!decide (256≤n.seq)&&n.ents.all (toldB n)&&
 (if n.kind=3 then decide ((n.ents.length:Int)≤4) else !decide (n.kind=6)||n.gift.right&&decide (n.gift.fr=n.fr)&&decide (n.gift.to=n.to)))
theorem bJ (n:Nte) (fl:Bool) (hL:n.ents.length<2^31) (hx : ∀ x∈n.ents,x.v.ev.max<2^63) (hev:n.ev.max<2^63) (H:Heap) (nx:Nat):
  Ω 12 [.p (n.pv fl)] H nx=some (.bool n.right,[],[]):=by
 refine af (ir:=ir12) (by kernel_rfl) 0 ?_
 have hk:=fun H nx=>gP n.kind H nx
 have z:=fun H nx=>AU n fl hev H nx
 have t:=fun H nx=>AP n fl hL hx hev H nx
 have g:=fun H nx=>pj n.gift H nx
 have hlen : ∃ z,entP (Ent.row fl) 5 n.ents=z∧((z = .s (.slice none 0 0)∧n.ents.length=0)∨∃ R,z = .sl R n.ents.length 5 false):=by
  refine ⟨_,rfl,?_⟩
  rcases ee (Ent.row fl) 5 n.ents with ⟨h,e⟩|⟨h,h',e⟩
  ·exact .inl ⟨e,by simp [h]⟩
  ·exact .inr ⟨_,e⟩
 obtain ⟨ez,hz,hlen⟩:=hlen
 unfold Nte.right
 simp only [Nte.pv,Nte.cells,hz] at z t ⊢
 simp only [Gft.pv] at g
 generalize n.zeroB (hasK n.kind)=b1 at*
 generalize n.ents.all (toldB n)=b2 at*
 generalize n.gift.right=b3 at*
 generalize hasK n.kind=h at*
 generalize n.ents.length=len at*
 rcases hlen with ⟨rfl,rfl⟩|⟨R,rfl⟩
 all_goals
  simp +contextual (maxSteps:=1000000) [ir12,ssI,↓ssJ,List.idxOf?_cons,Go.Sx.LV.undef,Go.undef,Go.Sx.callO,Go.Sx.splice,Go.Sx.finish,Go.Sx.look,Go.Sx.push,Go.Sx.setObj,Go.Sx.setU,Go.Sx.setAll,appO,Go.Sx.leI_eq,ltF,hk,z,t,g,ti]
  try (by_cases q:n.kind=3<;>simp [q])
end Go.Proofs.YtppeggedcaabkaaGreatDoor
end

section
namespace Go.Proofs.YtppeggedcaabkaaGreatDoor
open Go Go.Sx
abbrev Nte.rcells (fl:Bool) (x:Nte):List PV:=[.s (.int .i64 x.kind),.s (.int .i64 x.fr),.s (.int .i64 x.to),.s (.int .u64 x.ses),.s (.int .i64 x.seq),.s (.bool x.last),x.ev.rv,entP (Ent.rrow fl) 4 x.ents,
 .s (.int .u64 x.gift.no),.s (.int .i64 x.gift.fr),.s (.int .i64 x.gift.to),x.gift.sh.rv,.s (.int .u64 x.no),.s (.slice none 0 0)]
abbrev Nte.rv (fl:Bool) (x:Nte):PV:=.agg (x.rcells fl)
theorem AG (k f t:Int) (H:Heap) (nx:Nat):Ω 18 [.int .i64 k,.int .i64 f,.int .i64 t] H nx=some (.p (Nte.rv false ⟨k,f,t,0,0,false,.leaf 0,[],⟨0,0,0,.zero⟩,0⟩),[],[]):=by
 refine af (ir:=ir18) (by kernel_rfl) 0 ?_
 have l:=fun H nx=>ko 0 H nx
 simp only [Int.natCast_zero,Int.ofNat_zero] at l
 simp +contextual (maxSteps:=1000000) [ir18,ssI,↓ssJ,List.idxOf?_cons,Go.Sx.LV.undef,Go.undef,Go.Sx.callO,Go.Sx.splice,Go.Sx.finish,Go.Sx.look,Go.Sx.push,Go.Sx.setObj,Go.Sx.setU,Go.Sx.setAll,appO,Go.Sx.leI_eq,ltF,l,pM,Ev.rv_l,Id.rv_z,entP]
theorem xT {H:Heap} {nx:Nat} (N:Nat) (n:Nte) (fl:Bool) (hL:n.ents.length<2^31) (hx : ∀ x∈n.ents,x.v.ev.max<2^63) (hev:n.ev.max<2^63) (hn:n.ev.norm) (a0 a1 a2 a3 a4 a5 a8 a9 a10 a11 a12 a13:PV) (k:Int) (z7:PV) (j:Nat) (x:Ent) (hj:n.ents[j]?=some x):
  runCS ⟨Ω,noG,H,nx⟩ N ir13_0 ⟨[(1,.p (.imm [a0,a1,a2,a3,a4,a5,n.ev.rv,z7,a8,a9,a10,a11,a12,a13] 0)),(3,.int .i64 k),(181,.p (.sl (rows (Ent.rrow fl) n.ents) n.ents.length 4 false)),(182,.int .i64 n.ents.length),(183,.int .i64 j)],⟨[],[]⟩⟩=
   if toldB n x=true then some (.normal,⟨[(1,.p (.imm [a0,a1,a2,a3,a4,a5,n.ev.rv,z7,a8,a9,a10,a11,a12,a13] 0)),(3,.int .i64 k),(181,.p (.sl (rows (Ent.rrow fl) n.ents) n.ents.length 4 false)),(182,.int .i64 n.ents.length),(183,.int .i64 (j+1:Nat))],⟨[],[]⟩⟩)
   else some (.ret,⟨[(2,.bool false)],⟨[],[]⟩⟩):=by
 obtain ⟨hjl,-⟩:=List.getElem?_eq_some_iff.1 hj
 have hr:=hJ (Ent.rrow fl) 4 (fun _=>rfl) n.ents j x hj
 have hrl:=bM (Ent.rrow fl) 4 (fun _=>rfl) n.ents
 have g1 : ¬(n.ents.length:Int)≤j:=by omega
 have w1:IntKind.i64.wrap ((j:Int)+1)=(j:Int)+1:=am _ (by omega) (by omega)
 have hle:j*4+4≤(rows (Ent.rrow fl) n.ents).length:=by rw [hrl];omega
 have lq:=fun H nx=>AE x.v.ev n.ev hn (hx x (List.mem_of_getElem? hj)) hev H nx
 have hc:crd x.v.nm fl = .s (.slice none 0 0)∧x.v.nm=false∨(∃ R,crd x.v.nm fl = .sl R 1 3 fl)∧x.v.nm=true:=by
  cases x.v.nm
  ·exact .inl ⟨rfl,rfl⟩
  ·exact .inr ⟨⟨_,rfl⟩,rfl⟩
 obtain ⟨es,he⟩:=Ev.rv_imm n.ev
 unfold toldB
 generalize rows (Ent.rrow fl) n.ents=R at*
 have tk:List.take 4 (List.drop (j*4) (List.map LV.p R))=pc (Ent.rrow fl x):=by rw [←List.map_drop,←List.map_take,hr];rfl
 simp only [Ent.rrow] at tk
 generalize Ev.leqb x.v.ev n.ev=b at*
 rcases hc with ⟨e1,e2⟩|⟨⟨Q,e1⟩,e2⟩
 all_goals
  rw [e1] at tk
  rw [e2]
  simp +contextual (maxSteps:=1000000) [ir13_0,ssI,↓ssJ,List.idxOf?_cons,Go.Sx.LV.undef,Go.undef,Go.Sx.callO,Go.Sx.splice,Go.Sx.finish,Go.Sx.look,Go.Sx.push,Go.Sx.setObj,Go.Sx.setU,Go.Sx.setAll,appO,Go.Sx.leI_eq,ltF,g1,w1,hjl,hle,tk,aS,bd,lq]
  cases b<;>cases x.v.gone<;>simp [iteK]
theorem vV {H:Heap} {nx:Nat} (N:Nat) (y:List PV) (z:Int) (w:PV) (len:Nat):runCS ⟨Ω,noG,H,nx⟩ N ir13_0 ⟨[(1,.p (.imm y 0)),(3,.int .i64 z),(181,.p w),(182,.int .i64 len),(183,.int .i64 len)],⟨[],[]⟩⟩=
  some (.exit 0,⟨[(1,.p (.imm y 0)),(3,.int .i64 z),(181,.p w),(182,.int .i64 len),(183,.int .i64 len),(184,.bool false)],⟨[],[]⟩⟩):=by
 simp +contextual (maxSteps:=1000000) [ir13_0,ssI,↓ssJ,List.idxOf?_cons,Go.Sx.LV.undef,Go.undef,Go.Sx.callO,Go.Sx.splice,Go.Sx.finish,Go.Sx.look,Go.Sx.push,Go.Sx.setObj,Go.Sx.setU,Go.Sx.setAll,appO,Go.Sx.leI_eq,ltF]
theorem xS {H:Heap} {nx:Nat} (n:Nte) (fl:Bool) (hL:n.ents.length<2^31) (hx : ∀ x∈n.ents,x.v.ev.max<2^63) (hev:n.ev.max<2^63) (hn:n.ev.norm) (a0 a1 a2 a3 a4 a5 a8 a9 a10 a11 a12 a13:PV) (k:Int):
  iter (runCS ⟨Ω,noG,H,nx⟩ (n.ents.length+1) ir13_0) (n.ents.length+1) ⟨[(1,.p (.imm [a0,a1,a2,a3,a4,a5,n.ev.rv,entP (Ent.rrow fl) 4 n.ents,a8,a9,a10,a11,a12,a13] 0)),(3,.int .i64 k),(181,.p (entP (Ent.rrow fl) 4 n.ents)),(182,.int .i64 n.ents.length),(183,.int .i64 0)],⟨[],[]⟩⟩=
   if n.ents.all (toldB n)=true then some (.exit 0,⟨[(1,.p (.imm [a0,a1,a2,a3,a4,a5,n.ev.rv,entP (Ent.rrow fl) 4 n.ents,a8,a9,a10,a11,a12,a13] 0)),(3,.int .i64 k),(181,.p (entP (Ent.rrow fl) 4 n.ents)),(182,.int .i64 n.ents.length),(183,.int .i64 n.ents.length),(184,.bool false)],⟨[],[]⟩⟩) else some (.ret,⟨[(2,.bool false)],⟨[],[]⟩⟩):=by
 rcases ee (Ent.rrow fl) 4 n.ents with ⟨h,e⟩|⟨h,h',e⟩
 ·rw [e]
  have o:=vV (H:=H) (nx:=nx) (0+1) [a0,a1,a2,a3,a4,a5,n.ev.rv,.s (.slice none 0 0),a8,a9,a10,a11,a12,a13] k (.s (.slice none 0 0)) 0
  simp only [Int.natCast_zero,Int.ofNat_zero] at o
  simp only [h,List.length_nil,Int.natCast_zero,Int.ofNat_zero,List.all_nil,if_true] at o ⊢
  simp only [iter,o]
 ·exact uP (S:=fun j=>⟨[(1,.p (.imm [a0,a1,a2,a3,a4,a5,n.ev.rv,entP (Ent.rrow fl) 4 n.ents,a8,a9,a10,a11,a12,a13] 0)),(3,.int .i64 k),(181,.p (entP (Ent.rrow fl) 4 n.ents)),(182,.int .i64 n.ents.length),(183,.int .i64 (j:Nat))],⟨[],[]⟩⟩) (fun j x hj=>by rw [e];exact xT _ n fl hL hx hev hn a0 a1 a2 a3 a4 a5 a8 a9 a10 a11 a12 a13 k _ j x hj) (vV _ _ _ _ _) (by simp) (by simp) (Nat.lt_succ_self _)
def Nte.rright (n:Nte):Bool:=decide (1≤n.kind)&&decide (n.kind≤7)&&decide (0≤n.fr)&&decide (n.fr≤11)&&decide (0≤n.to)&&decide (n.to≤11)&&!decide (n.fr=n.to)&&decide (0≤n.seq)&&decide (n.seq≤255)&&
 ((decide (n.ses=0)||decide (n.kind≤4))&&(decide (n.seq=0)||decide (n.kind=3)||decide (n.kind=4))&&(!n.last||decide (n.kind=3))&&(decide (n.no=0)||decide (n.kind=7))&&
  ((decide (n.ev = .leaf 0)||!decide (n.kind=4)&&!decide (n.kind=5)&&!decide (n.kind=7))&&(decide (n.ents.length=0)||decide (n.kind=3)||decide (n.kind=6))&&
   bif decide (n.kind=6) then n.gift.right&&decide (n.gift.fr=n.fr)&&decide (n.gift.to=n.to)&&(n.ents.all (toldB n)&&(!decide (n.kind=3)||decide ((n.ents.length:Int)≤4)))
   else decide (n.gift.no=0)&&decide (n.gift.fr=0)&&decide (n.gift.to=0)&&decide (n.gift.sh = .zero)&&(n.ents.all (toldB n)&&(!decide (n.kind=3)||decide ((n.ents.length:Int)≤4)))))
set_option maxHeartbeats 1000000 in
theorem eW (n:Nte) (fl:Bool) (hL:n.ents.length<2^31) (hx : ∀ x∈n.ents,x.v.ev.max<2^63) (hev:n.ev.max<2^63) (hn:n.ev.norm) (H:Heap) (nx:Nat):
  Ω 13 [.p (n.rv fl)] H nx=some (.bool n.rright,[],[]):=by
 refine af (ir:=ir13) (by kernel_rfl) (n.ents.length+1) ?_
 have lp:=xS (H:=H) (nx:=nx) n fl hL hx hev hn
 have g:=fun H nx=>ow n.gift H nx
 have hlen : ∃ z,entP (Ent.rrow fl) 4 n.ents=z∧((z = .s (.slice none 0 0)∧n.ents.length=0)∨∃ R,z = .sl R n.ents.length 4 false):=by
  refine ⟨_,rfl,?_⟩
  rcases ee (Ent.rrow fl) 4 n.ents with ⟨h,e⟩|⟨h,h',e⟩
  ·exact .inl ⟨e,by simp [h]⟩
  ·exact .inr ⟨_,e⟩
 obtain ⟨ez,hz,hlen⟩:=hlen
 have hev' : ∃ (m:Nat) (p q:PV),n.ev.rv = .imm [.s (.int .u64 m),p,q] 0∧((p = .s (.pointer none)∧decide (n.ev = .leaf 0)=decide (m=0))∨∃ cs,p = .imm cs 0∧decide (n.ev = .leaf 0)=false):=by
  cases n.ev with
  | leaf m=>exact ⟨m,_,_,Ev.rv_l m,.inl ⟨rfl,by simp⟩⟩
  | node m l r=>
   obtain ⟨cs,hc⟩:=Ev.rv_imm l
   exact ⟨m,_,_,Ev.rv_n m l r,.inr ⟨cs,hc,by simp⟩⟩
 have hsh : ∃ (k:Int) (p q:PV),n.gift.sh.rv = .imm [.s (.int .i64 k),p,q] 0∧decide (k=0)=decide (n.gift.sh = .zero):=by
  cases n.gift.sh with
  | zero=>exact ⟨0,_,_,Id.rv_z,rfl⟩
  | one=>exact ⟨1,_,_,Id.rv_o,rfl⟩
  | node l r=>exact ⟨2,_,_,Id.rv_n l r,by simp⟩
 obtain ⟨m,p,q,e1,e2⟩:=hev'
 obtain ⟨k,p',q',e3,e4⟩:=hsh
 unfold Nte.rright
 rw [←e4]
 simp only [Nte.rv,Nte.rcells,hz,e1,e3] at lp ⊢
 simp only [Gft.rv,e3] at g
 generalize hA:n.ents.all (toldB n)=b2 at*
 generalize hB:n.gift.right=b3 at*
 generalize n.ents.length=len at*
 rcases e2 with ⟨rfl,e2⟩|⟨cs,rfl,e2⟩<;>rcases hlen with ⟨rfl,rfl⟩|⟨R,rfl⟩
 all_goals
  try simp only [Int.natCast_zero,Int.ofNat_zero] at lp
  simp +contextual (maxSteps:=1000000) [ir13,ssI,↓ssJ,List.idxOf?_cons,Go.Sx.LV.undef,Go.undef,Go.Sx.callO,Go.Sx.splice,Go.Sx.finish,Go.Sx.look,Go.Sx.push,Go.Sx.setObj,Go.Sx.setU,Go.Sx.setAll,appO,Go.Sx.leI_eq,ltF,lp,g]
  try simp [e2]
theorem zb : ∀ (d:Nat) (e:Ev),e.depth≤d→e.norm→Ev.leq d e (.leaf 0)=true→e = .leaf 0
 | 0,.leaf m,_,_,h=>by simp [Ev.leq,Ev.n] at h;rw [h]
 | 0,.node n l r,hd,_,_=>by simp [Ev.depth] at hd
 | d+1,.leaf m,_,_,h=>by simp [Ev.leq,Ev.n] at h;rw [h]
 | d+1,.node n l r,hd,hn,h=>by
  obtain ⟨h1,h2,h3,h4⟩:=hn
  have hd':(Ev.node n l r).depth=1+Max.max l.depth r.depth:=rfl
  simp only [Ev.leq] at h
  split at h
  ·cases h
  ·rename_i h0
   have n0:n=0:=by
    simp [Ev.n,Ev.isLeaf] at h0;exact h0
   subst n0
   have u0 : ∀ e:Ev,e.up 0=e:=fun e=>by cases e<;>simp [Ev.up]
   rw [u0,u0] at h
   have hl:((Ev.leaf 0).left.up (Ev.leaf 0).n) = .leaf 0:=rfl
   have hr:((Ev.leaf 0).right.up (Ev.leaf 0).n) = .leaf 0:=rfl
   rw [hl,hr,Bool.and_eq_true] at h
   have a:=zb d l (by omega) h1 h.1
   have b:=zb d r (by omega) h2 h.2
   subst a b
   exact absurd ⟨rfl,rfl,rfl⟩ h4
theorem nU (e:Ev) (h:e.norm):noneB e=decide (e = .leaf 0):=by
 rw [Bool.eq_iff_iff,decide_eq_true_iff]
 unfold noneB
 constructor
 ·intro q
  rw [Bool.and_eq_true] at q
  exact zb _ e (Nat.le_refl _) h q.1
 ·rintro rfl;rfl
def zB (h:Int) (a b c d e f g:Bool):Bool:=partB h 1 a&&(partB h 2 b&&(partB h 16 c&&(partB h 8 d&&(partB h 4 e&&(partB h 32 f&&partB h 64 g)))))
theorem yk : ∀ a b c d e f g,zB 9 a b c d e f g=(b&&c&&e&&f&&g):=by decide
theorem yQ : ∀ a b c d e f g,zB 31 a b c d e f g=(f&&g):=by decide
theorem AS : ∀ a b c d e f g,zB 3 a b c d e f g=(c&&d&&e&&f&&g):=by decide
theorem AR : ∀ a b c d e f g,zB 0 a b c d e f g=(a&&b&&c&&d&&e&&f&&g):=by decide
theorem yR : ∀ a b c d e f g,zB 44 a b c d e f g=(a&&b&&c&&g):=by decide
theorem yS : ∀ a b c d e f g,zB 64 a b c d e f g=(a&&b&&c&&d&&e&&f):=by decide
theorem iS (n:Nte) (hn:n.ev.norm):n.rright=n.right:=by
 have hz:n.zeroB (hasK n.kind)=zB (hasK n.kind) (decide (n.ses=0)) (decide (n.seq=0)) (!n.last) (noneB n.ev) n.ents.isEmpty (plainB n.gift) (decide (n.no=0)):=rfl
 unfold Nte.rright Nte.right
 rw [hz,nU _ hn]
 unfold plainB nodeB
 have hl:n.ents.isEmpty=decide (n.ents.length=0):=by cases n.ents<;>simp
 rw [hl]
 have i1:decide (n.fr≤11)=decide (n.fr<12):=decide_eq_decide.2 (by omega)
 have i2:decide (n.to≤11)=decide (n.to<12):=decide_eq_decide.2 (by omega)
 have i3:decide (n.seq≤255)=!decide (256≤n.seq):=by rw [←decide_not];exact decide_eq_decide.2 (by omega)
 rw [i1,i2,i3]
 generalize decide (n.ev = .leaf 0)=b1
 generalize decide (n.gift.sh = .zero)=b2
 generalize n.ents.all (toldB n)=b3
 generalize n.gift.right=b4
 generalize decide (n.fr=n.to)=b5
 generalize (decide (0≤n.fr))=b6
 generalize (decide (n.fr<12))=b7
 generalize (decide (0≤n.to))=b8
 generalize (decide (n.to<12))=b9
 generalize (decide (0≤n.seq))=b10
 generalize (decide (256≤n.seq))=b11
 generalize decide (n.gift.fr=n.fr)=b12
 generalize decide (n.gift.to=n.to)=b13
 generalize decide (n.ses=0)=b14
 generalize decide (n.seq=0)=b15
 generalize n.last=b16
 generalize decide (n.no=0)=b17
 generalize decide (n.gift.no=0)=b18
 generalize decide (n.gift.fr=0)=b19
 generalize decide (n.gift.to=0)=b20
 generalize decide ((n.ents.length:Int)≤4)=b21
 generalize decide (n.ents.length=0)=b22
 generalize n.kind=k
 by_cases h1:k=1
 ·subst h1;simp [hasK,yk];try ac_rfl
 by_cases h2:k=2
 ·subst h2;simp [hasK,yk];try ac_rfl
 by_cases h3:k=3
 ·subst h3;simp [hasK,yQ];try ac_rfl
 by_cases h4:k=4
 ·subst h4;simp [hasK,AS];try ac_rfl
 by_cases h5:k=5
 ·subst h5;simp [hasK,AR];try ac_rfl
 by_cases h6:k=6
 ·subst h6;simp [hasK,yR];try ac_rfl
 by_cases h7:k=7
 ·subst h7;simp [hasK,yS];try ac_rfl
 have e:(decide (1≤k)&&decide (k≤7))=false:=by
  rw [Bool.and_eq_false_iff,decide_eq_false_iff_not,decide_eq_false_iff_not]
  omega
 have e':hasK k = -1:=by simp [hasK,h1,h2,h3,h4,h5,h6,h7]
 rw [e,e'];simp
end Go.Proofs.YtppeggedcaabkaaGreatDoor
end

section
namespace Go.Proofs.YtppeggedcaabkaaGreatDoor
open Go Go.Sx
theorem ye {H:Heap} {nx:Nat} (l:List UInt8) (h0:0<l.length) (h30:l.length<2^30) (id cp:Nat) (ex:Bool) (h1:H id=some (.cells (byt (le4 (BitVec.ofNat 32 l.length))++byt l))) (h2:id<nx):
  Ω 78 [.arr id 0 (4+l.length) 1 cp ex] H nx=some (.int .u32 (nv (crc (le4 (BitVec.ofNat 32 l.length)++l))),[],[]):=by
 have:=zN (le4 (BitVec.ofNat 32 l.length)++l) (by simp [le4];omega) id cp ex H nx (by rw [aY];exact h1) h2
 have e:(le4 (BitVec.ofNat 32 l.length)++l).length=4+l.length:=by simp [le4];omega
 rwa [e] at this
theorem rb (l:List UInt8) (fl:Bool) (h0:0<l.length) (h30:l.length<2^30) (H:Heap) (nx:Nat):
  Ω 31 [.p (.sl (bytP l) l.length 1 fl)] H nx=some (.arr nx 0 (frame l).length 1 (frame l).length false,[],[some (.cells (byt (frame l)))]):=by
 rw [fB]
 refine af (ir:=ir31) (by kernel_rfl) 0 ?_
 have hs:=fun id cp ex (H:Heap) (nx:Nat) h1 h2=>ye (H:=H) (nx:=nx) l h0 h30 id cp ex h1 h2
 have hb : ∀ (x:BitVec 32),byt (le4 x)=[.int .u8 (low x).toNat,.int .u8 (low (x >>> 8)).toNat,.int .u8 (low (x >>> 16)).toNat,.int .u8 (low (x >>> 24)).toNat]:=fun x=>rfl
 have hne : ¬l.length=0:=by omega
 have hla:=fun id H nx h1 h2=>rx (low (BitVec.ofNat 32 l.length)) (low (BitVec.ofNat 32 l.length >>> 8)) (low (BitVec.ofNat 32 l.length >>> 16)) (low (BitVec.ofNat 32 l.length >>> 24)) (crc (le4 (BitVec.ofNat 32 l.length)++l)) id H nx h1 h2
 simp only [aY,hb] at hs
 simp only [aY,hb,ba,bp] at hla
 have h41 : ¬1099511627776<4+l.length:=by omega
 have h42 : ¬1099511627776<8+l.length:=by omega
 have hk : ∀ k,nx<nx+(k+1):=fun k=>by omega
 have hk2 : ∀ k,nx+k<nx+(k+1):=fun k=>by omega
 have hw:=kG l.length
 simp [ir31,ssB,ssU,ssP,appO,hk,hk2,hw,ry,au,ah,ay,aE,aJ,aI,aK,av,aD,aF,ah,hs,hla,hb,hne,h41,h42,frame]
 rw [aY,aY,hb,hb]
 rfl
def u8 (x:Int):UInt8:=UInt8.ofNat x.toNat
theorem aH (x:Int) (h0:0≤x) (h1:x<256):IntKind.u8.wrap x=((u8 x).toNat:Int):=by
 have:IntKind.u8.wrap x=x%256:=by simp [IntKind.wrap,IntKind.signed,IntKind.bits]
 rw [this,u8]
 simp
 omega
def bit (b:Bool):UInt8:=if b then 1 else 0
def Nte.rest (n:Nte):List UInt8:=
 if n.kind=1∨n.kind=2 then vnum n.ses++txt (pack (evBits n.ev))
 else if n.kind=3 then vnum n.ses++[u8 n.seq]++[bit n.last]++txt (pack (evBits n.ev))++vnum n.ents.length++entB n.ents
 else if n.kind=4 then vnum n.ses++[u8 n.seq]
 else if n.kind=6 then n.gift.bytes++txt (pack (evBits n.ev))++vnum n.ents.length++entB n.ents
 else if n.kind=7 then vnum n.no
 else []
def Nte.body (n:Nte):List UInt8:=[u8 n.kind,u8 n.fr,u8 n.to]++n.rest
def Nte.ans (n:Nte):LV:=if n.right=true then .tuple [.p (.sl (bytP (frame n.body)) (frame n.body).length 1 false),.int .i64 0] else .tuple [.p (.s (.slice none 0 0)),.int .i64 1]
structure Nte.Fit (n:Nte):Prop where
 ses:n.ses<2^64
 no:n.no<2^64
 gno:n.gift.no<2^64
 gsh:(idBits n.gift.sh).length<2^16
 ev:n.ev.max<2^62
 bits:(evBits n.ev).length<2^16
 norm:n.ev.norm
 len:n.ents.length<50
 ents : ∀ x∈n.ents,x.fit
 max : ∀ x∈n.ents,x.v.ev.max<2^62
 size:(entB n.ents).length<2^19
 enorm : ∀ x∈n.ents,x.v.ev.norm
theorem jl:(binI .and .i64 9 1=some (.int .i64 1))∧(binI .and .i64 9 2=some (.int .i64 0))∧(binI .and .i64 9 16=some (.int .i64 0))∧(binI .and .i64 9 32=some (.int .i64 0))∧(binI .and .i64 9 8=some (.int .i64 8))∧(binI .and .i64 9 4=some (.int .i64 0))∧(binI .and .i64 9 64=some (.int .i64 0))∧(binI .and .i64 31 1=some (.int .i64 1))∧(binI .and .i64 31 2=some (.int .i64 2))∧(binI .and .i64 31 16=some (.int .i64 16))∧(binI .and .i64 31 32=some (.int .i64 0))∧(binI .and .i64 31 8=some (.int .i64 8))∧(binI .and .i64 31 4=some (.int .i64 4))∧(binI .and .i64 31 64=some (.int .i64 0))∧(binI .and .i64 3 1=some (.int .i64 1))∧(binI .and .i64 3 2=some (.int .i64 2))∧(binI .and .i64 3 16=some (.int .i64 0))∧(binI .and .i64 3 32=some (.int .i64 0))∧(binI .and .i64 3 8=some (.int .i64 0))∧(binI .and .i64 3 4=some (.int .i64 0))∧(binI .and .i64 3 64=some (.int .i64 0))∧(binI .and .i64 0 1=some (.int .i64 0))∧(binI .and .i64 0 2=some (.int .i64 0))∧(binI .and .i64 0 16=some (.int .i64 0))∧(binI .and .i64 0 32=some (.int .i64 0))∧(binI .and .i64 0 8=some (.int .i64 0))∧(binI .and .i64 0 4=some (.int .i64 0))∧(binI .and .i64 0 64=some (.int .i64 0))∧(binI .and .i64 44 1=some (.int .i64 0))∧(binI .and .i64 44 2=some (.int .i64 0))∧(binI .and .i64 44 16=some (.int .i64 0))∧(binI .and .i64 44 32=some (.int .i64 32))∧(binI .and .i64 44 8=some (.int .i64 8))∧(binI .and .i64 44 4=some (.int .i64 4))∧(binI .and .i64 44 64=some (.int .i64 0))∧(binI .and .i64 64 1=some (.int .i64 0))∧(binI .and .i64 64 2=some (.int .i64 0))∧(binI .and .i64 64 16=some (.int .i64 0))∧(binI .and .i64 64 32=some (.int .i64 0))∧(binI .and .i64 64 8=some (.int .i64 0))∧(binI .and .i64 64 4=some (.int .i64 0))∧(binI .and .i64 64 64=some (.int .i64 64)):=
 ⟨rfl,rfl,rfl,rfl,rfl,rfl,rfl,rfl,rfl,rfl,rfl,rfl,rfl,rfl,rfl,rfl,rfl,rfl,rfl,rfl,rfl,rfl,rfl,rfl,rfl,rfl,rfl,rfl,rfl,rfl,rfl,rfl,rfl,rfl,rfl,rfl,rfl,rfl,rfl,rfl,rfl,rfl⟩
theorem aW {n:Nte} (hr:n.right=true):(0≤n.fr∧n.fr<12)∧(0≤n.to∧n.to<12)∧(0≤n.seq∧n.seq<256):=by
 simp only [Nte.right,nodeB,Bool.and_eq_true,decide_eq_true_eq,Bool.not_eq_true',decide_eq_false_iff_not] at hr
 obtain ⟨⟨⟨⟨_,a⟩,b⟩,_⟩,⟨⟨⟨_,c⟩,d⟩,_⟩,_⟩:=hr
 omega
theorem gU (n:Nte) (fl:Bool) (k:Int) (hk:n.kind=k) (hk2:k=1∨k=2) (hf:n.Fit) (hr:n.right=true) (H:Heap) (nx:Nat):Ω 9 [.p (n.pv fl)] H nx=some (n.ans,[],[]):=by
 refine af (ir:=ir9) (by kernel_rfl) 0 ?_
 have r:=fun H nx=>bJ n fl (by have:=hf.len;omega) (fun x hx=>by have:=hf.max x hx;omega) (by have:=hf.ev;omega) H nx
 rw [hr] at r
 obtain ⟨⟨f0,f1⟩,⟨t0,t1⟩,⟨s0,s1⟩⟩:=aW hr
 have wf:=aH n.fr f0 (by omega)
 have wt:=aH n.to t0 (by omega)
 have ws:=aH n.seq s0 (by omega)
 have ce:=fun H nx=>cq n.ev (by have:=hf.ev;omega) (by have:=hf.bits;omega) H nx
 have pl:=aV (evBits n.ev)
 have hb:=hf.bits
 have vl:=ai n.ses hf.ses
 have vn:=ai n.no hf.no
 have e1:(Ev.pv n.ev) = .agg [.s (.int .u64 n.ev.n),n.ev.ptr]:=rfl
 rw [e1] at ce
 have tl:(txt (pack (evBits n.ev))).length≤(pack (evBits n.ev)).length+10:=by
  have:=ai (pack (evBits n.ev)).length (by omega)
  rw [txt,List.length_append];omega
 unfold Nte.ans Nte.body Nte.rest
 rw [if_pos hr]
 generalize pack (evBits n.ev)=E at*
 have bb:=aO E
 have kk : ∀ k:Int,0≤k→k<8→IntKind.u8.wrap k=((u8 k).toNat:Int):=fun k h0 h1=>aH k h0 (by omega)
 have k0 : ∀ k,nx<nx+(k+1):=fun k=>by omega
 have k1 : ∀ k m,nx+k<nx+m↔k<m:=fun k m=>by omega
 have hl : ∀ k:UInt8,([k,u8 n.fr,u8 n.to]++vnum n.ses++txt E).length<2^18:=fun k=>by simp;omega
 have n1 : ∀ (k:UInt8) (H:Heap) (nx id:Nat),H id=some (.cells (byt [k,u8 n.fr,u8 n.to]))→id<nx→Ω 26 [.arr id 0 3 1 3 true,.int .u64 n.ses] H nx=_:=fun k H nx id h1 h2=>eN (.whole' (F:=[k,u8 n.fr,u8 n.to]) rfl h1 h2) n.ses hf.ses (by simp)
 have t1 : ∀ (k:UInt8) (H:Heap) (nx id:Nat),H id=some (.cells (byt ([k,u8 n.fr,u8 n.to]++vnum n.ses)))→id<nx→Ω 28 [.arr id 0 ([k,u8 n.fr,u8 n.to]++vnum n.ses).length 1 ([k,u8 n.fr,u8 n.to]++vnum n.ses).length false,bstr E] H nx=_:=fun k H nx id h1 h2=>fo (.whole h1 h2) E (by simp;omega) (by omega)
 have g1 : ∀ (k:UInt8) (H:Heap) (nx id:Nat),H id=some (.cells (byt ([k,u8 n.fr,u8 n.to]++vnum n.ses++txt E)))→id<nx→Ω 31 [.arr id 0 ([k,u8 n.fr,u8 n.to]++vnum n.ses++txt E).length 1 ([k,u8 n.fr,u8 n.to]++vnum n.ses++txt E).length false] H nx=_:=fun k H nx id h1 h2=>jm _ (by simp) (by have:=hl k;omega) id _ _ H nx h1 h2
 simp only [Nte.pv,Nte.cells] at r ⊢
 generalize entP (Ent.row fl) 5 n.ents=z at*
 generalize n.ev.ptr=ep at*
 generalize n.ev.n=en at*
 have hh:hasK k=9:=by rcases hk2 with rfl|rfl<;>rfl
 rw [hk] at r ⊢
 have w:=kk k (by omega) (by omega)
 have n1:=n1 (u8 k)
 have t1:=t1 (u8 k)
 have g1:=g1 (u8 k)
 have hl:=hl (u8 k)
 rw [if_pos hk2,←List.append_assoc]
 simp only [ba,bp] at n1
 generalize [u8 k,u8 n.fr,u8 n.to]++vnum n.ses++txt E=P2 at*
 generalize [u8 k,u8 n.fr,u8 n.to]++vnum n.ses=P1 at*
 have h20:(P2.length:Int)≤1048576:=by omega
 generalize frame P2=F at*
 simp [ir9,ssI,↓ssJ,ssU,ssP,appO,gP,hh,r,wf,wt,w,n1,t1,g1,ce,bb,jl,au,ah,ay,aE,aJ,aI,aK,av,aD,aF,ah,h20,k0,k1]
theorem nV (n:Nte) (fl:Bool) (hk:n.kind=3) (hf:n.Fit) (hr:n.right=true) (H:Heap) (nx:Nat):Ω 9 [.p (n.pv fl)] H nx=some (n.ans,[],[]):=by
 refine af (ir:=ir9) (by kernel_rfl) 0 ?_
 have r:=fun H nx=>bJ n fl (by have:=hf.len;omega) (fun x hx=>by have:=hf.max x hx;omega) (by have:=hf.ev;omega) H nx
 rw [hr] at r
 obtain ⟨⟨f0,f1⟩,⟨t0,t1⟩,⟨s0,s1⟩⟩:=aW hr
 have wf:=aH n.fr f0 (by omega)
 have wt:=aH n.to t0 (by omega)
 have ws:=aH n.seq s0 (by omega)
 have ce:=fun H nx=>cq n.ev (by have:=hf.ev;omega) (by have:=hf.bits;omega) H nx
 have pl:=aV (evBits n.ev)
 have hb:=hf.bits
 have vl:=ai n.ses hf.ses
 have vn:=ai n.no hf.no
 have e1:(Ev.pv n.ev) = .agg [.s (.int .u64 n.ev.n),n.ev.ptr]:=rfl
 rw [e1] at ce
 have tl:(txt (pack (evBits n.ev))).length≤(pack (evBits n.ev)).length+10:=by
  have:=ai (pack (evBits n.ev)).length (by omega)
  rw [txt,List.length_append];omega
 unfold Nte.ans Nte.body Nte.rest
 rw [if_pos hr]
 generalize pack (evBits n.ev)=E at*
 have bb:=aO E
 have kk : ∀ k:Int,0≤k→k<8→IntKind.u8.wrap k=((u8 k).toNat:Int):=fun k h0 h1=>aH k h0 (by omega)
 have k0 : ∀ k,nx<nx+(k+1):=fun k=>by omega
 have k1 : ∀ k m,nx+k<nx+m↔k<m:=fun k m=>by omega
 have w:=kk 3 (by omega) (by omega)
 have hls:=hf.size
 have hlen:=hf.len
 have vc:=ai n.ents.length (by omega)
 have hl:([u8 3,u8 n.fr,u8 n.to]++vnum n.ses++[u8 n.seq]++[bit n.last]++txt E++vnum n.ents.length++entB n.ents).length<2^20:=by simp;omega
 have n1 : ∀ (H:Heap) (nx id:Nat),H id=some (.cells (byt [u8 3,u8 n.fr,u8 n.to]))→id<nx→Ω 26 [.arr id 0 3 1 3 true,.int .u64 n.ses] H nx=_:=fun H nx id h1 h2=>eN (.whole' (F:=[u8 3,u8 n.fr,u8 n.to]) rfl h1 h2) n.ses hf.ses (by simp)
 have t1 : ∀ (H:Heap) (nx id:Nat),H id=some (.cells (byt ([u8 3,u8 n.fr,u8 n.to]++vnum n.ses++[u8 n.seq]++[bit n.last])))→id<nx→Ω 28 [.arr id 0 ([u8 3,u8 n.fr,u8 n.to]++vnum n.ses++[u8 n.seq]++[bit n.last]).length 1 ([u8 3,u8 n.fr,u8 n.to]++vnum n.ses++[u8 n.seq]++[bit n.last]).length false,bstr E] H nx=_:=fun H nx id h1 h2=>fo (.whole h1 h2) E (by simp;omega) (by omega)
 have p1 : ∀ (H:Heap) (nx id:Nat),H id=some (.cells (byt ([u8 3,u8 n.fr,u8 n.to]++vnum n.ses++[u8 n.seq]++[bit n.last]++txt E)))→id<nx→Ω 30 [.arr id 0 ([u8 3,u8 n.fr,u8 n.to]++vnum n.ses++[u8 n.seq]++[bit n.last]++txt E).length 1 ([u8 3,u8 n.fr,u8 n.to]++vnum n.ses++[u8 n.seq]++[bit n.last]++txt E).length false,.p (entP (Ent.row fl) 5 n.ents)] H nx=_:=fun H nx id h1 h2=>je (.whole h1 h2) n.ents fl (by omega) hf.ents (by simp;omega)
 have g1 : ∀ (H:Heap) (nx:Nat),_=_:=fun H nx=>rb ([u8 3,u8 n.fr,u8 n.to]++vnum n.ses++[u8 n.seq]++[bit n.last]++txt E++vnum n.ents.length++entB n.ents) false (by simp) (by omega) H nx
 simp only [Nte.pv,Nte.cells] at r ⊢
 generalize hz:entP (Ent.row fl) 5 n.ents=z at*
 generalize n.ev.ptr=ep at*
 generalize n.ev.n=en at*
 rw [hk] at r ⊢
 rw [if_neg (by omega),if_pos rfl]
 simp only [←List.append_assoc]
 simp only [ba,bp] at n1
 rw [aY ([u8 3,u8 n.fr,u8 n.to]++vnum n.ses++[u8 n.seq]),aY ([u8 3,u8 n.fr,u8 n.to]++vnum n.ses)] at t1
 generalize [u8 3,u8 n.fr,u8 n.to]++vnum n.ses++[u8 n.seq]++[bit n.last]++txt E++vnum n.ents.length++entB n.ents=P4 at*
 generalize [u8 3,u8 n.fr,u8 n.to]++vnum n.ses++[u8 n.seq]++[bit n.last]++txt E=P2 at*
 generalize hP1':[u8 3,u8 n.fr,u8 n.to]++vnum n.ses=P1 at*
 have h20:(P4.length:Int)≤1048576:=by omega
 have hP1:P1.length<2^20:=by have:=congrArg List.length hP1';simp at this;omega
 have hq : ¬1099511627776<P1.length+1:=by omega
 have hq2 : ¬1099511627776<P1.length+1+1:=by omega
 generalize frame P4=F at*
 cases hb2:n.last
 all_goals
  rw [hb2] at r t1
  have eb:(bit false).toNat=0∧(bit true).toNat=1:=⟨rfl,rfl⟩
  simp [ba,bp,eb] at t1
  simp [ir9,ssI,↓ssJ,ssU,ssP,appO,gP,hasK,r,wf,wt,ws,w,n1,t1,p1,g1,hq,hq2,ce,bb,jl,au,ah,ay,aE,aJ,aI,aK,av,aD,aF,ah,h20,k0,k1]
theorem nW (n:Nte) (fl:Bool) (hk:n.kind=4) (hf:n.Fit) (hr:n.right=true) (H:Heap) (nx:Nat):Ω 9 [.p (n.pv fl)] H nx=some (n.ans,[],[]):=by
 refine af (ir:=ir9) (by kernel_rfl) 0 ?_
 have r:=fun H nx=>bJ n fl (by have:=hf.len;omega) (fun x hx=>by have:=hf.max x hx;omega) (by have:=hf.ev;omega) H nx
 rw [hr] at r
 obtain ⟨⟨f0,f1⟩,⟨t0,t1⟩,⟨s0,s1⟩⟩:=aW hr
 have wf:=aH n.fr f0 (by omega)
 have wt:=aH n.to t0 (by omega)
 have ws:=aH n.seq s0 (by omega)
 have ce:=fun H nx=>cq n.ev (by have:=hf.ev;omega) (by have:=hf.bits;omega) H nx
 have pl:=aV (evBits n.ev)
 have hb:=hf.bits
 have vl:=ai n.ses hf.ses
 have vn:=ai n.no hf.no
 have e1:(Ev.pv n.ev) = .agg [.s (.int .u64 n.ev.n),n.ev.ptr]:=rfl
 rw [e1] at ce
 have tl:(txt (pack (evBits n.ev))).length≤(pack (evBits n.ev)).length+10:=by
  have:=ai (pack (evBits n.ev)).length (by omega)
  rw [txt,List.length_append];omega
 unfold Nte.ans Nte.body Nte.rest
 rw [if_pos hr]
 generalize pack (evBits n.ev)=E at*
 have bb:=aO E
 have kk : ∀ k:Int,0≤k→k<8→IntKind.u8.wrap k=((u8 k).toNat:Int):=fun k h0 h1=>aH k h0 (by omega)
 have k0 : ∀ k,nx<nx+(k+1):=fun k=>by omega
 have k1 : ∀ k m,nx+k<nx+m↔k<m:=fun k m=>by omega
 have w:=kk 4 (by omega) (by omega)
 have hl:([u8 4,u8 n.fr,u8 n.to]++vnum n.ses++[u8 n.seq]).length<2^20:=by simp;omega
 have n1 : ∀ (H:Heap) (nx id:Nat),H id=some (.cells (byt [u8 4,u8 n.fr,u8 n.to]))→id<nx→Ω 26 [.arr id 0 3 1 3 true,.int .u64 n.ses] H nx=_:=fun H nx id h1 h2=>eN (.whole' (F:=[u8 4,u8 n.fr,u8 n.to]) rfl h1 h2) n.ses hf.ses (by simp)
 have g1 : ∀ (H:Heap) (nx id:Nat),H id=some (.cells (byt ([u8 4,u8 n.fr,u8 n.to]++vnum n.ses++[u8 n.seq])))→id<nx→Ω 31 [.arr id 0 ([u8 4,u8 n.fr,u8 n.to]++vnum n.ses++[u8 n.seq]).length 1 ([u8 4,u8 n.fr,u8 n.to]++vnum n.ses++[u8 n.seq]).length false] H nx=_:=fun H nx id h1 h2=>jm _ (by simp) (by omega) id _ _ H nx h1 h2
 simp only [Nte.pv,Nte.cells] at r ⊢
 generalize hz:entP (Ent.row fl) 5 n.ents=z at*
 generalize n.ev.ptr=ep at*
 generalize n.ev.n=en at*
 rw [hk] at r ⊢
 rw [if_neg (by omega),if_neg (by omega),if_pos rfl]
 simp only [←List.append_assoc]
 simp only [ba,bp] at n1
 rw [aY ([u8 4,u8 n.fr,u8 n.to]++vnum n.ses)] at g1
 generalize hP2:[u8 4,u8 n.fr,u8 n.to]++vnum n.ses++[u8 n.seq]=P2 at*
 have e2:P2.length=([u8 4,u8 n.fr,u8 n.to]++vnum n.ses).length+1:=by rw [←hP2];simp
 generalize hP1':[u8 4,u8 n.fr,u8 n.to]++vnum n.ses=P1 at*
 have h20:(P2.length:Int)≤1048576:=by omega
 rw [e2] at g1 h20
 simp only [ba,bp] at g1
 have hP1:P1.length<2^20:=by have:=congrArg List.length hP1';simp at this;omega
 have hq : ¬1099511627776<P1.length+1:=by omega
 generalize frame P2=F at*
 simp only [Int.natCast_add,Int.natCast_one] at h20
 simp [ir9,ssI,↓ssJ,ssU,ssP,appO,gP,hasK,r,wf,wt,ws,w,n1,g1,hq,ce,bb,jl,au,ah,ay,aE,aJ,aI,aK,av,aD,aF,ah,h20,k0,k1]
theorem nX (n:Nte) (fl:Bool) (hk:n.kind=5) (hf:n.Fit) (hr:n.right=true) (H:Heap) (nx:Nat):Ω 9 [.p (n.pv fl)] H nx=some (n.ans,[],[]):=by
 refine af (ir:=ir9) (by kernel_rfl) 0 ?_
 have r:=fun H nx=>bJ n fl (by have:=hf.len;omega) (fun x hx=>by have:=hf.max x hx;omega) (by have:=hf.ev;omega) H nx
 rw [hr] at r
 obtain ⟨⟨f0,f1⟩,⟨t0,t1⟩,⟨s0,s1⟩⟩:=aW hr
 have wf:=aH n.fr f0 (by omega)
 have wt:=aH n.to t0 (by omega)
 have ws:=aH n.seq s0 (by omega)
 have ce:=fun H nx=>cq n.ev (by have:=hf.ev;omega) (by have:=hf.bits;omega) H nx
 have pl:=aV (evBits n.ev)
 have hb:=hf.bits
 have vl:=ai n.ses hf.ses
 have vn:=ai n.no hf.no
 have e1:(Ev.pv n.ev) = .agg [.s (.int .u64 n.ev.n),n.ev.ptr]:=rfl
 rw [e1] at ce
 have tl:(txt (pack (evBits n.ev))).length≤(pack (evBits n.ev)).length+10:=by
  have:=ai (pack (evBits n.ev)).length (by omega)
  rw [txt,List.length_append];omega
 unfold Nte.ans Nte.body Nte.rest
 rw [if_pos hr]
 generalize pack (evBits n.ev)=E at*
 have bb:=aO E
 have kk : ∀ k:Int,0≤k→k<8→IntKind.u8.wrap k=((u8 k).toNat:Int):=fun k h0 h1=>aH k h0 (by omega)
 have k0 : ∀ k,nx<nx+(k+1):=fun k=>by omega
 have k1 : ∀ k m,nx+k<nx+m↔k<m:=fun k m=>by omega
 have w:=kk 5 (by omega) (by omega)
 have g1 : ∀ (H:Heap) (nx id:Nat),H id=some (.cells (byt [u8 5,u8 n.fr,u8 n.to]))→id<nx→Ω 31 [.arr id 0 3 1 3 true] H nx=_:=fun H nx id h1 h2=>jm [u8 5,u8 n.fr,u8 n.to] (by simp) (by simp) id 3 true H nx h1 h2
 simp only [Nte.pv,Nte.cells] at r ⊢
 generalize hz:entP (Ent.row fl) 5 n.ents=z at*
 generalize n.ev.ptr=ep at*
 generalize n.ev.n=en at*
 rw [hk] at r ⊢
 rw [if_neg (by omega),if_neg (by omega),if_neg (by omega),if_neg (by omega),if_neg (by omega),List.append_nil]
 simp only [ba,bp] at g1
 have h20:(3:Int)≤1048576:=by omega
 generalize frame [u8 5,u8 n.fr,u8 n.to]=F at*
 simp [ir9,ssI,↓ssJ,ssU,ssP,appO,gP,hasK,r,wf,wt,ws,w,g1,ce,bb,jl,au,ah,ay,aE,aJ,aI,aK,av,aD,aF,ah,h20,k0,k1]
theorem nY (n:Nte) (fl:Bool) (hk:n.kind=6) (hf:n.Fit) (hr:n.right=true) (H:Heap) (nx:Nat):Ω 9 [.p (n.pv fl)] H nx=some (n.ans,[],[]):=by
 refine af (ir:=ir9) (by kernel_rfl) 0 ?_
 have r:=fun H nx=>bJ n fl (by have:=hf.len;omega) (fun x hx=>by have:=hf.max x hx;omega) (by have:=hf.ev;omega) H nx
 rw [hr] at r
 obtain ⟨⟨f0,f1⟩,⟨t0,t1⟩,⟨s0,s1⟩⟩:=aW hr
 have wf:=aH n.fr f0 (by omega)
 have wt:=aH n.to t0 (by omega)
 have ws:=aH n.seq s0 (by omega)
 have ce:=fun H nx=>cq n.ev (by have:=hf.ev;omega) (by have:=hf.bits;omega) H nx
 have pl:=aV (evBits n.ev)
 have hb:=hf.bits
 have vl:=ai n.ses hf.ses
 have vn:=ai n.no hf.no
 have e1:(Ev.pv n.ev) = .agg [.s (.int .u64 n.ev.n),n.ev.ptr]:=rfl
 rw [e1] at ce
 have tl:(txt (pack (evBits n.ev))).length≤(pack (evBits n.ev)).length+10:=by
  have:=ai (pack (evBits n.ev)).length (by omega)
  rw [txt,List.length_append];omega
 unfold Nte.ans Nte.body Nte.rest
 rw [if_pos hr]
 generalize pack (evBits n.ev)=E at*
 have bb:=aO E
 have kk : ∀ k:Int,0≤k→k<8→IntKind.u8.wrap k=((u8 k).toNat:Int):=fun k h0 h1=>aH k h0 (by omega)
 have k0 : ∀ k,nx<nx+(k+1):=fun k=>by omega
 have k1 : ∀ k m,nx+k<nx+m↔k<m:=fun k m=>by omega
 have w:=kk 6 (by omega) (by omega)
 have hg:n.gift.right=true:=by
  have:=hr
  simp [Nte.right,hk] at this
  exact this.2.2.1.1
 obtain ⟨_,gf,gt,g2,g3,g4,g5⟩:=Gft.right_lt hg
 have hls:=hf.size
 have hlen:=hf.len
 have hsh:=hf.gsh
 have vc:=ai n.ents.length (by omega)
 have hgb:n.gift.bytes.length<2^18:=by
  have a1:=ai n.gift.no hf.gno
  have a2:=ai gf (by omega)
  have a3:=ai gt (by omega)
  have a4:=aV (idBits n.gift.sh)
  have a5:=ai (pack (idBits n.gift.sh)).length (by omega)
  unfold Gft.bytes
  rw [g2,g3]
  simp [txt]
  omega
 have hl:([u8 6,u8 n.fr,u8 n.to]++n.gift.bytes++txt E++vnum n.ents.length++entB n.ents).length<2^20:=by simp;omega
 have eg:n.gift=⟨n.gift.no,gf,gt,n.gift.sh⟩:=by rw [←g2,←g3]
 have q1 : ∀ (H:Heap) (nx id:Nat),H id=some (.cells (byt [u8 6,u8 n.fr,u8 n.to]))→id<nx→Ω 27 [.arr id 0 3 1 3 true,.p (Gft.pv n.gift)] H nx=some (.p (.sl (bytP ([u8 6,u8 n.fr,u8 n.to]++n.gift.bytes)) ([u8 6,u8 n.fr,u8 n.to]++n.gift.bytes).length 1 false),[],[]):=fun H nx id h1 h2=>by
  have:=vB (.whole' (n:=3) (cp:=3) (ex:=true) (F:=[u8 6,u8 n.fr,u8 n.to]) rfl h1 h2) n.gift.no gf gt n.gift.sh hf.gno g4 g5 (by simp) (by omega)
  rw [←eg] at this
  exact this
 have t1 : ∀ (H:Heap) (nx:Nat),Ω 28 [.p (.sl (bytP ([u8 6,u8 n.fr,u8 n.to]++n.gift.bytes)) ([u8 6,u8 n.fr,u8 n.to]++n.gift.bytes).length 1 false),bstr E] H nx=_:=fun H nx=>fo (.sl ([u8 6,u8 n.fr,u8 n.to]++n.gift.bytes) false) E (by simp;omega) (by omega)
 have p1 : ∀ (H:Heap) (nx id:Nat),H id=some (.cells (byt ([u8 6,u8 n.fr,u8 n.to]++n.gift.bytes++txt E)))→id<nx→Ω 30 [.arr id 0 ([u8 6,u8 n.fr,u8 n.to]++n.gift.bytes++txt E).length 1 ([u8 6,u8 n.fr,u8 n.to]++n.gift.bytes++txt E).length false,.p (entP (Ent.row fl) 5 n.ents)] H nx=_:=fun H nx id h1 h2=>je (.whole h1 h2) n.ents fl (by omega) hf.ents (by simp;omega)
 have g1 : ∀ (H:Heap) (nx:Nat),_=_:=fun H nx=>rb ([u8 6,u8 n.fr,u8 n.to]++n.gift.bytes++txt E++vnum n.ents.length++entB n.ents) false (by simp) (by omega) H nx
 simp only [Nte.pv,Nte.cells] at r ⊢
 generalize hz:entP (Ent.row fl) 5 n.ents=z at*
 generalize n.ev.ptr=ep at*
 generalize n.ev.n=en at*
 rw [hk] at r ⊢
 rw [if_neg (by omega),if_neg (by omega),if_neg (by omega),if_pos rfl]
 simp only [←List.append_assoc]
 simp only [ba,bp] at q1
 generalize [u8 6,u8 n.fr,u8 n.to]++n.gift.bytes++txt E++vnum n.ents.length++entB n.ents=P4 at*
 generalize [u8 6,u8 n.fr,u8 n.to]++n.gift.bytes++txt E=P2 at*
 generalize [u8 6,u8 n.fr,u8 n.to]++n.gift.bytes=P1 at*
 have h20:(P4.length:Int)≤1048576:=by omega
 generalize frame P4=F at*
 simp [ir9,ssI,↓ssJ,ssU,ssP,appO,gP,hasK,r,wf,wt,ws,w,q1,t1,p1,g1,ce,bb,jl,au,ah,ay,aE,aJ,aI,aK,av,aD,aF,ah,h20,k0,k1]
theorem nZ (n:Nte) (fl:Bool) (hk:n.kind=7) (hf:n.Fit) (hr:n.right=true) (H:Heap) (nx:Nat):Ω 9 [.p (n.pv fl)] H nx=some (n.ans,[],[]):=by
 refine af (ir:=ir9) (by kernel_rfl) 0 ?_
 have r:=fun H nx=>bJ n fl (by have:=hf.len;omega) (fun x hx=>by have:=hf.max x hx;omega) (by have:=hf.ev;omega) H nx
 rw [hr] at r
 obtain ⟨⟨f0,f1⟩,⟨t0,t1⟩,⟨s0,s1⟩⟩:=aW hr
 have wf:=aH n.fr f0 (by omega)
 have wt:=aH n.to t0 (by omega)
 have ws:=aH n.seq s0 (by omega)
 have ce:=fun H nx=>cq n.ev (by have:=hf.ev;omega) (by have:=hf.bits;omega) H nx
 have pl:=aV (evBits n.ev)
 have hb:=hf.bits
 have vl:=ai n.ses hf.ses
 have vn:=ai n.no hf.no
 have e1:(Ev.pv n.ev) = .agg [.s (.int .u64 n.ev.n),n.ev.ptr]:=rfl
 rw [e1] at ce
 have tl:(txt (pack (evBits n.ev))).length≤(pack (evBits n.ev)).length+10:=by
  have:=ai (pack (evBits n.ev)).length (by omega)
  rw [txt,List.length_append];omega
 unfold Nte.ans Nte.body Nte.rest
 rw [if_pos hr]
 generalize pack (evBits n.ev)=E at*
 have bb:=aO E
 have kk : ∀ k:Int,0≤k→k<8→IntKind.u8.wrap k=((u8 k).toNat:Int):=fun k h0 h1=>aH k h0 (by omega)
 have k0 : ∀ k,nx<nx+(k+1):=fun k=>by omega
 have k1 : ∀ k m,nx+k<nx+m↔k<m:=fun k m=>by omega
 have w:=kk 7 (by omega) (by omega)
 have hl:([u8 7,u8 n.fr,u8 n.to]++vnum n.no).length<2^20:=by simp;omega
 have n1 : ∀ (H:Heap) (nx id:Nat),H id=some (.cells (byt [u8 7,u8 n.fr,u8 n.to]))→id<nx→Ω 26 [.arr id 0 3 1 3 true,.int .u64 n.no] H nx=_:=fun H nx id h1 h2=>eN (.whole' (F:=[u8 7,u8 n.fr,u8 n.to]) rfl h1 h2) n.no hf.no (by simp)
 have g1 : ∀ (H:Heap) (nx id:Nat),H id=some (.cells (byt ([u8 7,u8 n.fr,u8 n.to]++vnum n.no)))→id<nx→Ω 31 [.arr id 0 ([u8 7,u8 n.fr,u8 n.to]++vnum n.no).length 1 ([u8 7,u8 n.fr,u8 n.to]++vnum n.no).length false] H nx=_:=fun H nx id h1 h2=>jm _ (by simp) (by omega) id _ _ H nx h1 h2
 simp only [Nte.pv,Nte.cells] at r ⊢
 generalize hz:entP (Ent.row fl) 5 n.ents=z at*
 generalize n.ev.ptr=ep at*
 generalize n.ev.n=en at*
 rw [hk] at r ⊢
 rw [if_neg (by omega),if_neg (by omega),if_neg (by omega),if_neg (by omega),if_pos rfl]
 simp only [ba,bp] at n1
 generalize [u8 7,u8 n.fr,u8 n.to]++vnum n.no=P2 at*
 have h20:(P2.length:Int)≤1048576:=by omega
 generalize frame P2=F at*
 simp [ir9,ssI,↓ssJ,ssU,ssP,appO,gP,hasK,r,wf,wt,ws,w,n1,g1,ce,bb,jl,au,ah,ay,aE,aJ,aI,aK,av,aD,aF,ah,h20,k0,k1]
theorem mi (n:Nte) (fl:Bool) (hL:n.ents.length<2^31) (hx : ∀ x∈n.ents,x.v.ev.max<2^63) (hev:n.ev.max<2^63) (hr:n.right=false) (H:Heap) (nx:Nat):Ω 9 [.p (n.pv fl)] H nx=some (n.ans,[],[]):=by
 refine af (ir:=ir9) (by kernel_rfl) 0 ?_
 have r:=fun H nx=>bJ n fl hL hx hev H nx
 rw [hr] at r
 unfold Nte.ans
 rw [hr]
 simp only [Nte.pv,Nte.cells] at r ⊢
 generalize entP (Ent.row fl) 5 n.ents=z at*
 simp [ir9,ssI,↓ssJ,ssU,ssP,appO,r]
theorem kw {n:Nte} (h:n.right=true):n.kind=1∨n.kind=2∨n.kind=3∨n.kind=4∨n.kind=5∨n.kind=6∨n.kind=7:=by
 have h0:0≤hasK n.kind:=by
  simp only [Nte.right,Bool.and_eq_true,decide_eq_true_eq] at h
  exact h.1.1.1.1
 unfold hasK at h0
 omega
theorem pz (n:Nte) (fl:Bool) (hf:n.Fit) (H:Heap) (nx:Nat):Ω 9 [.p (n.pv fl)] H nx=some (n.ans,[],[]):=by
 cases hr:n.right with
 | false=>exact mi n fl (by have:=hf.len;omega) (fun x hx=>by have:=hf.max x hx;omega) (by have:=hf.ev;omega) hr H nx
 | true=>
  rcases kw hr with h|h|h|h|h|h|h
  ·exact gU n fl 1 h (.inl rfl) hf hr H nx
  ·exact gU n fl 2 h (.inr rfl) hf hr H nx
  ·exact nV n fl h hf hr H nx
  ·exact nW n fl h hf hr H nx
  ·exact nX n fl h hf hr H nx
  ·exact nY n fl h hf hr H nx
  ·exact nZ n fl h hf hr H nx
end Go.Proofs.YtppeggedcaabkaaGreatDoor
end

section
namespace Go.Proofs.YtppeggedcaabkaaGreatDoor
open Go Go.Sx
theorem Ah {H:Heap} {nx:Nat} {x y z w v:LV} {F G K M V:List UInt8} (f:Bs H nx x F) (g:Bs H nx y G) (k:Bs H nx z K) (m:Bs H nx w M) (v':Bs H nx v V) (h30:F.length+G.length+K.length+M.length+V.length<2^31) (aid:Nat) (ha:H aid=some (.cells [x,y,z,w,v])) (haid:aid<nx):
  Ω 36 [.arr aid 0 5 1 5 true] H nx=some (sum' (F++G++K++M++V),[],[]):=by
 have:=mH [x,y,z,w,v] [F,G,K,M,V] H nx aid 5 true ha haid (.cons f (.cons g (.cons k (.cons m (.cons v' .nil))))) (by simp) (by simp;omega)
 simpa using this
theorem kK (n:Nte) (fl:Bool) (hf:n.Fit) (hr:n.right=false) (H:Heap) (nx:Nat):Ω 10 [.p (n.rv fl)] H nx=some (n.ans,[],[]):=by
 refine af (ir:=ir10) (by kernel_rfl) 0 ?_
 have r:=fun H nx=>eW n fl (by have:=hf.len;omega) (fun x hx=>by have:=hf.max x hx;omega) (by have:=hf.ev;omega) hf.norm H nx
 rw [iS n hf.norm,hr] at r
 unfold Nte.ans
 rw [hr]
 simp only [Nte.rv,Nte.rcells] at r ⊢
 generalize entP (Ent.rrow fl) 4 n.ents=z at*
 simp [ir10,ssI,↓ssJ,ssU,ssP,appO,r]
theorem iQ (n:Nte) (fl:Bool) (hf:n.Fit) (hr:n.right=true):(∀ H nx,Ω 13 [.p (n.rv fl)] H nx=some (.bool true,[],[]))∧(∀ H nx,Ω 32 [.int .u64 n.ses] H nx=some (.arr nx 0 (vnum n.ses).length 1 (vnum n.ses).length (decide (n.ses<128)),[],[some (.cells (byt (vnum n.ses)))])) ∧
  (∀ H nx,Ω 35 [.p (.s (.slice none 0 0)),.p n.ev.rv] H nx=some (blV (evBits n.ev),[],[]))∧(∀ H nx,Ω 34 [blV (evBits n.ev)] H nx=some (.p (.sl (bytP (pack (evBits n.ev))) (pack (evBits n.ev)).length 1 false),[],[])) ∧
  (∀ H nx,Ω 33 [bstr (pack (evBits n.ev))] H nx=some (.arr nx 0 (txt (pack (evBits n.ev))).length 1 (txt (pack (evBits n.ev))).length (pack (evBits n.ev)).isEmpty,[],[some (.cells (byt (txt (pack (evBits n.ev)))))])):=by
 have hb:=hf.bits
 have hp:=aV (evBits n.ev)
 refine ⟨fun H nx => ?_,fun H nx=>gZ n.ses hf.ses H nx,fun H nx => ?_,fun H nx=>pN _ ?_ (by omega) H nx,fun H nx => ?_⟩
 ·rw [eW n fl (by have:=hf.len;omega) (fun x hx=>by have:=hf.max x hx;omega) (by have:=hf.ev;omega) hf.norm H nx,iS n hf.norm,hr]
 ·have:=cV n.ev hf.norm (by have:=hf.ev;omega) (.p (.s (.slice none 0 0))) [] .nil (by simp;omega) H nx
  simpa using this
 ·exact eh n.ev
 ·exact fK _ (by omega) H nx
theorem fY (n:Nte) (fl:Bool) (k:Int) (hk:n.kind=k) (hk2:k=1∨k=2) (hf:n.Fit) (hr:n.right=true) (H:Heap) (nx:Nat):Ω 10 [.p (n.rv fl)] H nx=some (n.ans,[],[]):=by
 refine af (ir:=ir10) (by kernel_rfl) 0 ?_
 obtain ⟨r,nu,ev,bt,tx⟩:=iQ n fl hf hr
 obtain ⟨⟨f0,f1⟩,⟨t0,t1⟩,⟨s0,s1⟩⟩:=aW hr
 have wf:=aH n.fr f0 (by omega)
 have wt:=aH n.to t0 (by omega)
 have ws:=aH n.seq s0 (by omega)
 have pl:=aV (evBits n.ev)
 have hb:=hf.bits
 have vl:=ai n.ses hf.ses
 have vn:=ai n.no hf.no
 have tl:(txt (pack (evBits n.ev))).length≤(pack (evBits n.ev)).length+10:=by
  have:=ai (pack (evBits n.ev)).length (by omega)
  rw [txt,List.length_append];omega
 unfold Nte.ans Nte.body Nte.rest
 rw [if_pos hr]
 have k0 : ∀ k,nx<nx+(k+1):=fun k=>by omega
 have k1 : ∀ k m,nx+k<nx+m↔k<m:=fun k m=>by omega
 have hp0 : ∀ k,bytP [u8 k,u8 n.fr,u8 n.to]=[.s (.int .u8 (u8 k).toNat),.s (.int .u8 (u8 n.fr).toNat),.s (.int .u8 (u8 n.to).toNat)]:=fun k=>rfl
 have bb:=aO (pack (evBits n.ev))
 obtain ⟨es,he⟩:=Ev.rv_imm n.ev
 have w:=aH k (by omega) (by omega)
 simp only [Nte.rv,Nte.rcells,he] at r ev ⊢
 rw [hk] at r ⊢
 rw [if_pos hk2,←List.append_assoc]
 generalize hE:txt (pack (evBits n.ev))=T at*
 generalize (pack (evBits n.ev)).isEmpty=be at*
 generalize pack (evBits n.ev)=E at*
 generalize evBits n.ev=B at*
 generalize hS:vnum n.ses=S at*
 generalize decide (n.ses<128)=bs at*
 generalize entP (Ent.rrow fl) 4 n.ents=z at*
 have j1 : ∀ (H:Heap) (nx aid:Nat),H aid=some (.cells [.p (.sl (bytP [u8 k,u8 n.fr,u8 n.to]) 3 1 true),.p (.sl (bytP S) S.length 1 bs),.p (.sl (bytP T) T.length 1 be)])→aid<nx→Ω 36 [.arr aid 0 3 1 3 true] H nx=some (.p (.sl (bytP ([u8 k,u8 n.fr,u8 n.to]++S++T)) ([u8 k,u8 n.fr,u8 n.to]++S++T).length 1 false),[],[]):=fun H nx aid h1 h2=>by
  rw [nP (.sl [u8 k,u8 n.fr,u8 n.to] true) (.sl S bs) (.sl T be) (by simp;omega) aid h1 h2,co (by simp)]
 have g1 : ∀ (H:Heap) (nx:Nat),Ω 17 [.p (.sl (bytP ([u8 k,u8 n.fr,u8 n.to]++S++T)) ([u8 k,u8 n.fr,u8 n.to]++S++T).length 1 false)] H nx=_:=fun H nx=>fM (.sl _ false) (by simp;omega)
 rw [hp0] at j1
 have h20:(([u8 k,u8 n.fr,u8 n.to]++S++T).length:Int)≤1048576:=by simp only [List.length_append,List.length_cons,List.length_nil];omega
 generalize [u8 k,u8 n.fr,u8 n.to]++S++T=P2 at*
 generalize frame P2=F at*
 rcases hk2 with rfl|rfl
 all_goals
  simp [ir10,ssI,↓ssJ,ssU,ssP,appO,r,nu,ev,bt,tx,wf,wt,ws,w,bb,au,ah,ay,aE,aJ,aI,aK,av,aD,aF,ah,h20,k0,k1,av,j1,g1]
theorem mz (n:Nte) (fl:Bool) (hk:n.kind=4) (hf:n.Fit) (hr:n.right=true) (H:Heap) (nx:Nat):Ω 10 [.p (n.rv fl)] H nx=some (n.ans,[],[]):=by
 refine af (ir:=ir10) (by kernel_rfl) 0 ?_
 obtain ⟨r,nu,ev,bt,tx⟩:=iQ n fl hf hr
 obtain ⟨⟨f0,f1⟩,⟨t0,t1⟩,⟨s0,s1⟩⟩:=aW hr
 have wf:=aH n.fr f0 (by omega)
 have wt:=aH n.to t0 (by omega)
 have ws:=aH n.seq s0 (by omega)
 have pl:=aV (evBits n.ev)
 have hb:=hf.bits
 have vl:=ai n.ses hf.ses
 have vn:=ai n.no hf.no
 have tl:(txt (pack (evBits n.ev))).length≤(pack (evBits n.ev)).length+10:=by
  have:=ai (pack (evBits n.ev)).length (by omega)
  rw [txt,List.length_append];omega
 unfold Nte.ans Nte.body Nte.rest
 rw [if_pos hr]
 have k0 : ∀ k,nx<nx+(k+1):=fun k=>by omega
 have k1 : ∀ k m,nx+k<nx+m↔k<m:=fun k m=>by omega
 have hp0 : ∀ k,bytP [u8 k,u8 n.fr,u8 n.to]=[.s (.int .u8 (u8 k).toNat),.s (.int .u8 (u8 n.fr).toNat),.s (.int .u8 (u8 n.to).toNat)]:=fun k=>rfl
 have bb:=aO (pack (evBits n.ev))
 obtain ⟨es,he⟩:=Ev.rv_imm n.ev
 have w:=aH 4 (by omega) (by omega)
 have hls:=hf.size
 have hlen:=hf.len
 simp only [Nte.rv,Nte.rcells,he] at r ev ⊢
 rw [hk] at r ⊢
 rw [if_neg (by omega),if_neg (by omega),if_pos rfl,←List.append_assoc]
 generalize hE:txt (pack (evBits n.ev))=T at*
 generalize (pack (evBits n.ev)).isEmpty=be at*
 generalize pack (evBits n.ev)=E at*
 generalize evBits n.ev=B at*
 generalize hS:vnum n.ses=S at*
 generalize decide (n.ses<128)=bs at*
 generalize entP (Ent.rrow fl) 4 n.ents=z at*
 have j1 : ∀ (H:Heap) (nx aid:Nat),H aid=some (.cells [.p (.sl (bytP [u8 4,u8 n.fr,u8 n.to]) 3 1 true),.p (.sl (bytP S) S.length 1 bs),.p (.sl (bytP [u8 n.seq]) 1 1 true)])→aid<nx→Ω 36 [.arr aid 0 3 1 3 true] H nx=some (.p (.sl (bytP ([u8 4,u8 n.fr,u8 n.to]++S++[u8 n.seq])) ([u8 4,u8 n.fr,u8 n.to]++S++[u8 n.seq]).length 1 false),[],[]):=fun H nx aid h1 h2=>by
  rw [nP (.sl [u8 4,u8 n.fr,u8 n.to] true) (.sl S bs) (.sl [u8 n.seq] true) (by simp;omega) aid h1 h2,co (by simp)]
 have g1 : ∀ (H:Heap) (nx:Nat),Ω 17 [.p (.sl (bytP ([u8 4,u8 n.fr,u8 n.to]++S++[u8 n.seq])) ([u8 4,u8 n.fr,u8 n.to]++S++[u8 n.seq]).length 1 false)] H nx=_:=fun H nx=>fM (.sl _ false) (by simp;omega)
 have h20:(([u8 4,u8 n.fr,u8 n.to]++S++[u8 n.seq]).length:Int)≤1048576:=by simp only [List.length_append,List.length_cons,List.length_nil];omega
 have e1:bytP [u8 n.seq]=[.s (.int .u8 (u8 n.seq).toNat)]:=rfl
 rw [e1] at j1
 rw [hp0] at j1
 generalize [u8 4,u8 n.fr,u8 n.to]++S++[u8 n.seq]=P2 at*
 generalize frame P2=F at*
 simp [ir10,ssI,↓ssJ,ssU,ssP,appO,r,nu,ev,bt,tx,wf,wt,ws,w,bb,au,ah,ay,aE,aJ,aI,aK,av,aD,aF,ah,h20,k0,k1,av,j1,g1]
theorem mA (n:Nte) (fl:Bool) (hk:n.kind=5) (hf:n.Fit) (hr:n.right=true) (H:Heap) (nx:Nat):Ω 10 [.p (n.rv fl)] H nx=some (n.ans,[],[]):=by
 refine af (ir:=ir10) (by kernel_rfl) 0 ?_
 obtain ⟨r,nu,ev,bt,tx⟩:=iQ n fl hf hr
 obtain ⟨⟨f0,f1⟩,⟨t0,t1⟩,⟨s0,s1⟩⟩:=aW hr
 have wf:=aH n.fr f0 (by omega)
 have wt:=aH n.to t0 (by omega)
 have ws:=aH n.seq s0 (by omega)
 have pl:=aV (evBits n.ev)
 have hb:=hf.bits
 have vl:=ai n.ses hf.ses
 have vn:=ai n.no hf.no
 have tl:(txt (pack (evBits n.ev))).length≤(pack (evBits n.ev)).length+10:=by
  have:=ai (pack (evBits n.ev)).length (by omega)
  rw [txt,List.length_append];omega
 unfold Nte.ans Nte.body Nte.rest
 rw [if_pos hr]
 have k0 : ∀ k,nx<nx+(k+1):=fun k=>by omega
 have k1 : ∀ k m,nx+k<nx+m↔k<m:=fun k m=>by omega
 have hp0 : ∀ k,bytP [u8 k,u8 n.fr,u8 n.to]=[.s (.int .u8 (u8 k).toNat),.s (.int .u8 (u8 n.fr).toNat),.s (.int .u8 (u8 n.to).toNat)]:=fun k=>rfl
 have bb:=aO (pack (evBits n.ev))
 obtain ⟨es,he⟩:=Ev.rv_imm n.ev
 have w:=aH 5 (by omega) (by omega)
 have hls:=hf.size
 have hlen:=hf.len
 simp only [Nte.rv,Nte.rcells,he] at r ev ⊢
 rw [hk] at r ⊢
 rw [if_neg (by omega),if_neg (by omega),if_neg (by omega),if_neg (by omega),if_neg (by omega),List.append_nil]
 generalize hE:txt (pack (evBits n.ev))=T at*
 generalize (pack (evBits n.ev)).isEmpty=be at*
 generalize pack (evBits n.ev)=E at*
 generalize evBits n.ev=B at*
 generalize hS:vnum n.ses=S at*
 generalize decide (n.ses<128)=bs at*
 generalize entP (Ent.rrow fl) 4 n.ents=z at*
 have g1 : ∀ (H:Heap) (nx:Nat),Ω 17 [.p (.sl (bytP [u8 5,u8 n.fr,u8 n.to]) 3 1 true)] H nx=_:=fun H nx=>fM (.sl [u8 5,u8 n.fr,u8 n.to] true) (by simp)
 rw [hp0] at g1
 have h20:(3:Int)≤1048576:=by omega
 generalize frame [u8 5,u8 n.fr,u8 n.to]=F at*
 simp [ir10,ssI,↓ssJ,ssU,ssP,appO,r,nu,ev,bt,tx,wf,wt,ws,w,bb,au,ah,ay,aE,aJ,aI,aK,av,aD,aF,ah,h20,k0,k1,av,g1]
theorem mw (n:Nte) (fl:Bool) (hk:n.kind=3) (hf:n.Fit) (hr:n.right=true) (H:Heap) (nx:Nat):Ω 10 [.p (n.rv fl)] H nx=some (n.ans,[],[]):=by
 refine af (ir:=ir10) (by kernel_rfl) 0 ?_
 obtain ⟨r,nu,ev,bt,tx⟩:=iQ n fl hf hr
 obtain ⟨⟨f0,f1⟩,⟨t0,t1⟩,⟨s0,s1⟩⟩:=aW hr
 have wf:=aH n.fr f0 (by omega)
 have wt:=aH n.to t0 (by omega)
 have ws:=aH n.seq s0 (by omega)
 have pl:=aV (evBits n.ev)
 have hb:=hf.bits
 have vl:=ai n.ses hf.ses
 have vn:=ai n.no hf.no
 have tl:(txt (pack (evBits n.ev))).length≤(pack (evBits n.ev)).length+10:=by
  have:=ai (pack (evBits n.ev)).length (by omega)
  rw [txt,List.length_append];omega
 unfold Nte.ans Nte.body Nte.rest
 rw [if_pos hr]
 have k0 : ∀ k,nx<nx+(k+1):=fun k=>by omega
 have k1 : ∀ k m,nx+k<nx+m↔k<m:=fun k m=>by omega
 have hp0 : ∀ k,bytP [u8 k,u8 n.fr,u8 n.to]=[.s (.int .u8 (u8 k).toNat),.s (.int .u8 (u8 n.fr).toNat),.s (.int .u8 (u8 n.to).toNat)]:=fun k=>rfl
 have bb:=aO (pack (evBits n.ev))
 obtain ⟨es,he⟩:=Ev.rv_imm n.ev
 have w:=aH 3 (by omega) (by omega)
 have hls:=hf.size
 have hlen:=hf.len
 simp only [Nte.rv,Nte.rcells,he] at r ev ⊢
 rw [hk] at r ⊢
 rw [if_neg (by omega),if_pos rfl]
 have vc:=ai n.ents.length (by omega)
 have en:=fun H nx=>lr n.ents fl (by omega) (fun x hx=>⟨hf.ents x hx,hf.enorm x hx⟩) (by omega) H nx
 have eX:vnum n.ses++[u8 n.seq]++[bit n.last]++txt (pack (evBits n.ev))++vnum n.ents.length++entB n.ents=vnum n.ses++[u8 n.seq,bit n.last]++txt (pack (evBits n.ev))++(vnum n.ents.length++entB n.ents):=by simp
 rw [eX]
 have hX:(vnum n.ents.length++entB n.ents).length<2^19+20:=by simp;omega
 generalize vnum n.ents.length++entB n.ents=X at*
 generalize hE:txt (pack (evBits n.ev))=T at*
 generalize (pack (evBits n.ev)).isEmpty=be at*
 generalize pack (evBits n.ev)=E at*
 generalize evBits n.ev=B at*
 generalize hS:vnum n.ses=S at*
 generalize decide (n.ses<128)=bs at*
 generalize entP (Ent.rrow fl) 4 n.ents=z at*
 simp only [←List.append_assoc]
 generalize n.ents.isEmpty=bx at*
 have j1 : ∀ (H:Heap) (nx aid:Nat),H aid=some (.cells [.p (.sl (bytP [u8 3,u8 n.fr,u8 n.to]) 3 1 true),.p (.sl (bytP S) S.length 1 bs),.p (.sl (bytP [u8 n.seq,bit n.last]) 2 1 true),.p (.sl (bytP T) T.length 1 be),.p (.sl (bytP X) X.length 1 bx)])→aid<nx→Ω 36 [.arr aid 0 5 1 5 true] H nx=some (.p (.sl (bytP ([u8 3,u8 n.fr,u8 n.to]++S++[u8 n.seq,bit n.last]++T++X)) ([u8 3,u8 n.fr,u8 n.to]++S++[u8 n.seq,bit n.last]++T++X).length 1 false),[],[]):=fun H nx aid h1 h2=>by
  rw [Ah (.sl [u8 3,u8 n.fr,u8 n.to] true) (.sl S bs) (.sl [u8 n.seq,bit n.last] true) (.sl T be) (.sl X bx) (by simp;omega) aid h1 h2,co (by simp)]
 have g1 : ∀ (H:Heap) (nx:Nat),Ω 17 [.p (.sl (bytP ([u8 3,u8 n.fr,u8 n.to]++S++[u8 n.seq,bit n.last]++T++X)) ([u8 3,u8 n.fr,u8 n.to]++S++[u8 n.seq,bit n.last]++T++X).length 1 false)] H nx=_:=fun H nx=>fM (.sl _ false) (by simp;omega)
 have h20:(([u8 3,u8 n.fr,u8 n.to]++S++[u8 n.seq,bit n.last]++T++X).length:Int)≤1048576:=by simp only [List.length_append,List.length_cons,List.length_nil];omega
 have e1:bytP [u8 n.seq,bit n.last]=[.s (.int .u8 (u8 n.seq).toNat),.s (.int .u8 (bit n.last).toNat)]:=rfl
 rw [e1] at j1
 rw [hp0] at j1
 generalize [u8 3,u8 n.fr,u8 n.to]++S++[u8 n.seq,bit n.last]++T++X=P2 at*
 generalize frame P2=F at*
 have eb:(bit false).toNat=0∧(bit true).toNat=1:=⟨rfl,rfl⟩
 cases hb2:n.last
 all_goals
  rw [hb2] at r j1
  simp only [eb,Int.natCast_zero,Int.ofNat_zero,Int.natCast_one] at j1
  simp [ir10,ssI,↓ssJ,ssU,ssP,appO,r,nu,ev,bt,tx,wf,wt,ws,w,bb,au,ah,ay,aE,aJ,aI,aK,av,aD,aF,ah,h20,k0,k1,av,j1,g1,en]
theorem mB (n:Nte) (fl:Bool) (hk:n.kind=6) (hf:n.Fit) (hr:n.right=true) (H:Heap) (nx:Nat):Ω 10 [.p (n.rv fl)] H nx=some (n.ans,[],[]):=by
 refine af (ir:=ir10) (by kernel_rfl) 0 ?_
 obtain ⟨r,nu,ev,bt,tx⟩:=iQ n fl hf hr
 obtain ⟨⟨f0,f1⟩,⟨t0,t1⟩,⟨s0,s1⟩⟩:=aW hr
 have wf:=aH n.fr f0 (by omega)
 have wt:=aH n.to t0 (by omega)
 have ws:=aH n.seq s0 (by omega)
 have pl:=aV (evBits n.ev)
 have hb:=hf.bits
 have vl:=ai n.ses hf.ses
 have vn:=ai n.no hf.no
 have tl:(txt (pack (evBits n.ev))).length≤(pack (evBits n.ev)).length+10:=by
  have:=ai (pack (evBits n.ev)).length (by omega)
  rw [txt,List.length_append];omega
 unfold Nte.ans Nte.body Nte.rest
 rw [if_pos hr]
 have k0 : ∀ k,nx<nx+(k+1):=fun k=>by omega
 have k1 : ∀ k m,nx+k<nx+m↔k<m:=fun k m=>by omega
 have hp0 : ∀ k,bytP [u8 k,u8 n.fr,u8 n.to]=[.s (.int .u8 (u8 k).toNat),.s (.int .u8 (u8 n.fr).toNat),.s (.int .u8 (u8 n.to).toNat)]:=fun k=>rfl
 have bb:=aO (pack (evBits n.ev))
 obtain ⟨es,he⟩:=Ev.rv_imm n.ev
 have w:=aH 6 (by omega) (by omega)
 have hls:=hf.size
 have hlen:=hf.len
 simp only [Nte.rv,Nte.rcells,he] at r ev ⊢
 rw [hk] at r ⊢
 rw [if_neg (by omega),if_neg (by omega),if_neg (by omega),if_pos rfl]
 have hg:n.gift.right=true:=by
  have:=hr
  simp [Nte.right,hk] at this
  exact this.2.2.1.1
 obtain ⟨_,gf,gt,g2,g3,g4,g5⟩:=Gft.right_lt hg
 have hsh:=hf.gsh
 have eg:n.gift=⟨n.gift.no,gf,gt,n.gift.sh⟩:=by rw [←g2,←g3]
 have pg : ∀ H nx,Ω 38 [.p (Gft.rv n.gift)] H nx=some (.p (.sl (bytP n.gift.bytes) n.gift.bytes.length 1 false),[],[]):=fun H nx=>by
  have:=tE n.gift.no gf gt n.gift.sh hf.gno g4 g5 (by omega) H nx
  rw [←eg] at this
  exact this
 have hgb:n.gift.bytes.length<2^18:=by
  have a1:=ai n.gift.no hf.gno
  have a2:=ai gf (by omega)
  have a3:=ai gt (by omega)
  have a4:=aV (idBits n.gift.sh)
  have a5:=ai (pack (idBits n.gift.sh)).length (by omega)
  unfold Gft.bytes
  rw [g2,g3]
  simp [txt]
  omega
 have vc:=ai n.ents.length (by omega)
 have en:=fun H nx=>lr n.ents fl (by omega) (fun x hx=>⟨hf.ents x hx,hf.enorm x hx⟩) (by omega) H nx
 have eX:n.gift.bytes++txt (pack (evBits n.ev))++vnum n.ents.length++entB n.ents=n.gift.bytes++txt (pack (evBits n.ev))++(vnum n.ents.length++entB n.ents):=by simp
 rw [eX]
 have hX:(vnum n.ents.length++entB n.ents).length<2^19+20:=by simp;omega
 generalize vnum n.ents.length++entB n.ents=X at*
 generalize n.gift.bytes=Q at*
 generalize hE:txt (pack (evBits n.ev))=T at*
 generalize (pack (evBits n.ev)).isEmpty=be at*
 generalize pack (evBits n.ev)=E at*
 generalize evBits n.ev=B at*
 generalize hS:vnum n.ses=S at*
 generalize decide (n.ses<128)=bs at*
 generalize entP (Ent.rrow fl) 4 n.ents=z at*
 simp only [←List.append_assoc]
 generalize n.ents.isEmpty=bx at*
 have j1 : ∀ (H:Heap) (nx aid:Nat),H aid=some (.cells [.p (.sl (bytP [u8 6,u8 n.fr,u8 n.to]) 3 1 true),.p (.sl (bytP Q) Q.length 1 false),.p (.sl (bytP T) T.length 1 be),.p (.sl (bytP X) X.length 1 bx)])→aid<nx→Ω 36 [.arr aid 0 4 1 4 true] H nx=some (.p (.sl (bytP ([u8 6,u8 n.fr,u8 n.to]++Q++T++X)) ([u8 6,u8 n.fr,u8 n.to]++Q++T++X).length 1 false),[],[]):=fun H nx aid h1 h2=>by
  rw [uR (.sl [u8 6,u8 n.fr,u8 n.to] true) (.sl Q false) (.sl T be) (.sl X bx) (by simp;omega) aid h1 h2,co (by simp)]
 have g1 : ∀ (H:Heap) (nx:Nat),Ω 17 [.p (.sl (bytP ([u8 6,u8 n.fr,u8 n.to]++Q++T++X)) ([u8 6,u8 n.fr,u8 n.to]++Q++T++X).length 1 false)] H nx=_:=fun H nx=>fM (.sl _ false) (by simp;omega)
 have h20:(([u8 6,u8 n.fr,u8 n.to]++Q++T++X).length:Int)≤1048576:=by simp only [List.length_append,List.length_cons,List.length_nil];omega
 rw [hp0] at j1
 generalize [u8 6,u8 n.fr,u8 n.to]++Q++T++X=P2 at*
 generalize frame P2=F at*
 simp [ir10,ssI,↓ssJ,ssU,ssP,appO,r,nu,ev,bt,tx,wf,wt,ws,w,bb,au,ah,ay,aE,aJ,aI,aK,av,aD,aF,ah,h20,k0,k1,av,j1,g1,en,pg]
theorem mC (n:Nte) (fl:Bool) (hk:n.kind=7) (hf:n.Fit) (hr:n.right=true) (H:Heap) (nx:Nat):Ω 10 [.p (n.rv fl)] H nx=some (n.ans,[],[]):=by
 refine af (ir:=ir10) (by kernel_rfl) 0 ?_
 obtain ⟨r,nu,ev,bt,tx⟩:=iQ n fl hf hr
 obtain ⟨⟨f0,f1⟩,⟨t0,t1⟩,⟨s0,s1⟩⟩:=aW hr
 have wf:=aH n.fr f0 (by omega)
 have wt:=aH n.to t0 (by omega)
 have ws:=aH n.seq s0 (by omega)
 have pl:=aV (evBits n.ev)
 have hb:=hf.bits
 have vl:=ai n.ses hf.ses
 have vn:=ai n.no hf.no
 have tl:(txt (pack (evBits n.ev))).length≤(pack (evBits n.ev)).length+10:=by
  have:=ai (pack (evBits n.ev)).length (by omega)
  rw [txt,List.length_append];omega
 unfold Nte.ans Nte.body Nte.rest
 rw [if_pos hr]
 have k0 : ∀ k,nx<nx+(k+1):=fun k=>by omega
 have k1 : ∀ k m,nx+k<nx+m↔k<m:=fun k m=>by omega
 have hp0 : ∀ k,bytP [u8 k,u8 n.fr,u8 n.to]=[.s (.int .u8 (u8 k).toNat),.s (.int .u8 (u8 n.fr).toNat),.s (.int .u8 (u8 n.to).toNat)]:=fun k=>rfl
 have bb:=aO (pack (evBits n.ev))
 obtain ⟨es,he⟩:=Ev.rv_imm n.ev
 have w:=aH 7 (by omega) (by omega)
 have hls:=hf.size
 have hlen:=hf.len
 simp only [Nte.rv,Nte.rcells,he] at r ev ⊢
 rw [hk] at r ⊢
 rw [if_neg (by omega),if_neg (by omega),if_neg (by omega),if_neg (by omega),if_pos rfl]
 have nn:=fun H nx=>gZ n.no hf.no H nx
 generalize decide (n.no<128)=bn at*
 generalize vnum n.no=V at*
 generalize hE:txt (pack (evBits n.ev))=T at*
 generalize (pack (evBits n.ev)).isEmpty=be at*
 generalize pack (evBits n.ev)=E at*
 generalize evBits n.ev=B at*
 generalize hS:vnum n.ses=S at*
 generalize decide (n.ses<128)=bs at*
 generalize entP (Ent.rrow fl) 4 n.ents=z at*
 have j1 : ∀ (H:Heap) (nx aid id:Nat),H aid=some (.cells [.p (.sl (bytP [u8 7,u8 n.fr,u8 n.to]) 3 1 true),.arr id 0 V.length 1 V.length bn])→aid<nx→H id=some (.cells (byt V))→id<nx→Ω 36 [.arr aid 0 2 1 2 true] H nx=some (.p (.sl (bytP ([u8 7,u8 n.fr,u8 n.to]++V)) ([u8 7,u8 n.fr,u8 n.to]++V).length 1 false),[],[]):=fun H nx aid id h1 h2 h3 h4=>by
  rw [yA (.sl [u8 7,u8 n.fr,u8 n.to] true) (.whole h3 h4) (by simp;omega) aid h1 h2,co (by simp)]
 have g1 : ∀ (H:Heap) (nx:Nat),Ω 17 [.p (.sl (bytP ([u8 7,u8 n.fr,u8 n.to]++V)) ([u8 7,u8 n.fr,u8 n.to]++V).length 1 false)] H nx=_:=fun H nx=>fM (.sl _ false) (by simp;omega)
 have h20:(([u8 7,u8 n.fr,u8 n.to]++V).length:Int)≤1048576:=by simp only [List.length_append,List.length_cons,List.length_nil];omega
 have j1:=fun H nx' aid=>j1 H nx' aid nx
 rw [hp0] at j1
 generalize [u8 7,u8 n.fr,u8 n.to]++V=P2 at*
 generalize frame P2=F at*
 simp [ir10,ssI,↓ssJ,ssU,ssP,appO,r,nu,ev,bt,tx,wf,wt,ws,w,bb,au,ah,ay,aE,aJ,aI,aK,av,aD,aF,ah,h20,k0,k1,av,j1,g1,nn]
theorem oq (n:Nte) (fl:Bool) (hf:n.Fit) (H:Heap) (nx:Nat):Ω 10 [.p (n.rv fl)] H nx=some (n.ans,[],[]):=by
 cases hr:n.right with
 | false=>exact kK n fl hf hr H nx
 | true=>
  rcases kw hr with h|h|h|h|h|h|h
  ·exact fY n fl 1 h (.inl rfl) hf hr H nx
  ·exact fY n fl 2 h (.inr rfl) hf hr H nx
  ·exact mw n fl h hf hr H nx
  ·exact mz n fl h hf hr H nx
  ·exact mA n fl h hf hr H nx
  ·exact mB n fl h hf hr H nx
  ·exact mC n fl h hf hr H nx
end Go.Proofs.YtppeggedcaabkaaGreatDoor
end

section
namespace Go.Proofs.YtppeggedcaabkaaGreatDoor
open Go Go.Sx
theorem gh : ∀ (e:Ev),(evBits e).length+140≤280*2^e.depth
 | .leaf n=>by
  have:=jd 62 n 2
  simp [evBits,ae,Ev.depth];omega
 | .node n l r=>by
  have h1:=gh l
  have h2:=gh r
  have h3:=jd 62 n 2
  have h4:=(pd n (decide (l = .leaf 0)) (decide (r = .leaf 0))).2
  have hd:(Ev.node n l r).depth=1+Max.max l.depth r.depth:=rfl
  have p1:2^l.depth≤2^Max.max l.depth r.depth:=Nat.pow_le_pow_right (by omega) (Nat.le_max_left _ _)
  have p2:2^r.depth≤2^Max.max l.depth r.depth:=Nat.pow_le_pow_right (by omega) (Nat.le_max_right _ _)
  have p3:2^(1+Max.max l.depth r.depth)=2*2^Max.max l.depth r.depth:=by rw [Nat.add_comm,Nat.pow_succ,Nat.mul_comm]
  rw [hd,p3]
  unfold evBits
  simp only [List.length_append,ae]
  have q1:(if n=0 then [] else numBits n 2 62).length≤127:=by
   by_cases q:n=0
   ·rw [if_pos q];exact Nat.zero_le _
   ·rw [if_neg q];omega
  have q2:(if l = .leaf 0 then [] else evBits l).length≤(evBits l).length:=by split<;>simp
  have q3:(if r = .leaf 0 then [] else evBits r).length≤(evBits r).length:=by split<;>simp
  omega
theorem gl : ∀ (i:Id),(idBits i).length+3≤6*2^i.depth
 | .zero=>by simp [idBits,ae,Id.depth]
 | .one=>by simp [idBits,ae,Id.depth]
 | .node l r=>by
  have h1:=gl l
  have h2:=gl r
  have hd:(Id.node l r).depth=1+Max.max l.depth r.depth:=rfl
  have p1:2^l.depth≤2^Max.max l.depth r.depth:=Nat.pow_le_pow_right (by omega) (Nat.le_max_left _ _)
  have p2:2^r.depth≤2^Max.max l.depth r.depth:=Nat.pow_le_pow_right (by omega) (Nat.le_max_right _ _)
  have p3:2^(1+Max.max l.depth r.depth)=2*2^Max.max l.depth r.depth:=by rw [Nat.add_comm,Nat.pow_succ,Nat.mul_comm]
  rw [hd,p3]
  unfold idBits
  split
  ·simp [ae];omega
  ·split<;>simp [ae]<;>omega
def cutB (k:Nat) (x:Option (List UInt8)):Option (List UInt8):=x.map (List.take k)
theorem tq (fl:Bool) (x:Option (List UInt8)):(x=none∧obP fl x = .s (.slice none 0 0))∨∃ l,x=some l∧obP fl x = .sl (bytP l) l.length 1 fl:=by
 cases x with
 | none=>exact .inl ⟨rfl,rfl⟩
 | some l=>exact .inr ⟨l,rfl,rfl⟩
abbrev annF:PV:=.agg [.s (.int .i64 1),.s (.string ⟨#[]⟩),.s (.string ⟨#[65,110,110]⟩)]
def shl (x:Option (List UInt8)):Prop:=∀ l,x=some l→l.length<2^63
theorem ol (x:Option (List UInt8)) (fl gone:Bool) (hx:shl x) (H:Heap) (nx:Nat) (hR : ∀ H,Ω 68 [.p annF] H (nx+2)=some (.int .i64 0,[],[])):
  Ω 23 [.p (obP fl x),.str ⟨#[65,110,110]⟩,.bool gone] H nx=some (.p (.agg [(mkEv 4 (cutB 40 x)).1.rv,crd (!gone) true,.s (.bool gone)]),[],[]):=by
 refine af (ir:=ir23) (by kernel_rfl) 0 ?_
 have h1:short (cutB 40 x):=by
  intro l hl
  cases x with
  | none=>cases hl
  | some y=>simp [cutB] at hl;rw [←hl];have:=hx y rfl;simp;omega
 have m:=fun fl H nx=>jp 4 (cutB 40 x) fl (by omega) h1 H nx
 obtain ⟨es,hE⟩:=Ev.rv_imm (mkEv 4 (cutB 40 x)).1
 rw [hE]
 simp only [hE] at m
 have c4:((4:Nat):Int)=4:=rfl
 simp only [c4] at m
 cases gone
 all_goals
  rcases tq fl x with ⟨rfl,e⟩|⟨l,rfl,e⟩
  ·rw [e]
   have m1:=m false
   simp only [cutB,Option.map_none,cZ] at m1
   simp +contextual (maxSteps:=1000000) [ir23,ssI,↓ssJ,ssU,ssP,appO,m1,hR,eM,eL]
  ·rw [e]
   by_cases hl:l.length≤40
   ·have m1:=m fl
    have hc:cutB 40 (some l)=some l:=by simp [cutB,List.take_of_length_le hl]
    rw [hc,cf] at m1
    have g1:(l.length:Int)≤40:=by omega
    simp +contextual (maxSteps:=1000000) [ir23,ssI,↓ssJ,ssU,ssP,appO,m1,hR,eM,eL,g1]
   ·have m1:=m false
    simp only [cutB,Option.map_some,cf] at m1
    have g1 : ¬(l.length:Int)≤40:=by omega
    have g2:(l.take 40).length=40:=by simp;omega
    have g3:bytP (l.take 40)=(bytP l).take 40:=by simp [bytP]
    have g4:40≤l.length:=by omega
    have g5 : ¬40=l.length:=by omega
    have g6:(40==l.length)=false:=by simpa using g5
    have g7 : ¬l.length=40:=by omega
    rw [g2,g3] at m1
    simp +contextual (maxSteps:=1000000) [ir23,ssI,↓ssJ,ssU,ssP,appO,m1,hR,eM,eL,g1,g4,g5,g6,g7,ah]
end Go.Proofs.YtppeggedcaabkaaGreatDoor
end
