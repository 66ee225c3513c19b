/- What the proof of the claim leans on, part 4 of 5: the value machine, the functions as it has them, their specifications. No condition. -/
import Derived.Test.YtoeblkipfdnnlaaGreatDoorD3
import Derived.WalkKit
set_option linter.all false
set_option linter.unnecessarySimpa false
set_option linter.unusedSimpArgs false
set_option linter.unusedVariables false
set_option linter.constructorNameAsVariable false
set_option maxHeartbeats 4000000
section
namespace Go.Proofs.YtoeblkipfdnnlaaGreatDoor
open Go Go.Sx
mutual
def Ev.kl:Ev→PV
 | .leaf _=>.s (.pointer none)
 | .node _ l _=>l.rv
def Ev.kr:Ev→PV
 | .leaf _=>.s (.pointer none)
 | .node _ _ r=>r.rv
def Ev.rv:Ev→PV
 | .leaf n=>.imm [.s (.int .u64 n),.s (.pointer none),.s (.pointer none)] 0
 | .node n l r=>.imm [.s (.int .u64 n),l.rv,r.rv] 0
end
theorem Ev.rv_l (n:Nat):(Ev.leaf n).rv = .imm [.s (.int .u64 n),.s (.pointer none),.s (.pointer none)] 0:=by rw [Ev.rv]
theorem Ev.rv_n (n:Nat) (l r:Ev):(Ev.node n l r).rv = .imm [.s (.int .u64 n),l.rv,r.rv] 0:=by rw [Ev.rv]
theorem Ev.rv_imm (e:Ev) : ∃ cs,e.rv = .imm cs 0:=by
 cases e
 ·exact ⟨_,Ev.rv_l _⟩
 ·exact ⟨_,Ev.rv_n _ _ _⟩
theorem m9 (n:Nat) (H:Heap) (nx:Nat):Ω 52 [.int .u64 n] H nx=some (.p (Ev.leaf n).rv,[],[]):=by
 refine ax (ir:=ir52) (by kernel_rfl) 0 ?_
 simp [ir52,Ev.rv_l,ssB,ssU,Go.Sx.LV.undef,Go.undef,ssP,appO]
def Ev.norm:Ev→Prop
 | .leaf _=>True
 | .node _ l r=>l.norm∧r.norm∧(l.n=0∨r.n=0)∧¬(l.isLeaf=true∧r.isLeaf=true∧l.n=r.n)
theorem Ev.norm_up (e:Ev) (k:Nat):(e.up k).norm↔e.norm:=by cases e<;>exact Iff.rfl
theorem Ev.norm_down (e:Ev) (k:Nat):(e.down k).norm↔e.norm:=by cases e<;>exact Iff.rfl
theorem Ev.leaf_down (e:Ev) (k:Nat):(e.down k).isLeaf=e.isLeaf:=by cases e<;>rfl
theorem Ev.down_0 (e:Ev):e.down 0=e:=by cases e<;>rfl
theorem Ev.down_depth (e:Ev) (k:Nat):(e.down k).depth=e.depth:=by cases e<;>rfl
theorem Ev.down_max (e:Ev) (k:Nat) (h:k≤e.n):(e.down k).max+k=e.max:=by
 cases e<;>simp [Ev.down,Ev.max,Ev.n] at h ⊢ <;> omega
theorem Ev.mk_norm {n:Nat} {l r:Ev} (hl:l.norm) (hr:r.norm):(Ev.mk n l r).norm:=by
 unfold Ev.mk
 split
 ·trivial
 ·rename_i hc
  refine ⟨(Ev.norm_down _ _).2 hl,(Ev.norm_down _ _).2 hr,?_,?_⟩
  ·rw [Ev.down_n,Ev.down_n]
   rcases Nat.le_total l.n r.n with h|h
   ·left;rw [Nat.min_eq_left h];omega
   ·right;rw [Nat.min_eq_right h];omega
  ·rw [Ev.leaf_down,Ev.leaf_down,Ev.down_n,Ev.down_n]
   rintro ⟨h1,h2,h3⟩
   exact hc ⟨h1,h2,by omega⟩
theorem Ev.mk_id {n:Nat} {l r:Ev} (h:(Ev.node n l r).norm):Ev.mk n l r = .node n l r:=by
 obtain ⟨_,_,h1,h2⟩:=h
 unfold Ev.mk
 rw [if_neg h2,show Min.min l.n r.n=0 by omega,Ev.down_0,Ev.down_0,Nat.add_zero]
theorem Ev.mk_depth (n:Nat) (l r:Ev):(Ev.mk n l r).depth≤1+Max.max l.depth r.depth:=by
 unfold Ev.mk
 split
 ·simp [Ev.depth]
 ·simp [Ev.depth,Ev.down_depth]
theorem Ev.mk_max (n:Nat) (l r:Ev):(Ev.mk n l r).max=n+Max.max l.max r.max:=by
 unfold Ev.mk
 split
 ·rename_i h
  obtain ⟨h1,h2,h3⟩:=h
  cases l with
  | node=>cases h1
  | leaf a=>
   cases r with
   | node=>cases h2
   | leaf b=>
    simp only [Ev.n] at h3
    subst h3
    simp [Ev.max,Ev.n]
 ·have h1:=Ev.down_max l (Min.min l.n r.n) (Nat.min_le_left _ _)
  have h2:=Ev.down_max r (Min.min l.n r.n) (Nat.min_le_right _ _)
  simp only [Ev.max]
  omega
theorem wz:IntKind.u64.wrap 0=0:=by decide
theorem sI : ∀ (e:Ev),e.norm→e.max<2^63→∀ (H:Heap) (nx:Nat),Ω 96 [.p e.rv] H nx=some (.int .u64 e.n,[],[])
 | .leaf n,_,_,H,nx=>by
  refine ax (ir:=ir96) (by kernel_rfl) 0 ?_
  simp [ir96,Ev.rv_l,Ev.n_l,ssB,ssU,Go.Sx.LV.undef,Go.undef,ssP,appO]
 | .node n l r,hn,hm,H,nx=>by
  refine ax (ir:=ir96) (by kernel_rfl) 0 ?_
  have d1:=Ev.max_l n l r
  have d2:=Ev.max_r n l r
  have m1:=Ev.n_max l
  have m2:=Ev.n_max r
  have e1:=sI l hn.1 (by omega)
  have e2:=sI r hn.2.1 (by omega)
  obtain ⟨cl,hcl⟩:=Ev.rv_imm l
  have w1:IntKind.u64.wrap ((n:Int)+l.n)=(n:Int)+l.n:=aW _ (by omega) (by omega)
  have w2:IntKind.u64.wrap ((n:Int)+r.n)=(n:Int)+r.n:=aW _ (by omega) (by omega)
  have w0:IntKind.u64.wrap (n:Int)=n:=aW _ (by omega) (by omega)
  have h0:=hn.2.2.1
  rw [hcl] at e1
  generalize l.n=a at*
  generalize r.n=b at*
  rcases h0 with rfl|rfl
  ·by_cases hb:b=0
   ·subst hb
    simp [ir96,Ev.rv_n,Ev.n_n,hcl,e1,e2,w0,w1,w2,ssB,ssU,Go.Sx.LV.undef,Go.undef,ssP,appO]
   ·have hb':(0:Int)<b:=by omega
    have hb2:0<b:=by omega
    simp [ir96,Ev.rv_n,Ev.n_n,hcl,e1,e2,w0,w1,w2,hb',hb2,hb,ssB,ssU,Go.Sx.LV.undef,Go.undef,ssP,appO]
  ·have hb' : ¬(a:Int)<0:=by omega
   simp [ir96,Ev.rv_n,Ev.n_n,hcl,e1,e2,w0,w1,w2,hb',ssB,ssU,Go.Sx.LV.undef,Go.undef,ssP,appO]
theorem wd (n a b:Nat) (l r:Ev) (hl:l = .leaf a) (hr:r = .leaf a) (h1:n+a<2^64) (H:Heap) (nx:Nat):Ω 53 [.int .u64 n,.p l.rv,.p r.rv] H nx=some (.p (Ev.leaf (n+a)).rv,[],[]):=by
 refine ax (ir:=ir53) (by kernel_rfl) 0 ?_
 have hw:IntKind.u64.wrap ((n:Int)+a)=((n+a:Nat):Int):=by rw [aW _ (by omega) (by omega)];omega
 have e:=m9 (n+a)
 subst hl hr
 generalize n+a=m at*
 simp [ir53,Ev.rv_l,ssB,ssU,Go.Sx.LV.undef,Go.undef,ssP,appO,hw,e]
theorem we (n:Nat) (l r:Ev) (hl:l.norm) (hr:r.norm) (hc : ¬(l.isLeaf=true∧r.isLeaf=true∧l.n=r.n)) (h1:n+l.max<2^63) (h2:r.max<2^63) (H:Heap) (nx:Nat):
  Ω 53 [.int .u64 n,.p l.rv,.p r.rv] H nx=some (.p (Ev.node (n+Min.min l.n r.n) (l.down (Min.min l.n r.n)) (r.down (Min.min l.n r.n))).rv,[],[]):=by
 refine ax (ir:=ir53) (by kernel_rfl) 0 ?_
 have m1:=Ev.n_max l
 have m2:=Ev.n_max r
 have e1:=sI l hl (by omega)
 have e2:=sI r hr h2
 have hw1 : ∀ m:Nat,m≤l.n→IntKind.u64.wrap ((n:Int)+m)=((n+m:Nat):Int):=fun m hm=>by rw [aW _ (by omega) (by omega)];omega
 have hw2 : ∀ m:Nat,m≤l.n→IntKind.u64.wrap ((l.n:Int)-m)=((l.n-m:Nat):Int):=fun m hm=>by rw [aW _ (by omega) (by omega)];omega
 have hw3 : ∀ m:Nat,m≤r.n→IntKind.u64.wrap ((r.n:Int)-m)=((r.n-m:Nat):Int):=fun m hm=>by rw [aW _ (by omega) (by omega)];omega
 by_cases hlt:r.n<l.n
 ·rw [show Min.min l.n r.n=r.n by omega]
  have a1:=hw1 r.n (by omega)
  have a2:=hw2 r.n (by omega)
  have a3:=hw3 r.n (by omega)
  have hlt':(r.n:Int)<l.n:=by omega
  generalize n+r.n=t at*
  cases l with
  | leaf a=>
   cases r with
   | leaf b=>
    simp only [Ev.n_l] at*
    have hne:((a:Int)==b)=false:=by simp;omega
    have hne' : ¬a=b:=by omega
    rw [Ev.rv_l] at e1 e2
    simp [ir53,Ev.rv_l,Ev.rv_n,Ev.down,ssB,ssU,Go.Sx.LV.undef,Go.undef,ssP,appO,e1,e2,wz,a1,a2,a3,hlt,hlt',hne,hne']
   | node b b1 b2=>
    simp only [Ev.n_l,Ev.n_n] at*
    obtain ⟨cb,hcb⟩:=Ev.rv_imm b1
    obtain ⟨cb2,hcb2⟩:=Ev.rv_imm b2
    rw [Ev.rv_l] at e1
    rw [Ev.rv_n,hcb,hcb2] at e2
    simp [ir53,Ev.rv_l,Ev.rv_n,Ev.down,ssB,ssU,Go.Sx.LV.undef,Go.undef,ssP,appO,e1,e2,wz,a1,a2,a3,hlt,hlt',hcb,hcb2]
  | node a x y=>
   obtain ⟨ca,hca⟩:=Ev.rv_imm x
   obtain ⟨ca2,hca2⟩:=Ev.rv_imm y
   cases r with
   | leaf b=>
    simp only [Ev.n_l,Ev.n_n] at*
    rw [Ev.rv_l] at e2
    rw [Ev.rv_n,hca,hca2] at e1
    simp [ir53,Ev.rv_l,Ev.rv_n,Ev.down,ssB,ssU,Go.Sx.LV.undef,Go.undef,ssP,appO,e1,e2,wz,a1,a2,a3,hlt,hlt',hca,hca2]
   | node b b1 b2=>
    obtain ⟨cb,hcb⟩:=Ev.rv_imm b1
    obtain ⟨cb2,hcb2⟩:=Ev.rv_imm b2
    simp only [Ev.n_n] at*
    rw [Ev.rv_n,hcb,hcb2] at e2
    rw [Ev.rv_n,hca,hca2] at e1
    simp [ir53,Ev.rv_l,Ev.rv_n,Ev.down,ssB,ssU,Go.Sx.LV.undef,Go.undef,ssP,appO,e1,e2,wz,a1,a2,a3,hlt,hlt',hca,hca2,hcb,hcb2]
 ·rw [show Min.min l.n r.n=l.n by omega]
  have a1:=hw1 l.n (by omega)
  have a2:=hw2 l.n (by omega)
  have a3:=hw3 l.n (by omega)
  have hlt' : ¬(r.n:Int)<l.n:=by omega
  generalize n+l.n=t at*
  cases l with
  | leaf a=>
   cases r with
   | leaf b=>
    simp only [Ev.n_l] at*
    have hne' : ¬a=b:=fun h=>hc ⟨rfl,rfl,h⟩
    have hne:((a:Int)==b)=false:=by simp;omega
    rw [Ev.rv_l] at e1 e2
    simp [ir53,Ev.rv_l,Ev.rv_n,Ev.down,ssB,ssU,Go.Sx.LV.undef,Go.undef,ssP,appO,e1,e2,wz,a1,a2,a3,hlt,hlt',hne,hne']
   | node b b1 b2=>
    simp only [Ev.n_l,Ev.n_n] at*
    obtain ⟨cb,hcb⟩:=Ev.rv_imm b1
    obtain ⟨cb2,hcb2⟩:=Ev.rv_imm b2
    rw [Ev.rv_l] at e1
    rw [Ev.rv_n,hcb,hcb2] at e2
    simp [ir53,Ev.rv_l,Ev.rv_n,Ev.down,ssB,ssU,Go.Sx.LV.undef,Go.undef,ssP,appO,e1,e2,wz,a1,a2,a3,hlt,hlt',hcb,hcb2]
  | node a x y=>
   obtain ⟨ca,hca⟩:=Ev.rv_imm x
   obtain ⟨ca2,hca2⟩:=Ev.rv_imm y
   cases r with
   | leaf b=>
    simp only [Ev.n_l,Ev.n_n] at*
    rw [Ev.rv_l] at e2
    rw [Ev.rv_n,hca,hca2] at e1
    simp [ir53,Ev.rv_l,Ev.rv_n,Ev.down,ssB,ssU,Go.Sx.LV.undef,Go.undef,ssP,appO,e1,e2,wz,a1,a2,a3,hlt,hlt',hca,hca2]
   | node b b1 b2=>
    obtain ⟨cb,hcb⟩:=Ev.rv_imm b1
    obtain ⟨cb2,hcb2⟩:=Ev.rv_imm b2
    simp only [Ev.n_n] at*
    rw [Ev.rv_n,hcb,hcb2] at e2
    rw [Ev.rv_n,hca,hca2] at e1
    simp [ir53,Ev.rv_l,Ev.rv_n,Ev.down,ssB,ssU,Go.Sx.LV.undef,Go.undef,ssP,appO,e1,e2,wz,a1,a2,a3,hlt,hlt',hca,hca2,hcb,hcb2]
theorem Ax (n:Nat) (l r:Ev) (hl:l.norm) (hr:r.norm) (h1:n+l.max<2^63) (h2:r.max<2^63) (H:Heap) (nx:Nat):
  Ω 53 [.int .u64 n,.p l.rv,.p r.rv] H nx=some (.p (Ev.mk n l r).rv,[],[]):=by
 unfold Ev.mk
 by_cases hc:l.isLeaf=true∧r.isLeaf=true∧l.n=r.n
 ·rw [if_pos hc]
  cases l with
  | leaf a=>
   cases r with
   | leaf b=>
    obtain rfl:a=b:=hc.2.2
    exact wd n a a _ _ rfl rfl (by simp [Ev.max] at h1;omega) H nx
   | node b b1 b2=>cases hc.2.1
  | node a a1 a2=>cases hc.1
 ·rw [if_neg hc]
  exact we n l r hl hr hc h1 h2 H nx
end Go.Proofs.YtoeblkipfdnnlaaGreatDoor
end

section
namespace Go.Proofs.YtoeblkipfdnnlaaGreatDoor
open Go Go.Sx
theorem zw (e:Ev) (n:Nat) (h:e.n+n<2^64) (H:Heap) (nx:Nat):Ω 97 [.p e.rv,.int .u64 n] H nx=some (.p (e.up n).rv,[],[]):=by
 refine ax (ir:=ir97) (by kernel_rfl) 0 ?_
 have hw:IntKind.u64.wrap ((e.n:Int)+n)=((e.n+n:Nat):Int):=by rw [aW _ (by omega) (by omega)];omega
 cases e with
 | leaf a=>
  simp only [Ev.n_l] at hw
  simp [ir97,Ev.rv_l,Ev.up,hw,ssB,ssU,Go.Sx.LV.undef,Go.undef,ssP,appO]
 | node a l r=>
  simp only [Ev.n_n] at hw
  obtain ⟨cl,hcl⟩:=Ev.rv_imm l
  obtain ⟨cr,hcr⟩:=Ev.rv_imm r
  simp [ir97,Ev.rv_n,Ev.up,hw,hcl,hcr,ssB,ssU,Go.Sx.LV.undef,Go.undef,ssP,appO]
def Ev.lf:Ev→Ev
 | .leaf n=>.leaf n
 | .node n l _=>l.up n
def Ev.rt:Ev→Ev
 | .leaf n=>.leaf n
 | .node n _ r=>r.up n
theorem Ev.lf_max (e:Ev):e.lf.max≤e.max:=by
 cases e with
 | leaf=>exact Nat.le_refl _
 | node n l r=>have:=Ev.max_l n l r;simp only [Ev.lf,Ev.up_max];omega
theorem Ev.rt_max (e:Ev):e.rt.max≤e.max:=by
 cases e with
 | leaf=>exact Nat.le_refl _
 | node n l r=>have:=Ev.max_r n l r;simp only [Ev.rt,Ev.up_max];omega
theorem Ev.lf_norm {e:Ev} (h:e.norm):e.lf.norm:=by
 cases e with
 | leaf=>trivial
 | node n l r=>exact (Ev.norm_up _ _).2 h.1
theorem Ev.rt_norm {e:Ev} (h:e.norm):e.rt.norm:=by
 cases e with
 | leaf=>trivial
 | node n l r=>exact (Ev.norm_up _ _).2 h.2.1
theorem Ev.lf_depth (e:Ev) (d:Nat) (h:e.depth≤d+1):e.lf.depth≤d:=by
 cases e with
 | leaf=>exact Nat.zero_le _
 | node n l r=>simp only [Ev.lf,Ev.up_depth];simp only [Ev.depth] at h;omega
theorem Ev.rt_depth (e:Ev) (d:Nat) (h:e.depth≤d+1):e.rt.depth≤d:=by
 cases e with
 | leaf=>exact Nat.zero_le _
 | node n l r=>simp only [Ev.rt,Ev.up_depth];simp only [Ev.depth] at h;omega
theorem wb (e:Ev) (h:e.max<2^64) (H:Heap) (nx:Nat):Ω 54 [.p e.rv] H nx=some (.p e.lf.rv,[],[]):=by
 refine ax (ir:=ir54) (by kernel_rfl) 0 ?_
 cases e with
 | leaf a=>simp [ir54,Ev.rv_l,Ev.lf,ssB,ssU,Go.Sx.LV.undef,Go.undef,ssP,appO]
 | node a l r=>
  have m1:=Ev.max_l a l r
  have m2:=l.n_max
  have e1:=zw l a (by omega)
  obtain ⟨cl,hcl⟩:=Ev.rv_imm l
  rw [hcl] at e1
  simp [ir54,Ev.rv_n,Ev.lf,ssB,ssU,Go.Sx.LV.undef,Go.undef,ssP,appO,hcl,e1]
theorem sJ (e:Ev) (h:e.max<2^64) (H:Heap) (nx:Nat):Ω 55 [.p e.rv] H nx=some (.p e.rt.rv,[],[]):=by
 refine ax (ir:=ir55) (by kernel_rfl) 0 ?_
 cases e with
 | leaf a=>simp [ir55,Ev.rv_l,Ev.rt,ssB,ssU,Go.Sx.LV.undef,Go.undef,ssP,appO]
 | node a l r=>
  have m1:=Ev.max_r a l r
  have m2:=r.n_max
  have e1:=zw r a (by omega)
  obtain ⟨cl,hcl⟩:=Ev.rv_imm l
  obtain ⟨cr,hcr⟩:=Ev.rv_imm r
  rw [hcr] at e1
  simp [ir55,Ev.rv_n,Ev.rt,ssB,ssU,Go.Sx.LV.undef,Go.undef,ssP,appO,hcl,hcr,e1]
def Ev.rleq:Nat→Ev→Ev→Bool
 | 0,a,b=>decide (a.n≤b.n)
 | d+1,a,b=>if a.isLeaf&&b.isLeaf then decide (a.n≤b.n) else Ev.rleq d a.lf b.lf&&Ev.rleq d a.rt b.rt
theorem lZ (n m:Nat) (H:Heap) (nx:Nat):Ω 19 [.p (Ev.leaf n).rv,.p (Ev.leaf m).rv] H nx=some (.bool (decide (n≤m)),[],[]):=by
 refine ax (ir:=ir19) (by kernel_rfl) 0 ?_
 simp [ir19,Ev.rv_l,ssB,ssU,Go.Sx.LV.undef,Go.undef,ssP,appO]
 try exact decide_eq_decide.2 Iff.rfl
theorem Bp : ∀ (d:Nat) (a b:Ev),a.depth≤d→b.depth≤d→a.max<2^63→b.max<2^63→∀ (H:Heap) (nx:Nat),Ω 19 [.p a.rv,.p b.rv] H nx=some (.bool (Ev.rleq d a b),[],[]):=by
 intro d
 induction d with
 | zero=>
  intro a b ha hb _ _ H nx
  cases a with
  | node n l r=>simp [Ev.depth] at ha
  | leaf n=>
   cases b with
   | node n l r=>simp [Ev.depth] at hb
   | leaf m=>exact lZ n m H nx
 | succ d ih=>
  intro a b ha hb hma hmb H nx
  have e1:=ih a.lf b.lf (a.lf_depth d ha) (b.lf_depth d hb) (Nat.lt_of_le_of_lt a.lf_max hma) (Nat.lt_of_le_of_lt b.lf_max hmb)
  have e2:=ih a.rt b.rt (a.rt_depth d ha) (b.rt_depth d hb) (Nat.lt_of_le_of_lt a.rt_max hma) (Nat.lt_of_le_of_lt b.rt_max hmb)
  have l1:=wb a (by omega)
  have l2:=wb b (by omega)
  have r1:=sJ a (by omega)
  have r2:=sJ b (by omega)
  have hu:Ev.rleq (d+1) a b=if a.isLeaf&&b.isLeaf then decide (a.n≤b.n) else Ev.rleq d a.lf b.lf&&Ev.rleq d a.rt b.rt:=rfl
  generalize Ev.rleq d a.lf b.lf=x at*
  generalize Ev.rleq d a.rt b.rt=y at*
  generalize a.lf=al at*
  generalize a.rt=ar at*
  generalize b.lf=bl at*
  generalize b.rt=br at*
  cases a with
  | leaf n=>
   cases b with
   | leaf m=>rw [hu];exact lZ n m H nx
   | node m u v=>
    rw [hu]
    refine ax (ir:=ir19) (by kernel_rfl) 0 ?_
    obtain ⟨cu,hcu⟩:=Ev.rv_imm u
    rw [Ev.rv_l] at l1 r1
    rw [Ev.rv_n,hcu] at l2 r2
    cases x<;>simp [ir19,Ev.rv_l,Ev.rv_n,hcu,Ev.isLeaf,ssB,ssU,Go.Sx.LV.undef,Go.undef,ssP,appO,e1,e2,l1,l2,r1,r2]
  | node n s t=>
   rw [hu]
   refine ax (ir:=ir19) (by kernel_rfl) 0 ?_
   obtain ⟨cs,hcs⟩:=Ev.rv_imm s
   rw [Ev.rv_n,hcs] at l1 r1
   obtain ⟨cb,hcb⟩:=Ev.rv_imm b
   rw [hcb] at l2 r2
   cases x<;>simp [ir19,Ev.rv_n,hcs,hcb,Ev.isLeaf,ssB,ssU,Go.Sx.LV.undef,Go.undef,ssP,appO,e1,e2,l1,l2,r1,r2]
theorem pe : ∀ (d:Nat) (a:Ev) (m:Nat),Ev.rleq d a (.leaf m)=true→a.n≤m
 | 0,a,m,h=>of_decide_eq_true h
 | d+1,a,m,h=>by
  cases a with
  | leaf n=>exact of_decide_eq_true h
  | node n l r=>
   simp only [Ev.rleq,Ev.isLeaf,Bool.false_and,Bool.false_eq_true,if_false,Bool.and_eq_true] at h
   have:=pe d _ m h.1
   simp only [Ev.lf,Ev.up_n] at this
   simp only [Ev.n]
   omega
theorem iW : ∀ (d n:Nat) (b:Ev),b.norm→b.depth≤d→Ev.rleq d (.leaf n) b=decide (n≤b.n)
 | 0,n,b,_,_=>rfl
 | d+1,n,b,hb,hd=>by
  cases b with
  | leaf m=>rfl
  | node m l r=>
   have e1:=iW d n _ (Ev.lf_norm hb) (Ev.lf_depth _ d hd)
   have e2:=iW d n _ (Ev.rt_norm hb) (Ev.rt_depth _ d hd)
   have h0:=hb.2.2.1
   have hu:Ev.rleq (d+1) (.leaf n) (.node m l r)=(Ev.rleq d (.leaf n) (Ev.node m l r).lf&&Ev.rleq d (.leaf n) (Ev.node m l r).rt):=rfl
   rw [hu,e1,e2]
   have q1:(Ev.node m l r).lf.n=l.n+m:=Ev.up_n _ _
   have q2:(Ev.node m l r).rt.n=r.n+m:=Ev.up_n _ _
   have q3:(Ev.node m l r).n=m:=rfl
   generalize (Ev.node m l r).lf.n=x at*
   generalize (Ev.node m l r).rt.n=y at*
   generalize (Ev.node m l r).n=z at*
   rw [←Bool.decide_and]
   exact decide_eq_decide.2 (by omega)
theorem ku : ∀ (d:Nat) (a b:Ev),a.depth≤d→b.depth≤d→b.norm→Ev.rleq d a b=Ev.leq d a b
 | 0,a,b,_,_,_=>rfl
 | d+1,a,b,ha,hb,hn=>by
  cases a with
  | leaf n=>rw [iW _ _ _ hn hb];rfl
  | node n l r=>
   have e1:=ku d _ _ (Ev.lf_depth _ d ha) (Ev.lf_depth _ d hb) (Ev.lf_norm hn)
   have e2:=ku d _ _ (Ev.rt_depth _ d ha) (Ev.rt_depth _ d hb) (Ev.rt_norm hn)
   have hl:b.left.up b.n=b.lf:=by cases b<;>simp [Ev.left,Ev.up,Ev.lf,Ev.n]
   have hr:b.right.up b.n=b.rt:=by cases b<;>simp [Ev.right,Ev.up,Ev.rt,Ev.n]
   have hlq:Ev.leq (d+1) (.node n l r) b=if b.n<n∧b.isLeaf then false else Ev.leq d (l.up n) (b.left.up b.n)&&Ev.leq d (r.up n) (b.right.up b.n):=rfl
   have hrq:Ev.rleq (d+1) (.node n l r) b=(Ev.rleq d (Ev.node n l r).lf b.lf&&Ev.rleq d (Ev.node n l r).rt b.rt):=by simp [Ev.rleq,Ev.isLeaf]
   rw [hlq,hrq,hl,hr,←show Ev.lf (.node n l r)=l.up n from rfl,←show Ev.rt (.node n l r)=r.up n from rfl,←e1,←e2]
   split
   ·rename_i hc
    obtain ⟨h1,h2⟩:=hc
    cases b with
    | node=>cases h2
    | leaf m=>
     cases hq:Ev.rleq d (Ev.node n l r).lf (Ev.leaf m).lf with
     | false=>rfl
     | true=>
      have:=pe d _ m hq
      simp only [Ev.lf,Ev.up_n] at this
      simp only [Ev.n] at h1
      omega
   ·rfl
theorem j9 : ∀ (d d':Nat) (a b:Ev),a.depth≤d→a.depth≤d'→Ev.leq d a b=Ev.leq d' a b
 | d,d',.leaf n,b,_,_=>by cases d<;>cases d'<;>rfl
 | 0,_,.node n l r,b,h,_=>by simp [Ev.depth] at h
 | _,0,.node n l r,b,_,h=>by simp [Ev.depth] at h
 | d+1,d'+1,.node n l r,b,h,h'=>by
  have q:=Nat.le_max_left l.depth r.depth
  have q':=Nat.le_max_right l.depth r.depth
  simp only [Ev.depth] at h h'
  simp only [Ev.leq]
  rw [j9 d d' (l.up n) _ (by rw [Ev.up_depth];omega) (by rw [Ev.up_depth];omega),j9 d d' (r.up n) _ (by rw [Ev.up_depth];omega) (by rw [Ev.up_depth];omega)]
theorem zx (a b:Ev) (hb:b.norm) (ha':a.max<2^63) (hb':b.max<2^63) (H:Heap) (nx:Nat):Ω 19 [.p a.rv,.p b.rv] H nx=some (.bool (Ev.leqb a b),[],[]):=by
 rw [Bp (Max.max a.depth b.depth) a b (Nat.le_max_left _ _) (Nat.le_max_right _ _) ha' hb' H nx,ku _ a b (Nat.le_max_left _ _) (Nat.le_max_right _ _) hb,j9 _ a.depth a b (Nat.le_max_left _ _) (Nat.le_refl _)]
 rfl
def mkEv:Nat→Option (List UInt8)→Ev × Option (List UInt8)
 | _,none=>(.leaf 0,none)
 | _,some []=>(.leaf 0,none)
 | 0,some (b::p)=>(.leaf (b.toNat/4%8),some p)
 | m+1,some (b::p)=>
  if b.toNat%4<2 then (.leaf (b.toNat/4%8),some p)
  else (Ev.mk (b.toNat/4%4) (mkEv m (some p)).1 (mkEv m (mkEv m (some p)).2).1,(mkEv m (mkEv m (some p)).2).2)
theorem gr : ∀ (m:Nat) (x:Option (List UInt8)),short x→short (mkEv m x).2
 | _,none,h=>by unfold mkEv;exact h
 | _,some [],h=>by unfold mkEv;intro l hl;cases hl
 | 0,some (b::p),h=>by
  unfold mkEv
  intro l hl
  obtain rfl:=Option.some.inj hl
  have:=h _ rfl
  simp at this;omega
 | m+1,some (b::p),h=>by
  have hp:short (some p):=fun l hl=>by
   obtain rfl:=Option.some.inj hl
   have:=h _ rfl
   simp at this;omega
  unfold mkEv
  split
  ·exact hp
  ·exact gr m _ (gr m _ hp)
theorem fI : ∀ (m:Nat) (x:Option (List UInt8)),(mkEv m x).1.norm∧(mkEv m x).1.depth≤m∧(mkEv m x).1.max≤7+3*m
 | _,none=>by unfold mkEv;exact ⟨trivial,Nat.zero_le _,Nat.zero_le _⟩
 | _,some []=>by unfold mkEv;exact ⟨trivial,Nat.zero_le _,Nat.zero_le _⟩
 | 0,some (b::p)=>by unfold mkEv;exact ⟨trivial,Nat.zero_le _,by simp only [Ev.max];omega⟩
 | m+1,some (b::p)=>by
  unfold mkEv
  split
  ·exact ⟨trivial,Nat.zero_le _,by simp only [Ev.max];omega⟩
  ·obtain ⟨a1,a2,a3⟩:=fI m (some p)
   obtain ⟨b1,b2,b3⟩:=fI m (mkEv m (some p)).2
   refine ⟨Ev.mk_norm a1 b1,Nat.le_trans (Ev.mk_depth _ _ _) (by omega),?_⟩
   rw [Ev.mk_max]
   omega
theorem sF (b:UInt8):binI .quo .u8 b.toNat 4=some (.int .u8 (b.toNat/4:Nat)):=by
 have hb:=b.toNat_lt
 have:binI .quo .u8 (b.toNat:Int) 4=some (.int .u8 (IntKind.u8.wrap ((b.toNat:Int).tdiv 4))):=by simp [binI]
 rw [this,Int.tdiv_eq_ediv_of_nonneg (by omega)]
 have:IntKind.u8.wrap ((b.toNat:Int)/4)=((b.toNat/4:Nat):Int):=by
  simp [IntKind.wrap,IntKind.signed,IntKind.bits]
  omega
 rw [this]
theorem yA (n:Nat):binI .rem .u8 (n:Int) 8=some (.int .u8 (n%8:Nat)):=by
 have:binI .rem .u8 (n:Int) 8=some (.int .u8 ((n:Int).tmod 8)):=by simp [binI]
 rw [this,Int.tmod_eq_emod_of_nonneg (by omega)]
 norm_cast
theorem wt (n:Nat):binI .rem .u8 (n:Int) 4=some (.int .u8 (n%4:Nat)):=by
 have:binI .rem .u8 (n:Int) 4=some (.int .u8 ((n:Int).tmod 4)):=by simp [binI]
 rw [this,Int.tmod_eq_emod_of_nonneg (by omega)]
 norm_cast
theorem o8 (m:Nat) (H:Heap) (nx:Nat):Ω 18 [.p (.s (.slice none 0 0)),.int .i64 m] H nx=some (.tuple [.p (Ev.leaf 0).rv,.p (.s (.slice none 0 0))],[],[]):=by
 refine ax (ir:=ir18) (by kernel_rfl) 0 ?_
 have e:=m9 0
 simp only [Int.natCast_zero,Int.ofNat_zero] at e
 simp [ir18,ssB,ssU,Go.Sx.LV.undef,Go.undef,ssP,appO,e,Ev.rv_l]
theorem p9 (m:Nat) (fl:Bool) (H:Heap) (nx:Nat):Ω 18 [.p (.sl [] 0 1 fl),.int .i64 m] H nx=some (.tuple [.p (Ev.leaf 0).rv,.p (.s (.slice none 0 0))],[],[]):=by
 refine ax (ir:=ir18) (by kernel_rfl) 0 ?_
 have e:=m9 0
 simp only [Int.natCast_zero,Int.ofNat_zero] at e
 simp [ir18,ssB,ssU,Go.Sx.LV.undef,Go.undef,ssP,appO,e,Ev.rv_l]
theorem ji (m:Nat) (b:UInt8) (p:List UInt8) (fl:Bool) (h30:p.length<2^31) (hm:m=0∨b.toNat%4<2) (H:Heap) (nx:Nat):
  Ω 18 [.p (obP fl (some (b::p))),.int .i64 m] H nx=some (.tuple [.p (Ev.leaf (b.toNat/4%8)).rv,.p (obP fl (some p))],[],[]):=by
 refine ax (ir:=ir18) (by kernel_rfl) 0 ?_
 have r4:=sN b
 have hp1 : ¬((p.length:Int)+1=0):=by omega
 have hp2:bytP []=[]:=rfl
 have q4:=sF b
 have r8:=yA (b.toNat/4)
 have hw:IntKind.u64.wrap ((b.toNat/4%8:Nat):Int)=((b.toNat/4%8:Nat):Int):=aW _ (by omega) (by omega)
 have e:=m9 (b.toNat/4%8)
 generalize b.toNat/4%8=x at*
 generalize b.toNat/4=x4 at*
 by_cases h0:m=0
 ·subst h0
  simp [ir18,ssB,ssU,Go.Sx.LV.undef,Go.undef,ssP,appO,lN,gh,av,i6,hp1,hp2,r4,q4,r8,hw,e]
 ·have h4:=hm.resolve_left h0
  have h4':((b.toNat%4:Nat):Int)<2:=by omega
  have h0':((m:Int)==0)=false:=by simp;omega
  have h5 : ¬(2:Int)≤((b.toNat%4:Nat):Int):=by omega
  generalize b.toNat%4=y at*
  simp [ir18,ssB,ssU,Go.Sx.LV.undef,Go.undef,ssP,appO,lN,gh,av,i6,hp1,hp2,r4,q4,r8,hw,h5,h0',e]
theorem nf : ∀ (m:Nat) (x:Option (List UInt8)) (fl:Bool),m<100→short x→∀ (H:Heap) (nx:Nat),
  Ω 18 [.p (obP fl x),.int .i64 m] H nx=some (.tuple [.p (mkEv m x).1.rv,.p (obP fl (mkEv m x).2)],[],[])
 | m,none,fl,hm,hx,H,nx=>by
  unfold mkEv;exact o8 m H nx
 | m,some [],fl,hm,hx,H,nx=>by
  unfold mkEv;exact p9 m fl H nx
 | 0,some (b::p),fl,hm,hx,H,nx=>by
  have:=hx _ rfl
  unfold mkEv;exact ji 0 b p fl (by simp at this;omega) (.inl rfl) H nx
 | m+1,some (b::p),fl,hm,hx,H,nx=>by
  have hl:=hx _ rfl
  have hp:short (some p):=fun l hl'=>by
   obtain rfl:=Option.some.inj hl'
   simp at hl;omega
  unfold mkEv
  split
  ·rename_i h4
   exact ji (m+1) b p fl (by simp at hl;omega) (.inr h4) H nx
  ·rename_i h4
   refine ax (ir:=ir18) (by kernel_rfl) 0 ?_
   have r4:=sN b
   have hp1 : ¬((p.length:Int)+1=0):=by omega
   have hp2:bytP []=[]:=rfl
   have q4:=sF b
   have r4':=wt (b.toNat/4)
   have h4' : ¬((b.toNat%4:Nat):Int)<2:=by omega
   have h0':(((m+1:Nat):Int)==0)=false:=by simp;omega
   have h5:(2:Int)≤((b.toNat%4:Nat):Int):=by omega
   have hw:IntKind.i64.wrap (((m+1:Nat):Int)-1)=(m:Int):=by rw [wrap_i64 _ (by omega) (by omega)];omega
   have hw2:IntKind.u64.wrap ((b.toNat/4%4:Nat):Int)=((b.toNat/4%4:Nat):Int):=aW _ (by omega) (by omega)
   obtain ⟨a1,a2,a3⟩:=fI m (some p)
   obtain ⟨b1,b2,b3⟩:=fI m (mkEv m (some p)).2
   have e1:=nf m (some p) fl (by omega) hp
   have e2:=nf m (mkEv m (some p)).2 fl (by omega) (gr _ _ hp)
   have e3:=Ax (b.toNat/4%4) (mkEv m (some p)).1 (mkEv m (mkEv m (some p)).2).1 a1 b1 (by omega) (by omega)
   generalize mkEv m (some p)=y at*
   generalize mkEv m y.2=z at*
   generalize (m+1:Nat)=M at*
   generalize b.toNat%4=t at*
   generalize b.toNat/4%4=u at*
   generalize b.toNat/4=u4 at*
   rw [lN] at e1
   simp [ir18,ssB,ssU,Go.Sx.LV.undef,Go.undef,ssP,appO,lN,gh,av,i6,hp1,hp2,r4,q4,r4',hw,hw2,h5,h0',e1,e2,e3]
end Go.Proofs.YtoeblkipfdnnlaaGreatDoor
end

section
namespace Go.Proofs.YtoeblkipfdnnlaaGreatDoor
open Go Go.Sx
def Id.kind:Id→Nat
 | .zero=>0
 | .one=>1
 | .node _ _=>2
theorem Id.rv_imm (i:Id) : ∃ a b,i.rv = .imm [.s (.int .i64 i.kind),a,b] 0:=by
 cases i
 ·exact ⟨_,_,Id.rv_z⟩
 ·exact ⟨_,_,Id.rv_o⟩
 ·exact ⟨_,_,Id.rv_n _ _⟩
theorem Bl.ids {x:LV} {l:List Bool} (g:Bl x l):Go.Sx.ids x=[]:=by cases g<;>rfl
end Go.Proofs.YtoeblkipfdnnlaaGreatDoor
end

section
namespace Go.Proofs.YtoeblkipfdnnlaaGreatDoor
open Go Go.Sx
theorem wE (e:Ev) (H:Heap) (nx:Nat):Ω 101 [.p e.rv] H nx=some (.bool (decide (e = .leaf 0)),[],[]):=by
 refine ax (ir:=ir101) (by kernel_rfl) 0 ?_
 cases e with
 | leaf n=>
  by_cases h0:n=0
  ·subst h0
   simp [ir101,Ev.rv_l,ssB,ssU,Go.Sx.LV.undef,Go.undef,ssP,appO]
  ·have:((n:Int)==0)=false:=by simp;omega
   simp [ir101,Ev.rv_l,this,h0,ssB,ssU,Go.Sx.LV.undef,Go.undef,ssP,appO]
 | node n l r=>
  obtain ⟨cl,hcl⟩:=Ev.rv_imm l
  simp [ir101,Ev.rv_n,hcl,ssB,ssU,Go.Sx.LV.undef,Go.undef,ssP,appO]
theorem oY (v:Nat) (hv:v<2^64) {x:LV} {l:List Bool} (g:Bl x l) (hl:l.length+201<2^31) (H:Heap) (nx:Nat):Ω 58 [x,.p (Ev.leaf v).rv] H nx=some (blV (l++evBits (.leaf v)),[],[]):=by
 have hB:evBits (.leaf v)=bitsOf 1 1++numBits v 2 62:=rfl
 rw [hB]
 have q1:=dq g 1 1 (by decide) (by decide) (by decide) (by omega)
 have q2:=na (.sl (l++bitsOf 1 1) false) v hv (by rw [List.length_append,am];omega)
 have c1:((1:Nat):Int)=1:=rfl
 rw [c1] at q1
 rw [List.append_assoc] at q2
 have gi:=g.ids
 refine ax (ir:=ir58) (by kernel_rfl) 0 ?_
 generalize l++bitsOf 1 1=L1 at*
 generalize l++(bitsOf 1 1++numBits v 2 62)=L2 at*
 have f:=fun h hu=>ga H nx (.sl (bolP L2) L2.length 1 false) h hu
 simp [ir58,ssB,ssU,Go.Sx.LV.undef,Go.undef,au,aq,af,Go.Sx.splice,Go.Sx.leI_eq,ltF,Ev.rv_l,q1,q2,gi,f]
theorem cO : ∀ (e:Ev),e.norm→e.max<2^64→∀ (x:LV) (l:List Bool),Bl x l→l.length+(evBits e).length+201<2^31→∀ (H:Heap) (nx:Nat),Ω 58 [x,.p e.rv] H nx=some (blV (l++evBits e),[],[])
 | .leaf v,_,hm,x,l,g,hl,H,nx=>oY v hm g (by omega) H nx
 | .node v s t,hn,hm,x,l,g,hl,H,nx=>by
  have d1:=Ev.max_l v s t
  have d2:=Ev.max_r v s t
  obtain ⟨a1,hs⟩:=Ev.rv_imm s
  obtain ⟨a2,ht⟩:=Ev.rv_imm t
  have ks:=wE s
  have kt:=wE t
  have hnz : ¬(s = .leaf 0∧t = .leaf 0):=by
   rintro ⟨rfl,rfl⟩
   exact hn.2.2.2 ⟨rfl,rfl,rfl⟩
  have c0:((0:Nat):Int)=0:=rfl
  have c1:((1:Nat):Int)=1:=rfl
  have c2:((2:Nat):Int)=2:=rfl
  have c3:((3:Nat):Int)=3:=rfl
  have gi:=g.ids
  have hB:evBits (.node v s t)=bitsOf 0 1++evKind v (decide (s = .leaf 0)) (decide (t = .leaf 0))++(if v=0 then [] else numBits v 2 62)++(if s = .leaf 0 then [] else evBits s)++(if t = .leaf 0 then [] else evBits t):=by rw [evBits]
  rw [hB] at hl ⊢
  have q0:=dq g 0 1 (by decide) (by decide) (by decide) (by omega)
  rw [c0,c1] at q0
  have L0:(l++bitsOf 0 1).length=l.length+1:=by rw [List.length_append,am]
  refine ax (ir:=ir58) (by kernel_rfl) 0 ?_
  simp only [List.length_append,am] at hl
  have g0:Bl (blV (l++bitsOf 0 1)) (l++bitsOf 0 1):=.sl _ false
  simp only [←List.append_assoc]
  generalize l++bitsOf 0 1=M at*
  by_cases hv0:v=0
  ·have hb:((v:Int)==0)=true:=by simp [hv0]
   have hvT:(v=0)=True:=by simp [hv0]
   by_cases hs0:s = .leaf 0
   ·have ht0 : ¬t = .leaf 0:=fun h=>hnz ⟨hs0,h⟩
    have hsT:(s = .leaf 0)=True:=by simp [hs0]
    have hk:evKind v true false=bitsOf 0 2:=by simp [evKind,hv0]
    simp only [hsT,ht0,decide_true,decide_false,hk,if_true,if_false,hvT] at hl ks kt ⊢
    simp only [List.length_append,List.length_nil,am] at hl
    simp only [←List.append_assoc,List.append_nil]
    have q1:=dq (.sl M false) 0 2 (by decide) (by decide) (by decide) (by omega)
    rw [c0,c2] at q1
    have L1:(M++bitsOf 0 2).length=M.length+2:=by rw [List.length_append,am]
    generalize M++bitsOf 0 2=M1 at*
    have q2:=cO t hn.2.1 (by omega) _ _ (.sl M1 false) (by omega)
    rw [ht] at q2
    have L2:(M1++evBits t).length=M1.length+(evBits t).length:=List.length_append
    generalize M1++evBits t=M2 at*
    have f:=fun h hu=>ga H nx (.sl (bolP M2) M2.length 1 false) h hu
    rw [hs] at ks
    rw [ht] at kt
    simp [ir58,ssB,ssU,Go.Sx.LV.undef,Go.undef,au,aq,af,Go.Sx.splice,Go.Sx.leI_eq,ltF,Ev.rv_n,hs,ht,ks,kt,hb,q0,q1,q2,gi,f]
   ·by_cases ht0:t = .leaf 0
    ·have htT:(t = .leaf 0)=True:=by simp [ht0]
     have hk:evKind v false true=bitsOf 1 2:=by simp [evKind,hv0]
     simp only [hs0,htT,decide_true,decide_false,hk,if_true,if_false,hvT] at hl ks kt ⊢
     simp only [List.length_append,List.length_nil,am] at hl
     simp only [←List.append_assoc,List.append_nil]
     have q1:=dq (.sl M false) 1 2 (by decide) (by decide) (by decide) (by omega)
     rw [c1,c2] at q1
     have L1:(M++bitsOf 1 2).length=M.length+2:=by rw [List.length_append,am]
     generalize M++bitsOf 1 2=M1 at*
     have q2:=cO s hn.1 (by omega) _ _ (.sl M1 false) (by omega)
     rw [hs] at q2
     have L2:(M1++evBits s).length=M1.length+(evBits s).length:=List.length_append
     generalize M1++evBits s=M2 at*
     have f:=fun h hu=>ga H nx (.sl (bolP M2) M2.length 1 false) h hu
     rw [hs] at ks
     rw [ht] at kt
     simp [ir58,ssB,ssU,Go.Sx.LV.undef,Go.undef,au,aq,af,Go.Sx.splice,Go.Sx.leI_eq,ltF,Ev.rv_n,hs,ht,ks,kt,hb,q0,q1,q2,gi,f]
    ·skip
     have hk:evKind v false false=bitsOf 2 2:=by simp [evKind,hv0]
     simp only [hs0,ht0,decide_true,decide_false,hk,if_true,if_false,hvT] at hl ks kt ⊢
     simp only [List.length_append,List.length_nil,am] at hl
     simp only [←List.append_assoc,List.append_nil]
     have q1:=dq (.sl M false) 2 2 (by decide) (by decide) (by decide) (by omega)
     rw [c2] at q1
     have L1:(M++bitsOf 2 2).length=M.length+2:=by rw [List.length_append,am]
     generalize M++bitsOf 2 2=M1 at*
     have q2:=cO s hn.1 (by omega) _ _ (.sl M1 false) (by omega)
     rw [hs] at q2
     have L2:(M1++evBits s).length=M1.length+(evBits s).length:=List.length_append
     generalize M1++evBits s=M2 at*
     have q3:=cO t hn.2.1 (by omega) _ _ (.sl M2 false) (by omega)
     rw [ht] at q3
     have L3:(M2++evBits t).length=M2.length+(evBits t).length:=List.length_append
     generalize M2++evBits t=M3 at*
     have f:=fun h hu=>ga H nx (.sl (bolP M3) M3.length 1 false) h hu
     rw [hs] at ks
     rw [ht] at kt
     simp [ir58,ssB,ssU,Go.Sx.LV.undef,Go.undef,au,aq,af,Go.Sx.splice,Go.Sx.leI_eq,ltF,Ev.rv_n,hs,ht,ks,kt,hb,q0,q1,q2,q3,gi,f]
  ·have hb:((v:Int)==0)=false:=by simp;omega
   by_cases hs0:s = .leaf 0
   ·have ht0 : ¬t = .leaf 0:=fun h=>hnz ⟨hs0,h⟩
    have hsT:(s = .leaf 0)=True:=by simp [hs0]
    have hk:evKind v true false=bitsOf 3 2++bitsOf 0 2:=by simp [evKind,hv0]
    simp only [hsT,ht0,decide_true,decide_false,hk,if_true,if_false,hv0] at hl ks kt ⊢
    simp only [List.length_append,List.length_nil,am] at hl
    simp only [←List.append_assoc,List.append_nil]
    have q1:=dq (.sl M false) 3 2 (by decide) (by decide) (by decide) (by omega)
    rw [c3,c2] at q1
    have L1:(M++bitsOf 3 2).length=M.length+2:=by rw [List.length_append,am]
    generalize M++bitsOf 3 2=M1 at*
    have q2:=dq (.sl M1 false) 0 2 (by decide) (by decide) (by decide) (by omega)
    rw [c0,c2] at q2
    have L2:(M1++bitsOf 0 2).length=M1.length+2:=by rw [List.length_append,am]
    generalize M1++bitsOf 0 2=M2 at*
    have q3:=na (.sl M2 false) v (by omega) (by omega)
    have L3:(M2++numBits v 2 62).length=M2.length+(numBits v 2 62).length:=List.length_append
    generalize M2++numBits v 2 62=M3 at*
    have q4:=cO t hn.2.1 (by omega) _ _ (.sl M3 false) (by omega)
    rw [ht] at q4
    have L4:(M3++evBits t).length=M3.length+(evBits t).length:=List.length_append
    generalize M3++evBits t=M4 at*
    have f:=fun h hu=>ga H nx (.sl (bolP M4) M4.length 1 false) h hu
    rw [hs] at ks
    rw [ht] at kt
    simp [ir58,ssB,ssU,Go.Sx.LV.undef,Go.undef,au,aq,af,Go.Sx.splice,Go.Sx.leI_eq,ltF,Ev.rv_n,hs,ht,ks,kt,hb,q0,q1,q2,q3,q4,gi,f]
   ·by_cases ht0:t = .leaf 0
    ·have htT:(t = .leaf 0)=True:=by simp [ht0]
     have hk:evKind v false true=bitsOf 3 2++bitsOf 1 2:=by simp [evKind,hv0]
     simp only [hs0,htT,decide_true,decide_false,hk,if_true,if_false,hv0] at hl ks kt ⊢
     simp only [List.length_append,List.length_nil,am] at hl
     simp only [←List.append_assoc,List.append_nil]
     have q1:=dq (.sl M false) 3 2 (by decide) (by decide) (by decide) (by omega)
     rw [c3,c2] at q1
     have L1:(M++bitsOf 3 2).length=M.length+2:=by rw [List.length_append,am]
     generalize M++bitsOf 3 2=M1 at*
     have q2:=dq (.sl M1 false) 1 2 (by decide) (by decide) (by decide) (by omega)
     rw [c1,c2] at q2
     have L2:(M1++bitsOf 1 2).length=M1.length+2:=by rw [List.length_append,am]
     generalize M1++bitsOf 1 2=M2 at*
     have q3:=na (.sl M2 false) v (by omega) (by omega)
     have L3:(M2++numBits v 2 62).length=M2.length+(numBits v 2 62).length:=List.length_append
     generalize M2++numBits v 2 62=M3 at*
     have q4:=cO s hn.1 (by omega) _ _ (.sl M3 false) (by omega)
     rw [hs] at q4
     have L4:(M3++evBits s).length=M3.length+(evBits s).length:=List.length_append
     generalize M3++evBits s=M4 at*
     have f:=fun h hu=>ga H nx (.sl (bolP M4) M4.length 1 false) h hu
     rw [hs] at ks
     rw [ht] at kt
     simp [ir58,ssB,ssU,Go.Sx.LV.undef,Go.undef,au,aq,af,Go.Sx.splice,Go.Sx.leI_eq,ltF,Ev.rv_n,hs,ht,ks,kt,hb,q0,q1,q2,q3,q4,gi,f]
    ·skip
     have hk:evKind v false false=bitsOf 3 2++bitsOf 1 1:=by simp [evKind,hv0]
     simp only [hs0,ht0,decide_true,decide_false,hk,if_true,if_false,hv0] at hl ks kt ⊢
     simp only [List.length_append,List.length_nil,am] at hl
     simp only [←List.append_assoc,List.append_nil]
     have q1:=dq (.sl M false) 3 2 (by decide) (by decide) (by decide) (by omega)
     rw [c3,c2] at q1
     have L1:(M++bitsOf 3 2).length=M.length+2:=by rw [List.length_append,am]
     generalize M++bitsOf 3 2=M1 at*
     have q2:=dq (.sl M1 false) 1 1 (by decide) (by decide) (by decide) (by omega)
     rw [c1] at q2
     have L2:(M1++bitsOf 1 1).length=M1.length+1:=by rw [List.length_append,am]
     generalize M1++bitsOf 1 1=M2 at*
     have q3:=na (.sl M2 false) v (by omega) (by omega)
     have L3:(M2++numBits v 2 62).length=M2.length+(numBits v 2 62).length:=List.length_append
     generalize M2++numBits v 2 62=M3 at*
     have q4:=cO s hn.1 (by omega) _ _ (.sl M3 false) (by omega)
     rw [hs] at q4
     have L4:(M3++evBits s).length=M3.length+(evBits s).length:=List.length_append
     generalize M3++evBits s=M4 at*
     have q5:=cO t hn.2.1 (by omega) _ _ (.sl M4 false) (by omega)
     rw [ht] at q5
     have L5:(M4++evBits t).length=M4.length+(evBits t).length:=List.length_append
     generalize M4++evBits t=M5 at*
     have f:=fun h hu=>ga H nx (.sl (bolP M5) M5.length 1 false) h hu
     rw [hs] at ks
     rw [ht] at kt
     simp [ir58,ssB,ssU,Go.Sx.LV.undef,Go.undef,au,aq,af,Go.Sx.splice,Go.Sx.leI_eq,ltF,Ev.rv_n,hs,ht,ks,kt,hb,q0,q1,q2,q3,q4,q5,gi,f]
end Go.Proofs.YtoeblkipfdnnlaaGreatDoor
end

section
namespace Go.Proofs.YtoeblkipfdnnlaaGreatDoor
open Go Go.Sx
abbrev bstr (s:List UInt8):LV:=.str ⟨s.toArray⟩
def txt (s:List UInt8):List UInt8:=vnum s.length++s
theorem um (s:List UInt8):(List.map (fun (x:UInt8)=>LV.int .u8 x.toNat) s)=byt s:=rfl
theorem aY (s:List UInt8):(⟨s.toArray⟩:ByteArray).size=s.length:=by simp [ByteArray.size]
theorem qm {H:Heap} {nx:Nat} {x:LV} {q:List UInt8} (g:Bs H nx x q) (s:List UInt8) (hq:q.length<2^30) (hs:s.length<2^30):
  Ω 83 [x,bstr s] H nx=some (.arr nx 0 (q++txt s).length 1 (q++txt s).length false,[],[some (.cells (byt (q++txt s)))]):=by
 refine ax (ir:=ir83) (by kernel_rfl) 0 ?_
 have hw:IntKind.u64.wrap (s.length:Int)=s.length:=aW _ (by omega) (by omega)
 have hv:=cL s.length (by omega)
 have hv0:=io s.length
 have hQ:q++txt s=(q++vnum s.length)++s:=by rw [txt,List.append_assoc]
 have hQl:(q++vnum s.length).length<2^31:=by simp;omega
 have n:=fun H nx (g':Bs H nx x q)=>vK g' s.length (by omega) hq
 rw [hQ]
 generalize q++vnum s.length=Q at*
 have q1 : ¬1099511627776<Q.length+s.length:=by omega
 have fin:(∀ h:Hp,(∀ id,id<nx→Go.Sx.look H nx h id=H id)→Ω 116 [x,.int .u64 s.length] (Go.Sx.look H nx h) nx=some (.arr nx 0 Q.length 1 Q.length false,[],[some (.cells (byt Q))])):=fun h hh=>n _ _ (g.mono hh (Nat.le_refl _))
 have f0:=fin ⟨[],[]⟩ (fun id hi=>by simp [Go.Sx.look,findU,hi])
 have sz:=aY s
 have lk:Go.Sx.look H nx (push ⟨[],[]⟩ (.cells (byt Q))) nx=some (.cells (byt Q)):=by simp [Go.Sx.look,push,ltF]
 have z : ∀ y:Nat,y+([]:List (Ob)).length=y:=fun y=>rfl
 cases hs0:s with
 | nil=>
  subst hs0
  have a:=gl (H:=H) (nx:=nx) (i:=nx) (L:=Q.length) (h:=push ⟨[],[]⟩ (.cells (byt Q))) (q:=Q) (ex:=false) rfl (Nat.le_refl _) lk
  have ap:appO ⟨Ω,gG,H,nx⟩ (push ⟨[],[]⟩ (.cells (byt Q))) 1 1 (.arr nx 0 Q.length 1 Q.length false) (bstr [])=some ⟨.arr nx 0 Q.length 1 Q.length false,push ⟨[],[]⟩ (.cells (byt Q)),[],false⟩:=by simp [appO,slCells,Go.Sx.ids,ByteArray.size]
  rw [List.append_nil]
  simp only [List.length_nil,Int.natCast_zero,Int.ofNat_zero] at f0 hw sz
  simp [ir83,ssB,ssU,Go.Sx.LV.undef,Go.undef,au,aq,af,Go.Sx.splice,Go.Sx.leI_eq,ltF,f0,hw,sz,a,ap,cM]
 | cons b r=>
  rw [←hs0]
  have hs1 : ¬s.length=0:=by rw [hs0];simp
  have ap:appO ⟨Ω,gG,H,nx⟩ (push ⟨[],[]⟩ (.cells (byt Q))) 1 1 (.arr nx 0 Q.length 1 Q.length false) (bstr s)=some ⟨.arr (nx+1) 0 (Q.length+s.length) 1 (Q.length+s.length) false,push (Go.Sx.setObj nx (push ⟨[],[]⟩ (.cells (byt Q))) nx none) (.cells (byt (Q++s))),[nx],true⟩:=by
   simp [appO,slCells,Go.Sx.ids,sz,ay,hs1,lk,q1,aH,um,bQ]
  have lk2:Go.Sx.look H nx (push (Go.Sx.setObj nx (push ⟨[],[]⟩ (.cells (byt Q))) nx none) (.cells (byt (Q++s)))) (nx+1)=some (.cells (byt (Q++s))):=by
   rw [ao,if_pos (by rw [aD,aH];rfl)]
  have a:=gl (H:=H) (nx:=nx) (i:=nx+1) (L:=Q.length+s.length) (h:=push (Go.Sx.setObj nx (push ⟨[],[]⟩ (.cells (byt Q))) nx none) (.cells (byt (Q++s)))) (q:=Q++s) (ex:=false) (by rw [oX,cB _ _ _ _ (by omega)];rfl) (by omega) lk2
  simp [ir83,ssB,ssU,Go.Sx.LV.undef,Go.undef,au,aq,af,Go.Sx.splice,Go.Sx.leI_eq,ltF,f0,hw,sz,a,ap,cM]
theorem nb (s:List UInt8) (hs:s.length<2^30) (H:Heap) (nx:Nat):
  Ω 56 [bstr s] H nx=some (.arr nx 0 (txt s).length 1 (txt s).length s.isEmpty,[],[some (.cells (byt (txt s)))]):=by
 refine ax (ir:=ir56) (by kernel_rfl) 0 ?_
 have hw:IntKind.u64.wrap (s.length:Int)=s.length:=aW _ (by omega) (by omega)
 have hv:=cL s.length (by omega)
 have hQl:(vnum s.length).length<2^31:=by omega
 have n:=zy s.length (by omega)
 have hd:s.isEmpty=true→decide (s.length<128)=true:=by cases s<;>simp
 rw [txt]
 have hex:=hd
 generalize decide (s.length<128)=ex at*
 generalize vnum s.length=Q at*
 have q1 : ¬1099511627776<Q.length+s.length:=by omega
 have sz:=aY s
 have dp:List.map (fun x=>PV.s (.int .u8 (UInt8.toNat x:Int))) s=bytP s:=rfl
 cases hs0:s with
 | nil=>
  have he:ex=true:=hd (by rw [hs0];rfl)
  subst hs0 he
  rw [List.append_nil]
  simp only [List.length_nil,Int.natCast_zero,Int.ofNat_zero] at n hw sz
  simp [ir56,ssB,ssU,Go.Sx.LV.undef,Go.undef,ssP,appO,n,hw,sz,ay,av,aG,aK,aM,aU,aX,aF,aJ]
 | cons b r=>
  rw [←hs0]
  have hs1 : ¬s.length=0:=by rw [hs0];simp
  have hs2 : ¬s=[]:=by rw [hs0];simp
  have hse:s.isEmpty=false:=by rw [hs0];rfl
  rw [hse]
  have q2:Q.length+s.length≤1099511627776:=by omega
  have tk:List.map LV.p (bytP s)=byt s:=aV s
  cases ex
  all_goals
   simp [ir56,ssB,ssU,Go.Sx.LV.undef,Go.undef,ssP,appO,n,hw,sz,ay,av,aG,aK,aM,aU,aX,aF,aJ,dp,tk,hs1,hs2,q1,q2,bQ]
end Go.Proofs.YtoeblkipfdnnlaaGreatDoor
end

section
namespace Go.Proofs.YtoeblkipfdnnlaaGreatDoor
open Go Go.Sx
def Ev.h:Ev→(Nat→Bool)→Nat
 | .leaf n,_=>n
 | .node n l r,s=>n+(if s 0 then r.h fun k=>s (k+1) else l.h fun k=>s (k+1))
def toL (s:Nat→Bool):Nat→Bool
 | 0=>false
 | k+1=>s k
def toR (s:Nat→Bool):Nat→Bool
 | 0=>true
 | k+1=>s k
theorem Ev.h_up (e:Ev) (k:Nat) (s:Nat→Bool):(e.up k).h s=e.h s+k:=by
 cases e with
 | leaf n=>rfl
 | node n l r=>simp only [Ev.up,Ev.h];omega
theorem Ev.h_ge : ∀ (e:Ev) (s:Nat→Bool),e.n≤e.h s
 | .leaf n,s=>Nat.le_refl _
 | .node n l r,s=>Nat.le_add_right _ _
theorem Ev.h_min : ∀ (e:Ev),e.norm→∃ s,e.h s=e.n
 | .leaf n,_=>⟨fun _=>false,rfl⟩
 | .node n l r,⟨hl,hr,h,_⟩=>by
  rcases h with h|h
  ·obtain ⟨s,hs⟩:=Ev.h_min l hl
   exact ⟨toL s,by show n+l.h s=n;omega⟩
  ·obtain ⟨s,hs⟩:=Ev.h_min r hr
   exact ⟨toR s,by show n+r.h s=n;omega⟩
theorem Ev.h_left (b:Ev) (s:Nat→Bool):(b.left.up b.n).h s=b.h (toL s):=by
 rw [Ev.h_up]
 cases b with
 | leaf n=>simp [Ev.left,Ev.h,Ev.n]
 | node n l r=>show l.h s+n=n+l.h s;omega
theorem Ev.h_right (b:Ev) (s:Nat→Bool):(b.right.up b.n).h s=b.h (toR s):=by
 rw [Ev.h_up]
 cases b with
 | leaf n=>simp [Ev.right,Ev.h,Ev.n]
 | node n l r=>show r.h s+n=n+r.h s;omega
theorem Ev.norm_left (b:Ev) (h:b.norm):b.left.norm:=by
 cases b with
 | leaf n=>exact trivial
 | node n l r=>exact h.1
theorem Ev.norm_right (b:Ev) (h:b.norm):b.right.norm:=by
 cases b with
 | leaf n=>exact trivial
 | node n l r=>exact h.2.1
theorem Ev.leq_iff : ∀ (d:Nat) (a b:Ev),a.depth≤d→b.norm→(Ev.leq d a b=true ↔ ∀ s,a.h s≤b.h s):=by
 have leafc : ∀ (n:Nat) (b:Ev),b.norm→(decide (n≤b.n)=true ↔ ∀ s,(Ev.leaf n).h s≤b.h s):=by
  intro n b hb
  rw [decide_eq_true_eq]
  refine ⟨fun h s=>Nat.le_trans h (b.h_ge s),fun h => ?_⟩
  obtain ⟨s,hs⟩:=Ev.h_min b hb
  rw [←hs];exact h s
 intro d
 induction d with
 | zero=>
  intro a b ha hb
  cases a with
  | leaf n=>exact leafc n b hb
  | node n l r=>simp [Ev.depth] at ha
 | succ d ih=>
  intro a b ha hb
  cases a with
  | leaf n=>exact leafc n b hb
  | node n l r=>
   simp only [Ev.depth] at ha
   have dl:(l.up n).depth≤d:=by rw [Ev.up_depth];omega
   have dr:(r.up n).depth≤d:=by rw [Ev.up_depth];omega
   rw [Ev.leq]
   split
   ·rename_i h
    refine ⟨fun h=>(by cases h),fun hs => ?_⟩
    exfalso
    cases b with
    | leaf m=>
     have:=hs fun _=>false
     have h1:=Ev.h_ge (.node n l r) fun _=>false
     have h2:m<n:=h.1
     have h3:n≤(Ev.node n l r).h fun _=>false:=h1
     have h4:((Ev.node n l r).h fun _=>false)≤m:=this
     omega
    | node m x y=>cases h.2
   ·rw [Bool.and_eq_true,ih _ _ dl ((Ev.norm_up _ _).2 (Ev.norm_left b hb)),ih _ _ dr ((Ev.norm_up _ _).2 (Ev.norm_right b hb))]
    refine ⟨fun ⟨h1,h2⟩ s => ?_,fun h=>⟨fun s => ?_,fun s => ?_⟩⟩
    ·cases hs:s 0 with
     | false=>
      have e:s=toL fun k=>s (k+1):=by funext k;cases k with
       | zero=>exact hs
       | succ k=>rfl
      have:=h1 fun k=>s (k+1)
      rw [Ev.h_left,←e,Ev.h_up] at this
      simp only [Ev.h,hs]
      simp only [Bool.false_eq_true,if_false]
      omega
     | true=>
      have e:s=toR fun k=>s (k+1):=by funext k;cases k with
       | zero=>exact hs
       | succ k=>rfl
      have:=h2 fun k=>s (k+1)
      rw [Ev.h_right,←e,Ev.h_up] at this
      simp only [Ev.h,hs]
      simp only [if_true]
      omega
    ·rw [Ev.h_left,Ev.h_up]
     have:=h (toL s)
     have e:(Ev.node n l r).h (toL s)=n+l.h s:=rfl
     omega
    ·rw [Ev.h_right,Ev.h_up]
     have:=h (toR s)
     have e:(Ev.node n l r).h (toR s)=n+r.h s:=rfl
     omega
theorem Ev.leqb_iff {a b:Ev} (hb:b.norm):Ev.leqb a b=true ↔ ∀ s,a.h s≤b.h s:=Ev.leq_iff a.depth a b (Nat.le_refl _) hb
theorem Ev.leqb_trans {a b c:Ev} (hb:b.norm) (hc:c.norm) (h1:Ev.leqb a b=true) (h2:Ev.leqb b c=true):Ev.leqb a c=true:=
 (Ev.leqb_iff hc).2 fun s=>Nat.le_trans ((Ev.leqb_iff hb).1 h1 s) ((Ev.leqb_iff hc).1 h2 s)
end Go.Proofs.YtoeblkipfdnnlaaGreatDoor
end

section
namespace Go.Proofs.YtoeblkipfdnnlaaGreatDoor
open Go Go.Sx
set_option maxHeartbeats 1000000
structure Wv where
 ev:Ev
 nm:Option (List UInt8)
 gone:Bool
abbrev strP (s:List UInt8):PV:=.s (.string ⟨s.toArray⟩)
abbrev fldP (s:List UInt8):List PV:=[.s (.int .i64 1),.s (.string ⟨#[]⟩),strP s]
def crdP (fl:Bool):Option (List UInt8)→PV
 | none=>.s (.slice none 0 0)
 | some s=>.sl (fldP s) 1 3 fl
theorem bu (fl:Bool):crdP fl none = .s (.slice none 0 0):=rfl
theorem b8 (fl:Bool) (s:List UInt8):crdP fl (some s) = .sl (fldP s) 1 3 fl:=rfl
abbrev Wv.cells (fl:Bool) (v:Wv):List PV:=[.s (.int .u64 v.ev.n),v.ev.ptr,crdP fl v.nm,.s (.bool v.gone)]
abbrev Wv.pv (fl:Bool) (v:Wv):PV:=.agg (v.cells fl)
def crdW:Option (List UInt8)→List UInt8
 | none=>vnum 0
 | some s=>vnum 1++[1]++txt []++txt s
def Wv.bytes (v:Wv):List UInt8:=txt (pack (evBits v.ev))++(if v.gone then [1] else 0::crdW v.nm)
theorem pF (fl:Bool) (nm:Option (List UInt8)) (H:Heap) (nx:Nat):Ω 65 [.p (crdP fl nm)] H nx=some (.p (crdP false nm),[],[]):=by
 refine ax (ir:=ir65) (by kernel_rfl) 0 ?_
 cases nm<;>simp +contextual (maxSteps:=1000000) [ir65,ssI,↓ssJ,ssU,Go.Sx.LV.undef,Go.undef,ssP,appO,bu,b8]
theorem nQ (fl:Bool) (nm:Option (List UInt8)) (H:Heap) (nx:Nat):Ω 27 [.p (.agg [crdP fl nm])] H nx=some (.p (crdP false nm),[],[]):=by
 refine ax (ir:=ir27) (by kernel_rfl) 0 ?_
 have c:=fun H nx=>pF fl nm H nx
 cases nm<;>simp only [bu,b8] at c ⊢ <;> simp +contextual (maxSteps:=1000000) [ir27,ssI,↓ssJ,ssU,Go.Sx.LV.undef,Go.undef,ssP,appO,c]
theorem nR (fl:Bool) (nm:Option (List UInt8)) (H:Heap) (nx:Nat):Ω 86 [.p (.agg [crdP fl nm])] H nx=some (.int .i64 (if nm=none then 0 else 1),[],[]):=by
 refine ax (ir:=ir86) (by kernel_rfl) 0 ?_
 cases nm<;>simp +contextual (maxSteps:=1000000) [ir86,ssI,↓ssJ,ssU,Go.Sx.LV.undef,Go.undef,ssP,appO,bu,b8]
theorem xG {H:Heap} {nx:Nat} {x:LV} {q:List UInt8} (b:Bs H nx x q) (hq:q.length<2^20):
  Ω 120 [x,.p (.s (.slice none 0 0))] H nx=some (.p (.sl (bytP (q++vnum 0)) (q++vnum 0).length 1 false),[],[]):=by
 refine ax (ir:=ir120) (by kernel_rfl) 2 ?_
 have n:=fun H nx (g':Bs H nx x q)=>vK g' 0 (by decide) (by omega)
 generalize q++vnum 0=Q at*
 have w0:IntKind.u64.wrap 0=0:=by decide
 simp only [Int.natCast_zero,Int.ofNat_zero] at n
 cases b with
 | nil=>
  have m1 : ∀ (H:Heap) (nx:Nat),Ω 116 [.p (.s (.slice none 0 0)),.int .u64 0] H nx=_:=fun H nx=>n H nx .nil
  simp +contextual (maxSteps:=1000000) [ir120,ir120_0,iter,ssI,↓ssJ,ssU,Go.Sx.LV.undef,Go.undef,ssP,appO,m1,w0,ay,av,aG,aK,aM,aU,aX,aF,aJ]
 | sl _ fl=>
  have m1 : ∀ (H:Heap) (nx:Nat),Ω 116 [.p (.sl (bytP q) q.length 1 fl),.int .u64 0] H nx=_:=fun H nx=>n H nx (.sl q fl)
  simp +contextual (maxSteps:=1000000) [ir120,ir120_0,iter,ssI,↓ssJ,ssU,Go.Sx.LV.undef,Go.undef,ssP,appO,m1,w0,ay,av,aG,aK,aM,aU,aX,aF,aJ]
 | arr _ G id off cp ex h1 h2 h3 h4=>
  have m1 : ∀ (H:Heap) (nx:Nat),H id=some (.cells (byt G))→id<nx→Ω 116 [.arr id off q.length 1 cp ex,.int .u64 0] H nx=_:=fun H nx e1 e2=>n H nx (.arr q G id off cp ex e1 e2 h3 h4)
  have hk : ∀ k,id<nx+k:=fun k=>by omega
  have hne : ¬id=nx:=by omega
  have hne2 : ∀ k,¬id=nx+k:=fun k=>by omega
  simp +contextual (maxSteps:=1000000) [ir120,ir120_0,iter,ssI,↓ssJ,ssU,Go.Sx.LV.undef,Go.undef,ssP,appO,m1,w0,ay,av,aG,aK,aM,aU,aX,aF,aJ,h1,h2,hk,hne,hne2]
theorem xH {H:Heap} {nx:Nat} {x:LV} {q:List UInt8} (s:List UInt8) (b:Bs H nx x q) (hq:q.length<2^20) (hs:s.length<2^20):
  Ω 120 [x,.p (.sl (fldP s) 1 3 false)] H nx=some (.p (.sl (bytP (q++crdW (some s))) (q++crdW (some s)).length 1 false),[],[]):=by
 refine ax (ir:=ir120) (by kernel_rfl) 3 ?_
 have n:=fun H nx (g':Bs H nx x q)=>vK g' 1 (by decide) (by omega)
 have v1:=cL 1 (by decide)
 have l1:(q++vnum 1).length<2^21:=by simp;omega
 have ec:q++crdW (some s)=q++vnum 1++[1]++txt []++txt s:=by simp [crdW]
 rw [ec]
 generalize q++vnum 1=Q at*
 have l2:(Q++[1]).length<2^22:=by simp;omega
 have l2':(Q++[1]).length=Q.length+1:=by simp
 have t1:=fun H nx y (g':Bs H nx y (Q++[1]))=>qm g' [] (by omega) (by decide)
 have b2:byt (Q++[1])=byt Q++[.int .u8 1]:=by rw [bQ];rfl
 have ht0:(txt []).length<20:=by have:=cL 0 (by decide);simpa [txt] using (by omega:(vnum 0).length<20)
 have l3:(Q++[1]++txt []).length<2^23:=by rw [List.length_append];omega
 have t1' : ∀ (H:Heap) (nx id:Nat),H id=some (.cells (byt Q++[.int .u8 1]))→id<nx→Ω 83 [.arr id 0 (Q.length+1) 1 (Q.length+1) false,.str ⟨#[]⟩] H nx=_:=fun H nx id h1 h2=>t1 H nx _ (.whole' (l2'.symm) (by rw [b2];exact h1) h2)
 generalize Q++[1]++txt []=Q2 at*
 have t2:=fun H nx y (g':Bs H nx y Q2)=>qm g' s (by omega) (by omega)
 have t2' : ∀ (H:Heap) (nx id:Nat),H id=some (.cells (byt Q2))→id<nx→Ω 83 [.arr id 0 Q2.length 1 Q2.length false,.str ⟨s.toArray⟩] H nx=_:=fun H nx id h1 h2=>t2 H nx _ (.whole h1 h2)
 generalize Q2++txt s=Q3 at*
 have q41 : ¬1099511627776<Q.length+1:=by omega
 have q40:Q.length+1≤1099511627776:=by omega
 have w1:IntKind.u64.wrap 1=1:=by decide
 have w2:IntKind.i64.wrap 1=1:=by decide
 have w3:IntKind.u8.wrap 1=1:=by decide
 clear l2' l2 l3 ht0 b2 t1 t2 ec
 cases b with
 | nil=>
  have m1 : ∀ (H:Heap) (nx:Nat),Ω 116 [.p (.s (.slice none 0 0)),.int .u64 1] H nx=_:=fun H nx=>n H nx .nil
  clear n
  simp +contextual (maxSteps:=1000000) [ir120,ir120_0,iter,ssI,↓ssJ,ssU,Go.Sx.LV.undef,Go.undef,ssP,appO,m1,t1',t2',w1,w2,w3,q41,q40,ay,av,aG,aK,aM,aU,aX,aF,aJ]
 | sl _ fl=>
  have m1 : ∀ (H:Heap) (nx:Nat),Ω 116 [.p (.sl (bytP q) q.length 1 fl),.int .u64 1] H nx=_:=fun H nx=>n H nx (.sl q fl)
  clear n
  simp +contextual (maxSteps:=1000000) [ir120,ir120_0,iter,ssI,↓ssJ,ssU,Go.Sx.LV.undef,Go.undef,ssP,appO,m1,t1',t2',w1,w2,w3,q41,q40,ay,av,aG,aK,aM,aU,aX,aF,aJ]
 | arr _ G id off cp ex h1 h2 h3 h4=>
  have m1 : ∀ (H:Heap) (nx:Nat),H id=some (.cells (byt G))→id<nx→Ω 116 [.arr id off q.length 1 cp ex,.int .u64 1] H nx=_:=fun H nx e1 e2=>n H nx (.arr q G id off cp ex e1 e2 h3 h4)
  have hk : ∀ k,id<nx+k:=fun k=>by omega
  have hne : ¬id=nx:=by omega
  have hne2 : ∀ k,¬id=nx+k:=fun k=>by omega
  clear n
  simp +contextual (maxSteps:=1000000) [ir120,ir120_0,iter,ssI,↓ssJ,ssU,Go.Sx.LV.undef,Go.undef,ssP,appO,m1,t1',t2',w1,w2,w3,q41,q40,ay,av,aG,aK,aM,aU,aX,aF,aJ,h1,h2,hk,hne,hne2]
end Go.Proofs.YtoeblkipfdnnlaaGreatDoor
end

section
namespace Go.Proofs.YtoeblkipfdnnlaaGreatDoor
open Go Go.Sx
def nodeB (n:Int):Bool:=decide (0≤n)&&decide (n<12)
structure Gft where
 no:Nat
 fr:Int
 to:Int
 sh:Id
abbrev Gft.pv (g:Gft):PV:=.agg [.s (.int .u64 g.no),.s (.int .i64 g.fr),.s (.int .i64 g.to),.s (.bool g.sh.all),g.sh.ptr]
abbrev Gft.rv (g:Gft):PV:=.agg [.s (.int .u64 g.no),.s (.int .i64 g.fr),.s (.int .i64 g.to),g.sh.rv]
def Gft.right (g:Gft):Bool:=decide (1≤g.no)&&(decide (g.no<2^62)&&(nodeB g.fr&&(nodeB g.to&&(decide (g.fr≠g.to)&&decide (g.sh ≠ .zero)))))
def Gft.bytes (g:Gft):List UInt8:=vnum g.no++vnum g.fr.toNat++vnum g.to.toNat++txt (pack (idBits g.sh))
theorem e9 (l:List Bool):(pack l).length≤l.length:=by
 have : ∀ (l:List Bool) (p:List UInt8) (n:Nat),p.length=(n+7)/8→(addBits p n l).length=(n+l.length+7)/8:=by
  intro l
  induction l with
  | nil=>intro p n h;simpa [addBits] using h
  | cons b l ih=>
   intro p n h
   rw [addBits,ih _ (n+1) (jJ p n b h),List.length_cons]
   congr 1
   omega
 have h:=this l [] 0 rfl
 rw [pack,h]
 omega
theorem sx {l:List Bool} (h:0<l.length):pack l≠[]:=by
 rw [←kh,packR,if_pos h]
 simp
theorem Az (l:List Bool) (h0:0<l.length) (h30:l.length<2^30) (H:Heap) (nx:Nat):Ω 57 [blV l] H nx=some (.p (.sl (bytP (pack l)) (pack l).length 1 false),[],[]):=by
 rw [yy (.sl l false) h30,kh,jx (sx h0)]
theorem A7 {H:Heap} {nx:Nat} {x y z w:LV} {F G K M:List UInt8} (f:Bs H nx x F) (g:Bs H nx y G) (k:Bs H nx z K) (m:Bs H nx w M) (h30:F.length+G.length+K.length+M.length<2^31) (aid:Nat) (ha:H aid=some (.cells [x,y,z,w])) (haid:aid<nx):
  Ω 59 [.arr aid 0 4 1 4 true] H nx=some (sum' (F++G++K++M),[],[]):=by
 have:=wu [x,y,z,w] [F,G,K,M] H nx aid 4 true ha haid (.cons f (.cons g (.cons k (.cons m .nil)))) (by simp) (by simp;omega)
 simpa using this
end Go.Proofs.YtoeblkipfdnnlaaGreatDoor
end

section
namespace Go.Proofs.YtoeblkipfdnnlaaGreatDoor
open Go Go.Sx
set_option maxHeartbeats 1000000
theorem xI {H:Heap} {nx:Nat} {x:LV} {q:List UInt8} (nm:Option (List UInt8)) (b:Bs H nx x q) (hq:q.length<2^20) (hs : ∀ s,nm=some s→s.length<2^20):
  Ω 120 [x,.p (crdP false nm)] H nx=some (.p (.sl (bytP (q++crdW nm)) (q++crdW nm).length 1 false),[],[]):=by
 cases nm with
 | none=>exact xG b hq
 | some s=>exact xH s b hq (hs s rfl)
theorem v4 {H:Heap} {nx:Nat} {x:LV} {q:List UInt8} (nm:Option (List UInt8)) (fl:Bool) (b:Bs H nx x q) (hq:q.length<2^20) (hs : ∀ s,nm=some s→s.length<2^20):
  Ω 85 [x,.p (.agg [crdP fl nm])] H nx=some (.p (.sl (bytP (q++crdW nm)) (q++crdW nm).length 1 false),[],[]):=by
 refine ax (ir:=ir85) (by kernel_rfl) 1 ?_
 have c:=fun H nx=>nQ fl nm H nx
 have f : ∀ H nx x,Bs H nx x q→Ω 120 [x,.p (crdP false nm)] H nx=some (.p (.sl (bytP (q++crdW nm)) (q++crdW nm).length 1 false),[],[]):=fun H nx x b=>xI nm b hq hs
 generalize q++crdW nm=Q at*
 cases nm<;>simp only [bu,b8] at c f ⊢
 all_goals
  cases b with
  | nil=>
   have m1:=fun H nx=>f H nx _ .nil
   simp +contextual (maxSteps:=1000000) [ir85,ssI,↓ssJ,ssU,Go.Sx.LV.undef,Go.undef,ssP,appO,m1,c,ay,av,aG,aK,aM,aU,aX,aF,aJ]
  | sl _ fl'=>
   have m1:=fun H nx=>f H nx _ (.sl q fl')
   simp +contextual (maxSteps:=1000000) [ir85,ssI,↓ssJ,ssU,Go.Sx.LV.undef,Go.undef,ssP,appO,m1,c,ay,av,aG,aK,aM,aU,aX,aF,aJ]
  | arr _ G id off cp ex h1 h2 h3 h4=>
   have m1:=fun H nx e1 e2=>f H nx _ (.arr q G id off cp ex e1 e2 h3 h4)
   have hk : ∀ k,id<nx+k:=fun k=>by omega
   have hne : ¬id=nx:=by omega
   have hne2 : ∀ k,¬id=nx+k:=fun k=>by omega
   simp +contextual (maxSteps:=1000000) [ir85,ssI,↓ssJ,ssU,Go.Sx.LV.undef,Go.undef,ssP,appO,m1,c,ay,av,aG,aK,aM,aU,aX,aF,aJ,h1,h2,hk,hne,hne2]
theorem il (s:List UInt8) (h:s.length<2^19):(txt s).length<2^19+20:=by
 have:=cL s.length (by omega)
 rw [txt,List.length_append];omega
structure Wv.Ok (v:Wv):Prop where
 n:v.ev.norm
 m:v.ev.max<2^63
 b:(evBits v.ev).length<2^18
 s : ∀ s,v.nm=some s→s.length<2^19
theorem kH (v:Wv) (fl:Bool) (hv:v.Ok) (H:Heap) (nx:Nat):Ω 32 [.p (v.pv fl)] H nx=some (.p (.sl (bytP v.bytes) v.bytes.length 1 false),[],[]):=by
 refine ax (ir:=ir32) (by kernel_rfl) 0 ?_
 obtain ⟨ev,nm,gone⟩:=v
 obtain ⟨hn,hm,hb,hs⟩:=hv
 unfold Wv.bytes
 simp only at hn hm hb hs ⊢
 have hp:=e9 (evBits ev)
 have c:=pG ev (by omega) (by omega)
 have bb:=cw (pack (evBits ev))
 have t1:=fun H nx=>qm (.nil:Bs H nx (.p (.s (.slice none 0 0))) []) (pack (evBits ev)) (by decide) (by omega)
 have tl:=il (pack (evBits ev)) (by omega)
 simp only [List.nil_append] at t1
 generalize txt (pack (evBits ev))=T at*
 generalize pack (evBits ev)=B at*
 have q41 : ¬1099511627776<T.length+1:=by omega
 have q40:T.length+1≤1099511627776:=by omega
 have b1:byt (T++[1])=byt T++[.int .u8 1]:=by rw [bQ];rfl
 cases gone with
 | true=>
  have tk1:List.take (T.length+1) (byt T++[.int .u8 1])=byt T++[.int .u8 1]:=List.take_of_length_le (by simp [ay])
  have ap1:allP (byt T++[.int .u8 1])=some (bytP (T++[1])):=by rw [←b1,aF]
  cases nm<;>simp only [Wv.pv,Wv.cells,bu,b8]<;>simp +contextual (maxSteps:=1000000) [ir32,ssI,↓ssJ,ssU,Go.Sx.LV.undef,Go.undef,ssP,appO,c,bb,t1,aV,av,ay,aK,aM,aG,aF,q41,q40,tk1,ap1]
 | false=>
  have b0:byt (T++[0])=byt T++[.int .u8 0]:=by rw [bQ];rfl
  have l0:T.length+1=(T++[(0:UInt8)]).length:=by simp
  have pc:=fun H nx y (g:Bs H nx y (T++[0]))=>v4 nm fl g (by simp;omega) fun s h=>by have:=hs s h;omega
  have hE:T++0::crdW nm=T++[0]++crdW nm:=by simp
  simp only [Bool.false_eq_true,if_false]
  rw [hE]
  generalize T++[0]++crdW nm=Q at*
  have pc' : ∀ (H:Heap) (nx id:Nat),H id=some (.cells (byt T++[.int .u8 0]))→id<nx→Ω 85 [.arr id 0 (T.length+1) 1 (T.length+1) false,.p (.agg [crdP fl nm])] H nx=_:=fun H nx id h1 h2=>pc H nx _ (.whole' l0 (by rw [b0];exact h1) h2)
  cases nm<;>simp only [Wv.pv,Wv.cells,bu,b8] at pc' ⊢ <;> simp +contextual (maxSteps:=1000000) [ir32,ssI,↓ssJ,ssU,Go.Sx.LV.undef,Go.undef,ssP,appO,c,bb,t1,aV,av,ay,av,aG,aK,aM,aU,aX,aF,aJ,q41,q40,pc']
end Go.Proofs.YtoeblkipfdnnlaaGreatDoor
end

section
namespace Go.Proofs.YtoeblkipfdnnlaaGreatDoor
open Go Go.Sx
set_option maxHeartbeats 1000000
theorem zA (k:Nat) (hk:k<128) (H:Heap) (nx:Nat):Ω 98 [.int .u64 k] H nx=some (.arr nx 0 1 1 1 true,[],[some (.cells (byt [UInt8.ofNat k]))]):=by
 have n:=zy k (by omega) H nx
 rw [bZ hk] at n
 simpa [hk] using n
theorem AA (H:Heap) (nx:Nat):Ω 60 [.p (.s (.slice none 0 0))] H nx=some (.p (.sl (bytP (crdW none)) (crdW none).length 1 true),[],[]):=by
 rw [show crdW none=[0] by rw [crdW];exact bZ (by decide)]
 refine ax (ir:=ir60) (by kernel_rfl) 2 ?_
 have n : ∀ (H:Heap) (nx:Nat),Ω 98 [.int .u64 0] H nx=some (.arr nx 0 1 1 1 true,[],[some (.cells [.int .u8 0])]):=fun H nx=>zA 0 (by decide) H nx
 have w0:IntKind.u64.wrap 0=0:=by decide
 simp +contextual (maxSteps:=1000000) [ir60,ir60_0,iter,ssB,ssU,Go.Sx.LV.undef,Go.undef,ssP,appO,n,w0,bytP,ay,av,aG,aK,aM,aU,aX,aF,aJ]
theorem AB (s:List UInt8) (hs:s.length<2^20) (fl:Bool) (H:Heap) (nx:Nat):Ω 60 [.p (.sl (fldP s) 1 3 fl)] H nx=some (.p (.sl (bytP (crdW (some s))) (crdW (some s)).length 1 false),[],[]):=by
 refine ax (ir:=ir60) (by kernel_rfl) 3 ?_
 have n : ∀ (H:Heap) (nx:Nat),Ω 98 [.int .u64 1] H nx=some (.arr nx 0 1 1 1 true,[],[some (.cells [.int .u8 1])]):=fun H nx=>zA 1 (by decide) H nx
 have h0:=bZ (show 0<128 by decide)
 have t0 : ∀ (H:Heap) (nx:Nat),Ω 56 [.str ⟨#[]⟩] H nx=some (.arr nx 0 1 1 1 true,[],[some (.cells (byt [0]))]):=fun H nx=>by
  have:=nb [] (by decide) H nx
  rw [show txt []=[0] by simp [txt,h0]] at this
  exact this
 have t1 : ∀ (H:Heap) (nx:Nat),Ω 56 [.str ⟨s.toArray⟩] H nx=_:=fun H nx=>nb s (by omega) H nx
 have ec:crdW (some s)=[1]++[1]++[0]++txt s:=by simp [crdW,txt,h0,bZ (show 1<128 by decide)]
 have hv:=cL s.length (by omega)
 have tl:(txt s).length<2^21:=by rw [txt,List.length_append];omega
 have hne:[1]++[1]++[0]++txt s≠[]:=by simp
 rw [ec]
 generalize s.isEmpty=em at*
 generalize txt s=T at*
 have w1:IntKind.u64.wrap 1=1:=by decide
 have w2:IntKind.i64.wrap 1=1:=by decide
 have w3:IntKind.u8.wrap 1=1:=by decide
 have j : ∀ (H:Heap) (nx aid i3 i4:Nat),H aid=some (.cells [.p (.sl [.s (.int .u8 1)] 1 1 true),.p (.sl [.s (.int .u8 1)] 1 1 true),.arr i3 0 1 1 1 true,.arr i4 0 T.length 1 T.length em])→aid<nx →
   H i3=some (.cells (byt [0]))→i3<nx→H i4=some (.cells (byt T))→i4<nx →
   Ω 59 [.arr aid 0 4 1 4 true] H nx=some (.p (.sl (bytP ([1]++[1]++[0]++T)) ([1]++[1]++[0]++T).length 1 false),[],[]):=
  fun H nx aid i3 i4 h0 h0' a3 b3 a4 b4=>by
   have q1:Bs H nx (.p (.sl [.s (.int .u8 1)] 1 1 true)) [1]:=.sl [1] true
   have q3:Bs H nx (.arr i3 0 1 1 1 true) [0]:=.whole' (by rfl) a3 b3
   have q4:Bs H nx (.arr i4 0 T.length 1 T.length em) T:=.whole a4 b4
   rw [A7 q1 q1 q3 q4 (by simp;omega) aid h0 h0',jx hne]
 have jj:=fun (H:Heap) (nx:Nat)=>j H (nx+3) (nx+2) nx (nx+1)
 generalize [1]++[1]++[0]++T=Q at*
 generalize hA:byt T=A at*
 generalize hB:byt [0]=B at*
 have rA : ∀ n' m',ren.go n' m' A=some A:=fun n' m'=>by rw [←hA];exact aM _ _ _
 have iA:ids.idsL A=[]:=by rw [←hA];exact aK _
 have iB:ids.idsL B=[]:=by rw [←hB];exact aK _
 have e:=Eq.refl (runCS ⟨Ω,gG,H,nx⟩ 3 ir60_0 ⟨[(3,.p (.sl [.s (.int .u8 1)] 1 1 true)),(10,.p (.sl (fldP s) 1 3 fl)),(11,.int .i64 1),(12,.int .i64 0)],⟨[],[]⟩⟩)
 conv at e=>rhs;simp [ir60_0,ssB,ssU,Go.Sx.LV.undef,Go.undef,ssP,appO,t0,t1,w2,w3,jj,iA,iB,rA]
 have lo:runCS ⟨Ω,gG,H,nx⟩ 3 ir60_0 ⟨[(3,.p (.sl (bytP Q) Q.length 1 false)),(10,.p (.sl (fldP s) 1 3 fl)),(11,.int .i64 1),(12,.int .i64 1)],⟨[],[]⟩⟩=some (.exit 0,⟨[(3,.p (.sl (bytP Q) Q.length 1 false)),(10,.p (.sl (fldP s) 1 3 fl)),(11,.int .i64 1),(12,.int .i64 1),(13,.bool false)],⟨[],[]⟩⟩):=by
  simp +contextual (maxSteps:=1000000) [ir60_0,ssB,ssU,Go.Sx.LV.undef,Go.undef,ssP,appO]
 have lp:=(bp (n:=2) e).trans (bj (n:=1) lo (by simp))
 simp +contextual (maxSteps:=1000000) [ir60,ssB,ssU,Go.Sx.LV.undef,Go.undef,ssP,appO,n,w1,lp]
def Wv.rv (fl:Bool) (v:Wv):PV:=.agg [v.ev.rv,crdP fl v.nm,.s (.bool v.gone)]
theorem nT (nm:Option (List UInt8)) (h : ∀ s,nm=some s→s.length<2^19):(crdW nm).length<2^20:=by
 have h0:=bZ (show 0<128 by decide)
 have h1:=bZ (show 1<128 by decide)
 cases nm with
 | none=>rw [crdW,h0];decide
 | some s=>
  have:=il s (h s rfl)
  simp [crdW,txt,h0,h1] at this ⊢
  omega
theorem ul (v:Wv) (fl:Bool) (hv:v.Ok) (H:Heap) (nx:Nat):
  Ω 21 [.p (v.rv fl)] H nx=some (.p (.sl (bytP v.bytes) v.bytes.length 1 false),[],[]):=by
 refine ax (ir:=ir21) (by kernel_rfl) 0 ?_
 obtain ⟨ev,nm,gone⟩:=v
 obtain ⟨hn,hm,hb,hs⟩:=hv
 unfold Wv.bytes
 simp only at hm hb hn hs ⊢
 have hp:=e9 (evBits ev)
 have c:=cO ev hn (by omega) _ _ .nil (by simp;omega)
 rw [List.nil_append] at c
 have r:=Az (evBits ev) (gj ev) (by omega)
 have bb:=cw (pack (evBits ev))
 have t1:=nb (pack (evBits ev)) (by omega)
 have he:(pack (evBits ev)).isEmpty=false:=by
  have:=sx (gj ev)
  cases h:pack (evBits ev) with
  | nil=>exact absurd h this
  | cons=>rfl
 rw [he] at t1
 have tl:=il (pack (evBits ev)) (by omega)
 obtain ⟨cs,hcs⟩:=Ev.rv_imm ev
 simp only [Wv.rv,hcs]
 rw [hcs] at c
 generalize evBits ev=I at*
 generalize txt (pack I)=T at*
 generalize pack I=B at*
 have q41 : ¬1099511627776<T.length+1:=by omega
 have b1:byt (T++[1])=byt T++[.int .u8 1]:=by rw [bQ];rfl
 cases gone with
 | true=>
  have tk1:List.take (T.length+1) (byt T++[.int .u8 1])=byt T++[.int .u8 1]:=List.take_of_length_le (by simp [ay])
  have ap1:allP (byt T++[.int .u8 1])=some (bytP (T++[1])):=by rw [←b1,aF]
  cases nm<;>simp only [bu,b8]<;>simp [ir21,ssB,ssU,Go.Sx.LV.undef,Go.undef,ssP,appO,c,r,bb,t1,aV,av,ay,aK,aM,aG,aF,q41,tk1,ap1]
 | false=>
  have cl:=nT nm hs
  have hE:T++0::crdW nm=T++[0]++crdW nm:=by simp
  simp only [Bool.false_eq_true,if_false]
  have hne:T++[0]++crdW nm≠[]:=by simp
  rw [hE]
  have j : ∀ (H:Heap) (nx aid i1:Nat) (y:LV),Bs H nx y (crdW nm)→H aid=some (.cells [.arr i1 0 T.length 1 T.length false,.p (.sl [.s (.int .u8 0)] 1 1 true),y])→aid<nx→H i1=some (.cells (byt T))→i1<nx →
    Ω 59 [.arr aid 0 3 1 3 true] H nx=some (sum' (T++[0]++crdW nm),[],[]):=fun H nx aid i1 y g h0 h0' a1 b1=>
   A6 (.whole a1 b1) (.sl [0] true:Bs H nx (.p (.sl [.s (.int .u8 0)] 1 1 true)) [0]) g (by simp;omega) aid h0 h0'
  rw [jx hne] at j
  cases nm with
  | none=>
   have cc:=AA
   have j':=fun (H:Heap) (nx:Nat)=>j H (nx+2) (nx+1) nx (.p (.sl (bytP (crdW none)) (crdW none).length 1 true)) (.sl (crdW none) true)
   generalize T++[0]++crdW none=Q at*
   generalize (crdW none).length=zl at*
   generalize bytP (crdW none)=Z at*
   simp [ir21,ssB,ssU,Go.Sx.LV.undef,Go.undef,ssP,appO,bu,c,r,bb,t1,cc,aV,av,ay,av,aG,aK,aM,aU,aX,aF,aJ,j']
  | some s=>
   have cc:=AB s (by have:=hs s rfl;omega)
   have j':=fun (H:Heap) (nx:Nat)=>j H (nx+2) (nx+1) nx (.p (.sl (bytP (crdW (some s))) (crdW (some s)).length 1 false)) (.sl (crdW (some s)) false)
   generalize T++[0]++crdW (some s)=Q at*
   generalize (crdW (some s)).length=zl at*
   generalize bytP (crdW (some s))=Z at*
   simp [ir21,ssB,ssU,Go.Sx.LV.undef,Go.undef,ssP,appO,b8,c,r,bb,t1,cc,aV,av,ay,av,aG,aK,aM,aU,aX,aF,aJ,j']
end Go.Proofs.YtoeblkipfdnnlaaGreatDoor
end

section
namespace Go.Proofs.YtoeblkipfdnnlaaGreatDoor
open Go Go.Sx
section same
variable {H:Heap} {nx:Nat} {F G:List UInt8} {x y:LV}
theorem yK {n:Nat} (g1:Bs H nx x F) (g2:Bs H nx y G) (h62:F.length<2^62) {j:Nat} {a b:UInt8} (ha:F[j]?=some a) (hb:G[j]?=some b) (e:a=b):
  runCS ⟨Ω,gG,H,nx⟩ n ir20_0 ⟨[(0,x),(1,y),(12,.int .i64 F.length),(13,.int .i64 j)],⟨[],[]⟩⟩=
   some (.normal,⟨[(0,x),(1,y),(12,.int .i64 F.length),(13,.int .i64 (j+1:Nat))],⟨[],[]⟩⟩):=by
 obtain ⟨hlt,_⟩:=List.getElem?_eq_some_iff.1 ha
 obtain ⟨hlt2,_⟩:=List.getElem?_eq_some_iff.1 hb
 have h8 : ¬(F.length:Int)≤j:=by omega
 have hw:IntKind.i64.wrap ((j:Int)+1)=(j:Int)+1:=wrap_i64 _ (by omega) (by omega)
 have hba:=bE ha
 have hbb:=bE hb
 subst e
 cases g1 with
 | nil=>simp at ha
 | sl _ fl=>
  cases g2 with
  | nil=>simp at hb
  | sl _ fl=>simp [ir20_0,ssB,ssU,Go.Sx.LV.undef,Go.undef,ssP,appO,h8,hw,hlt,hlt2,hba,hbb,aV]
  | arr _ G' id off cp ex h1 h2 h3 h4=>
   have hb2:=bE (fS h4 hb)
   simp [ir20_0,ssB,ssU,Go.Sx.LV.undef,Go.undef,ssP,appO,h8,hw,hlt,hlt2,hba,hb2,aV,h1,h2]
 | arr _ F' id' off' cp' ex' k1 k2 k3 k4=>
  have ha2:=bE (fS k4 ha)
  cases g2 with
  | nil=>simp at hb
  | sl _ fl=>simp [ir20_0,ssB,ssU,Go.Sx.LV.undef,Go.undef,ssP,appO,h8,hw,hlt,hlt2,ha2,hbb,aV,k1,k2]
  | arr _ G' id off cp ex h1 h2 h3 h4=>
   have hb2:=bE (fS h4 hb)
   simp [ir20_0,ssB,ssU,Go.Sx.LV.undef,Go.undef,ssP,appO,h8,hw,hlt,hlt2,ha2,hb2,aV,h1,h2,k1,k2]
theorem yL {n:Nat} (g1:Bs H nx x F) (g2:Bs H nx y G) {j:Nat} {a b:UInt8} (ha:F[j]?=some a) (hb:G[j]?=some b) (e:a≠b):
  runCS ⟨Ω,gG,H,nx⟩ n ir20_0 ⟨[(0,x),(1,y),(12,.int .i64 F.length),(13,.int .i64 j)],⟨[],[]⟩⟩=
   some (.ret,⟨[(4,.bool false)],⟨[],[]⟩⟩):=by
 obtain ⟨hlt,_⟩:=List.getElem?_eq_some_iff.1 ha
 obtain ⟨hlt2,_⟩:=List.getElem?_eq_some_iff.1 hb
 have h8 : ¬(F.length:Int)≤j:=by omega
 have hba:=bE ha
 have hbb:=bE hb
 have e' : ¬a.toNat=b.toNat:=fun h=>e (UInt8.toNat_inj.1 h)
 have e2 : ¬(a.toNat:Int)=b.toNat:=fun h=>e' (by omega)
 cases g1 with
 | nil=>simp at ha
 | sl _ fl=>
  cases g2 with
  | nil=>simp at hb
  | sl _ fl=>simp [ir20_0,ssB,ssU,Go.Sx.LV.undef,Go.undef,ssP,appO,h8,hlt,hlt2,hba,hbb,aV,e',e2]
  | arr _ G' id off cp ex h1 h2 h3 h4=>
   have hb2:=bE (fS h4 hb)
   simp [ir20_0,ssB,ssU,Go.Sx.LV.undef,Go.undef,ssP,appO,h8,hlt,hlt2,hba,hb2,aV,h1,h2,e',e2]
 | arr _ F' id' off' cp' ex' k1 k2 k3 k4=>
  have ha2:=bE (fS k4 ha)
  cases g2 with
  | nil=>simp at hb
  | sl _ fl=>simp [ir20_0,ssB,ssU,Go.Sx.LV.undef,Go.undef,ssP,appO,h8,hlt,hlt2,ha2,hbb,aV,k1,k2,e',e2]
  | arr _ G' id off cp ex h1 h2 h3 h4=>
   have hb2:=bE (fS h4 hb)
   simp [ir20_0,ssB,ssU,Go.Sx.LV.undef,Go.undef,ssP,appO,h8,hlt,hlt2,ha2,hb2,aV,h1,h2,k1,k2,e',e2]
theorem wG {n len:Nat} : runCS ⟨Ω,gG,H,nx⟩ n ir20_0 ⟨[(0,x),(1,y),(12,.int .i64 len),(13,.int .i64 len)],⟨[],[]⟩⟩=
  some (.exit 0,⟨[(0,x),(1,y),(12,.int .i64 len),(13,.int .i64 len),(14,.bool false)],⟨[],[]⟩⟩):=by
 simp [ir20_0,ssB,ssU,Go.Sx.LV.undef,Go.undef,ssP,appO]
theorem wF {n:Nat} (g1:Bs H nx x F) (g2:Bs H nx y G) (hl:F.length=G.length) (h62:F.length<2^62) : ∀ (k q j:Nat),j+k=F.length→k<q →
  iter (runCS ⟨Ω,gG,H,nx⟩ n ir20_0) q ⟨[(0,x),(1,y),(12,.int .i64 F.length),(13,.int .i64 j)],⟨[],[]⟩⟩=
   if F.drop j=G.drop j then some (.exit 0,⟨[(0,x),(1,y),(12,.int .i64 F.length),(13,.int .i64 F.length),(14,.bool false)],⟨[],[]⟩⟩) else some (.ret,⟨[(4,.bool false)],⟨[],[]⟩⟩):=by
 intro k
 induction k with
 | zero=>
  intro q j hj hq
  obtain ⟨q,rfl⟩ : ∃ r,q=r+1:=⟨q-1,by omega⟩
  obtain rfl:j=F.length:=by omega
  rw [bj wG (by simp),if_pos (by rw [List.drop_length,hl,List.drop_length])]
 | succ k ih=>
  intro q j hj hq
  obtain ⟨q,rfl⟩ : ∃ r,q=r+1:=⟨q-1,by omega⟩
  have h1:j<F.length:=by omega
  have h2:j<G.length:=by omega
  have hiff:(F.drop j=G.drop j)↔(F[j]=G[j]∧F.drop (j+1)=G.drop (j+1)):=by rw [List.drop_eq_getElem_cons h1,List.drop_eq_getElem_cons h2,List.cons.injEq]
  by_cases e:F[j]=G[j]
  ·rw [bp (yK g1 g2 h62 (List.getElem?_eq_getElem h1) (List.getElem?_eq_getElem h2) e),ih q (j+1) (by omega) (by omega)]
   simp only [hiff,e,true_and]
  ·rw [bj (yL g1 g2 (List.getElem?_eq_getElem h1) (List.getElem?_eq_getElem h2) e) (by simp),if_neg (fun h=>e (hiff.1 h).1)]
theorem qd (g1:Bs H nx x F) (g2:Bs H nx y G) (h62:F.length<2^62):Ω 20 [x,y] H nx=some (.bool (decide (F=G)),[],[]):=by
 refine ax (ir:=ir20) (by kernel_rfl) (F.length+1) ?_
 by_cases hl:F.length=G.length
 ·have hs:=wF (n:=F.length+1) g1 g2 hl h62 F.length (F.length+1) 0 (by omega) (by omega)
  simp only [Int.natCast_zero,Int.ofNat_zero,List.drop_zero] at hs
  have hb:((F.length:Int) != (G.length:Int))=false:=by simp [hl]
  have hb0:F=[]→(G.length:Int)=0:=fun e=>by subst e;simp at hl;omega
  obtain ⟨D,hD⟩ : ∃ D,decide (F=G)=D:=⟨_,rfl⟩
  have hs2:iter (runCS ⟨Ω,gG,H,nx⟩ (F.length+1) ir20_0) (F.length+1) ⟨[(0,x),(1,y),(12,.int .i64 F.length),(13,.int .i64 0)],⟨[],[]⟩⟩=
    if D=true then some (.exit 0,⟨[(0,x),(1,y),(12,.int .i64 F.length),(13,.int .i64 F.length),(14,.bool false)],⟨[],[]⟩⟩) else some (.ret,⟨[(4,.bool false)],⟨[],[]⟩⟩):=by
   rw [hs,←hD]
   by_cases e:F=G
   ·rw [if_pos e];simp [e]
   ·rw [if_neg e];simp [e]
  rw [hD]
  clear hs hD
  cases g1 with
  | nil=>
   have hb1:=hb0 rfl
   clear hb hb0
   simp only [List.length_nil,Int.natCast_zero,Int.ofNat_zero] at hs2
   cases g2<;>cases D<;>simp [ir20,ssB,ssU,Go.Sx.LV.undef,Go.undef,ssP,appO,hs2,hb1]
  | sl _ fl=>
   clear hb0
   cases g2 with
   | nil=>
    obtain rfl:F=[]:=List.eq_nil_of_length_eq_zero hl
    simp only [List.length_nil,Int.natCast_zero,Int.ofNat_zero] at hs2
    cases D<;>simp [ir20,ssB,ssU,Go.Sx.LV.undef,Go.undef,ssP,appO,hs2]
   | _=>cases D<;>simp [ir20,ssB,ssU,Go.Sx.LV.undef,Go.undef,ssP,appO,hs2,hb]
  | arr _ F' id' off' cp' ex' k1 k2 k3 k4=>
   clear hb0
   cases g2 with
   | nil=>
    obtain rfl:F=[]:=List.eq_nil_of_length_eq_zero hl
    simp only [List.length_nil,Int.natCast_zero,Int.ofNat_zero] at hs2
    cases D<;>simp [ir20,ssB,ssU,Go.Sx.LV.undef,Go.undef,ssP,appO,hs2]
   | _=>cases D<;>simp [ir20,ssB,ssU,Go.Sx.LV.undef,Go.undef,ssP,appO,hs2,hb]
 ·have e : ¬F=G:=fun e=>hl (by rw [e])
  have hb:((F.length:Int) != (G.length:Int))=true:=by simp;omega
  have e':decide (F=G)=false:=by simpa using e
  rw [e']
  have hl' : ¬(F.length:Int)=G.length:=by omega
  cases g1 with
  | nil=>
   simp only [List.length_nil,Int.natCast_zero,Int.ofNat_zero] at hl'
   cases g2<;>simp [ir20,ssB,ssU,Go.Sx.LV.undef,Go.undef,ssP,appO,hl']<;>simp at hl
  | sl _ fl=>
   cases g2 with
   | nil=>
    have hF : ¬F=[]:=fun e=>hl (by rw [e])
    simp [ir20,ssB,ssU,Go.Sx.LV.undef,Go.undef,ssP,appO,hF]
   | _=>simp [ir20,ssB,ssU,Go.Sx.LV.undef,Go.undef,ssP,appO,hb,hl',hl]
  | arr _ F' id' off' cp' ex' k1 k2 k3 k4=>
   cases g2 with
   | nil=>
    have hF : ¬F=[]:=fun e=>hl (by rw [e])
    simp [ir20,ssB,ssU,Go.Sx.LV.undef,Go.undef,ssP,appO,hF]
   | _=>simp [ir20,ssB,ssU,Go.Sx.LV.undef,Go.undef,ssP,appO,hb,hl',hl]
end same
end Go.Proofs.YtoeblkipfdnnlaaGreatDoor
end

section
namespace Go.Sx
open Go
def blt (x y:List UInt8):Bool:=decide (cmpL x y<0)
theorem fA : ∀ x:List UInt8,cmpL x x=0
 | []=>rfl
 | a::x=>by rw [cmpL,if_pos rfl,fA x]
theorem jq : ∀ {x y:List UInt8},cmpL x y=0→x=y
 | [],[],_=>rfl
 | [],_::_,h=>by cases h
 | _::_,[],h=>by cases h
 | a::x,b::y,h=>by
  rw [cmpL] at h
  split at h
  ·rename_i e;rw [e,jq h]
  ·split at h<;>cases h
theorem kX : ∀ (x y:List UInt8),cmpL x y=0∨cmpL x y = -1∨cmpL x y=1
 | [],[]=>.inl rfl
 | [],_::_=>.inr (.inl rfl)
 | _::_,[]=>.inr (.inr rfl)
 | a::x,b::y=>by
  rw [cmpL]
  split
  ·exact kX x y
  ·split
   ·exact .inr (.inl rfl)
   ·exact .inr (.inr rfl)
theorem nS : ∀ (x y:List UInt8),cmpL y x = - cmpL x y
 | [],[]=>rfl
 | [],_::_=>rfl
 | _::_,[]=>rfl
 | a::x,b::y=>by
  rw [cmpL,cmpL]
  by_cases h:a=b
  ·rw [if_pos h,if_pos h.symm];exact nS x y
  ·rw [if_neg h,if_neg (fun e=>h e.symm)]
   by_cases h1:a<b
   ·rw [if_pos h1,if_neg (UInt8.not_lt.2 (UInt8.le_of_lt h1))];rfl
   ·rw [if_neg h1,if_pos]
    rcases UInt8.lt_or_eq_of_le (UInt8.not_lt.1 h1) with h2|h2
    ·exact h2
    ·exact absurd h2.symm h
theorem jQ : ∀ {x y z:List UInt8},cmpL x y<0→cmpL y z<0→cmpL x z<0
 | [],[],_,h,_=>by simp [cmpL] at h
 | _::_,[],_,h,_=>by simp [cmpL] at h
 | _,_::_,[],_,h=>by simp [cmpL] at h
 | [],_::_,_::_,_,_=>by simp [cmpL]
 | a::x,b::y,c::z,h1,h2=>by
  rw [cmpL] at h1 h2 ⊢
  by_cases e1:a=b
  ·subst e1
   rw [if_pos rfl] at h1
   by_cases e2:a=c
   ·subst e2
    rw [if_pos rfl] at h2 ⊢
    exact jQ h1 h2
   ·rw [if_neg e2] at h2 ⊢;exact h2
  ·rw [if_neg e1] at h1
   have l1:a<b:=by
    by_cases q:a<b
    ·exact q
    ·rw [if_neg q] at h1;exact absurd h1 (by decide)
   by_cases e2:b=c
   ·subst e2;rw [if_neg e1,if_pos l1];decide
   ·rw [if_neg e2] at h2
    have l2:b<c:=by
     by_cases q:b<c
     ·exact q
     ·rw [if_neg q] at h2;exact absurd h2 (by decide)
    have l3:a<c:=UInt8.lt_trans l1 l2
    rw [if_neg (UInt8.ne_of_lt l3),if_pos l3];decide
theorem mB (x:List UInt8):blt x x=false:=by simp [blt,fA]
theorem iJ {x y z:List UInt8} (h1:blt x y=true) (h2:blt y z=true):blt x z=true:=by
 simp only [blt,decide_eq_true_eq] at h1 h2 ⊢;exact jQ h1 h2
theorem xg (x y:List UInt8):blt x y=true∨x=y∨blt y x=true:=by
 simp only [blt,decide_eq_true_eq,nS x y]
 rcases kX x y with h|h|h
 ·exact .inr (.inl (jq h))
 ·exact .inl (by omega)
 ·exact .inr (.inr (by omega))
section
variable {α:Type} (key:α→List UInt8) (und:α→α→Bool)
def Srt:List α→Prop
 | []=>True
 | x::l=>(∀ y∈l,blt (key x) (key y)=true)∧Srt l
def insK (v:α):List α→List α
 | []=>[v]
 | x::l=>if blt (key x) (key v) then x::insK v l else v::x::l
def addK (L:List α) (v:α):List α:=
 if L.any (fun w=>key w==key v)||L.any (fun w=>und v w) then L else insK key v (L.filter fun w => !und w v)
def putK (L:List α) (v:α):List α:=if L.any (fun w=>key w==key v) then L else insK key v L
def okK (l:List α) (v:α):Bool:=l.all fun w => !und v w
variable {key und}
theorem insK_mem {v u:α} : ∀ {L:List α},u∈insK key v L↔u=v∨u∈L
 | []=>by simp [insK]
 | x::l=>by
  rw [insK]
  split
  ·simp only [List.mem_cons,insK_mem (L:=l)]
   constructor
   ·rintro (h|h|h)
    ·exact .inr (.inl h)
    ·exact .inl h
    ·exact .inr (.inr h)
   ·rintro (h|h|h)
    ·exact .inr (.inl h)
    ·exact .inl h
    ·exact .inr (.inr h)
  ·simp
theorem eS {v:α} : ∀ {L:List α},Srt key L→(∀ w∈L,key w≠key v)→Srt key (insK key v L)
 | [],_,_=>⟨by simp,trivial⟩
 | x::l,⟨h1,h2⟩,hn=>by
  rw [insK]
  split
  ·rename_i h
   refine ⟨fun y hy => ?_,eS h2 fun w hw=>hn w (List.mem_cons_of_mem _ hw)⟩
   rcases insK_mem.1 hy with rfl|hy
   ·exact h
   ·exact h1 y hy
  ·rename_i h
   have hv:blt (key v) (key x)=true:=by
    rcases xg (key x) (key v) with q|q|q
    ·exact absurd q h
    ·exact absurd q (hn x List.mem_cons_self)
    ·exact q
   refine ⟨fun y hy => ?_,h1,h2⟩
   rcases List.mem_cons.1 hy with rfl|hy
   ·exact hv
   ·exact iJ hv (h1 y hy)
theorem Srt.filter {p:α→Bool} : ∀ {L:List α},Srt key L→Srt key (L.filter p)
 | [],_=>trivial
 | x::l,⟨h1,h2⟩=>by
  rw [List.filter_cons]
  split
  ·exact ⟨fun y hy=>h1 y ((List.mem_filter.1 hy).1),h2.filter⟩
  ·exact h2.filter
theorem Srt.ext : ∀ {L M:List α},Srt key L→Srt key M→(∀ k,k∈L.map key↔k∈M.map key)→L.map key=M.map key
 | [],[],_,_,_=>rfl
 | [],y::m,_,_,h=>by have:=(h (key y)).2 (by simp);simp at this
 | x::l,[],_,_,h=>by have:=(h (key x)).1 (by simp);simp at this
 | x::l,y::m,⟨h1,h2⟩,⟨g1,g2⟩,h=>by
  have hne : ∀ {a:α} {q:List α},(∀ z∈q,blt (key a) (key z)=true)→key a∉q.map key:=fun hz hm=>by
   obtain ⟨z,hz1,hz2⟩:=List.mem_map.1 hm
   have:=hz z hz1
   rw [hz2,mB] at this;cases this
  have e:key x=key y:=by
   rcases List.mem_cons.1 ((h (key x)).1 (by simp)) with q|q
   ·exact q
   ·obtain ⟨z,z1,z2⟩:=List.mem_map.1 q
    rcases List.mem_cons.1 ((h (key y)).2 (by simp)) with q' | q'
    ·exact q'.symm
    ·obtain ⟨u,u1,u2⟩:=List.mem_map.1 q'
     have a:=g1 z z1
     have b:=h1 u u1
     rw [z2] at a
     rw [u2] at b
     have:=iJ a b
     rw [mB] at this;cases this
  simp only [List.map_cons]
  rw [e,Srt.ext h2 g2]
  intro k
  have hk:=h k
  simp only [List.map_cons,List.mem_cons] at hk
  constructor
  ·intro hm
   rcases hk.1 (.inr hm) with q|q
   ·exact absurd (by rw [e,←q];exact hm:key x∈l.map key) (hne h1)
   ·exact q
  ·intro hm
   rcases hk.2 (.inr hm) with q|q
   ·exact absurd (by rw [←e,←q];exact hm:key y∈m.map key) (hne g1)
   ·exact q
structure Ord (key:α→List UInt8) (und:α→α→Bool) (p:α→Prop):Prop where
 irr : ∀ v,p v→und v v=false
 trans : ∀ u v w,p u→p v→p w→und u v=true→und v w=true→und u w=true
 inj : ∀ u v,p u→p v→key u=key v→u=v
def Top (und:α→α→Bool) (l:List α) (v:α):Prop:=v∈l∧okK und l v=true
theorem okK_iff {l:List α} {v:α} : okK und l v=true ↔ ∀ w∈l,und v w=false:=by simp [okK]
theorem kE {p:α→Prop} (o:Ord key und p) {l:List α} (hl : ∀ v∈l,p v) : ∀ (n:Nat) (w:α),w∈l→(l.filter (und w)).length≤n→∃ u,Top und l u∧(u=w∨und w u=true)
 | n,w,hw,hn=>by
  by_cases h:okK und l w=true
  ·exact ⟨w,⟨hw,h⟩,.inl rfl⟩
  ·have : ∃ x∈l,und w x=true:=by
    rw [okK_iff] at h
    exact Classical.byContradiction fun hc=>h fun x hx=>by
     cases q:und w x with
     | false=>rfl
     | true=>exact absurd ⟨x,hx,q⟩ hc
   obtain ⟨x,hx,hwx⟩:=this
   have hlt:(l.filter (und x)).length<(l.filter (und w)).length:=by
    have e:l.filter (und x)=(l.filter (und w)).filter (und x):=by
     rw [List.filter_filter]
     refine List.filter_congr fun z hz => ?_
     cases q:und x z with
     | false=>rfl
     | true=>rw [o.trans w x z (hl w hw) (hl x hx) (hl z hz) hwx q];rfl
    rw [e]
    have hmem:x∈l.filter (und w):=List.mem_filter.2 ⟨hx,hwx⟩
    refine Nat.lt_of_le_of_ne (List.length_filter_le _ _) fun he => ?_
    have:=List.length_filter_eq_length_iff.1 he x hmem
    rw [o.irr x (hl x hx)] at this;cases this
   cases n with
   | zero=>omega
   | succ n=>
    obtain ⟨u,hu,h2⟩:=kE o hl n x hx (by omega)
    refine ⟨u,hu,.inr ?_⟩
    rcases h2 with rfl|h2
    ·exact hwx
    ·exact o.trans w x u (hl w hw) (hl x hx) (hl u hu.1) hwx h2
structure Is (key:α→List UInt8) (und:α→α→Bool) (L l:List α):Prop where
 srt:Srt key L
 mem : ∀ v,v∈L↔Top und l v
theorem Is.nil:Is key und ([]:List α) []:=⟨trivial,fun v=>by simp [Top]⟩
theorem Is.add {p:α→Prop} (o:Ord key und p) {L l:List α} (h:Is key und L l) (hl : ∀ v∈l,p v) {v:α} (hv:p v):Is key und (addK key und L v) (l++[v]):=by
 have ok1 : ∀ u,okK und (l++[v]) u=true↔okK und l u=true∧und u v=false:=fun u=>by
  simp [okK]
 unfold addK
 by_cases h1:L.any (fun w=>key w==key v)=true
 ·rw [h1,Bool.true_or,if_pos rfl]
  obtain ⟨w,hw,hk⟩:=List.any_eq_true.1 h1
  have hwt:=(h.mem w).1 hw
  obtain rfl:w=v:=o.inj w v (hl w hwt.1) hv (by simpa using hk)
  refine ⟨h.srt,fun u=>(h.mem u).trans ?_⟩
  unfold Top
  rw [ok1]
  constructor
  ·rintro ⟨a,b⟩
   exact ⟨List.mem_append_left _ a,b,okK_iff.1 b w hwt.1⟩
  ·rintro ⟨a,b,c⟩
   rcases List.mem_append.1 a with a|a
   ·exact ⟨a,b⟩
   ·rw [List.mem_singleton] at a;subst a;exact hwt
 ·have h1:L.any (fun w=>key w==key v)=false:=by simpa using h1
  rw [h1,Bool.false_or]
  by_cases h2:L.any (fun w=>und v w)=true
  ·rw [if_pos h2]
   obtain ⟨w,hw,hu⟩:=List.any_eq_true.1 h2
   have hwt:=(h.mem w).1 hw
   refine ⟨h.srt,fun u=>(h.mem u).trans ?_⟩
   unfold Top
   rw [ok1]
   constructor
   ·rintro ⟨a,b⟩
    refine ⟨List.mem_append_left _ a,b,?_⟩
    cases q:und u v with
    | false=>rfl
    | true=>
     have:=o.trans u v w (hl u a) hv (hl w hwt.1) q hu
     rw [okK_iff.1 b w hwt.1] at this;cases this
   ·rintro ⟨a,b,c⟩
    rcases List.mem_append.1 a with a|a
    ·exact ⟨a,b⟩
    ·rw [List.mem_singleton] at a;subst a
     rw [okK_iff.1 b w hwt.1] at hu;cases hu
  ·rw [if_neg h2]
   have h2 : ∀ w∈L,und v w=false:=by simpa using h2
   have hvt:okK und l v=true:=okK_iff.2 fun w hw=>by
    cases q:und v w with
    | false=>rfl
    | true=>
     obtain ⟨u,hu,h3⟩:=kE o hl _ w hw (Nat.le_refl _)
     have hul:=(h.mem u).2 hu
     rcases h3 with rfl|h3
     ·rw [h2 u hul] at q;cases q
     ·have:=o.trans v w u hv (hl w hw) (hl u hu.1) q h3
      rw [h2 u hul] at this;cases this
   refine ⟨eS h.srt.filter fun w hw hk => ?_,fun u => ?_⟩
   ·have:=List.any_eq_false.1 h1 w ((List.mem_filter.1 hw).1)
    simp [hk] at this
   ·rw [insK_mem,List.mem_filter,h.mem]
    unfold Top
    rw [ok1]
    constructor
    ·rintro (rfl|⟨⟨a,b⟩,c⟩)
     ·exact ⟨by simp,hvt,o.irr u hv⟩
     ·exact ⟨List.mem_append_left _ a,b,by simpa using c⟩
    ·rintro ⟨a,b,c⟩
     rcases List.mem_append.1 a with a|a
     ·exact .inr ⟨⟨a,b⟩,by simp [c]⟩
     ·exact .inl (by simpa using a)
theorem Is.adds {p:α→Prop} (o:Ord key und p) : ∀ (m:List α) {L l:List α},Is key und L l→(∀ v∈l,p v)→(∀ v∈m,p v)→Is key und (m.foldl (addK key und) L) (l++m)
 | [],L,l,h,_,_=>by simpa using h
 | v::m,L,l,h,hl,hm=>by
  have hv:=hm v List.mem_cons_self
  have:=Is.adds o m (h.add o hl hv) (fun u hu=>by
   rcases List.mem_append.1 hu with q|q
   ·exact hl u q
   ·rw [List.mem_singleton] at q;subst q;exact hv) fun u hu=>hm u (List.mem_cons_of_mem _ hu)
  rwa [List.append_assoc] at this
theorem mh {l m:List α} (h : ∀ v,v∈l↔v∈m) (v:α):Top und l v↔Top und m v:=by
 unfold Top
 rw [okK_iff,okK_iff,h]
 exact ⟨fun ⟨a,b⟩=>⟨a,fun w hw=>b w ((h w).2 hw)⟩,fun ⟨a,b⟩=>⟨a,fun w hw=>b w ((h w).1 hw)⟩⟩
theorem wO {p:α→Prop} (o:Ord key und p) {l1 l2 m:List α} (h1 : ∀ v∈l1,p v) (h2 : ∀ v∈l2,p v) (hm : ∀ v,v∈m↔Top und l2 v) (v:α):Top und (l1++m) v↔Top und (l1++l2) v:=by
 unfold Top
 simp only [okK_iff,List.mem_append]
 constructor
 ·rintro ⟨a,b⟩
  have hv:p v:=a.elim (h1 v) fun q=>h2 v ((hm v).1 q).1
  refine ⟨a.imp id fun q=>((hm v).1 q).1,fun w hw => ?_⟩
  rcases hw with hw|hw
  ·exact b w (.inl hw)
  ·cases q:und v w with
   | false=>rfl
   | true=>
    obtain ⟨u,hu,h3⟩:=kE o h2 _ w hw (Nat.le_refl _)
    have:=b u (.inr ((hm u).2 hu))
    rcases h3 with rfl|h3
    ·rw [q] at this;cases this
    ·rw [o.trans v w u hv (h2 w hw) (h2 u hu.1) q h3] at this;cases this
 ·rintro ⟨a,b⟩
  refine ⟨?_,fun w hw=>b w (hw.imp id fun q=>((hm w).1 q).1)⟩
  rcases a with a|a
  ·exact .inl a
  ·exact .inr ((hm v).2 ⟨a,okK_iff.2 fun w hw=>b w (.inr hw)⟩)
theorem Is.same {L M l m:List α} (h:Is key und L l) (g:Is key und M m) (e : ∀ v,Top und l v↔Top und m v):L.map key=M.map key:=by
 refine Srt.ext h.srt g.srt fun k => ?_
 simp only [List.mem_map]
 constructor
 ·rintro ⟨v,hv,rfl⟩
  exact ⟨v,(g.mem v).2 ((e v).1 ((h.mem v).1 hv)),rfl⟩
 ·rintro ⟨v,hv,rfl⟩
  exact ⟨v,(h.mem v).2 ((e v).2 ((g.mem v).1 hv)),rfl⟩
theorem sE {p:α→Prop} (o:Ord key und p) : ∀ (m:List α) {L:List α},Srt key L→(∀ v∈L,p v)→(∀ v∈m,p v)→Srt key (m.foldl (putK key) L)∧∀ v,v∈m.foldl (putK key) L↔v∈L∨v∈m
 | [],L,h,_,_=>⟨h,by simp⟩
 | v::m,L,h,hL,hm=>by
  have hv:=hm v List.mem_cons_self
  have st:Srt key (putK key L v)∧∀ u,u∈putK key L v↔u∈L∨u=v:=by
   unfold putK
   split
   ·rename_i q
    obtain ⟨w,hw,hk⟩:=List.any_eq_true.1 q
    obtain rfl:w=v:=o.inj w v (hL w hw) hv (by simpa using hk)
    exact ⟨h,fun u=>⟨.inl,fun q=>q.elim id fun e=>e▸hw⟩⟩
   ·rename_i q
    have q:L.any (fun w=>key w==key v)=false:=by simpa using q
    refine ⟨eS h fun w hw hk => ?_,fun u=>insK_mem.trans Or.comm⟩
    have:=List.any_eq_false.1 q w hw
    simp [hk] at this
  obtain ⟨a,b⟩:=sE o m st.1 (fun u hu=>by rcases (st.2 u).1 hu with q|rfl;(exact hL u q);exact hv) fun u hu=>hm u (List.mem_cons_of_mem _ hu)
  refine ⟨a,fun u=>(b u).trans ?_⟩
  rw [st.2,List.mem_cons,or_assoc]
theorem yM {p:α→Prop} (o:Ord key und p) (l:List α) (hl : ∀ v∈l,p v):Is key und ((l.filter (okK und l)).foldl (putK key) []) l:=by
 obtain ⟨a,b⟩:=sE o (l.filter (okK und l)) (L:=[]) trivial (by simp) fun v hv=>hl v ((List.mem_filter.1 hv).1)
 refine ⟨a,fun v=>(b v).trans ?_⟩
 simp [Top,List.mem_filter]
end
end Go.Sx
end

section
namespace Go.Sx
open Go
section
variable {α:Type} (key:α→List UInt8)
def lo (t:List UInt8):List α→Nat
 | []=>0
 | x::l=>if blt (key x) t then lo t l+1 else 0
variable {key}
theorem lJ (t:List UInt8) : ∀ L:List α,lo key t L≤L.length
 | []=>Nat.le_refl _
 | x::l=>by
  rw [lo]
  split
  ·have:=lJ t l;rw [List.length_cons];omega
  ·exact Nat.zero_le _
theorem js (v:α) : ∀ L:List α,insK key v L=L.take (lo key (key v) L)++v::L.drop (lo key (key v) L)
 | []=>rfl
 | x::l=>by
  rw [insK,lo]
  split
  ·rw [js v l];rfl
  ·rfl
theorem r5 {t:List UInt8} : ∀ {L:List α},Srt key L→∀ {h:Nat} {x:α},L[h]?=some x→(blt (key x) t=decide (h<lo key t L))
 | [],_,h,x,hx=>by cases hx
 | y::l,⟨h1,h2⟩,0,x,hx=>by
  obtain rfl:y=x:=by simpa using hx
  rw [lo]
  cases q:blt (key y) t with
  | true=>simp
  | false=>simp
 | y::l,⟨h1,h2⟩,h+1,x,hx=>by
  have hx':l[h]?=some x:=by simpa using hx
  have ih:=r5 (t:=t) h2 hx'
  rw [lo]
  cases q:blt (key y) t with
  | true=>rw [ih];simp
  | false=>
   have hm:x∈l:=List.mem_of_getElem? hx'
   cases q2:blt (key x) t with
   | false=>simp
   | true=>rw [iJ (h1 x hm) q2] at q;cases q
theorem mz {t:List UInt8} : ∀ {L:List α},Srt key L→(L.any fun w=>key w==t)=match L[lo key t L]? with
  | some x=>decide (key x=t)
  | none=>false
 | [],_=>rfl
 | y::l,⟨h1,h2⟩=>by
  rw [lo,List.any_cons]
  cases q:blt (key y) t with
  | true=>
   have hne:(key y==t)=false:=by
    cases h:key y==t with
    | false=>rfl
    | true=>rw [eq_of_beq h,mB] at q;cases q
   rw [hne,Bool.false_or,mz h2]
   rfl
  | false=>
   simp only [Bool.false_eq_true,if_false,List.getElem?_cons_zero]
   by_cases h:key y=t
   ·simp [h]
   ·have hb:(key y==t)=false:=by simpa using h
    have:(l.any fun w=>key w==t)=false:=by
     rw [List.any_eq_false]
     intro w hw he
     have:=h1 w hw
     rw [eq_of_beq he] at this
     rw [this] at q;cases q
    rw [hb,this];simp [h]
end
section
variable {α:Type} (keep:α→Bool)
def dlp:Nat→List α→Nat→Nat→List α × Nat
 | 0,A,i,_=>(A,i)
 | m+1,A,i,j=>match A[j]? with
  | some v=>if keep v then dlp m (A.set i v) (i+1) (j+1) else dlp m A i (j+1)
  | none=>(A,i)
variable {keep}
theorem mF : ∀ (m:Nat) (A:List α) (i j:Nat),(dlp keep m A i j).1.length=A.length
 | 0,A,i,j=>rfl
 | m+1,A,i,j=>by
  rw [dlp]
  split
  ·split
   ·rw [mF m,List.length_set]
   ·exact mF m _ _ _
  ·rfl
theorem qZ : ∀ (m:Nat) (A:List α) (i j:Nat),A.length=j+m→i≤j→(dlp keep m A i j).2=i+((A.drop j).filter keep).length∧(dlp keep m A i j).2≤A.length ∧
  (dlp keep m A i j).1.take (dlp keep m A i j).2=A.take i++(A.drop j).filter keep
 | 0,A,i,j,h,hi=>by
  rw [List.drop_of_length_le (by omega)]
  refine ⟨by simp [dlp],by simp only [dlp];omega,by simp [dlp]⟩
 | m+1,A,i,j,h,hi=>by
  have hj:j<A.length:=by omega
  rw [dlp,List.getElem?_eq_getElem hj,List.drop_eq_getElem_cons hj,List.filter_cons]
  simp only
  split
  ·obtain ⟨h1,h2,h3⟩:=qZ m (A.set i A[j]) (i+1) (j+1) (by rw [List.length_set];omega) (by omega)
   have hd:(A.set i A[j]).drop (j+1)=A.drop (j+1):=List.drop_set_of_lt (by omega)
   rw [hd] at h1 h3
   rw [List.length_set] at h2
   refine ⟨by rw [h1,List.length_cons];omega,h2,h3.trans ?_⟩
   have ht:(A.set i A[j]).take (i+1)=A.take i++[A[j]]:=by
    rw [List.take_set,List.take_succ,List.getElem?_eq_getElem (show i<A.length by omega),List.set_append_right _ _ (by rw [List.length_take];omega)]
    simp [Nat.min_eq_left (show i≤A.length by omega)]
   rw [ht,List.append_assoc];rfl
  ·exact qZ m A i (j+1) (by omega) (by omega)
end
end Go.Sx
end

section
namespace Go.Sx
open Go
section
variable {α β:Type} {f:α→List β} {n:Nat}
theorem fL (hf : ∀ x,(f x).length=n) (L:List α):(L.flatMap f).length=L.length*n:=by
 induction L with
 | nil=>simp
 | cons x L ih=>rw [List.flatMap_cons,List.length_append,ih,hf,List.length_cons,Nat.succ_mul,Nat.add_comm]
theorem cH (hf : ∀ x,(f x).length=n) : ∀ (i:Nat) (L:List α),(L.flatMap f).drop (i*n)=(L.drop i).flatMap f
 | 0,L=>by simp
 | i+1,[]=>by simp
 | i+1,x::L=>by
  rw [List.flatMap_cons,List.drop_succ_cons,←cH hf i L,Nat.succ_mul,Nat.add_comm,←List.drop_drop,←hf x,List.drop_left]
theorem cJ (hf : ∀ x,(f x).length=n) : ∀ (i:Nat) (L:List α),(L.flatMap f).take (i*n)=(L.take i).flatMap f
 | 0,L=>by simp
 | i+1,[]=>by simp
 | i+1,x::L=>by
  rw [List.flatMap_cons,List.take_succ_cons,List.flatMap_cons,←cJ hf i L,Nat.succ_mul,Nat.add_comm,←hf x,List.take_length_add_append]
theorem ni (hf : ∀ x,(f x).length=n) {i:Nat} {L:List α} {x:α} (h:L[i]?=some x):((L.flatMap f).drop (i*n)).take n=f x:=by
 rw [cH hf]
 obtain ⟨hi,rfl⟩:=List.getElem?_eq_some_iff.1 h
 rw [List.drop_eq_getElem_cons hi,List.flatMap_cons,←hf L[i],List.take_left']
 rfl
theorem ww (hf : ∀ x,(f x).length=n) {i k:Nat} {L:List α} {x:α} (h:L[i]?=some x) (hk:k<n):(L.flatMap f)[i*n+k]?=(f x)[k]?:=by
 rw [←List.getElem?_drop,cH hf]
 obtain ⟨hi,rfl⟩:=List.getElem?_eq_some_iff.1 h
 rw [List.drop_eq_getElem_cons hi,List.flatMap_cons,List.getElem?_append_left (by rw [hf];exact hk)]
theorem yF (hf : ∀ x,(f x).length=n) {i:Nat} {L:List α} (x:α) (h:i<L.length):
  (L.flatMap f).take (i*n)++f x++(L.flatMap f).drop (i*n+n)=(L.set i x).flatMap f:=by
 rw [cJ hf,show i*n+n=(i+1)*n by rw [Nat.succ_mul],cH hf,List.set_eq_take_append_cons_drop,if_pos h,List.flatMap_append,List.flatMap_cons,List.append_assoc]
end
theorem qj {α:Type} {f:α→List LV} {n:Nat} (hf : ∀ x,(f x).length=n) {i:Nat} {L:List α} (x:α) (h:i<L.length):
  splice (L.flatMap f) (i*n) (f x)=(L.set i x).flatMap f:=by
 unfold splice
 rw [hf]
 exact yF hf x h
end Go.Sx
end

section
namespace Go.Proofs.YtoeblkipfdnnlaaGreatDoor
open Go Go.Sx
set_option maxHeartbeats 1000000
theorem BC (F G:List UInt8) (f g:Bool) (H:Heap) (nx:Nat):Ω 90 [.p (.sl (bytP F) F.length 1 f),.p (.sl (bytP G) G.length 1 g)] H nx=some (.int .i64 (cmpL F G),[],[]):=by
 have b1:=cw F
 have b2:=cw G
 refine ax (ir:=ir90) (by kernel_rfl) 0 ?_
 simp [ir90,ssB,ssU,Go.Sx.LV.undef,Go.undef,ssP,appO,aV,ay,b1,b2]
theorem pY (v w:Wv) (hv:v.Ok) (hw:w.Ok) (H:Heap) (nx:Nat):Ω 46 [.p (v.pv false),.p (w.pv false)] H nx=some (.int .i64 (cmpL v.bytes w.bytes),[],[]):=by
 have b1:=kH v false hv
 have b2:=kH w false hw
 have c:=BC v.bytes w.bytes false false
 simp only [Wv.pv,Wv.cells] at b1 b2 ⊢
 generalize cmpL v.bytes w.bytes=x at*
 generalize v.bytes.length=n at*
 generalize bytP v.bytes=N at*
 generalize w.bytes.length=m at*
 generalize bytP w.bytes=M at*
 refine ae (ir:=ir46) (by kernel_rfl) ?_;simp +contextual (maxSteps:=1000000) [ir46,ssL,↓ssM,aa,ssU,Go.Sx.LV.undef,Go.undef,ssR,b1,b2,c]
theorem Bq (v w:Wv) (hv:v.Ok) (hw:w.Ok) (H:Heap) (nx:Nat):Ω 33 [.p (v.pv false),.p (w.pv false)] H nx=some (.bool (decide (cmpL v.bytes w.bytes=0)),[],[]):=by
 have b1:=pY v w hv hw
 simp only [Wv.pv,Wv.cells] at b1 ⊢
 generalize cmpL v.bytes w.bytes=x at*
 refine ae (ir:=ir33) (by kernel_rfl) ?_;simp +contextual (maxSteps:=1000000) [ir33,ssL,↓ssM,aa,ssU,Go.Sx.LV.undef,Go.undef,ssR,b1]
def Wv.und (v w:Wv):Bool:=Ev.leqb v.ev w.ev&&!Ev.leqb w.ev v.ev
theorem wR (v w:Wv) (hv:v.Ok) (hw:w.Ok) (H:Heap) (nx:Nat):Ω 37 [.p (v.pv false),.p (w.pv false)] H nx=some (.bool (v.und w),[],[]):=by
 have b1:=pL v.ev w.ev hv.m hw.m
 have b2:=pL w.ev v.ev hw.m hv.m
 unfold Wv.und
 simp only [Wv.pv,Wv.cells,Ev.pv] at b1 b2 ⊢
 generalize Ev.leqb v.ev w.ev=x at*
 generalize Ev.leqb w.ev v.ev=y at*
 cases x<;>cases y
 all_goals (refine ae (ir:=ir37) (by kernel_rfl) ?_;simp +contextual (maxSteps:=1000000) [ir37,ssL,↓ssM,aa,ssU,Go.Sx.LV.undef,Go.undef,ssR,b1,b2])
theorem yz (v w:Wv) (f g:Bool) (hv:v.Ok) (hw:w.Ok) (H:Heap) (nx:Nat):Ω 38 [.p (v.rv f),.p (w.rv g)] H nx=some (.bool (v.und w),[],[]):=by
 have b1:=zx v.ev w.ev hw.n hv.m hw.m
 have b2:=zx w.ev v.ev hv.n hw.m hv.m
 unfold Wv.und
 obtain ⟨c1,e1⟩:=Ev.rv_imm v.ev
 obtain ⟨c2,e2⟩:=Ev.rv_imm w.ev
 simp only [Wv.rv,e1,e2] at b1 b2 ⊢
 generalize Ev.leqb v.ev w.ev=x at*
 generalize Ev.leqb w.ev v.ev=y at*
 cases x<;>cases y
 all_goals (refine ae (ir:=ir38) (by kernel_rfl) ?_;simp +contextual (maxSteps:=1000000) [ir38,ssL,↓ssM,aa,ssU,Go.Sx.LV.undef,Go.undef,ssR,b1,b2])
def Wv.right (v:Wv):Bool := !v.gone||decide (v.nm=none)
theorem nh (v:Wv) (H:Heap) (nx:Nat):Ω 34 [.p (v.pv false)] H nx=some (.bool v.right,[],[]):=by
 obtain ⟨ev,nm,gone⟩:=v
 have l:=nR false nm
 unfold Wv.right
 simp only [Wv.pv,Wv.cells] at l ⊢
 cases gone<;>cases nm<;>simp only [bu,b8] at l ⊢
 all_goals (refine ae (ir:=ir34) (by kernel_rfl) ?_;simp +contextual (maxSteps:=1000000) [ir34,ssL,↓ssM,aa,ssU,Go.Sx.LV.undef,Go.undef,ssR,l])
end Go.Proofs.YtoeblkipfdnnlaaGreatDoor
end

section
namespace Go.Proofs.YtoeblkipfdnnlaaGreatDoor
open Go Go.Sx
set_option maxHeartbeats 1000000
abbrev Wv.lv (v:Wv):List LV:=[.p (.s (.int .u64 v.ev.n)),.p v.ev.ptr,.p (crdP false v.nm),.p (.s (.bool v.gone))]
def rowP (L:List Wv):List PV:=L.flatMap (Wv.cells false)
def rowL (L:List Wv):List LV:=L.flatMap Wv.lv
theorem cY (v:Wv):v.lv.length=4:=rfl
theorem tw (v:Wv):(v.cells false).length=4:=rfl
theorem bg (L:List Wv):(rowP L).map .p=rowL L:=by
 unfold rowP rowL
 rw [List.map_flatMap]
 rfl
theorem aA (L:List Wv):(rowL L).length=L.length*4:=fL cY L
theorem wv (L:List Wv):(rowP L).length=L.length*4:=fL tw L
theorem c6:rowL []=[]:=rfl
theorem ba (L M:List Wv):rowL (L++M)=rowL L++rowL M:=List.flatMap_append
theorem c7 (v:Wv):rowL [v]=v.lv:=rfl
theorem bR (v:Wv) (L:List Wv):rowL (v::L)=v.lv++rowL L:=rfl
theorem a8 {L:List Wv} {i:Nat} {v:Wv} (h:L[i]?=some v) (R:List LV):((rowL L++R).drop (i*4)).take 4=v.lv:=by
 obtain ⟨hi,rfl⟩:=List.getElem?_eq_some_iff.1 h
 have l:=aA L
 rw [List.drop_append_of_le_length (by omega),List.take_append_of_le_length (by rw [List.length_drop];omega)]
 exact ni cY (List.getElem?_eq_getElem hi)
inductive Rw (H:Heap) (nx:Nat):LV→List Wv→Prop
 | nil:Rw H nx (.p (.s (.slice none 0 0))) []
 | sl (L:List Wv) (fl:Bool):Rw H nx (.p (.sl (rowP L) L.length 4 fl)) L
 | arr (L:List Wv) (R:List LV) (id cp:Nat) (ex:Bool):H id=some (.cells (rowL L++R))→id<nx→Rw H nx (.arr id 0 L.length 4 cp ex) L
theorem Rw.mono {H H':Heap} {nx nx':Nat} {x:LV} {L:List Wv} (g:Rw H nx x L) (h : ∀ id,id<nx→H' id=H id) (hn:nx≤nx':=by exact Nat.le_refl _):Rw H' nx' x L:=by
 cases g with
 | nil=>exact .nil
 | sl _ fl=>exact .sl L fl
 | arr _ R id cp ex h1 h2=>exact .arr L R id cp ex (by rw [h id h2];exact h1) (by omega)
theorem aO (L:List Wv):ids.idsL (rowL L)=[]:=by
 induction L with
 | nil=>rfl
 | cons v L ih=>rw [bR,aU,ih];rfl
theorem aS (n:Nat) (s:List Nat) (L:List Wv):ren.go n s (rowL L)=some (rowL L):=by
 induction L with
 | nil=>rfl
 | cons v L ih=>
  rw [bR]
  simp [ren.go,ren,ih]
theorem bP (L:List Wv):allP (rowL L)=some (rowP L):=by
 induction L with
 | nil=>rfl
 | cons v L ih=>
  rw [bR]
  show allP (.p _ :: .p _ :: .p _ :: .p _::rowL L)=_
  simp [allP,ih]
  rfl
def fix {α:Type} (q:α→Bool):List α→Nat→Option Nat
 | [],_=>none
 | x::l,i=>if q x then some i else fix q l (i+1)
theorem ot {α:Type} {q:α→Bool} : ∀ {l:List α} {i:Nat},(fix q l i).isSome=l.any q
 | [],_=>rfl
 | x::l,i=>by
  rw [fix,List.any_cons]
  cases q x<;>simp [ot]
section
variable {g:Nat} {c:PV} {q:Wv→Bool} {L:List Wv} {H:Heap} {nx:Nat} {x:LV}
theorem xR (hx:Rw H nx x L) {i:Nat} {v:Wv} (hi:L[i]?=some v) (h30:L.length<2^30) (hg : ∀ H nx,Ω g [.p (v.pv false),.p c] H nx=some (.bool true,[],[])):
  run ⟨Ω,gG,H,nx⟩ ir89_0 ⟨[(0,x),(1,.fn g [] [.p c]),(7,.int .i64 L.length),(8,.int .i64 i)],⟨[],[]⟩⟩=some (.ret,⟨[(4,.int .i64 i)],⟨[],[]⟩⟩):=by
 have hl:=aA L
 obtain ⟨h1,_⟩:=List.getElem?_eq_some_iff.1 hi
 have k1 : ¬(L.length:Int)≤i:=by omega
 have k2:i<L.length:=h1
 have w1:IntKind.i64.wrap ((i:Int)+1)=((i+1:Nat):Int):=wrap_i64 _ (by omega) (by omega)
 have le:i*4+4≤(rowL L).length:=by omega
 have mp:=bg L
 simp only [Wv.pv,Wv.cells] at hg
 cases hx with
 | nil=>cases hi
 | sl _ fl=>
  have g4:=a8 hi []
  rw [List.append_nil] at g4
  clear hl
  generalize rowP L=P at*
  generalize rowL L=C at*
  simp +contextual (maxSteps:=100000) [ir89_0,ssL,↓ssM,aa,ssU,Go.Sx.LV.undef,Go.undef,ssR,k1,k2,mp,g4,le,hg]
 | arr _ R id cp ex a1 a2=>
  have g4:=a8 hi R
  have le2:i*4+4≤(rowL L++R).length:=by rw [List.length_append];omega
  clear hl
  generalize rowL L++R=C at*
  simp +contextual (maxSteps:=100000) [ir89_0,ssL,↓ssM,aa,ssU,Go.Sx.LV.undef,Go.undef,ssR,k1,k2,g4,le2,hg,a1,a2]
theorem vy (hx:Rw H nx x L) {i:Nat} {v:Wv} (hi:L[i]?=some v) (h30:L.length<2^30) (hg : ∀ H nx,Ω g [.p (v.pv false),.p c] H nx=some (.bool false,[],[])):
  run ⟨Ω,gG,H,nx⟩ ir89_0 ⟨[(0,x),(1,.fn g [] [.p c]),(7,.int .i64 L.length),(8,.int .i64 i)],⟨[],[]⟩⟩=
   some (.normal,⟨[(0,x),(1,.fn g [] [.p c]),(7,.int .i64 L.length),(8,.int .i64 (i+1:Nat))],⟨[],[]⟩⟩):=by
 have hl:=aA L
 obtain ⟨h1,_⟩:=List.getElem?_eq_some_iff.1 hi
 have k1 : ¬(L.length:Int)≤i:=by omega
 have k2:i<L.length:=h1
 have w1:IntKind.i64.wrap ((i:Int)+1)=(i:Int)+1:=wrap_i64 _ (by omega) (by omega)
 have le:i*4+4≤(rowL L).length:=by omega
 have mp:=bg L
 simp only [Wv.pv,Wv.cells] at hg
 cases hx with
 | nil=>cases hi
 | sl _ fl=>
  have g4:=a8 hi []
  rw [List.append_nil] at g4
  clear hl
  generalize rowP L=P at*
  generalize rowL L=C at*
  simp +contextual (maxSteps:=100000) [ir89_0,ssL,↓ssM,aa,ssU,Go.Sx.LV.undef,Go.undef,ssR,k1,k2,w1,mp,g4,le,hg]
 | arr _ R id cp ex a1 a2=>
  have g4:=a8 hi R
  have le2:i*4+4≤(rowL L++R).length:=by rw [List.length_append];omega
  clear hl
  generalize rowL L++R=C at*
  simp +contextual (maxSteps:=100000) [ir89_0,ssL,↓ssM,aa,ssU,Go.Sx.LV.undef,Go.undef,ssR,k1,k2,w1,g4,le2,hg,a1,a2]
theorem xS (hx:Rw H nx x L):
  run ⟨Ω,gG,H,nx⟩ ir89_0 ⟨[(0,x),(1,.fn g [] [.p c]),(7,.int .i64 L.length),(8,.int .i64 L.length)],⟨[],[]⟩⟩=
   some (.exit 0,⟨[(0,x),(1,.fn g [] [.p c]),(7,.int .i64 L.length),(8,.int .i64 L.length),(9,.bool false)],⟨[],[]⟩⟩):=by
 cases hx with
 | nil=>simp +contextual (maxSteps:=100000) [ir89_0,ssL,↓ssM,aa,ssU,Go.Sx.LV.undef,Go.undef,ssR]
 | sl _ fl=>simp +contextual (maxSteps:=100000) [ir89_0,ssL,↓ssM,aa,ssU,Go.Sx.LV.undef,Go.undef,ssR]
 | arr _ R id cp ex a1 a2=>simp +contextual (maxSteps:=100000) [ir89_0,ssL,↓ssM,aa,ssU,Go.Sx.LV.undef,Go.undef,ssR,a2]
end
end Go.Proofs.YtoeblkipfdnnlaaGreatDoor
end

section
namespace Go.Proofs.YtoeblkipfdnnlaaGreatDoor
open Go Go.Sx
set_option maxHeartbeats 1000000
section
variable {g:Nat} {c:PV} {q:Wv→Bool} {L:List Wv} {H:Heap} {nx:Nat} {x:LV}
abbrev ixS (x:LV) (g:Nat) (c:PV) (n i:Nat):St:=⟨[(0,x),(1,.fn g [] [.p c]),(7,.int .i64 n),(8,.int .i64 i)],⟨[],[]⟩⟩
def ixR (x:LV) (g:Nat) (c:PV) (n:Nat):Option Nat→Ex × St
 | none=>(.exit 0,⟨[(0,x),(1,.fn g [] [.p c]),(7,.int .i64 n),(8,.int .i64 n),(9,.bool false)],⟨[],[]⟩⟩)
 | some i=>(.ret,⟨[(4,.int .i64 i)],⟨[],[]⟩⟩)
theorem oE (hx:Rw H nx x L) (h30:L.length<2^30) (hg : ∀ v∈L,∀ H nx,Ω g [.p (v.pv false),.p c] H nx=some (.bool (q v),[],[])) : ∀ (m i:Nat),i+m=L.length →
  run ⟨Ω,gG,H,nx⟩ (.loop ir89_0) (ixS x g c L.length i)=some (ixR x g c L.length (fix q (L.drop i) i))
 | 0,i,hi=>by
  obtain rfl:i=L.length:=by omega
  rw [ai,xS hx,List.drop_length];rfl
 | m+1,i,hi=>by
  have h1:i<L.length:=by omega
  have hv:=List.getElem?_eq_getElem h1
  have g1:=hg L[i] (List.getElem_mem h1)
  rw [List.drop_eq_getElem_cons h1,fix,ai]
  cases hq:q L[i] with
  | true=>
   rw [hq] at g1
   rw [xR hx hv h30 g1];rfl
  | false=>
   rw [hq] at g1
   rw [vy hx hv h30 g1,aE,aB,oE hx h30 hg m (i+1) (by omega)];rfl
def ixI:Option Nat→Int
 | none => -1
 | some i=>i
theorem xQ (hx:Rw H nx x L) (h30:L.length<2^30) (hg : ∀ v∈L,∀ H nx,Ω g [.p (v.pv false),.p c] H nx=some (.bool (q v),[],[])):
  Ω 89 [x,.fn g [] [.p c]] H nx=some (.int .i64 (ixI (fix q L 0)),[],[]):=by
 have lp:=oE hx h30 hg L.length 0 (by omega)
 simp only [List.drop_zero,ixS,Int.natCast_zero] at lp
 cases hf:fix q L 0 with
 | none=>
  rw [hf] at lp
  simp only [ixR,ixI] at lp ⊢
  cases hx with
  | nil=>
   simp only [List.length_nil,Int.natCast_zero] at lp
   refine ae (ir:=ir89) (by kernel_rfl) ?_;simp +contextual (maxSteps:=1000000) [ir89,ssL,↓ssM,aa,ssU,Go.Sx.LV.undef,Go.undef,ssR,lp]
  | sl _ fl=>refine ae (ir:=ir89) (by kernel_rfl) ?_;simp +contextual (maxSteps:=1000000) [ir89,ssL,↓ssM,aa,ssU,Go.Sx.LV.undef,Go.undef,ssR,lp]
  | arr _ R id cp ex a1 a2=>refine ae (ir:=ir89) (by kernel_rfl) ?_;simp +contextual (maxSteps:=1000000) [ir89,ssL,↓ssM,aa,ssU,Go.Sx.LV.undef,Go.undef,ssR,lp]
 | some i=>
  rw [hf] at lp
  simp only [ixR,ixI] at lp ⊢
  cases hx with
  | nil=>cases hf
  | sl _ fl=>refine ae (ir:=ir89) (by kernel_rfl) ?_;simp +contextual (maxSteps:=1000000) [ir89,ssL,↓ssM,aa,ssU,Go.Sx.LV.undef,Go.undef,ssR,lp]
  | arr _ R id cp ex a1 a2=>refine ae (ir:=ir89) (by kernel_rfl) ?_;simp +contextual (maxSteps:=1000000) [ir89,ssL,↓ssM,aa,ssU,Go.Sx.LV.undef,Go.undef,ssR,lp]
theorem pI (hx:Rw H nx x L) (h30:L.length<2^30) (hg : ∀ v∈L,∀ H nx,Ω g [.p (v.pv false),.p c] H nx=some (.bool (q v),[],[])):
  Ω 41 [x,.fn g [] [.p c]] H nx=some (.bool (L.any q),[],[]):=by
 rw [←ot (i:=0)]
 have l : ∀ H',(∀ id,id<nx→H' id=H id)→Ω 89 [x,.fn g [] [.p c]] H' nx=some (.int .i64 (ixI (fix q L 0)),[],[]):=fun H' h=>xQ (hx.mono h) h30 hg
 have l':=l _ fun id h=>show Go.Sx.look H nx ⟨[],[]⟩ id=H id by simp [Go.Sx.look,findU,h]
 cases hf:fix q L 0 with
 | none=>
  rw [hf] at l'
  simp only [ixI] at l'
  cases hx
  all_goals (refine ae (ir:=ir41) (by kernel_rfl) ?_;simp +contextual (maxSteps:=1000000) [ir41,ssL,↓ssM,aa,ssU,Go.Sx.LV.undef,Go.undef,ssR,l'])
 | some i=>
  rw [hf] at l'
  simp only [ixI] at l'
  have hi:(0:Int)≤i:=by omega
  cases hx
  all_goals (refine ae (ir:=ir41) (by kernel_rfl) ?_;simp +contextual (maxSteps:=1000000) [ir41,ssL,↓ssM,aa,ssU,Go.Sx.LV.undef,Go.undef,ssR,l',hi])
end
end Go.Proofs.YtoeblkipfdnnlaaGreatDoor
end

section
namespace Go.Proofs.YtoeblkipfdnnlaaGreatDoor
open Go Go.Sx
set_option maxHeartbeats 1000000
def RwU (H:Heap) (id:Nat) (U:Upd) (A:List Wv):Prop:=(U=[]∧H id=some (.cells (rowL A)))∨U=[(id,some (.cells (rowL A)))]
section
variable {g:Nat} {c:PV} {H:Heap} {nx id n cp:Nat} {ex:Bool} {U:Upd} {A:List Wv}
abbrev dfS (id n cp:Nat) (ex:Bool) (g:Nat) (c:PV) (i j:Nat) (U:Upd):St:=⟨[(0,.arr id 0 n 4 cp ex),(1,.fn g [] [.p c]),(5,.int .i64 i),(6,.int .i64 j)],⟨U,[]⟩⟩
theorem xy (hA:RwU H id U A) (hid:id<nx) (hn:A.length=n) (h30:n<2^30) {i j:Nat} (hij:i≤j) {v:Wv} (hj:A[j]?=some v) (hg : ∀ H nx,Ω g [.p (v.pv false),.p c] H nx=some (.bool false,[],[])):
  run ⟨Ω,gG,H,nx⟩ ir43_0 (dfS id n cp ex g c i j U)=some (.normal,dfS id n cp ex g c (i+1) (j+1) [(id,some (.cells (rowL (A.set i v))))]):=by
 have hl:=aA A
 obtain ⟨h1,_⟩:=List.getElem?_eq_some_iff.1 hj
 have k1 : ¬(n:Int)≤j:=by omega
 have k2:j<n:=by omega
 have k3:i<n:=by omega
 have w1:IntKind.i64.wrap ((i:Int)+1)=(i:Int)+1:=wrap_i64 _ (by omega) (by omega)
 have w2:IntKind.i64.wrap ((j:Int)+1)=(j:Int)+1:=wrap_i64 _ (by omega) (by omega)
 have le:j*4+4≤(rowL A).length:=by omega
 have le2:i*4+4≤(rowL A).length:=by omega
 have g4:=a8 hj []
 rw [List.append_nil] at g4
 have sr:=qj cY v (show i<A.length by omega)
 have iC:=aO A
 have rC:=fun n s=>aS n s A
 have e:rowL (A.set i v)=splice (rowL A) (i*4) v.lv:=sr.symm
 rw [e]
 unfold RwU at hA
 simp only [Wv.pv,Wv.cells] at hg
 clear hl sr e
 generalize rowL A=C at*
 rcases hA with ⟨rfl,a1⟩|rfl
 ·simp +contextual (maxSteps:=100000) [ir43_0,ssL,↓ssM,aa,ssU,Go.Sx.LV.undef,Go.undef,ssR,k1,k2,k3,w1,w2,g4,le,le2,hg,a1,hid,iC,rC]
 ·simp +contextual (maxSteps:=100000) [ir43_0,ssL,↓ssM,aa,ssU,Go.Sx.LV.undef,Go.undef,ssR,k1,k2,k3,w1,w2,g4,le,le2,hg,hid,iC,rC]
theorem xx (hA:RwU H id U A) (hid:id<nx) (hn:A.length=n) (h30:n<2^30) {i j:Nat} (hij:i≤j) {v:Wv} (hj:A[j]?=some v) (hg : ∀ H nx,Ω g [.p (v.pv false),.p c] H nx=some (.bool true,[],[])):
  run ⟨Ω,gG,H,nx⟩ ir43_0 (dfS id n cp ex g c i j U)=some (.normal,dfS id n cp ex g c i (j+1) U):=by
 have hl:=aA A
 obtain ⟨h1,_⟩:=List.getElem?_eq_some_iff.1 hj
 have k1 : ¬(n:Int)≤j:=by omega
 have k2:j<n:=by omega
 have w2:IntKind.i64.wrap ((j:Int)+1)=(j:Int)+1:=wrap_i64 _ (by omega) (by omega)
 have le:j*4+4≤(rowL A).length:=by omega
 have g4:=a8 hj []
 rw [List.append_nil] at g4
 have iC:=aO A
 have rC:=fun n s=>aS n s A
 unfold RwU at hA
 simp only [Wv.pv,Wv.cells] at hg
 clear hl
 generalize rowL A=C at*
 rcases hA with ⟨rfl,a1⟩|rfl
 ·simp +contextual (maxSteps:=100000) [ir43_0,ssL,↓ssM,aa,ssU,Go.Sx.LV.undef,Go.undef,ssR,k1,k2,w2,g4,le,hg,a1,hid,iC,rC]
 ·simp +contextual (maxSteps:=100000) [ir43_0,ssL,↓ssM,aa,ssU,Go.Sx.LV.undef,Go.undef,ssR,k1,k2,w2,g4,le,hg,hid,iC,rC]
theorem zQ (hA:RwU H id U A) (hid:id<nx) {i:Nat} :
  run ⟨Ω,gG,H,nx⟩ ir43_0 (dfS id n cp ex g c i n U)=some (.exit 0,⟨[(0,.arr id 0 n 4 cp ex),(1,.fn g [] [.p c]),(5,.int .i64 i),(6,.int .i64 n),(19,.bool false)],⟨U,[]⟩⟩):=by
 have iC:=aO A
 have rC:=fun n s=>aS n s A
 unfold RwU at hA
 generalize rowL A=C at*
 rcases hA with ⟨rfl,a1⟩|rfl
 ·simp +contextual (maxSteps:=100000) [ir43_0,ssL,↓ssM,aa,ssU,Go.Sx.LV.undef,Go.undef,ssR,hid,iC,rC]
 ·simp +contextual (maxSteps:=100000) [ir43_0,ssL,↓ssM,aa,ssU,Go.Sx.LV.undef,Go.undef,ssR,hid,iC,rC]
end
end Go.Proofs.YtoeblkipfdnnlaaGreatDoor
end

section
namespace Go.Sx
open Go
section
variable (c:Ctx) (dr:Bool) (env:Env) (h:Hp)
def clK (sz:Nat) (z:List PV):LV→Option Res
 | .p (.s (.slice none 0 0))=>some ⟨.tuple [],h,[],false⟩
 | .arr id off len sz' _ _=>if len=0 then some ⟨.tuple [],h,[],false⟩ else cellsK (look c.H c.nx h id) fun cs=>
   if sz'=sz∧z.length=sz∧off+len*sz≤cs.length then some ⟨.tuple [],setObj c.nx h id (some (.cells (splice cs off ((List.replicate len z).flatten.map .p)))),[id],true⟩ else none
 | _=>none
theorem clK_nil (sz:Nat) (z:List PV):clK c h sz z (.p (.s (.slice none 0 0)))=some ⟨.tuple [],h,[],false⟩:=rfl
theorem clK_arr (sz:Nat) (z:List PV) (id off len sz' cp:Nat) (ex:Bool):clK c h sz z (.arr id off len sz' cp ex)=if len=0 then some ⟨.tuple [],h,[],false⟩ else cellsK (look c.H c.nx h id) fun cs=>
   if sz'=sz∧z.length=sz∧off+len*sz≤cs.length then some ⟨.tuple [],setObj c.nx h id (some (.cells (splice cs off ((List.replicate len z).flatten.map .p)))),[id],true⟩ else none:=rfl
theorem ev_clr (sz:Nat) (z:List PV) (x:Opd):evOp c dr env h (.clr sz z x)=clK c h sz z (opd c env x):=by
 simp only [evOp];unfold clK cellsK
 cases opd c env x with
 | arr id off len sz' cp ex=>
  simp only []
  split
  ·rfl
  ·cases look c.H c.nx h id with
   | none=>rfl
   | some o=>cases o<;>rfl
 | p x=>
  cases x with
  | s v=>rfl
  | _=>rfl
 | _=>rfl
def caK:LV→Option Res
 | .arr _ _ _ _ cp true=>some ⟨.int .i64 cp,h,[],false⟩
 | .p (.s (.slice none 0 0))=>some ⟨.int .i64 0,h,[],false⟩
 | _=>none
theorem caK_nil:caK h (.p (.s (.slice none 0 0)))=some ⟨.int .i64 0,h,[],false⟩:=rfl
theorem caK_arr (id off len sz cp:Nat):caK h (.arr id off len sz cp true)=some ⟨.int .i64 cp,h,[],false⟩:=rfl
theorem ev_cap (x:Opd):evOp c dr env h (.cap x)=caK h (opd c env x):=by
 simp only [evOp];unfold caK;rfl
theorem slPart_arr (H:Heap) (nx m sz id off len sz' cp:Nat) (ex:Bool):slPart H nx h m sz (.arr id off len sz' cp ex)=cellsK (look H nx h id) fun cs=>if sz'=sz∧off+min len m*sz≤cs.length then some ((cs.drop off).take (min len m*sz),len) else none:=by
 unfold slPart cellsK
 simp only []
 cases look H nx h id with
 | none=>rfl
 | some o=>cases o<;>rfl
theorem slPart_sl (H:Heap) (nx m sz n sz':Nat) (cs:List PV) (fl:Bool):slPart H nx h m sz (.p (.sl cs n sz' fl))=if (cs.map LV.p).length=n*sz then some ((cs.map LV.p).take (min n m*sz),n) else none:=rfl
def cxK (sz:Nat) (y:LV):LV→Option Res
 | .arr id off len sz' _ _=>cellsK (look c.H c.nx h id) fun cs=>bindK (slPart c.H c.nx h len sz y) fun q=>
   if sz'=sz∧q.1.length=min q.2 len*sz∧off≤cs.length then some ⟨.int .i64 (min q.2 len:Nat),setObj c.nx h id (some (.cells (splice cs off q.1))),id::ids y,true⟩ else none
 | _=>none
theorem cxK_arr (sz:Nat) (y:LV) (id off len sz' cp:Nat) (ex:Bool):cxK c h sz y (.arr id off len sz' cp ex)=cellsK (look c.H c.nx h id) fun cs=>bindK (slPart c.H c.nx h len sz y) fun q=>
   if sz'=sz∧q.1.length=min q.2 len*sz∧off≤cs.length then some ⟨.int .i64 (min q.2 len:Nat),setObj c.nx h id (some (.cells (splice cs off q.1))),id::ids y,true⟩ else none:=rfl
theorem ev_copyX (sz:Nat) (x y:Opd):evOp c dr env h (.copyX sz x y)=cxK c h sz (opd c env y) (opd c env x):=by
 simp only [evOp];unfold cxK bindK cellsK
 cases opd c env x with
 | arr id off len sz' cp ex=>
  simp only []
  cases look c.H c.nx h id with
  | none=>rfl
  | some o=>
   cases o with
   | cells cs=>cases slPart c.H c.nx h len sz (opd c env y)<;>rfl
   | iter=>rfl
 | _=>rfl
def azK (sz bytes:Nat) (z:List PV) (k:Option Nat):LV→Option Res
 | .arr id off len sz' cp true=>bindK k fun m=>cellsK (look c.H c.nx h id) fun cs=>if sz'=sz∧0<m∧cp<len+m∧(len+m)*bytes≤2^40∧off+len*sz≤cs.length then
     some ⟨.arr (c.nx+h.new.length) 0 (len+m) sz (len+m) false,push h (.cells ((cs.drop off).take (len*sz)++((List.replicate m z).flatten.map .p))),[id],false⟩
    else none
 | _=>none
theorem azK_arr (sz bytes:Nat) (z:List PV) (k:Option Nat) (id off len sz' cp:Nat):azK c h sz bytes z k (.arr id off len sz' cp true)=bindK k fun m=>cellsK (look c.H c.nx h id) fun cs=>if sz'=sz∧0<m∧cp<len+m∧(len+m)*bytes≤2^40∧off+len*sz≤cs.length then
     some ⟨.arr (c.nx+h.new.length) 0 (len+m) sz (len+m) false,push h (.cells ((cs.drop off).take (len*sz)++((List.replicate m z).flatten.map .p))),[id],false⟩
    else none:=rfl
theorem ev_appZ (sz bytes:Nat) (z:List PV) (x k:Opd):evOp c dr env h (.appZ sz bytes z x k)=azK c h sz bytes z (natL (opd c env k)) (opd c env x):=by
 simp only [evOp];unfold azK bindK cellsK
 cases opd c env x with
 | arr id off len sz' cp ex=>
  cases ex with
  | false=>rfl
  | true=>
   cases natL (opd c env k) with
   | none=>rfl
   | some m=>
    simp only []
    cases look c.H c.nx h id with
    | none=>rfl
    | some o=>cases o<;>rfl
 | _=>rfl
def ovK (x y:LV):Option Res:=match x,y with
 | .arr i _ _ _ _ _,.arr j _ _ _ _ _=>if i=j then none else match look c.H c.nx h i,look c.H c.nx h j with
   | some (.cells _),some (.cells _)=>some ⟨.bool false,h,[i,j],false⟩
   | _,_=>none
 | _,_=>none
theorem ev_ovl (x y:Opd):evOp c dr env h (.ovl x y)=ovK c h (opd c env x) (opd c env y):=by
 simp only [evOp];unfold ovK;rfl
theorem ovK_arr (i o1 l1 s1 c1 j o2 l2 s2 c2:Nat) (e1 e2:Bool):ovK c h (.arr i o1 l1 s1 c1 e1) (.arr j o2 l2 s2 c2 e2)=if i=j then none else cellsK (look c.H c.nx h i) fun _=>cellsK (look c.H c.nx h j) fun _=>some ⟨.bool false,h,[i,j],false⟩:=by
 unfold ovK cellsK
 simp only []
 split
 ·rfl
 ·cases look c.H c.nx h i with
  | none=>rfl
  | some a=>
   cases a with
   | cells _=>cases look c.H c.nx h j with
    | none=>rfl
    | some b=>cases b<;>rfl
   | iter _ _=>cases look c.H c.nx h j with
    | none=>rfl
    | some b=>cases b<;>rfl
end
end Go.Sx
end

section
namespace Go.Proofs.YtoeblkipfdnnlaaGreatDoor
open Go Go.Sx
set_option maxHeartbeats 1000000
theorem ru {α:Type} {q:α→Bool} : ∀ {l:List α} {k r:Nat},fix q l k=some r→∃ i,r=k+i∧i<l.length∧l.filter (fun x => !q x)=l.take i++(l.drop (i+1)).filter fun x => !q x
 | [],_,_,h=>by cases h
 | x::l,k,r,h=>by
  rw [fix] at h
  cases hq:q x with
  | true=>
   rw [hq,if_pos rfl] at h
   obtain rfl:=Option.some.inj h
   exact ⟨0,rfl,by simp,by simp [hq]⟩
  | false=>
   rw [hq] at h
   simp only [Bool.false_eq_true,if_false] at h
   obtain ⟨i,h1,h2,h3⟩:=ru h
   refine ⟨i+1,by omega,by simpa using h2,?_⟩
   rw [List.filter_cons,hq]
   simp [h3]
theorem oq {α:Type} {q:α→Bool} : ∀ {l:List α} {k:Nat},fix q l k=none→l.filter (fun x => !q x)=l
 | [],_,_=>rfl
 | x::l,k,h=>by
  rw [fix] at h
  cases hq:q x with
  | true=>rw [hq,if_pos rfl] at h;cases h
  | false=>
   rw [hq] at h
   simp only [Bool.false_eq_true,if_false] at h
   rw [List.filter_cons,hq]
   simpa using oq h
section
variable {g:Nat} {c:PV} {q:Wv→Bool} {H:Heap} {nx id n cp:Nat} {ex:Bool}
theorem RwU.set {U:Upd} {A:List Wv} (A':List Wv):RwU H id [(id,some (.cells (rowL A')))] A':=.inr rfl
theorem mE (hid:id<nx) (h30:n<2^30) : ∀ (m:Nat) (A:List Wv) (i j:Nat) (U:Upd),RwU H id U A→A.length=n→i≤j→j+m=n→(∀ v∈A,∀ H nx,Ω g [.p (v.pv false),.p c] H nx=some (.bool (q v),[],[])) →
  ∃ U',RwU H id U' (dlp (fun v => !q v) m A i j).1∧run ⟨Ω,gG,H,nx⟩ (.loop ir43_0) (dfS id n cp ex g c i j U)=
   some (.exit 0,⟨[(0,.arr id 0 n 4 cp ex),(1,.fn g [] [.p c]),(5,.int .i64 (dlp (fun v => !q v) m A i j).2),(6,.int .i64 n),(19,.bool false)],⟨U',[]⟩⟩)
 | 0,A,i,j,U,hA,hn,hij,hm,hg=>by
  obtain rfl:j=n:=by omega
  exact ⟨U,hA,by rw [ai,zQ hA hid];rfl⟩
 | m+1,A,i,j,U,hA,hn,hij,hm,hg=>by
  have h1:j<A.length:=by omega
  have hv:=List.getElem?_eq_getElem h1
  have g1:=hg A[j] (List.getElem_mem h1)
  rw [ai,dlp,hv]
  simp only
  cases hq:q A[j] with
  | true=>
   rw [hq] at g1
   rw [xx hA hid hn h30 hij hv g1,aE,aB]
   exact mE hid h30 m A i (j+1) U hA hn (by omega) (by omega) hg
  | false=>
   rw [hq] at g1
   rw [xy hA hid hn h30 hij hv g1,aE,aB]
   have hm' : ∀ v∈A.set i A[j],v∈A:=fun v hv=>by
    rcases List.mem_or_eq_of_mem_set hv with h|h
    ·exact h
    ·rw [h];exact List.getElem_mem h1
   exact mE hid h30 m (A.set i A[j]) (i+1) (j+1) _ (.inr rfl) (by rw [List.length_set];exact hn) (by omega) (by omega) fun v hv=>hg v (hm' v hv)
def zv:Wv:=⟨.leaf 0,none,false⟩
theorem wY (m:Nat):List.map LV.p (List.replicate m [PV.s (.int .u64 0),.s (.pointer none),.s (.slice none 0 0),.s (.bool false)]).flatten=rowL (List.replicate m zv):=by
 induction m with
 | zero=>rfl
 | succ m ih=>rw [List.replicate_succ,List.replicate_succ,List.flatten_cons,List.map_append,ih,bR];rfl
theorem pq {A Z:List Wv} {k:Nat} (h:k+Z.length=A.length):splice (rowL A) (k*4) (rowL Z)=rowL (A.take k++Z):=by
 unfold splice
 rw [ba,List.drop_of_length_le (by rw [aA,aA];omega),List.append_nil]
 congr 1
 exact cJ cY k A
theorem tD {L:List Wv} (hL:H id=some (.cells (rowL L))) (hid:id<nx) (hn:L.length=n) (h30:n<2^30) (hg : ∀ v∈L,∀ H nx,Ω g [.p (v.pv false),.p c] H nx=some (.bool (q v),[],[])) {i:Nat} (hf:fix q L 0=some i) (hi:i<n):
  Ω 43 [.arr id 0 n 4 cp ex,.fn g [] [.p c]] H nx=
   some (.arr id 0 (dlp (fun v => !q v) (n-(i+1)) L i (i+1)).2 4 cp ex,[(id,some (.cells (rowL ((dlp (fun v => !q v) (n-(i+1)) L i (i+1)).1.take (dlp (fun v => !q v) (n-(i+1)) L i (i+1)).2++List.replicate (n-(dlp (fun v => !q v) (n-(i+1)) L i (i+1)).2) zv))))],[]):=by
 have lx:=fun (H':Heap) (h : ∀ id,id<nx→H' id=H id)=>xQ (Rw.mono (hn▸Rw.arr L [] id cp ex (by rw [List.append_nil];exact hL) hid:Rw H nx (.arr id 0 n 4 cp ex) L) h) (show L.length<2^30 by omega) hg
 have lx:=lx _ fun id h=>show Go.Sx.look H nx ⟨[],[]⟩ id=H id by simp [Go.Sx.look,findU,h]
 rw [hf] at lx
 obtain ⟨d1,d2,d3⟩:=qZ (keep:=fun v => !q v) (n-(i+1)) L i (i+1) (by omega) (by omega)
 have dl:=mF (keep:=fun v => !q v) (n-(i+1)) L i (i+1)
 obtain ⟨U',hU,lp⟩:=mE (cp:=cp) (ex:=ex) hid h30 (n-(i+1)) L i (i+1) [] (.inl ⟨rfl,hL⟩) hn (by omega) (by omega) hg
 have d4:(dlp (fun v => !q v) (n-(i+1)) L i (i+1)).2<n:=by
  have:=List.length_filter_le (fun v => !q v) (L.drop (i+1))
  rw [List.length_drop] at this
  omega
 generalize dlp (fun v => !q v) (n-(i+1)) L i (i+1)=D at*
 obtain ⟨A,k⟩:=D
 simp only at*
 have hl:=aA A
 have sp:=pq (A:=A) (Z:=List.replicate (n-k) zv) (k:=k) (by rw [List.length_replicate];omega)
 have k1 : ¬(i:Int) = -1:=by omega
 have k2:k≤n:=by omega
 have k3 : ¬n-k=0:=by omega
 have k4:k*4+(n-k)*4≤(rowL A).length:=by omega
 have w1:IntKind.i64.wrap ((i:Int)+1)=(i:Int)+1:=wrap_i64 _ (by omega) (by omega)
 have w2:((i+1:Nat):Int)=(i:Int)+1:=by omega
 have z:=wY (n-k)
 have iC:=aO (A.take k++List.replicate (n-k) zv)
 have rC:=fun a s=>aS a s (A.take k++List.replicate (n-k) zv)
 simp only [ixI,dfS,w2] at*
 unfold RwU at hU
 clear hl
 generalize rowL (A.take k++List.replicate (n-k) zv)=E at*
 generalize rowL (List.replicate (n-k) zv)=Z at*
 generalize rowL A=C at*
 clear d1 d2 d3 dl
 refine ae (ir:=ir43) (by kernel_rfl) ?_
 rcases hU with ⟨rfl,a1⟩|rfl
 ·simp +contextual (maxSteps:=100000) [ir43,ssL,↓ssM,aa,ssU,Go.Sx.LV.undef,Go.undef,Go.Sx.push,Go.Sx.setObj,Go.Sx.setU,Go.Sx.setAll,Go.Sx.leI_eq,ltF,Go.Sx.ev_clr,Go.Sx.clK_arr,lx,lp,k1,k2,k3,k4,w1,hid,a1,↓z,sp,iC,rC]
 ·simp +contextual (maxSteps:=100000) [ir43,ssL,↓ssM,aa,ssU,Go.Sx.LV.undef,Go.undef,Go.Sx.push,Go.Sx.setObj,Go.Sx.setU,Go.Sx.setAll,Go.Sx.leI_eq,ltF,Go.Sx.ev_clr,Go.Sx.clK_arr,lx,lp,k1,k2,k3,k4,w1,hid,↓z,sp,iC,rC]
theorem tC {L:List Wv} (hL:H id=some (.cells (rowL L))) (hid:id<nx) (h30:L.length<2^30) (hg : ∀ v∈L,∀ H nx,Ω g [.p (v.pv false),.p c] H nx=some (.bool (q v),[],[])) (hf:fix q L 0=none):
  Ω 43 [.arr id 0 L.length 4 cp ex,.fn g [] [.p c]] H nx=some (.arr id 0 L.length 4 cp ex,[],[]):=by
 have lx:=fun (H':Heap) (h : ∀ id,id<nx→H' id=H id)=>xQ (Rw.mono (Rw.arr L [] id cp ex (by rw [List.append_nil];exact hL) hid:Rw H nx (.arr id 0 L.length 4 cp ex) L) h) h30 hg
 have lx:=lx _ fun id h=>show Go.Sx.look H nx ⟨[],[]⟩ id=H id by simp [Go.Sx.look,findU,h]
 rw [hf] at lx
 simp only [ixI] at lx
 refine ae (ir:=ir43) (by kernel_rfl) ?_;simp +contextual (maxSteps:=1000000) [ir43,ssL,↓ssM,aa,ssU,Go.Sx.LV.undef,Go.undef,ssR,lx,hid]
theorem nU:Ω 43 [.p (.s (.slice none 0 0)),.fn g [] [.p c]] H nx=some (.p (.s (.slice none 0 0)),[],[]):=by
 have lx:=fun H=>xQ (H:=H) (nx:=nx) (g:=g) (c:=c) (q:=fun _=>true) Rw.nil (by decide) (fun v hv=>by cases hv)
 simp only [fix,ixI] at lx
 refine ae (ir:=ir43) (by kernel_rfl) ?_;simp +contextual (maxSteps:=1000000) [ir43,ssL,↓ssM,aa,ssU,Go.Sx.LV.undef,Go.undef,ssR,lx]
end
end Go.Proofs.YtoeblkipfdnnlaaGreatDoor
end

section
namespace Go.Proofs.YtoeblkipfdnnlaaGreatDoor
open Go Go.Sx
set_option maxHeartbeats 1000000
section
variable {L:List Wv} {H:Heap} {nx:Nat} {x:LV} {w:Wv}
abbrev bsS (x:LV) (w:Wv) (n i j:Nat):St:=⟨[(0,x),(2,.fn 46 [] []),(4,.p (.imm (w.cells false) 0)),(8,.int .i64 n),(9,.int .i64 i),(10,.int .i64 j)],⟨[],[]⟩⟩
theorem zj (i j:Nat) (h:i+j<2^40):IntKind.i64.wrap (((i:Int)+j))=(i:Int)+j∧IntKind.u64.wrap ((i:Int)+j)=(i:Int)+j∧shI .shr .u64 ((i:Int)+j) 1=some (.int .u64 ((i+j)/2:Nat))∧IntKind.i64.wrap (((i+j)/2:Nat):Int)=((i+j)/2:Nat):=by
 refine ⟨wrap_i64 _ (by omega) (by omega),?_,?_,wrap_i64 _ (by omega) (by omega)⟩
 ·simp [IntKind.wrap,IntKind.signed,IntKind.bits];omega
 ·have:=jw (i+j) 1 (by decide)
  rw [Nat.shiftRight_eq_div_pow] at this
  simpa using this
theorem AX (hx:Rw H nx x L) {i j:Nat} (hij:i<j) (hj:j≤L.length) (h30:L.length<2^30) {v:Wv} (hv:L[(i+j)/2]?=some v) {k:Int} (hk : ¬0≤k) (hg : ∀ H nx,Ω 46 [.p (v.pv false),.p (w.pv false)] H nx=some (.int .i64 k,[],[])):
  run ⟨Ω,gG,H,nx⟩ ir45_0 (bsS x w L.length i j)=some (.normal,bsS x w L.length ((i+j)/2+1) j):=by
 have hl:=aA L
 have k1 : ¬(j:Int)≤i:=by omega
 have k2:(i+j)/2<L.length:=by omega
 obtain ⟨w1,w2,w3,w4⟩:=zj i j (by omega)
 have w5:IntKind.i64.wrap ((((i+j)/2:Nat):Int)+1)=(((i+j)/2:Nat):Int)+1:=wrap_i64 _ (by omega) (by omega)
 have le:(i+j)/2*4+4≤(rowL L).length:=by omega
 have mp:=bg L
 have mq:=bg [w]
 simp only [Wv.pv,Wv.cells] at hg
 generalize (i+j)/2=d at*
 cases hx with
 | nil=>cases hv
 | sl _ fl=>
  have g4:=a8 hv []
  rw [List.append_nil] at g4
  clear hl
  generalize rowP L=P at*
  generalize rowL L=C at*
  simp +contextual (maxSteps:=100000) [ir45_0,ssL,↓ssM,aa,ssU,Go.Sx.LV.undef,Go.undef,ssR,hk,k1,k2,w1,w2,w3,w4,w5,mp,g4,le,hg]
 | arr _ R id cp ex a1 a2=>
  have g4:=a8 hv R
  have le2:d*4+4≤(rowL L++R).length:=by rw [List.length_append];omega
  clear hl
  generalize rowL L++R=C at*
  simp +contextual (maxSteps:=100000) [ir45_0,ssL,↓ssM,aa,ssU,Go.Sx.LV.undef,Go.undef,ssR,hk,k1,k2,w1,w2,w3,w4,w5,g4,le2,hg,a1,a2]
theorem AW (hx:Rw H nx x L) {i j:Nat} (hij:i<j) (hj:j≤L.length) (h30:L.length<2^30) {v:Wv} (hv:L[(i+j)/2]?=some v) {k:Int} (hk:0≤k) (hg : ∀ H nx,Ω 46 [.p (v.pv false),.p (w.pv false)] H nx=some (.int .i64 k,[],[])):
  run ⟨Ω,gG,H,nx⟩ ir45_0 (bsS x w L.length i j)=some (.normal,bsS x w L.length i ((i+j)/2)):=by
 have hl:=aA L
 have k1 : ¬(j:Int)≤i:=by omega
 have k2:(i+j)/2<L.length:=by omega
 obtain ⟨w1,w2,w3,w4⟩:=zj i j (by omega)
 have w5:IntKind.i64.wrap ((((i+j)/2:Nat):Int)+1)=(((i+j)/2:Nat):Int)+1:=wrap_i64 _ (by omega) (by omega)
 have le:(i+j)/2*4+4≤(rowL L).length:=by omega
 have mp:=bg L
 have mq:=bg [w]
 simp only [Wv.pv,Wv.cells] at hg
 generalize (i+j)/2=d at*
 cases hx with
 | nil=>cases hv
 | sl _ fl=>
  have g4:=a8 hv []
  rw [List.append_nil] at g4
  clear hl
  generalize rowP L=P at*
  generalize rowL L=C at*
  simp +contextual (maxSteps:=100000) [ir45_0,ssL,↓ssM,aa,ssU,Go.Sx.LV.undef,Go.undef,ssR,hk,k1,k2,w1,w2,w3,w4,w5,mp,g4,le,hg]
 | arr _ R id cp ex a1 a2=>
  have g4:=a8 hv R
  have le2:d*4+4≤(rowL L++R).length:=by rw [List.length_append];omega
  clear hl
  generalize rowL L++R=C at*
  simp +contextual (maxSteps:=100000) [ir45_0,ssL,↓ssM,aa,ssU,Go.Sx.LV.undef,Go.undef,ssR,hk,k1,k2,w1,w2,w3,w4,w5,g4,le2,hg,a1,a2]
theorem zM (hx:Rw H nx x L) {i:Nat} :
  run ⟨Ω,gG,H,nx⟩ ir45_0 (bsS x w L.length i i)=some (.exit 0,⟨[(0,x),(2,.fn 46 [] []),(4,.p (.imm (w.cells false) 0)),(8,.int .i64 L.length),(9,.int .i64 i),(10,.int .i64 i),(17,.bool false)],⟨[],[]⟩⟩):=by
 cases hx with
 | nil=>simp +contextual (maxSteps:=100000) [ir45_0,ssL,↓ssM,aa,ssU,Go.Sx.LV.undef,Go.undef,ssR]
 | sl _ fl=>simp +contextual (maxSteps:=100000) [ir45_0,ssL,↓ssM,aa,ssU,Go.Sx.LV.undef,Go.undef,ssR]
 | arr _ R id cp ex a1 a2=>simp +contextual (maxSteps:=100000) [ir45_0,ssL,↓ssM,aa,ssU,Go.Sx.LV.undef,Go.undef,ssR,a2]
theorem mC (hx:Rw H nx x L) (h30:L.length<2^30) (hs:Srt Wv.bytes L) (hL : ∀ v∈L,v.Ok) (hw:w.Ok) : ∀ (m i j:Nat),j-i≤m→i≤lo Wv.bytes w.bytes L→lo Wv.bytes w.bytes L≤j→j≤L.length →
  run ⟨Ω,gG,H,nx⟩ (.loop ir45_0) (bsS x w L.length i j)=
   some (.exit 0,⟨[(0,x),(2,.fn 46 [] []),(4,.p (.imm (w.cells false) 0)),(8,.int .i64 L.length),(9,.int .i64 (lo Wv.bytes w.bytes L:Nat)),(10,.int .i64 (lo Wv.bytes w.bytes L:Nat)),(17,.bool false)],⟨[],[]⟩⟩):=fun m i j hm h1 h2 h3=>by
 by_cases hij:i<j
 ·obtain ⟨m,rfl⟩ : ∃ q,m=q+1:=⟨m-1,by omega⟩
  have hd:(i+j)/2<L.length:=by omega
  have hv:=List.getElem?_eq_getElem hd
  have ho:=pY L[(i+j)/2] w (hL _ (List.getElem_mem hd)) hw
  have hlt:=r5 (t:=w.bytes) hs hv
  rw [blt] at hlt
  rw [ai]
  by_cases hk:0≤cmpL (L[(i+j)/2]).bytes w.bytes
  ·rw [AW hx hij h3 h30 hv hk ho,aE,aB]
   have : ¬(i+j)/2<lo Wv.bytes w.bytes L:=by
    intro h
    rw [decide_eq_true h,decide_eq_true_eq] at hlt;omega
   exact mC hx h30 hs hL hw m i ((i+j)/2) (by omega) h1 (by omega) (by omega)
  ·rw [AX hx hij h3 h30 hv hk ho,aE,aB]
   have:(i+j)/2<lo Wv.bytes w.bytes L:=by
    rw [decide_eq_true (show cmpL (L[(i+j)/2]).bytes w.bytes<0 by omega)] at hlt
    exact of_decide_eq_true hlt.symm
   exact mC hx h30 hs hL hw m ((i+j)/2+1) j (by omega) (by omega) h2 h3
 ·obtain rfl:i=lo Wv.bytes w.bytes L:=by omega
  obtain rfl:j=lo Wv.bytes w.bytes L:=by omega
  rw [ai,zM hx];rfl
termination_by m=>m
end
end Go.Proofs.YtoeblkipfdnnlaaGreatDoor
end

section
namespace Go.Proofs.YtoeblkipfdnnlaaGreatDoor
open Go Go.Sx
set_option maxHeartbeats 1000000
theorem xT (L:List Wv) (w:Wv) (hs:Srt Wv.bytes L):(L.any fun v=>v.bytes==w.bytes)=match L[lo Wv.bytes w.bytes L]? with
  | some v=>decide (cmpL v.bytes w.bytes=0)
  | none=>false:=by
 rw [mz hs]
 cases L[lo Wv.bytes w.bytes L]? with
 | none=>rfl
 | some v=>
  simp only [decide_eq_decide]
  exact ⟨fun h=>by rw [h,fA],jq⟩
section
variable {L:List Wv} {H:Heap} {nx:Nat} {x:LV} {w:Wv}
theorem xi (hx:Rw H nx x L) (h30:L.length<2^30) (hs:Srt Wv.bytes L) (hL : ∀ v∈L,v.Ok) (hw:w.Ok):
  Ω 45 [x,.p (w.pv false),.fn 46 [] []] H nx=some (.tuple [.int .i64 (lo Wv.bytes w.bytes L:Nat),.bool (L.any fun v=>v.bytes==w.bytes)],[],[]):=by
 have le:=lJ (key:=Wv.bytes) w.bytes L
 have lp:=mC hx h30 hs hL hw L.length 0 L.length (by omega) (Nat.zero_le _) le (Nat.le_refl _)
 have ka:=xT L w hs
 have hl:=aA L
 have mp:=bg L
 rw [ka]
 clear ka
 simp only [bsS,Int.natCast_zero] at lp
 by_cases h1:lo Wv.bytes w.bytes L<L.length
 ·have hv:=List.getElem?_eq_getElem h1
  have ho:=pY L[lo Wv.bytes w.bytes L] w (hL _ (List.getElem_mem h1)) hw
  have g4:=fun R=>a8 hv R
  rw [hv]
  simp only
  generalize L[lo Wv.bytes w.bytes L]=v at*
  generalize lo Wv.bytes w.bytes L=d at*
  have le1:d*4+4≤(rowL L).length:=by omega
  have k1 : ¬(L.length:Int)≤d:=by omega
  simp only [Wv.pv,Wv.cells] at ho lp ⊢
  generalize cmpL v.bytes w.bytes=k at*
  cases hx with
  | nil=>cases hv
  | sl _ fl=>
   have g4:=g4 []
   rw [List.append_nil] at g4
   clear hl
   generalize rowP L=P at*
   generalize rowL L=C at*
   refine ae (ir:=ir45) (by kernel_rfl) ?_;simp +contextual (maxSteps:=1000000) [ir45,ssL,↓ssM,aa,ssU,Go.Sx.LV.undef,Go.undef,ssR,lp,ho,k1,h1,g4,le1,mp]
  | arr _ R id cp ex a1 a2=>
   have g4:=g4 R
   have le2:d*4+4≤(rowL L++R).length:=by rw [List.length_append];omega
   clear hl
   generalize rowL L++R=C at*
   refine ae (ir:=ir45) (by kernel_rfl) ?_;simp +contextual (maxSteps:=1000000) [ir45,ssL,↓ssM,aa,ssU,Go.Sx.LV.undef,Go.undef,ssR,lp,ho,k1,h1,g4,le2,a1,a2]
 ·have e:lo Wv.bytes w.bytes L=L.length:=by omega
  rw [List.getElem?_eq_none (by omega)]
  simp only
  have k1:(L.length:Int)≤lo Wv.bytes w.bytes L:=by omega
  generalize lo Wv.bytes w.bytes L=d at*
  simp only [Wv.pv,Wv.cells] at lp ⊢
  cases hx with
  | nil=>
   simp only [List.length_nil,Int.natCast_zero] at lp k1
   refine ae (ir:=ir45) (by kernel_rfl) ?_;simp +contextual (maxSteps:=1000000) [ir45,ssL,↓ssM,aa,ssU,Go.Sx.LV.undef,Go.undef,ssR,lp,k1]
  | sl _ fl=>refine ae (ir:=ir45) (by kernel_rfl) ?_;simp +contextual (maxSteps:=1000000) [ir45,ssL,↓ssM,aa,ssU,Go.Sx.LV.undef,Go.undef,ssR,lp,k1]
  | arr _ R id cp ex a1 a2=>refine ae (ir:=ir45) (by kernel_rfl) ?_;simp +contextual (maxSteps:=1000000) [ir45,ssL,↓ssM,aa,ssU,Go.Sx.LV.undef,Go.undef,ssR,lp,k1]
end
end Go.Proofs.YtoeblkipfdnnlaaGreatDoor
end

section
namespace Go.Proofs.YtoeblkipfdnnlaaGreatDoor
open Go Go.Sx
set_option maxHeartbeats 1000000
def slP (L:List Wv):PV:=if L=[] then .s (.slice none 0 0) else .sl (rowP L) L.length 4 false
theorem bi:slP [] = .s (.slice none 0 0):=rfl
theorem dd {L:List Wv} (h:L≠[]):slP L = .sl (rowP L) L.length 4 false:=if_neg h
theorem Rw.slP (H:Heap) (nx:Nat) (L:List Wv):Rw H nx (.p (slP L)) L:=by
 by_cases h:L=[]
 ·subst h;exact .nil
 ·rw [dd h];exact .sl L false
abbrev setP (L:List Wv):PV:=.agg [slP L]
theorem zX (L:List Wv) (w:Wv) (h30:L.length<2^30) (hs:Srt Wv.bytes L) (hL : ∀ v∈L,v.Ok) (hw:w.Ok) (H:Heap) (nx:Nat):
  Ω 23 [.p (setP L),.p (w.pv false)] H nx=some (.bool (L.any (fun v=>v.bytes==w.bytes)&&w.right),[],[]):=by
 have b:=fun H nx=>xi (Rw.slP H nx L) h30 hs hL hw
 have r:=nh w
 generalize (L.any fun v=>v.bytes==w.bytes)=any at*
 generalize w.right=rt at*
 generalize lo Wv.bytes w.bytes L=d at*
 simp only [Wv.pv,Wv.cells] at b r ⊢
 simp only [setP]
 generalize slP L=S at*
 cases any
 all_goals (refine ae (ir:=ir23) (by kernel_rfl) ?_;simp +contextual (maxSteps:=1000000) [ir23,ssL,↓ssM,aa,ssU,Go.Sx.LV.undef,Go.undef,ssR,b,r])
theorem len_ (L:List Wv) (H:Heap) (nx:Nat):Ω 14 [.p (setP L)] H nx=some (.int .i64 L.length,[],[]):=by
 by_cases h:L=[]
 ·subst h
  rw [setP,bi]
  refine ae (ir:=ir14) (by kernel_rfl) ?_;simp +contextual (maxSteps:=1000000) [ir14,ssL,↓ssM,aa,ssU,Go.Sx.LV.undef,Go.undef,ssR,bi]
 ·rw [setP,dd h]
  refine ae (ir:=ir14) (by kernel_rfl) ?_;simp +contextual (maxSteps:=1000000) [ir14,ssL,↓ssM,aa,ssU,Go.Sx.LV.undef,Go.undef,ssR,bi]
theorem qo (H:Heap) (nx:Nat):Ω 48 [.p (.s (.slice none 0 0))] H nx=some (.p (.s (.slice none 0 0)),[],[]):=by
 refine ae (ir:=ir48) (by kernel_rfl) ?_;simp +contextual (maxSteps:=1000000) [ir48,ssL,↓ssM,aa,ssU,Go.Sx.LV.undef,Go.undef,ssR,bi]
theorem uu (L:List Wv) (h:L≠[]) (h30:L.length<2^30) (H:Heap) (nx:Nat):Ω 48 [.p (.sl (rowP L) L.length 4 false)] H nx=some (.arr nx 0 L.length 4 L.length false,[],[some (.cells (rowL L))]):=by
 have hl:=wv L
 have mp:=bg L
 have h0:L.length≠0:=fun e=>h (List.eq_nil_of_length_eq_zero e)
 have k1:L.length*48≤2^40:=by omega
 have iC:=aO L
 have rC:=fun n s=>aS n s L
 generalize rowP L=P at*
 generalize rowL L=C at*
 generalize L.length=n at*
 have mp2:C.length=n*4:=by rw [←mp,List.length_map,hl]
 simp only [Nat.reducePow] at k1
 refine ae (ir:=ir48) (by kernel_rfl) ?_;simp +contextual (maxSteps:=1000000) [ir48,ssL,↓ssM,aa,ssU,Go.Sx.LV.undef,Go.undef,ssR,mp,hl,mp2,h0,k1,iC,rC]
theorem kb (H:Heap) (nx:Nat):Ω 13 [.p (setP [])] H nx=some (.p (.s (.slice none 0 0)),[],[]):=by
 have c:=qo
 refine ae (ir:=ir13) (by kernel_rfl) ?_;simp +contextual (maxSteps:=1000000) [ir13,ssL,↓ssM,aa,ssU,Go.Sx.LV.undef,Go.undef,ssR,c,bi]
theorem oH (L:List Wv) (h:L≠[]) (h30:L.length<2^30) (H:Heap) (nx:Nat):Ω 13 [.p (setP L)] H nx=some (.arr nx 0 L.length 4 L.length false,[],[some (.cells (rowL L))]):=by
 have c:=uu L h h30
 have iC:=aO L
 have rC:=fun n s=>aS n s L
 rw [setP,dd h]
 generalize rowP L=P at*
 generalize rowL L=C at*
 refine ae (ir:=ir13) (by kernel_rfl) ?_;simp +contextual (maxSteps:=1000000) [ir13,ssL,↓ssM,aa,ssU,Go.Sx.LV.undef,Go.undef,ssR,c,iC,rC]
end Go.Proofs.YtoeblkipfdnnlaaGreatDoor
end

section
namespace Go.Proofs.YtoeblkipfdnnlaaGreatDoor
open Go Go.Sx
set_option maxHeartbeats 1000000
section
variable {L M:List Wv} {H:Heap} {nx:Nat}
abbrev slF (L:List Wv):LV:=.p (.sl (rowP L) L.length 4 false)
abbrev eqS (L M:List Wv) (i:Nat):St:=⟨[(1,slF M),(2,.fn 33 [] []),(15,slF L),(16,.int .i64 L.length),(17,.int .i64 i)],⟨[],[]⟩⟩
theorem xC {i:Nat} {v w:Wv} (hv:L[i]?=some v) (hw:M[i]?=some w) (h30:L.length<2^30) (hg : ∀ H nx,Ω 33 [.p (v.pv false),.p (w.pv false)] H nx=some (.bool true,[],[])):
  run ⟨Ω,gG,H,nx⟩ ir49_0 (eqS L M i)=some (.normal,eqS L M (i+1)):=by
 have hl:=aA L
 have hm:=aA M
 obtain ⟨h1,_⟩:=List.getElem?_eq_some_iff.1 hv
 obtain ⟨h2,_⟩:=List.getElem?_eq_some_iff.1 hw
 have k1 : ¬(L.length:Int)≤i:=by omega
 have w1:IntKind.i64.wrap ((i:Int)+1)=(i:Int)+1:=wrap_i64 _ (by omega) (by omega)
 have le:i*4+4≤(rowL L).length:=by omega
 have le2:i*4+4≤(rowL M).length:=by omega
 have mp:=bg L
 have mq:=bg M
 have g4:=a8 hv []
 have g5:=a8 hw []
 rw [List.append_nil] at g4 g5
 simp only [Wv.pv,Wv.cells] at hg
 clear hl hm
 simp only [eqS,slF]
 generalize rowP L=P at*
 generalize rowL L=C at*
 generalize rowP M=Q at*
 generalize rowL M=D at*
 simp +contextual (maxSteps:=100000) [ir49_0,ssL,↓ssM,aa,ssU,Go.Sx.LV.undef,Go.undef,ssR,k1,h1,h2,w1,mp,mq,g4,g5,le,le2,hg]
theorem xB {i:Nat} {v w:Wv} (hv:L[i]?=some v) (hw:M[i]?=some w) (h30:L.length<2^30) (hg : ∀ H nx,Ω 33 [.p (v.pv false),.p (w.pv false)] H nx=some (.bool false,[],[])):
  run ⟨Ω,gG,H,nx⟩ ir49_0 (eqS L M i)=some (.ret,⟨[(6,.bool false)],⟨[],[]⟩⟩):=by
 have hl:=aA L
 have hm:=aA M
 obtain ⟨h1,_⟩:=List.getElem?_eq_some_iff.1 hv
 obtain ⟨h2,_⟩:=List.getElem?_eq_some_iff.1 hw
 have k1 : ¬(L.length:Int)≤i:=by omega
 have le:i*4+4≤(rowL L).length:=by omega
 have le2:i*4+4≤(rowL M).length:=by omega
 have mp:=bg L
 have mq:=bg M
 have g4:=a8 hv []
 have g5:=a8 hw []
 rw [List.append_nil] at g4 g5
 simp only [Wv.pv,Wv.cells] at hg
 clear hl hm
 simp only [eqS,slF]
 generalize rowP L=P at*
 generalize rowL L=C at*
 generalize rowP M=Q at*
 generalize rowL M=D at*
 simp +contextual (maxSteps:=100000) [ir49_0,ssL,↓ssM,aa,ssU,Go.Sx.LV.undef,Go.undef,ssR,k1,h1,h2,mp,mq,g4,g5,le,le2,hg]
def eqR (L M:List Wv) (b:Bool):Ex × St:=if b then (.exit 0,⟨[(1,slF M),(2,.fn 33 [] []),(15,slF L),(16,.int .i64 L.length),(17,.int .i64 L.length),(18,.bool false)],⟨[],[]⟩⟩) else (.ret,⟨[(6,.bool false)],⟨[],[]⟩⟩)
theorem zR:run ⟨Ω,gG,H,nx⟩ ir49_0 (eqS L M L.length)=some (eqR L M true):=by
 simp only [eqS,slF,eqR]
 generalize rowP L=P at*
 generalize rowP M=Q at*
 simp +contextual (maxSteps:=100000) [ir49_0,ssL,↓ssM,aa,ssU,Go.Sx.LV.undef,Go.undef,ssR]
theorem q8 (h30:L.length<2^30) (hn:L.length=M.length) (hL : ∀ v∈L,v.Ok) (hM : ∀ v∈M,v.Ok) : ∀ (m i:Nat),i+m=L.length →
  run ⟨Ω,gG,H,nx⟩ (.loop ir49_0) (eqS L M i)=some (eqR L M (decide ((L.drop i).map Wv.bytes=(M.drop i).map Wv.bytes)))
 | 0,i,hi=>by
  obtain rfl:i=L.length:=by omega
  rw [ai,zR,List.drop_length,List.drop_of_length_le (by omega)];rfl
 | m+1,i,hi=>by
  have h1:i<L.length:=by omega
  have h2:i<M.length:=by omega
  have hv:=List.getElem?_eq_getElem h1
  have hw:=List.getElem?_eq_getElem h2
  have g1:=Bq L[i] M[i] (hL _ (List.getElem_mem h1)) (hM _ (List.getElem_mem h2))
  rw [List.drop_eq_getElem_cons h1,List.drop_eq_getElem_cons h2,ai]
  simp only [List.map_cons,List.cons.injEq]
  by_cases hq:(L[i]).bytes=(M[i]).bytes
  ·have:decide (cmpL (L[i]).bytes (M[i]).bytes=0)=true:=by rw [hq,fA];rfl
   rw [this] at g1
   rw [xC hv hw h30 g1,aE,aB,q8 h30 hn hL hM m (i+1) (by omega)]
   simp [hq]
  ·have:decide (cmpL (L[i]).bytes (M[i]).bytes=0)=false:=decide_eq_false fun h=>hq (jq h)
   rw [this] at g1
   rw [xB hv hw h30 g1]
   simp [hq,eqR,bindK,seqK]
theorem zS (h30:L.length<2^30) (hL : ∀ v∈L,v.Ok) (hM : ∀ v∈M,v.Ok):Ω 49 [.p (slP L),.p (slP M),.fn 33 [] []] H nx=some (.bool (decide (L.map Wv.bytes=M.map Wv.bytes)),[],[]):=by
 by_cases hn:L.length=M.length
 ·by_cases h0:L=[]
  ·subst h0
   obtain rfl:M=[]:=List.eq_nil_of_length_eq_zero hn.symm
   rw [bi]
   exact ee (n:=20) (by kernel_rfl)
  ·have h1:M≠[]:=fun e=>h0 (List.eq_nil_of_length_eq_zero (by rw [hn,e];rfl))
   have lp:=q8 (H:=H) (nx:=nx) h30 hn hL hM L.length 0 (by omega)
   simp only [List.drop_zero,eqS,slF,Int.natCast_zero] at lp
   rw [dd h0,dd h1]
   generalize decide (L.map Wv.bytes=M.map Wv.bytes)=D at*
   rw [←hn] at*
   cases D
   all_goals
    simp only [eqR,if_true,Bool.false_eq_true,if_false,slF] at lp
    refine ae (ir:=ir49) (by kernel_rfl) ?_;simp +contextual (maxSteps:=1000000) [ir49,ssL,↓ssM,aa,ssU,Go.Sx.LV.undef,Go.undef,ssR,lp]
 ·have:decide (L.map Wv.bytes=M.map Wv.bytes)=false:=decide_eq_false fun h=>hn (by have:=congrArg List.length h;simpa using this)
  rw [this]
  have hn' : ¬(L.length:Int)=M.length:=by omega
  by_cases h0:L=[]
  ·subst h0
   have h1:M≠[]:=fun e=>hn (by rw [e])
   rw [bi,dd h1]
   simp only [List.length_nil,Int.natCast_zero] at hn'
   refine ae (ir:=ir49) (by kernel_rfl) ?_;simp +contextual (maxSteps:=1000000) [ir49,ssL,↓ssM,aa,ssU,Go.Sx.LV.undef,Go.undef,ssR,hn',h1]
  ·rw [dd h0]
   by_cases h1:M=[]
   ·subst h1
    rw [bi]
    simp only [List.length_nil,Int.natCast_zero] at hn'
    refine ae (ir:=ir49) (by kernel_rfl) ?_;simp +contextual (maxSteps:=1000000) [ir49,ssL,↓ssM,aa,ssU,Go.Sx.LV.undef,Go.undef,ssR,hn',h0]
   ·rw [dd h1]
    refine ae (ir:=ir49) (by kernel_rfl) ?_;simp +contextual (maxSteps:=1000000) [ir49,ssL,↓ssM,aa,ssU,Go.Sx.LV.undef,Go.undef,ssR,hn',hn]
theorem mr (L M:List Wv) (h30:L.length<2^30) (hL : ∀ v∈L,v.Ok) (hM : ∀ v∈M,v.Ok) (H:Heap) (nx:Nat):Ω 15 [.p (setP L),.p (setP M)] H nx=some (.bool (decide (L.map Wv.bytes=M.map Wv.bytes)),[],[]):=by
 have e:=fun H nx=>zS (H:=H) (nx:=nx) h30 hL hM
 generalize decide (L.map Wv.bytes=M.map Wv.bytes)=D at*
 simp only [setP]
 generalize slP L=S at*
 generalize slP M=T at*
 refine ae (ir:=ir15) (by kernel_rfl) ?_;simp +contextual (maxSteps:=1000000) [ir15,ssL,↓ssM,aa,ssU,Go.Sx.LV.undef,Go.undef,ssR,e]
end
end Go.Proofs.YtoeblkipfdnnlaaGreatDoor
end

section
namespace Go.Proofs.YtoeblkipfdnnlaaGreatDoor
open Go Go.Sx
set_option maxHeartbeats 1000000
noncomputable abbrev Ωi:Oracle:=om cls (findF irsX) gG noX
theorem de {L M R:List Wv} {k:Nat} (hk:k≤L.length):splice (rowL L) (k*4) (rowL M)=rowL (L.take k++M++L.drop (k+M.length)):=by
 unfold splice
 rw [ba,ba,aA,←Nat.add_mul]
 congr 1
 ·congr 1
  exact cJ cY k L
 ·exact cH cY _ L
theorem kL (L:List Wv) (i k:Nat):((rowL L).drop (i*4)).take (k*4)=rowL ((L.drop i).take k):=by
 rw [show (rowL L).drop (i*4)=rowL (L.drop i) from cH cY i L]
 exact cJ cY k _
section
variable {T:List Wv} {w:Wv} {H:Heap} {nx id id2 n i c c2:Nat} {e2:Bool}
theorem zY (hT:H id=some (.cells (rowL T))) (hid:id<nx) (h2:H id2=some (.cells w.lv)) (hid2:id2<nx) (hne:id≠id2) (hn:n≤T.length) (h30:n<2^30):
  Ωi 47 [.arr id 0 n 4 n true,.int .i64 n,.arr id2 0 1 4 c2 e2] H nx=some (.arr nx 0 (n+1) 4 (n+1) false,[],[some (.cells (rowL (T.take n)++w.lv))]):=by
 have e1:(rowL T).take (n*4)=rowL (T.take n):=cJ cY n T
 have l1:n*4≤(rowL T).length:=by rw [aA];omega
 have l2 : ¬1099511627776<(n+1)*48:=by omega
 have k1 : ¬(rowL T).length<n*4:=by omega
 have iC:=aO (T.take n++[w])
 have rC:=fun a s=>aS a s (T.take n++[w])
 simp only [ba,c7,Wv.lv] at iC rC
 generalize rowL (T.take n)=D at*
 generalize rowL T=C at*
 refine ae (ir:=ir47) (by kernel_rfl) ?_
 simp +contextual (maxSteps:=1000000) [ir47,ssL,↓ssM,aa,ssU,Go.Sx.LV.undef,Go.undef,Go.Sx.push,Go.Sx.setObj,Go.Sx.setU,Go.Sx.setAll,Go.Sx.leI_eq,ltF,Go.Sx.ev_clr,Go.Sx.clK_nil,Go.Sx.clK_arr,Go.Sx.ev_cap,Go.Sx.caK_nil,Go.Sx.caK_arr,Go.Sx.ev_copyX,Go.Sx.cxK_arr,Go.Sx.slPart_arr,Go.Sx.slPart_sl,Go.Sx.ev_appZ,Go.Sx.azK_arr,Go.Sx.ev_ovl,Go.Sx.ovK_arr,hT,hid,h2,hid2,hne,e1,l1,l2,k1,iC,rC]
theorem zZ (hT:H id=some (.cells (rowL T))) (hid:id<nx) (h2:H id2=some (.cells w.lv)) (hid2:id2<nx) (hne:id≠id2) (hn:T.length=n) (hc:n<c) (h30:n<2^30):
  Ωi 47 [.arr id 0 n 4 c true,.int .i64 n,.arr id2 0 1 4 c2 e2] H nx=some (.arr nx 0 (n+1) 4 (n+1) false,[(id,none)],[some (.cells (rowL T++w.lv))]):=by
 have l1:(rowL T).length=n*4:=by rw [aA];omega
 have l2 : ¬1099511627776<(n+1)*48:=by omega
 have k1 : ¬c=n:=by omega
 have iC:=aO (T++[w])
 have rC:=fun a s=>aS a s (T++[w])
 simp only [ba,c7,Wv.lv] at iC rC
 generalize rowL T=C at*
 refine ae (ir:=ir47) (by kernel_rfl) ?_
 simp +contextual (maxSteps:=1000000) [ir47,ssL,↓ssM,aa,ssU,Go.Sx.LV.undef,Go.undef,Go.Sx.push,Go.Sx.setObj,Go.Sx.setU,Go.Sx.setAll,Go.Sx.leI_eq,ltF,Go.Sx.ev_clr,Go.Sx.clK_nil,Go.Sx.clK_arr,Go.Sx.ev_cap,Go.Sx.caK_nil,Go.Sx.caK_arr,Go.Sx.ev_copyX,Go.Sx.cxK_arr,Go.Sx.slPart_arr,Go.Sx.slPart_sl,Go.Sx.ev_appZ,Go.Sx.azK_arr,Go.Sx.ev_ovl,Go.Sx.ovK_arr,hT,hid,h2,hid2,hne,l1,l2,k1,iC,rC]
theorem z8 (hT:H id=some (.cells (rowL T))) (hid:id<nx) (h2:H id2=some (.cells w.lv)) (hid2:id2<nx) (hne:id≠id2) (hn:n<T.length) (hc:n<c) (h30:n<2^30):
  Ωi 47 [.arr id 0 n 4 c true,.int .i64 n,.arr id2 0 1 4 c2 e2] H nx=some (.arr id 0 (n+1) 4 c true,[(id,some (.cells (rowL (T.take n++[w]++T.drop (n+1)))))],[]):=by
 have l1:(n+1)*4≤(rowL T).length:=by rw [aA];omega
 have l0 : ¬(rowL T).length<n*4:=by omega
 have l2 : ¬1099511627776<(n+1)*48:=by omega
 have l3 : ¬n*4=(rowL T).length:=by omega
 have k1 : ¬c=n:=by omega
 have hc':n+1≤c:=hc
 have sp:=de (L:=T) (M:=[w]) (R:=[]) (k:=n) (by omega)
 rw [c7] at sp
 simp only [List.length_cons,List.length_nil,Nat.zero_add] at sp
 have iC:=aO (T.take n++[w]++T.drop (n+1))
 have rC:=fun a s=>aS a s (T.take n++[w]++T.drop (n+1))
 generalize rowL (T.take n++[w]++T.drop (n+1))=D at*
 generalize rowL T=C at*
 refine ae (ir:=ir47) (by kernel_rfl) ?_
 simp +contextual (maxSteps:=1000000) [ir47,ssL,↓ssM,aa,ssU,Go.Sx.LV.undef,Go.undef,Go.Sx.push,Go.Sx.setObj,Go.Sx.setU,Go.Sx.setAll,Go.Sx.leI_eq,ltF,Go.Sx.ev_clr,Go.Sx.clK_nil,Go.Sx.clK_arr,Go.Sx.ev_cap,Go.Sx.caK_nil,Go.Sx.caK_arr,Go.Sx.ev_copyX,Go.Sx.cxK_arr,Go.Sx.slPart_arr,Go.Sx.slPart_sl,Go.Sx.ev_appZ,Go.Sx.azK_arr,Go.Sx.ev_ovl,Go.Sx.ovK_arr,hT,hid,h2,hid2,hne,l0,l1,l2,l3,k1,hc,hc',iC,rC,sp]
theorem z9 {m:Nat} (hT:H id=some (.cells (rowL T))) (hid:id<nx) (h2:H id2=some (.cells w.lv)) (hid2:id2<nx) (hne:id≠id2) (hn:T.length=n) (hi:i<n) (hm:i+m=n+1) (h30:n<2^30):
  Ωi 47 [.arr id 0 n 4 n true,.int .i64 i,.arr id2 0 1 4 c2 e2] H nx=some (.arr nx 0 (n+1) 4 (n+1) false,[],[some (.cells (rowL (T.take i++[w]++T.drop i)))]):=by
 have hl:=aA T
 have k1 : ¬i=n:=by omega
 have k1' : ¬(i:Int)=n:=by omega
 have k2:i≤n:=by omega
 have k2':i≤n+1:=by omega
 have k3:i+1≤n+1:=by omega
 have k4:0<m:=by omega
 have k5:n<i+m:=by omega
 have k6:(n+1)*48≤1099511627776:=by omega
 have k7:i*4≤(rowL T).length:=by omega
 have k8:n+1-i=m:=by omega
 have k9:min 1 m=1:=by omega
 have k10 : ¬(n:Int)+1≤n:=by omega
 have w1:IntKind.i64.wrap ((n:Int)+1)=(n:Int)+1:=wrap_i64 _ (by omega) (by omega)
 have w2:IntKind.i64.wrap ((i:Int)+1)=(i:Int)+1:=wrap_i64 _ (by omega) (by omega)
 have w3:IntKind.i64.wrap ((n:Int)+1-i)=m:=by rw [show (n:Int)+1-i=m by omega];exact wrap_i64 _ (by omega) (by omega)
 have n1:(0:Int)≤(i:Int)+1:=by omega
 have n2:((i:Int)+1).toNat=i+1:=by omega
 have z:=wY m
 have t1:(rowL T).take (i*4)=rowL (T.take i):=cJ cY i T
 have t2:rowL (T.take i)++rowL (List.replicate m zv)=rowL (T.take i++List.replicate m zv):=(ba _ _).symm
 have q1:(T.take i++List.replicate m zv).take i=T.take i:=by rw [List.take_append_of_le_length (by rw [List.length_take];omega),List.take_take,Nat.min_self]
 have q2:(T.take i++List.replicate m zv).drop (i+1)=List.replicate (n-i) zv:=by
  rw [List.drop_append,List.drop_of_length_le (by rw [List.length_take];omega),List.length_take,List.nil_append,List.drop_replicate]
  congr 1;omega
 have s1:=de (L:=T.take i++List.replicate m zv) (M:=[w]) (R:=[]) (k:=i) (by rw [List.length_append,List.length_take];omega)
 rw [c7] at s1
 simp only [List.length_cons,List.length_nil,Nat.zero_add] at s1
 rw [q1,q2] at s1
 have y1:((rowL T).drop (i*4)).take ((n-i)*4)=rowL (T.drop i):=by
  rw [List.take_of_length_le (by rw [List.length_drop];omega)];exact cH cY i T
 have y2:(rowL (T.drop i)).length=(n-i)*4:=by rw [aA,List.length_drop,hn]
 have s2:=de (L:=T.take i++[w]++List.replicate (n-i) zv) (M:=T.drop i) (R:=[]) (k:=i+1) (by simp;omega)
 have q3:(T.take i++[w]++List.replicate (n-i) zv).take (i+1)=T.take i++[w]:=by
  rw [List.take_append_of_le_length (by simp;omega),List.take_of_length_le (by simp;omega)]
 have q4:(T.take i++[w]++List.replicate (n-i) zv).drop (i+1+(T.drop i).length)=[]:=List.drop_of_length_le (by simp;omega)
 rw [q3,q4,List.append_nil] at s2
 have l1:i*4≤(rowL (T.take i++List.replicate m zv)).length:=by rw [aA];simp;omega
 have l2:(i+1)*4≤(rowL (T.take i++[w]++List.replicate (n-i) zv)).length:=by rw [aA];simp;omega
 have l3:i*4+(n-i)*4≤(rowL T).length:=by omega
 have iC:=aO (T.take i++[w]++T.drop i)
 have rC:=fun a s=>aS a s (T.take i++[w]++T.drop i)
 clear hl q1 q2 q3 q4
 generalize rowL (T.take i++[w]++T.drop i)=Z2 at*
 generalize rowL (T.take i++[w]++List.replicate (n-i) zv)=Z1 at*
 generalize rowL (T.take i++List.replicate m zv)=Z0 at*
 generalize rowL (T.take i)=D0 at*
 generalize rowL (List.replicate m zv)=D1 at*
 generalize rowL (T.drop i)=Y at*
 generalize rowL T=C at*
 refine ae (ir:=ir47) (by kernel_rfl) ?_
 simp +contextual (maxSteps:=1000000) [ir47,ssL,↓ssM,aa,ssU,Go.Sx.LV.undef,Go.undef,Go.Sx.push,Go.Sx.setObj,Go.Sx.setU,Go.Sx.setAll,Go.Sx.leI_eq,ltF,Go.Sx.ev_clr,Go.Sx.clK_nil,Go.Sx.clK_arr,Go.Sx.ev_cap,Go.Sx.caK_nil,Go.Sx.caK_arr,Go.Sx.ev_copyX,Go.Sx.cxK_arr,Go.Sx.slPart_arr,Go.Sx.slPart_sl,Go.Sx.ev_appZ,Go.Sx.azK_arr,Go.Sx.ev_ovl,Go.Sx.ovK_arr,hT,hid,h2,hid2,hne,k1,k1',k2,k2',k3,k4,k5,k6,k7,k8,k9,k10,w1,w2,w3,n1,n2,↓z,t1,t2,s1,y1,y2,s2,l1,l2,l3,iC,rC,hm]
theorem Aa {m:Nat} (hT:H id=some (.cells (rowL T))) (hid:id<nx) (h2:H id2=some (.cells w.lv)) (hid2:id2<nx) (hne:id≠id2) (hn:n≤T.length) (hi:i<n) (hm:i+m=n+1) (hc:n<c) (h30:n<2^30):
  Ωi 47 [.arr id 0 n 4 c true,.int .i64 i,.arr id2 0 1 4 c2 e2] H nx=some (.arr id 0 (n+1) 4 c true,[(id,some (.cells (rowL (T.take i++[w]++((T.drop i).take (n-i)++T.drop (n+1))))))],[]):=by
 have hl:=aA T
 have k1 : ¬i=n:=by omega
 have k1' : ¬(i:Int)=n:=by omega
 have k2:i≤n:=by omega
 have k2':i≤n+1:=by omega
 have k3:i+1≤n+1:=by omega
 have k4:n+1≤c:=by omega
 have k5:(n:Int)+1≤c:=by omega
 have k6 : ¬n+1≤n:=by omega
 have k7:min m (n-i)=n-i:=by omega
 have k8:n+1-i=m:=by omega
 have k9:min 1 m=1:=by omega
 have hne' : ¬id2=id:=fun e=>hne e.symm
 have w1:IntKind.i64.wrap ((n:Int)+1)=(n:Int)+1:=wrap_i64 _ (by omega) (by omega)
 have w2:IntKind.i64.wrap ((i:Int)+1)=(i:Int)+1:=wrap_i64 _ (by omega) (by omega)
 have n1:(0:Int)≤(i:Int)+1:=by omega
 have n2:((i:Int)+1).toNat=i+1:=by omega
 have n3:(0:Int)≤(n:Int)+1:=by omega
 have n4:((n:Int)+1).toNat=n+1:=by omega
 have y1:((rowL T).drop (i*4)).take ((n-i)*4)=rowL ((T.drop i).take (n-i)):=by
  rw [kL]
 have y2:(rowL ((T.drop i).take (n-i))).length=(n-i)*4:=by rw [aA,List.length_take,List.length_drop];congr 1;omega
 have s1:=de (L:=T) (M:=(T.drop i).take (n-i)) (R:=[]) (k:=i+1) (by omega)
 have yl:((T.drop i).take (n-i)).length=n-i:=by rw [List.length_take,List.length_drop];omega
 rw [yl,show i+1+(n-i)=n+1 by omega] at s1
 have s2:=de (L:=T.take (i+1)++(T.drop i).take (n-i)++T.drop (n+1)) (M:=[w]) (R:=[]) (k:=i) (by simp;omega)
 rw [c7] at s2
 have q3:(T.take (i+1)++(T.drop i).take (n-i)++T.drop (n+1)).take i=T.take i:=by
  rw [List.append_assoc,List.take_append_of_le_length (by simp;omega),List.take_take,Nat.min_eq_left (by omega)]
 have q4:(T.take (i+1)++(T.drop i).take (n-i)++T.drop (n+1)).drop (i+[w].length)=(T.drop i).take (n-i)++T.drop (n+1):=by
  rw [List.append_assoc]
  exact List.drop_left' (by simp;omega)
 rw [q3,q4] at s2
 have l1:(i+1)*4≤(rowL T).length:=by omega
 have l2:i*4≤(rowL (T.take (i+1)++(T.drop i).take (n-i)++T.drop (n+1))).length:=by rw [aA];simp;omega
 have l3:i*4+(n-i)*4≤(rowL T).length:=by omega
 have iC:=aO (T.take i++[w]++((T.drop i).take (n-i)++T.drop (n+1)))
 have rC:=fun a s=>aS a s (T.take i++[w]++((T.drop i).take (n-i)++T.drop (n+1)))
 clear hl q3 q4 yl
 generalize rowL (T.take i++[w]++((T.drop i).take (n-i)++T.drop (n+1)))=Z2 at*
 generalize rowL (T.take (i+1)++(T.drop i).take (n-i)++T.drop (n+1))=Z1 at*
 generalize rowL ((T.drop i).take (n-i))=Y at*
 generalize rowL T=C at*
 refine ae (ir:=ir47) (by kernel_rfl) ?_
 simp +contextual (maxSteps:=1000000) [ir47,ssL,↓ssM,aa,ssU,Go.Sx.LV.undef,Go.undef,Go.Sx.push,Go.Sx.setObj,Go.Sx.setU,Go.Sx.setAll,Go.Sx.leI_eq,ltF,Go.Sx.ev_clr,Go.Sx.clK_nil,Go.Sx.clK_arr,Go.Sx.ev_cap,Go.Sx.caK_nil,Go.Sx.caK_arr,Go.Sx.ev_copyX,Go.Sx.cxK_arr,Go.Sx.slPart_arr,Go.Sx.slPart_sl,Go.Sx.ev_appZ,Go.Sx.azK_arr,Go.Sx.ev_ovl,Go.Sx.ovK_arr,hT,hid,h2,hid2,hne,hne',k1,k1',k2,k2',k3,k4,k5,k6,k7,k8,k9,w1,w2,n1,n2,n3,n4,s1,y1,y2,s2,l1,l2,l3,iC,rC]
end
end Go.Proofs.YtoeblkipfdnnlaaGreatDoor
end

section
namespace Go.Proofs.YtoeblkipfdnnlaaGreatDoor
open Go Go.Sx
set_option maxHeartbeats 1000000
section
variable {L R:List Wv} {w:Wv} {H:Heap} {nx id id2 i cp c2:Nat} {e2:Bool}
theorem lM (C:List LV) (n c:Nat) (e:Bool):normA id nx (some (.arr nx 0 n 4 c e,[],[some (.cells C)]))=some (.arr nx 0 n 4 n false,[(id,none)],[some (.cells C)]):=by simp [normA]
theorem vJ (C:List LV) (n c:Nat) (e:Bool):normA id nx (some (.arr nx 0 n 4 c e,[(id,none)],[some (.cells C)]))=some (.arr nx 0 n 4 n false,[(id,none)],[some (.cells C)]):=by simp [normA]
theorem oL (C:List LV) (n c:Nat) (e:Bool):normA id nx (some (.arr id 0 n 4 c e,[(id,some (.cells C))],[]))=some (.arr nx 0 n 4 n false,[(id,none)],[some (.cells C)]):=by simp [normA]
theorem rN (hT:H id=some (.cells (rowL L++rowL R))) (hid:id<nx) (h2:H id2=some (.cells w.lv)) (hid2:id2<nx) (hne:id≠id2) (hi:i≤L.length) (hcp:L.length+R.length≤cp) (h30:L.length<2^30):
  Ω 47 [.arr id 0 L.length 4 cp false,.int .i64 i,.arr id2 0 1 4 c2 e2] H nx=
   some (.arr nx 0 (L.length+1) 4 (L.length+1) false,[(id,none)],[some (.cells (rowL (L.take i++w::L.drop i)++rowL (R.drop 1)))]):=by
 refine (t8 rfl).trans ?_
 refine mW (by kernel_rfl) ?_
 show (if (47:Nat)=47 then _ else _)=_
 rw [if_pos rfl]
 refine xo (by rw [hT];rfl) fun c hc => ?_
 show normA id nx (Ωi 47 _ H nx)=_
 rw [←ba] at hT
 have tl:(L++R).length=L.length+R.length:=List.length_append
 by_cases hin:i=L.length
 ·subst hin
  by_cases hcn:c=L.length
  ·subst hcn
   obtain rfl:R=[]:=List.eq_nil_of_length_eq_zero (by omega)
   rw [zY hT hid h2 hid2 hne (by omega) h30,lM]
   simp [ba,bR,c6]
  ·by_cases hR:R=[]
   ·subst hR
    rw [zZ hT hid h2 hid2 hne (by simp) (by omega) h30,vJ]
    simp [ba,bR,c6]
   ·have hRl:0<R.length:=List.length_pos_iff.2 hR
    rw [z8 hT hid h2 hid2 hne (by omega) (by omega) h30,oL]
    have e:(L++R).drop (L.length+1)=R.drop 1:=by rw [List.drop_append,List.drop_of_length_le (by omega)];simp
    rw [e]
    simp [ba,bR,c6]
 ·have hi':i<L.length:=by omega
  by_cases hcn:c=L.length
  ·subst hcn
   obtain rfl:R=[]:=List.eq_nil_of_length_eq_zero (by omega)
   rw [z9 (m:=L.length+1-i) hT hid h2 hid2 hne (by simp) hi' (by omega) h30,lM]
   simp [ba,bR,c6]
  ·rw [Aa (m:=L.length+1-i) hT hid h2 hid2 hne (by omega) hi' (by omega) (by omega) h30,oL]
   have e:(L++R).drop (L.length+1)=R.drop 1:=by rw [List.drop_append,List.drop_of_length_le (by omega)];simp
   have e2:(L++R).take i=L.take i:=List.take_append_of_le_length hi
   have e3:((L++R).drop i).take (L.length-i)=L.drop i:=by
    rw [List.drop_append_of_le_length hi,List.take_append_of_le_length (by simp),List.take_of_length_le (by simp)]
   rw [e,e2,e3]
   simp [ba,bR,c6]
end
end Go.Proofs.YtoeblkipfdnnlaaGreatDoor
end

section
namespace Go.Proofs.YtoeblkipfdnnlaaGreatDoor
open Go Go.Sx
set_option maxHeartbeats 1000000
theorem y9 (v x:Wv) (hv:v.Ok) (hx:x.Ok) (H:Heap) (nx:Nat):Ω 42 [.p (x.pv false),.p (.imm (v.cells false) 0)] H nx=some (.bool (v.und x),[],[]):=by
 have u:=wR v x hv hx
 generalize v.und x=b at*
 simp only [Wv.pv,Wv.cells] at u ⊢
 refine ae (ir:=ir42) (by kernel_rfl) ?_;simp +contextual (maxSteps:=1000000) [ir42,ssL,↓ssM,aa,ssU,Go.Sx.LV.undef,Go.undef,ssR,u]
theorem AS (v x:Wv) (hv:v.Ok) (hx:x.Ok) (H:Heap) (nx:Nat):Ω 44 [.p (x.pv false),.p (.imm (v.cells false) 0)] H nx=some (.bool (x.und v),[],[]):=by
 have u:=wR x v hx hv
 generalize x.und v=b at*
 simp only [Wv.pv,Wv.cells] at u ⊢
 refine ae (ir:=ir44) (by kernel_rfl) ?_;simp +contextual (maxSteps:=1000000) [ir44,ssL,↓ssM,aa,ssU,Go.Sx.LV.undef,Go.undef,ssR,u]
theorem zb {g:Nat} {c:PV} {q:Wv→Bool} {L:List Wv} (h30:L.length<2^30) (hg : ∀ v∈L,∀ H nx,Ω g [.p (v.pv false),.p c] H nx=some (.bool (q v),[],[])):
  (L.filter (fun v => !q v)=L∧∀ (H:Heap) (nx id cp:Nat) (ex:Bool),H id=some (.cells (rowL L))→id<nx→Ω 43 [.arr id 0 L.length 4 cp ex,.fn g [] [.p c]] H nx=some (.arr id 0 L.length 4 cp ex,[],[])) ∨
  ∃ R,(L.filter fun v => !q v).length+R.length=L.length∧∀ (H:Heap) (nx id cp:Nat) (ex:Bool),H id=some (.cells (rowL L))→id<nx→Ω 43 [.arr id 0 L.length 4 cp ex,.fn g [] [.p c]] H nx=
   some (.arr id 0 (L.filter fun v => !q v).length 4 cp ex,[(id,some (.cells (rowL (L.filter fun v => !q v)++rowL R)))],[]):=by
 cases hf:fix q L 0 with
 | none=>exact .inl ⟨oq hf,fun H nx id cp ex hL hid=>tC hL hid h30 hg hf⟩
 | some r=>
  right
  obtain ⟨i,rfl,h2,h3⟩:=ru hf
  rw [Nat.zero_add] at hf
  obtain ⟨d1,d2,d3⟩:=qZ (keep:=fun v => !q v) (L.length-(i+1)) L i (i+1) (by omega) (by omega)
  have hk:(dlp (fun v => !q v) (L.length-(i+1)) L i (i+1)).2=(L.filter fun v => !q v).length:=by
   rw [h3,d1,List.length_append,List.length_take];omega
  refine ⟨List.replicate (L.length-(L.filter fun v => !q v).length) zv,?_,fun H nx id cp ex hL hid => ?_⟩
  ·have:=List.length_filter_le (fun v => !q v) L
   rw [List.length_replicate];omega
  ·have h:=tD (cp:=cp) (ex:=ex) hL hid rfl h30 hg hf h2
   rw [d3,←h3,ba,hk] at h
   exact h
theorem uw (L:List Wv) (w:Wv) (h30:L.length<2^30) (hs:Srt Wv.bytes L) (hL : ∀ v∈L,v.Ok) (hw:w.Ok) (hr:w.right=true) (h:(L.any (fun v=>v.bytes==w.bytes)||L.any fun v=>w.und v)=true) (H:Heap) (nx:Nat):
  Ω 11 [.p (setP L),.p (w.pv false)] H nx=some (.p (setP L),[],[]):=by
 have r:=nh w
 have a:=zX L w h30 hs hL hw
 have cf:=fun H nx=>pI (Rw.slP H nx L) h30 (fun x hx H nx=>y9 w x hw (hL x hx) H nx)
 rw [hr] at r a
 generalize (L.any fun v=>v.bytes==w.bytes)=A at*
 generalize (L.any fun v=>w.und v)=B at*
 simp only [setP,Wv.pv,Wv.cells] at r a cf ⊢
 generalize slP L=S at*
 cases A with
 | true=>refine ae (ir:=ir11) (by kernel_rfl) ?_;simp +contextual (maxSteps:=1000000) [ir11,ssL,↓ssM,aa,ssU,Go.Sx.LV.undef,Go.undef,ssR,r,a,cf]
 | false=>
  obtain rfl:B=true:=by simpa using h
  refine ae (ir:=ir11) (by kernel_rfl) ?_;simp +contextual (maxSteps:=1000000) [ir11,ssL,↓ssM,aa,ssU,Go.Sx.LV.undef,Go.undef,ssR,r,a,cf]
theorem pO {w:Wv} {H:Heap} {nx id2 c2:Nat} {e2:Bool} (h2:H id2=some (.cells w.lv)) (hid2:id2<nx):
  Ω 47 [.p (.s (.slice none 0 0)),.int .i64 0,.arr id2 0 1 4 c2 e2] H nx=some (.arr nx 0 1 4 1 false,[],[some (.cells w.lv)]):=by
 refine (t8 rfl).trans ?_
 refine mW (by kernel_rfl) ?_
 show (if (47:Nat)=47 then _ else _)=_
 rw [if_pos rfl]
 show Ωi 47 _ H nx=_
 refine ae (ir:=ir47) (by kernel_rfl) ?_
 simp +contextual (maxSteps:=1000000) [ir47,ssL,↓ssM,aa,ssU,Go.Sx.LV.undef,Go.undef,Go.Sx.push,Go.Sx.setObj,Go.Sx.setU,Go.Sx.setAll,Go.Sx.leI_eq,ltF,Go.Sx.ev_clr,Go.Sx.clK_nil,Go.Sx.clK_arr,Go.Sx.ev_cap,Go.Sx.caK_nil,Go.Sx.caK_arr,Go.Sx.ev_copyX,Go.Sx.cxK_arr,Go.Sx.slPart_arr,Go.Sx.slPart_sl,Go.Sx.ev_appZ,Go.Sx.azK_arr,Go.Sx.ev_ovl,Go.Sx.ovK_arr,h2,hid2]
theorem w9 (w:Wv) (hw:w.Ok) (hr:w.right=true) (H:Heap) (nx:Nat):Ω 11 [.p (setP []),.p (w.pv false)] H nx=some (.p (setP [w]),[],[]):=by
 have r:=nh w
 have a:=zX [] w (by decide) trivial (by simp) hw
 have cf:=fun H nx=>pI (g:=42) (c:=.imm (w.cells false) 0) (q:=fun _=>true) (Rw.nil (H:=H) (nx:=nx)) (by decide) (fun x hx H nx=>by cases hx)
 have df:=fun H nx=>nU (g:=44) (c:=.imm (w.cells false) 0) (H:=H) (nx:=nx)
 have bs:=fun H nx=>xi (w:=w) (Rw.nil (H:=H) (nx:=nx)) (by decide) trivial (by simp) hw
 have ls:=kb
 have ins:=fun (H:Heap) nx id2 h1 h2=>pO (w:=w) (H:=H) (nx:=nx) (id2:=id2) (c2:=1) (e2:=true) h1 h2
 have al:=bP [w]
 rw [hr] at r a
 simp only [lo,Int.natCast_zero,List.any_nil,Bool.false_and] at a cf bs
 rw [show setP [w] = .agg [.sl (w.cells false) 1 4 false] from rfl]
 simp only [setP,bi,Wv.pv,Wv.cells] at r a cf ls df bs ⊢
 refine ae (ir:=ir11) (by kernel_rfl) ?_;simp +contextual (maxSteps:=1000000) [ir11,ssL,↓ssM,aa,ssU,Go.Sx.LV.undef,Go.undef,ssR,r,a,cf,ls,df,bs,ins]
theorem w8 (L:List Wv) (w:Wv) (h0:L≠[]) (h30:L.length<2^29) (hs:Srt Wv.bytes L) (hL : ∀ v∈L,v.Ok) (hw:w.Ok) (hr:w.right=true) (hA:(L.any fun v=>v.bytes==w.bytes)=false) (hB:(L.any fun v=>w.und v)=false) (H:Heap) (nx:Nat):
  Ω 11 [.p (setP L),.p (w.pv false)] H nx=some (.p (setP (insK Wv.bytes w (L.filter fun x => !x.und w))),[],[]):=by
 have r:=nh w
 have a:=zX L w (by omega) hs hL hw
 have cf:=fun H nx=>pI (Rw.slP H nx L) (by omega) (fun x hx H nx=>y9 w x hw (hL x hx) H nx)
 have ls:=oH L h0 (by omega)
 have df:=zb (L:=L) (by omega) (fun x hx H nx=>AS w x hw (hL x hx) H nx)
 rw [hA] at a
 rw [hB] at cf
 rw [hr] at r
 have iL:=aO L
 have rL:=fun a s=>aS a s L
 rw [js]
 have hK : ∀ v∈L.filter (fun x => !x.und w),v.Ok:=fun v hv=>hL v (List.mem_filter.1 hv).1
 have sK:Srt Wv.bytes (L.filter fun x => !x.und w):=hs.filter
 have lK:(L.filter fun x => !x.und w).length≤L.length:=List.length_filter_le _ L
 have hne:(List.take (lo Wv.bytes w.bytes (L.filter fun x => !x.und w)) (L.filter fun x => !x.und w)++w::List.drop (lo Wv.bytes w.bytes (L.filter fun x => !x.und w)) (L.filter fun x => !x.und w))≠[]:=by simp
 have le:=lJ (key:=Wv.bytes) w.bytes (L.filter fun x => !x.und w)
 rcases df with ⟨e,df⟩|⟨R,hR,df⟩
 ·rw [e] at le hne ⊢
  generalize hI:L.take (lo Wv.bytes w.bytes L)++w::L.drop (lo Wv.bytes w.bytes L)=I at*
  have lI:I.length=L.length+1:=by rw [←hI];simp;omega
  have bs:=fun (H:Heap) nx id cp ex (h1:H id=some (.cells (rowL L))) (h2:id<nx)=>xi (w:=w) (Rw.arr (H:=H) (nx:=nx) L [] id cp ex (by rw [List.append_nil];exact h1) h2) (by omega) hs hL hw
  have ins:=fun (H:Heap) nx id id2 h1 h2 h3 h4 h5=>rN (L:=L) (R:=[]) (w:=w) (H:=H) (nx:=nx) (id:=id) (id2:=id2) (i:=lo Wv.bytes w.bytes L) (cp:=L.length) (c2:=1) (e2:=true) (by rw [c6,List.append_nil];exact h1) h2 h3 h4 h5 le (by simp) (by omega)
  rw [hI] at ins
  simp only [List.drop_nil,c6,List.append_nil] at ins
  have rI:(rowL I).length=(L.length+1)*4:=by rw [aA,lI]
  have tI:List.take ((L.length+1)*4) (rowL I)=rowL I:=List.take_of_length_le (by omega)
  have aI:=bP I
  have hI0:I≠[]:=by rw [←hI];simp
  rw [show setP I = .agg [.sl (rowP I) (L.length+1) 4 false] by rw [setP,dd hI0,lI]]
  simp only [setP,Wv.pv,Wv.cells] at r a cf ls df bs ins ⊢
  generalize lo Wv.bytes w.bytes L=d at*
  generalize slP L=S at*
  generalize rowL L=C at*
  generalize rowL I=D at*
  generalize rowP I=E at*
  refine ae (ir:=ir11) (by kernel_rfl) ?_;simp +contextual (maxSteps:=1000000) [ir11,ssL,↓ssM,aa,ssU,Go.Sx.LV.undef,Go.undef,ssR,r,a,cf,ls,df,bs,ins,iL,rL,rI,tI,aI]
 ·generalize hKK:(L.filter fun x => !x.und w)=K at*
  generalize hI:K.take (lo Wv.bytes w.bytes K)++w::K.drop (lo Wv.bytes w.bytes K)=I at*
  have lI:I.length=K.length+1:=by rw [←hI];simp;omega
  have bs:=fun (H:Heap) nx id cp ex (h1:H id=some (.cells (rowL K++rowL R))) (h2:id<nx)=>xi (w:=w) (Rw.arr (H:=H) (nx:=nx) K (rowL R) id cp ex h1 h2) (by omega) sK hK hw
  have ins:=fun (H:Heap) nx id id2 h1 h2 h3 h4 h5=>rN (L:=K) (R:=R) (w:=w) (H:=H) (nx:=nx) (id:=id) (id2:=id2) (i:=lo Wv.bytes w.bytes K) (cp:=L.length) (c2:=1) (e2:=true) h1 h2 h3 h4 h5 le (by omega) (by omega)
  rw [hI] at ins
  have rI:(rowL I++rowL (R.drop 1)).length=(K.length+1)*4+(R.drop 1).length*4:=by rw [List.length_append,aA,aA,lI]
  have rI':(K.length+1)*4≤(rowL I++rowL (R.drop 1)).length:=by omega
  have tI:List.take ((K.length+1)*4) (rowL I++rowL (R.drop 1))=rowL I:=by
   rw [List.take_append_of_le_length (by rw [aA,lI];omega),List.take_of_length_le (by rw [aA,lI];omega)]
  have iD:=aO (I++R.drop 1)
  have rD:=fun a s=>aS a s (I++R.drop 1)
  have iK:=aO (K++R)
  have rK:=fun a s=>aS a s (K++R)
  rw [ba] at iD iK
  simp only [ba] at rD rK
  have aI:=bP I
  have hI0:I≠[]:=by rw [←hI];simp
  rw [show setP I = .agg [.sl (rowP I) (K.length+1) 4 false] by rw [setP,dd hI0,lI]]
  clear rI
  simp only [setP,Wv.pv,Wv.cells] at r a cf ls df bs ins ⊢
  generalize lo Wv.bytes w.bytes K=d at*
  generalize slP L=S at*
  generalize rowL L=C at*
  generalize rowL K++rowL R=C2 at*
  generalize rowL I++rowL (R.drop 1)=D2 at*
  generalize rowL I=D at*
  generalize rowP I=E at*
  refine ae (ir:=ir11) (by kernel_rfl) ?_;simp +contextual (maxSteps:=1000000) [ir11,ssL,↓ssM,aa,ssU,Go.Sx.LV.undef,Go.undef,ssR,r,a,cf,ls,df,bs,ins,iL,rL,iK,rK,iD,rD,rI',tI,aI]
end Go.Proofs.YtoeblkipfdnnlaaGreatDoor
end

section
namespace Go.Proofs.YtoeblkipfdnnlaaGreatDoor
open Go Go.Sx
set_option maxHeartbeats 1000000
structure Ws (L:List Wv):Prop where
 s:Srt Wv.bytes L
 o : ∀ v∈L,v.Ok
 r : ∀ v∈L,v.right=true
abbrev addW:List Wv→Wv→List Wv:=addK Wv.bytes Wv.und
theorem Ws.nil:Ws []:=⟨trivial,by simp,by simp⟩
theorem j7 {α:Type} (key:α→List UInt8) (v:α) : ∀ L:List α,(insK key v L).length=L.length+1
 | []=>rfl
 | x::l=>by rw [insK];split<;>simp [j7 key v l]
theorem dF (L:List Wv) (w:Wv):(addW L w).length≤L.length+1:=by
 unfold addW addK
 split
 ·omega
 ·rw [j7];have:=List.length_filter_le (fun x => !Wv.und x w) L;omega
theorem Ws.add {L:List Wv} (h:Ws L) {w:Wv} (hw:w.Ok) (hr:w.right=true):Ws (addW L w):=by
 unfold addW addK
 split
 ·exact h
 ·rename_i hc
  simp only [Bool.or_eq_true,not_or,Bool.not_eq_true] at hc
  refine ⟨eS h.s.filter fun x hx e => ?_,fun v hv => ?_,fun v hv => ?_⟩
  ·have:=List.any_eq_false.1 hc.1 x (List.mem_filter.1 hx).1
   simp [e] at this
  ·rcases insK_mem.1 hv with rfl|hv
   ·exact hw
   ·exact h.o v (List.mem_filter.1 hv).1
  ·rcases insK_mem.1 hv with rfl|hv
   ·exact hr
   ·exact h.r v (List.mem_filter.1 hv).1
theorem pB (L:List Wv) (w:Wv) (h30:L.length<2^29) (h:Ws L) (hw:w.Ok) (hr:w.right=true) (H:Heap) (nx:Nat):
  Ω 11 [.p (setP L),.p (w.pv false)] H nx=some (.p (setP (addW L w)),[],[]):=by
 unfold addW addK
 by_cases hc:(L.any (fun v=>v.bytes==w.bytes)||L.any fun v=>w.und v)=true
 ·rw [if_pos hc]
  exact uw L w (by omega) h.s h.o hw hr hc H nx
 ·rw [if_neg hc]
  simp only [Bool.or_eq_true,not_or,Bool.not_eq_true] at hc
  by_cases h0:L=[]
  ·subst h0
   exact w9 w hw hr H nx
  ·exact w8 L w h0 h30 h.s h.o hw hr hc.1 hc.2 H nx
abbrev addsW (L M:List Wv):List Wv:=M.foldl addW L
theorem a9 (M:List Wv) : ∀ L:List Wv,(addsW L M).length≤L.length+M.length:=by
 induction M with
 | nil=>intro L;simp
 | cons v M ih=>intro L;have:=ih (addW L v);have:=dF L v;simp only [addsW,List.foldl_cons,List.length_cons] at *;omega
theorem Ws.adds {M:List Wv} (hM : ∀ v∈M,v.Ok∧v.right=true) : ∀ {L:List Wv},Ws L→Ws (addsW L M):=by
 induction M with
 | nil=>exact fun h=>h
 | cons v M ih=>exact fun h=>ih (fun w hw=>hM w (List.mem_cons_of_mem _ hw)) (h.add (hM v List.mem_cons_self).1 (hM v List.mem_cons_self).2)
section
variable {H:Heap} {nx:Nat} {M:List Wv}
abbrev mgS (L M:List Wv) (i:Nat):St:=⟨[(2,.ref nx 0),(4,.ref (nx+1) 0),(8,slF M),(9,.int .i64 M.length),(10,.int .i64 i)],⟨[],[some (.cells [.p (slP L)]),some (.cells [.p (.s (.slice none 0 0))])]⟩⟩
theorem yb (L:List Wv) {i:Nat} {v:Wv} (hv:M[i]?=some v) (h30:M.length<2^30) (ha : ∀ H nx,Ω 11 [.p (setP L),.p (v.pv false)] H nx=some (.p (setP (addW L v)),[],[])):
  run ⟨Ω,gG,H,nx⟩ ir16_0 (mgS (nx:=nx) L M i)=some (.normal,mgS (nx:=nx) (addW L v) M (i+1)):=by
 have hl:=aA M
 obtain ⟨h1,_⟩:=List.getElem?_eq_some_iff.1 hv
 have k1 : ¬(M.length:Int)≤i:=by omega
 have w1:IntKind.i64.wrap ((i:Int)+1)=(i:Int)+1:=wrap_i64 _ (by omega) (by omega)
 have le:i*4+4≤(rowL M).length:=by omega
 have mp:=bg M
 have g4:=a8 hv []
 rw [List.append_nil] at g4
 simp only [Wv.pv,Wv.cells,setP] at ha
 clear hl
 simp only [mgS,slF]
 generalize rowP M=P at*
 generalize rowL M=C at*
 generalize slP L=S at*
 generalize slP (addW L v)=S' at*
 simp +contextual (maxSteps:=1000000) [ir16_0,ssL,↓ssM,aa,ssU,Go.Sx.LV.undef,Go.undef,ssR,k1,h1,w1,mp,g4,le,ha]
theorem Ag (L:List Wv):
  run ⟨Ω,gG,H,nx⟩ ir16_0 (mgS (nx:=nx) L M M.length)=some (.exit 0,⟨[(2,.ref nx 0),(4,.ref (nx+1) 0),(8,slF M),(9,.int .i64 M.length),(10,.int .i64 M.length),(11,.bool false)],⟨[],[some (.cells [.p (slP L)]),some (.cells [.p (.s (.slice none 0 0))])]⟩⟩):=by
 simp only [mgS,slF]
 generalize rowP M=P at*
 generalize slP L=S at*
 simp +contextual (maxSteps:=1000000) [ir16_0,ssL,↓ssM,aa,ssU,Go.Sx.LV.undef,Go.undef,ssR]
theorem sf (h30:M.length<2^28) (hM : ∀ v∈M,v.Ok∧v.right=true) : ∀ (m i:Nat) (L:List Wv),i+m=M.length→L.length+m<2^29→Ws L →
  run ⟨Ω,gG,H,nx⟩ (.loop ir16_0) (mgS (nx:=nx) L M i)=some (.exit 0,⟨[(2,.ref nx 0),(4,.ref (nx+1) 0),(8,slF M),(9,.int .i64 M.length),(10,.int .i64 M.length),(11,.bool false)],⟨[],[some (.cells [.p (slP (addsW L (M.drop i)))]),some (.cells [.p (.s (.slice none 0 0))])]⟩⟩)
 | 0,i,L,hi,_,_=>by
  obtain rfl:i=M.length:=by omega
  rw [ai,Ag,List.drop_length];rfl
 | m+1,i,L,hi,h29,hL=>by
  have h1:i<M.length:=by omega
  have hv:=List.getElem?_eq_getElem h1
  have hm:=hM _ (List.getElem_mem h1)
  rw [List.drop_eq_getElem_cons h1,ai,yb L hv (by omega) (pB L M[i] (by omega) hL hm.1 hm.2),aE,aB,
   sf h30 hM m (i+1) (addW L M[i]) (by omega) (by have:=dF L M[i];omega) (hL.add hm.1 hm.2)]
  rfl
theorem tT (L:List Wv):Ω 16 [.p (setP L),.p (setP [])] H nx=some (.p (setP L),[],[]):=by
 simp only [setP,bi]
 generalize slP L=S at*
 have lo:run ⟨Ω,gG,H,nx⟩ (.loop ir16_0) ⟨[(2,.ref nx 0),(4,.ref (nx+1) 0),(8,.p (.s (.slice none 0 0))),(9,.int .i64 0),(10,.int .i64 0)],⟨[],[some (.cells [.p S]),some (.cells [.p (.s (.slice none 0 0))])]⟩⟩=
   some (.exit 0,⟨[(2,.ref nx 0),(4,.ref (nx+1) 0),(8,.p (.s (.slice none 0 0))),(9,.int .i64 0),(10,.int .i64 0),(11,.bool false)],⟨[],[some (.cells [.p S]),some (.cells [.p (.s (.slice none 0 0))])]⟩⟩):=by
  rw [ai]
  simp +contextual (maxSteps:=1000000) [ir16_0,ssL,↓ssM,aa,ssU,Go.Sx.LV.undef,Go.undef,ssR]
 refine ae (ir:=ir16) (by kernel_rfl) ?_;simp +contextual (maxSteps:=1000000) [ir16,ssL,↓ssM,aa,ssU,Go.Sx.LV.undef,Go.undef,ssR,lo]
theorem eT (L:List Wv) (h30:M.length<2^28) (hM : ∀ v∈M,v.Ok∧v.right=true) (hL:Ws L) (h29:L.length<2^28):Ω 16 [.p (setP L),.p (setP M)] H nx=some (.p (setP (addsW L M)),[],[]):=by
 by_cases h0:M=[]
 ·subst h0;exact tT L
 ·have lp:=sf (H:=H) (nx:=nx) h30 hM M.length 0 L (by omega) (by omega) hL
  simp only [List.drop_zero,mgS,slF,Int.natCast_zero] at lp
  rw [show setP M = .agg [.sl (rowP M) M.length 4 false] by rw [setP,dd h0]]
  simp only [setP]
  generalize rowP M=P at*
  generalize slP L=S at*
  generalize slP (addsW L M)=S' at*
  refine ae (ir:=ir16) (by kernel_rfl) ?_;simp +contextual (maxSteps:=1000000) [ir16,ssL,↓ssM,aa,ssU,Go.Sx.LV.undef,Go.undef,ssR,lp]
end
end Go.Proofs.YtoeblkipfdnnlaaGreatDoor
end

section
namespace Go.Proofs.YtoeblkipfdnnlaaGreatDoor
open Go Go.Sx
set_option maxHeartbeats 1000000
section
variable {F G:List UInt8} {H:Heap} {nx:Nat}
abbrev ltS (F G:List UInt8) (i:Nat):St:=⟨[(0,.p (.sl (bytP F) F.length 1 false)),(1,.p (.sl (bytP G) G.length 1 false)),(5,.int .i64 i)],⟨[],[]⟩⟩
theorem x0 {i:Nat} {a:UInt8} (ha:F[i]?=some a) (hb:G[i]?=some a) (h62:F.length<2^62):
  run ⟨Ω,gG,H,nx⟩ ir36_0 (ltS F G i)=some (.normal,ltS F G (i+1)):=by
 obtain ⟨h1,_⟩:=List.getElem?_eq_some_iff.1 ha
 obtain ⟨h2,_⟩:=List.getElem?_eq_some_iff.1 hb
 have a1:=bE ha
 have b1:=bE hb
 have k1 : ¬(F.length:Int)≤i:=by omega
 have k2 : ¬(G.length:Int)≤i:=by omega
 have w1:IntKind.i64.wrap ((i:Int)+1)=(i:Int)+1:=wrap_i64 _ (by omega) (by omega)
 have mp:=aV F
 have mq:=aV G
 simp only [ltS]
 generalize bytP F=P at*
 generalize bytP G=Q at*
 generalize byt F=C at*
 generalize byt G=D at*
 simp +contextual (maxSteps:=1000000) [ir36_0,ssL,↓ssM,aa,ssU,Go.Sx.LV.undef,Go.undef,ssR,k1,k2,h1,h2,w1,mp,mq,a1,b1]
theorem xZ {i:Nat} {a b:UInt8} (ha:F[i]?=some a) (hb:G[i]?=some b) (hab:a≠b):
  run ⟨Ω,gG,H,nx⟩ ir36_0 (ltS F G i)=some (.ret,⟨[(4,.bool (decide (a<b)))],⟨[],[]⟩⟩):=by
 obtain ⟨h1,_⟩:=List.getElem?_eq_some_iff.1 ha
 obtain ⟨h2,_⟩:=List.getElem?_eq_some_iff.1 hb
 have a1:=bE ha
 have b1:=bE hb
 have k1 : ¬(F.length:Int)≤i:=by omega
 have k2 : ¬(G.length:Int)≤i:=by omega
 have hne : ¬(a.toNat:Int)=b.toNat:=fun e=>hab (UInt8.toNat_inj.1 (by omega))
 have e:decide (a<b)=!decide ((b.toNat:Int)≤a.toNat):=by
  rw [←decide_not,decide_eq_decide,UInt8.lt_iff_toNat_lt];omega
 have mp:=aV F
 have mq:=aV G
 rw [e]
 simp only [ltS]
 generalize bytP F=P at*
 generalize bytP G=Q at*
 generalize byt F=C at*
 generalize byt G=D at*
 simp +contextual (maxSteps:=1000000) [ir36_0,ssL,↓ssM,aa,ssU,Go.Sx.LV.undef,Go.undef,ssR,k1,k2,h1,h2,mp,mq,a1,b1,hne]
theorem vE {i:Nat} (h:F.length≤i∨G.length≤i):
  run ⟨Ω,gG,H,nx⟩ ir36_0 (ltS F G i)=some (.exit 0,⟨[(0,.p (.sl (bytP F) F.length 1 false)),(1,.p (.sl (bytP G) G.length 1 false)),(5,.int .i64 i),(15,.bool false)],⟨[],[]⟩⟩):=by
 simp only [ltS]
 generalize bytP F=P at*
 generalize bytP G=Q at*
 by_cases h1:F.length≤i
 ·have k1:(F.length:Int)≤i:=by omega
  simp +contextual (maxSteps:=1000000) [ir36_0,ssL,↓ssM,aa,ssU,Go.Sx.LV.undef,Go.undef,ssR,k1]
 ·have k1 : ¬(F.length:Int)≤i:=by omega
  have k2:(G.length:Int)≤i:=by omega
  simp +contextual (maxSteps:=1000000) [ir36_0,ssL,↓ssM,aa,ssU,Go.Sx.LV.undef,Go.undef,ssR,k1,k2]
theorem qP (F:List UInt8):blt F []=false:=by cases F<;>simp [blt,cmpL]
theorem uJ (b:UInt8) (G:List UInt8):blt [] (b::G)=true:=by simp [blt,cmpL]
theorem uK (a:UInt8) (F G:List UInt8):blt (a::F) (a::G)=blt F G:=by simp [blt,cmpL]
theorem uI {a b:UInt8} (h:a≠b) (F G:List UInt8):blt (a::F) (b::G)=decide (a<b):=by
 unfold blt
 rw [cmpL,if_neg h]
 split
 ·rename_i h2;simp [h2]
 ·rename_i h2;simp [h2]
theorem sa (h62:F.length<2^62) : ∀ (m i:Nat),i+m=F.length→i≤G.length →
  run ⟨Ω,gG,H,nx⟩ (.loop ir36_0) (ltS F G i)=some (.ret,⟨[(4,.bool (blt (F.drop i) (G.drop i)))],⟨[],[]⟩⟩) ∨
  ∃ j:Nat,run ⟨Ω,gG,H,nx⟩ (.loop ir36_0) (ltS F G i)=some (.exit 0,⟨[(0,.p (.sl (bytP F) F.length 1 false)),(1,.p (.sl (bytP G) G.length 1 false)),(5,.int .i64 j),(15,.bool false)],⟨[],[]⟩⟩)∧blt (F.drop i) (G.drop i)=!decide ((G.length:Int)≤F.length)
 | 0,i,hi,hg=>by
  obtain rfl:i=F.length:=by omega
  refine .inr ⟨F.length,?_,?_⟩
  ·rw [ai,vE (.inl (Nat.le_refl _))];rfl
  ·rw [List.drop_length]
   by_cases h:G.length≤F.length
   ·rw [List.drop_of_length_le h,qP];simp;omega
   ·rw [List.drop_eq_getElem_cons (show F.length<G.length by omega),uJ];simp;omega
 | m+1,i,hi,hg=>by
  have h1:i<F.length:=by omega
  have ha:=List.getElem?_eq_getElem h1
  by_cases h2:i<G.length
  ·have hb:=List.getElem?_eq_getElem h2
   rw [List.drop_eq_getElem_cons h1,List.drop_eq_getElem_cons h2]
   by_cases e:F[i]=G[i]
   ·have hb':G[i]?=some F[i]:=by rw [e];exact hb
    rw [ai,x0 ha hb' h62,aE,aB,e,uK]
    exact sa h62 m (i+1) (by omega) (by omega)
   ·left
    rw [ai,xZ ha hb e,uI e];rfl
  ·refine .inr ⟨i,?_,?_⟩
   ·rw [ai,vE (.inr (by omega))];rfl
   ·rw [List.drop_of_length_le (show G.length≤i by omega),qP];simp;omega
theorem wc (h62:F.length<2^62):Ω 36 [.p (.sl (bytP F) F.length 1 false),.p (.sl (bytP G) G.length 1 false)] H nx=some (.bool (blt F G),[],[]):=by
 have lp:=sa (H:=H) (nx:=nx) (G:=G) h62 F.length 0 (by omega) (Nat.zero_le _)
 simp only [List.drop_zero,ltS,Int.natCast_zero] at lp
 generalize blt F G=b at*
 generalize bytP F=P at*
 generalize bytP G=Q at*
 rcases lp with lp|⟨j,lp,rfl⟩
 ·refine ae (ir:=ir36) (by kernel_rfl) ?_;simp +contextual (maxSteps:=1000000) [ir36,ssL,↓ssM,aa,ssU,Go.Sx.LV.undef,Go.undef,ssR,lp]
 ·refine ae (ir:=ir36) (by kernel_rfl) ?_;simp +contextual (maxSteps:=1000000) [ir36,ssL,↓ssM,aa,ssU,Go.Sx.LV.undef,Go.undef,ssR,lp]
end
end Go.Proofs.YtoeblkipfdnnlaaGreatDoor
end

section
namespace Go.Proofs.YtoeblkipfdnnlaaGreatDoor
open Go Go.Sx
set_option maxHeartbeats 1000000
abbrev Wv.rlv (v:Wv):List LV:=[.p v.ev.rv,.p (crdP true v.nm),.p (.s (.bool v.gone))]
abbrev Wv.rcs (v:Wv):List PV:=[v.ev.rv,crdP true v.nm,.s (.bool v.gone)]
def rrP (L:List Wv):List PV:=L.flatMap Wv.rcs
def rrL (L:List Wv):List LV:=L.flatMap Wv.rlv
theorem sO (v:Wv):v.rlv.length=3:=rfl
theorem nc (v:Wv):v.rcs.length=3:=rfl
theorem bK (L:List Wv):(rrP L).map .p=rrL L:=by
 unfold rrP rrL
 rw [List.map_flatMap]
 rfl
theorem bA (L:List Wv):(rrL L).length=L.length*3:=fL sO L
theorem hP (L:List Wv):(rrP L).length=L.length*3:=fL nc L
theorem ju:rrL []=[]:=rfl
theorem yG:rrP []=[]:=rfl
theorem cR (L M:List Wv):rrL (L++M)=rrL L++rrL M:=List.flatMap_append
theorem sQ (v:Wv):rrL [v]=v.rlv:=rfl
theorem kv (v:Wv) (L:List Wv):rrL (v::L)=v.rlv++rrL L:=rfl
theorem ei {L:List Wv} {i:Nat} {v:Wv} (h:L[i]?=some v) (R:List LV):((rrL L++R).drop (i*3)).take 3=v.rlv:=by
 obtain ⟨hi,rfl⟩:=List.getElem?_eq_some_iff.1 h
 have l:=bA L
 rw [List.drop_append_of_le_length (by omega),List.take_append_of_le_length (by rw [List.length_drop];omega)]
 exact ni sO (List.getElem?_eq_getElem hi)
theorem co (L:List Wv):ids.idsL (rrL L)=[]:=by
 induction L with
 | nil=>rfl
 | cons v L ih=>rw [kv,aU,ih];rfl
theorem cP (n:Nat) (s:List Nat) (L:List Wv):ren.go n s (rrL L)=some (rrL L):=by
 induction L with
 | nil=>rfl
 | cons v L ih=>
  rw [kv]
  simp [ren.go,ren,ih]
theorem dG (L:List Wv):allP (rrL L)=some (rrP L):=by
 induction L with
 | nil=>rfl
 | cons v L ih=>
  rw [kv]
  show allP (.p _ :: .p _ :: .p _::rrL L)=_
  simp [allP,ih]
  rfl
theorem wA (L:List Wv) (i:Nat):(rrP L).take (i*3)=rrP (L.take i):=cJ nc i L
theorem wy (L:List Wv) (i:Nat):(rrP L).drop (i*3)=rrP (L.drop i):=cH nc i L
inductive Rr (H:Heap) (nx:Nat):LV→List Wv→Prop
 | nil:Rr H nx (.p (.s (.slice none 0 0))) []
 | sl (L:List Wv) (fl:Bool):Rr H nx (.p (.sl (rrP L) L.length 3 fl)) L
 | arr (L:List Wv) (R:List LV) (id cp:Nat) (ex:Bool):H id=some (.cells (rrL L++R))→id<nx→Rr H nx (.arr id 0 L.length 3 cp ex) L
def slR (L:List Wv):PV:=if L=[] then .s (.slice none 0 0) else .sl (rrP L) L.length 3 false
theorem sZ:slR [] = .s (.slice none 0 0):=rfl
theorem i5 {L:List Wv} (h:L≠[]):slR L = .sl (rrP L) L.length 3 false:=if_neg h
theorem dt (v:Wv) (hv:v.Ok) (H:Heap) (nx:Nat):Ω 21 [.p (.agg v.rcs)] H nx=some (.p (.sl (bytP v.bytes) v.bytes.length 1 false),[],[]):=ul v true hv H nx
theorem Wv.Ok.len {v:Wv} (h:v.Ok):v.bytes.length<2^30:=by
 unfold Wv.bytes
 have h1:=h.b
 have h2:=e9 (evBits v.ev)
 have h3:=il (pack (evBits v.ev)) (by omega)
 have h4:=nT v.nm h.s
 rw [List.length_append]
 split
 ·simp;omega
 ·rw [List.length_cons];omega
section
variable {L:List Wv} {H:Heap} {nx:Nat} {w:Wv}
abbrev ptS (L:List Wv) (w:Wv) (i:Nat):St:=⟨[(0,.p (.sl (rrP L) L.length 3 false)),(3,.p (.imm w.rcs 0)),(5,.p (.sl (bytP w.bytes) w.bytes.length 1 false)),(6,.int .i64 i)],⟨[],[]⟩⟩
theorem yr {i:Nat} {v:Wv} (hi:L[i]?=some v) (h30:L.length<2^30) (hv:v.Ok) (hb:blt v.bytes w.bytes=true):
  run ⟨Ω,gG,H,nx⟩ ir40_0 (ptS L w i)=some (.normal,ptS L w (i+1)):=by
 have hl:=bA L
 obtain ⟨h1,_⟩:=List.getElem?_eq_some_iff.1 hi
 have k1 : ¬(L.length:Int)≤i:=by omega
 have w1:IntKind.i64.wrap ((i:Int)+1)=(i:Int)+1:=wrap_i64 _ (by omega) (by omega)
 have le:i*3+3≤(rrL L).length:=by omega
 have mp:=bK L
 have g4:=ei hi []
 rw [List.append_nil] at g4
 have b:=dt v hv
 have vl:=hv.len
 have lt:=fun H nx=>wc (F:=v.bytes) (G:=w.bytes) (H:=H) (nx:=nx) (by omega)
 rw [hb] at lt
 clear hl hb vl
 simp only [ptS]
 simp only [Wv.rcs] at b ⊢
 generalize bytP v.bytes=V at*
 generalize v.bytes.length=vn at*
 generalize bytP w.bytes=W at*
 generalize w.bytes.length=wn at*
 generalize rrP L=P at*
 generalize rrL L=C at*
 simp +contextual (maxSteps:=1000000) [ir40_0,ssL,↓ssM,aa,ssU,Go.Sx.LV.undef,Go.undef,ssR,k1,h1,w1,mp,g4,le,b,lt]
theorem yt {i:Nat} {v:Wv} (hi:L[i]?=some v) (h30:L.length<2^30) (hv:v.Ok) (hb:blt v.bytes w.bytes=false):
  run ⟨Ω,gG,H,nx⟩ ir40_0 (ptS L w i)=some (.exit 0,⟨(ptS L w i).env++[(22,.bool false)],⟨[],[]⟩⟩):=by
 have hl:=bA L
 obtain ⟨h1,_⟩:=List.getElem?_eq_some_iff.1 hi
 have k1 : ¬(L.length:Int)≤i:=by omega
 have le:i*3+3≤(rrL L).length:=by omega
 have mp:=bK L
 have g4:=ei hi []
 rw [List.append_nil] at g4
 have b:=dt v hv
 have vl:=hv.len
 have lt:=fun H nx=>wc (F:=v.bytes) (G:=w.bytes) (H:=H) (nx:=nx) (by omega)
 rw [hb] at lt
 clear hl hb vl
 simp only [ptS]
 simp only [Wv.rcs] at b ⊢
 generalize bytP v.bytes=V at*
 generalize v.bytes.length=vn at*
 generalize bytP w.bytes=W at*
 generalize w.bytes.length=wn at*
 generalize rrP L=P at*
 generalize rrL L=C at*
 simp +contextual (maxSteps:=1000000) [ir40_0,ssL,↓ssM,aa,ssU,Go.Sx.LV.undef,Go.undef,ssR,k1,h1,mp,g4,le,b,lt]
theorem Av:run ⟨Ω,gG,H,nx⟩ ir40_0 (ptS L w L.length)=some (.exit 0,⟨(ptS L w L.length).env++[(22,.bool false)],⟨[],[]⟩⟩):=by
 simp only [ptS]
 generalize bytP w.bytes=W at*
 generalize w.bytes.length=wn at*
 generalize rrP L=P at*
 simp +contextual (maxSteps:=1000000) [ir40_0,ssL,↓ssM,aa,ssU,Go.Sx.LV.undef,Go.undef,ssR]
theorem m8 (h30:L.length<2^30) (hs:Srt Wv.bytes L) (hL : ∀ v∈L,v.Ok) : ∀ (m i:Nat),i+m=lo Wv.bytes w.bytes L →
  run ⟨Ω,gG,H,nx⟩ (.loop ir40_0) (ptS L w i)=some (.exit 0,⟨(ptS L w (lo Wv.bytes w.bytes L)).env++[(22,.bool false)],⟨[],[]⟩⟩)
 | 0,i,hi=>by
  obtain rfl:i=lo Wv.bytes w.bytes L:=by omega
  have le:=lJ (key:=Wv.bytes) w.bytes L
  by_cases h:lo Wv.bytes w.bytes L<L.length
  ·have hv:=List.getElem?_eq_getElem h
   have:=r5 (t:=w.bytes) hs hv
   rw [ai,yt hv h30 (hL _ (List.getElem_mem h)) (by rw [this];simp)];rfl
  ·have e:lo Wv.bytes w.bytes L=L.length:=by omega
   rw [e,ai,Av];rfl
 | m+1,i,hi=>by
  have le:=lJ (key:=Wv.bytes) w.bytes L
  have h:i<L.length:=by omega
  have hv:=List.getElem?_eq_getElem h
  have:=r5 (t:=w.bytes) hs hv
  rw [ai,yr hv h30 (hL _ (List.getElem_mem h)) (by rw [this];simp;omega),aE,aB]
  exact m8 h30 hs hL m (i+1) (by omega)
end
end Go.Proofs.YtoeblkipfdnnlaaGreatDoor
end

section
namespace Go.Proofs.YtoeblkipfdnnlaaGreatDoor
open Go Go.Sx
set_option maxHeartbeats 1000000
section
variable {L:List Wv} {H:Heap} {nx:Nat} {w:Wv}
theorem yx (hw:w.Ok):Ω 40 [.p (.s (.slice none 0 0)),.p (.agg w.rcs)] H nx=some (.p (slR [w]),[],[]):=by
 have b:=dt w hw
 rw [show slR [w] = .sl w.rcs 1 3 false from rfl]
 have lo:run ⟨Ω,gG,H,nx⟩ (.loop ir40_0) ⟨[(0,.p (.s (.slice none 0 0))),(3,.p (.imm w.rcs 0)),(5,.p (.sl (bytP w.bytes) w.bytes.length 1 false)),(6,.int .i64 0)],⟨[],[]⟩⟩=
   some (.exit 0,⟨[(0,.p (.s (.slice none 0 0))),(3,.p (.imm w.rcs 0)),(5,.p (.sl (bytP w.bytes) w.bytes.length 1 false)),(6,.int .i64 0),(22,.bool false)],⟨[],[]⟩⟩):=by
  rw [ai]
  simp +contextual (maxSteps:=1000000) [ir40_0,ssL,↓ssM,aa,ssU,Go.Sx.LV.undef,Go.undef,ssR]
 simp only [Wv.rcs] at b lo ⊢
 generalize bytP w.bytes=W at*
 generalize w.bytes.length=wn at*
 refine ae (ir:=ir40) (by kernel_rfl) ?_;simp +contextual (maxSteps:=1000000) [ir40,ssL,↓ssM,aa,ssU,Go.Sx.LV.undef,Go.undef,ssR,b,lo]
theorem v8 (h0:L≠[]) (h30:L.length<2^30) (hs:Srt Wv.bytes L) (hL : ∀ v∈L,v.Ok) (hw:w.Ok) (h:(L.any fun v=>v.bytes==w.bytes)=true):
  Ω 40 [.p (slR L),.p (.agg w.rcs)] H nx=some (.p (slR L),[],[]):=by
 have b:=dt w hw
 have lp:=m8 (H:=H) (nx:=nx) (w:=w) h30 hs hL (lo Wv.bytes w.bytes L) 0 (by omega)
 have hl:=bA L
 have mp:=bK L
 rw [mz hs] at h
 have hi:lo Wv.bytes w.bytes L<L.length:=by
  rcases Nat.lt_or_ge (lo Wv.bytes w.bytes L) L.length with g|g
  ·exact g
  ·rw [List.getElem?_eq_none g] at h;cases h
 have hv:=List.getElem?_eq_getElem hi
 rw [hv] at h
 have hvo:=hL _ (List.getElem_mem hi)
 generalize L[lo Wv.bytes w.bytes L]=v at*
 have hk:v.bytes=w.bytes:=of_decide_eq_true h
 have bv:=dt v hvo
 have g4:=ei hv []
 rw [List.append_nil] at g4
 have wl:=hw.len
 have sm:=fun H nx=>qd (H:=H) (nx:=nx) (.sl w.bytes false) (.sl w.bytes false) (by omega)
 simp only [decide_true] at sm
 rw [i5 h0]
 rw [hk] at bv
 generalize lo Wv.bytes w.bytes L=d at*
 have le:d*3+3≤(rrL L).length:=by omega
 have k1 : ¬(L.length:Int)≤d:=by omega
 simp only [ptS,Wv.rcs,Int.natCast_zero,List.cons_append,List.nil_append] at b bv lp ⊢
 clear hl wl hk h
 generalize bytP w.bytes=W at*
 generalize w.bytes.length=wn at*
 generalize rrP L=P at*
 generalize rrL L=C at*
 refine ae (ir:=ir40) (by kernel_rfl) ?_;simp +contextual (maxSteps:=1000000) [ir40,ssL,↓ssM,aa,ssU,Go.Sx.LV.undef,Go.undef,ssR,b,lp,bv,k1,hi,le,mp,g4,sm]
theorem yw (h0:L≠[]) (h30:L.length<2^29) (hs:Srt Wv.bytes L) (hL : ∀ v∈L,v.Ok) (hw:w.Ok) (h:(L.any fun v=>v.bytes==w.bytes)=false):
  Ω 40 [.p (slR L),.p (.agg w.rcs)] H nx=some (.p (slR (insK Wv.bytes w L)),[],[]):=by
 have b:=dt w hw
 have lp:=m8 (H:=H) (nx:=nx) (w:=w) (by omega) hs hL (lo Wv.bytes w.bytes L) 0 (by omega)
 have hl:=bA L
 have hlP:=hP L
 have mp:=bK L
 have wl:=hw.len
 have le:=lJ (key:=Wv.bytes) w.bytes L
 rw [mz hs] at h
 rw [js]
 have hc:L.length≤lo Wv.bytes w.bytes L∨∃ v,L[lo Wv.bytes w.bytes L]?=some v∧v.Ok∧v.bytes≠w.bytes:=by
  rcases Nat.lt_or_ge (lo Wv.bytes w.bytes L) L.length with g|g
  ·have hv:=List.getElem?_eq_getElem g
   rw [hv] at h
   exact .inr ⟨_,hv,hL _ (List.getElem_mem g),of_decide_eq_false h⟩
  ·exact .inl g
 clear h
 generalize hd:lo Wv.bytes w.bytes L=d at*
 obtain ⟨e,he⟩ : ∃ e,d+e=L.length:=⟨L.length-d,by omega⟩
 have he':L.length-d=e:=by omega
 have hIlen:(L.take d++w::L.drop d).length=L.length+1:=by simp;omega
 have hI0:L.take d++w::L.drop d≠[]:=by simp
 rw [i5 h0,i5 hI0,hIlen]
 have q1:(rrP L).drop (d*3)=rrP (L.drop d):=wy L d
 have q2:(rrP (L.drop d)).take (e*3)=rrP (L.drop d):=List.take_of_length_le (by rw [hP,List.length_drop,he'];exact Nat.le_refl _)
 have q3:(rrP L).take (d*3)=rrP (L.take d):=wA L d
 have m1:=bK (L.drop d)
 have m2:=bK (L.take d)
 have l1:(rrL (L.drop d)).length=e*3:=by rw [bA,List.length_drop,he']
 have l1':(rrP (L.drop d)).length=e*3:=by rw [hP,List.length_drop,he']
 have l2:(rrL (L.take d)).length=d*3:=by rw [bA,List.length_take,Nat.min_eq_left le]
 have l2':(rrP (L.take d)).length=d*3:=by rw [hP,List.length_take,Nat.min_eq_left le]
 have aQ:=dG (w::L.drop d)
 have mQ:=bK (w::L.drop d)
 have lQ:(rrL (w::L.drop d)).length=(1+e)*3:=by rw [bA,List.length_cons,List.length_drop,he'];omega
 have lQ':(rrP (w::L.drop d)).length=(1+e)*3:=by rw [hP,List.length_cons,List.length_drop,he'];omega
 have cQ:rrL (w::L.drop d)=w.rlv++rrL (L.drop d):=rfl
 have tQ:(rrL (w::L.drop d)).take ((1+e)*3)=rrL (w::L.drop d):=List.take_of_length_le (by omega)
 have aI:=dG (L.take d++w::L.drop d)
 have cI:rrL (L.take d++w::L.drop d)=rrL (L.take d)++rrL (w::L.drop d):=cR _ _
 have lI:(rrL (L.take d++w::L.drop d)).length=(d+(1+e))*3:=by rw [bA,hIlen];omega
 have tI:(rrL (L.take d++w::L.drop d)).take ((d+(1+e))*3)=rrL (L.take d++w::L.drop d):=List.take_of_length_le (by omega)
 have hs':d+(1+e)=L.length+1:=by omega
 have iQ:=co (w::L.drop d)
 have iI:=co (L.take d++w::L.drop d)
 have k40 : ¬1099511627776<(1+e)*40:=by omega
 have k41 : ¬1099511627776<(d+(1+e))*40:=by omega
 have k42 : ¬1099511627776<d*40:=by omega
 have k43 : ¬1099511627776<(L.length+1)*40:=by omega
 have kd:d≤L.length:=by omega
 have hvs : ∀ v,L[d]?=some v→v.Ok→((rrL L).drop (d*3)).take 3=v.rlv∧d<L.length∧∀ H nx,Ω 20 [.p (.sl (bytP v.bytes) v.bytes.length 1 false),.p (.sl (bytP w.bytes) w.bytes.length 1 false)] H nx=some (.bool (decide (v.bytes=w.bytes)),[],[]):=fun v hv ho=>by
  have g4:=ei hv []
  rw [List.append_nil] at g4
  obtain ⟨h1,_⟩:=List.getElem?_eq_some_iff.1 hv
  have vl:=ho.len
  exact ⟨g4,h1,fun H nx=>qd (H:=H) (nx:=nx) (.sl v.bytes false) (.sl w.bytes false) (by omega)⟩
 simp only [ptS,Wv.rcs,Int.natCast_zero,List.cons_append,List.nil_append] at b lp ⊢
 simp only [Wv.rlv,List.cons_append,List.nil_append] at cQ hvs
 have bv:=fun v hv=>dt v hv
 simp only [Wv.rcs] at bv
 clear hd hIlen hI0 hs
 generalize hQC:rrL (w::L.drop d)=QC at*
 generalize rrP (w::L.drop d)=Q at*
 generalize hIC:rrL (L.take d++w::L.drop d)=IC at*
 generalize rrP (L.take d++w::L.drop d)=I at*
 generalize rrP (L.drop d)=Pd at*
 generalize rrL (L.drop d)=Cd at*
 generalize rrP (L.take d)=Pt at*
 generalize rrL (L.take d)=Ct at*
 rcases hc with hc|⟨v,hv,ho,hne⟩
 ·
  obtain rfl:d=L.length:=by omega
  obtain rfl:e=0:=by omega
  have n0 : ¬L.length=0:=fun q=>h0 (List.eq_nil_of_length_eq_zero q)
  have t3:(rrP L).take (L.length*3)=rrP L:=List.take_of_length_le (by omega)
  have dz:(rrP L).drop (L.length*3)=[]:=List.drop_of_length_le (by omega)
  have cI':IC=rrL L++w.rlv:=by rw [←hIC,List.take_length,List.drop_length,cR];rfl
  have tI':IC.take ((L.length+1)*3)=IC:=List.take_of_length_le (by omega)
  simp only [Wv.rlv,Nat.reduceAdd,Nat.add_zero] at cI' lI hs'
  clear hvs bv cI cQ tQ lQ lQ' mQ aQ q1 q2 q3 m1 m2 l1 l1' l2 l2' hQC hIC hc he he' le tI iQ k40 k41
  generalize bytP w.bytes=W at*
  generalize w.bytes.length=wn at*
  generalize rrP L=P at*
  generalize rrL L=C at*
  refine ae (ir:=ir40) (by kernel_rfl) ?_;simp +contextual (maxSteps:=1000000) [ir40,ssL,↓ssM,aa,ssU,Go.Sx.LV.undef,Go.undef,ssR,b,lp,mp,n0,t3,dz,←cI',tI',lI,hl,hlP,aI,iI,k42,k43]
 ·obtain ⟨g4,hlt,sm⟩:=hvs v hv ho
  have bw:=bv v ho
  rw [decide_eq_false hne] at sm
  clear hvs bv hne hv ho
  have k1 : ¬(L.length:Int)≤d:=by omega
  have le3:d*3+3≤(rrL L).length:=by omega
  have e0 : ¬e=0:=by omega
  clear hl
  have tI':IC.take ((L.length+1)*3)=IC:=by rw [←hs'];exact tI
  have lI':IC.length=(L.length+1)*3:=by rw [←hs'];exact lI
  generalize bytP w.bytes=W at*
  generalize w.bytes.length=wn at*
  generalize bytP v.bytes=V at*
  generalize v.bytes.length=vn at*
  generalize rrP L=P at*
  generalize rrL L=C at*
  by_cases d0:d=0
  ·have h1e:1+e=L.length+1:=by omega
   rw [h1e] at lQ lQ' tQ
   obtain rfl:Ct=[]:=List.eq_nil_of_length_eq_zero (by omega)
   have d0':(d=0)=True:=eq_true d0
   rw [List.nil_append] at cI
   subst cI
   refine ae (ir:=ir40) (by kernel_rfl) ?_;simp +contextual (maxSteps:=1000000) [ir40,ssL,↓ssM,aa,ssU,Go.Sx.LV.undef,Go.undef,ssR,b,lp,bw,sm,k1,hlt,le3,mp,hlP,g4,q1,q2,q3,m1,l1,l1',aQ,mQ,lQ,lQ',←cQ,tQ,iQ,k43,kd,he',e0,d0',h1e]
   exact Option.some.inj (aQ.symm.trans aI)
  ·refine ae (ir:=ir40) (by kernel_rfl) ?_;simp +contextual (maxSteps:=1000000) [ir40,ssL,↓ssM,aa,ssU,Go.Sx.LV.undef,Go.undef,ssR,b,lp,bw,sm,k1,hlt,le3,mp,g4,q1,q2,q3,m1,m2,l1,l2,l1',l2',aQ,mQ,lQ,lQ',←cQ,tQ,aI,←cI,hlP,tI',lI',hs',iQ,iI,k40,k41,k42,k43,kd,he',e0,d0]
end
theorem Ay (L:List Wv) (w:Wv) (h30:L.length<2^29) (hs:Srt Wv.bytes L) (hL : ∀ v∈L,v.Ok) (hw:w.Ok) (H:Heap) (nx:Nat):
  Ω 40 [.p (slR L),.p (.agg w.rcs)] H nx=some (.p (slR (putK Wv.bytes L w)),[],[]):=by
 by_cases h0:L=[]
 ·subst h0;exact yx hw
 ·unfold putK
  by_cases h:(L.any fun v=>v.bytes==w.bytes)=true
  ·rw [if_pos h];exact v8 h0 (by omega) hs hL hw h
  ·rw [if_neg h];exact yw h0 h30 hs hL hw (by simpa using h)
end Go.Proofs.YtoeblkipfdnnlaaGreatDoor
end

section
namespace Go.Proofs.YtoeblkipfdnnlaaGreatDoor
open Go Go.Sx
set_option maxHeartbeats 2000000
theorem jk {w:Wv} (h:w.right=true):(w.gone=false)∨(w.gone=true∧w.nm=none):=by
 unfold Wv.right at h
 cases hg:w.gone with
 | false=>exact .inl rfl
 | true=>
  rw [hg] at h
  exact .inr ⟨rfl,by simpa using h⟩
section
variable {L:List Wv} {H:Heap} {nx:Nat} {x:LV} {o:PV} {v w:Wv}
abbrev siS (x:LV) (o:PV) (v:Wv) (ok:Bool) (n i j:Nat):St:=⟨[(0,x),(3,.p o),(5,.p (.imm v.rcs 0)),(6,.bool ok),(9,x),(10,.int .i64 n),(11,.int .i64 i),(24,x),(25,.int .i64 n),(26,.int .i64 j)],⟨[],[]⟩⟩
theorem yP (hx:Rr H nx x L) {i j:Nat} (hj:L[j]?=some w) (h30:L.length<2^30) (hr:w.right=true) (ok:Bool) (u:Bool) (hu : ∀ H nx,Ω 38 [.p (.agg v.rcs),.p (.agg w.rcs)] H nx=some (.bool u,[],[])):
  run ⟨Ω,gG,H,nx⟩ ir10_0 (siS x o v ok L.length i j)=some (.normal,siS x o v (ok&&!u) L.length i (j+1)):=by
 have hl:=bA L
 obtain ⟨h1,_⟩:=List.getElem?_eq_some_iff.1 hj
 have k1 : ¬(L.length:Int)≤j:=by omega
 have k2:j<L.length:=h1
 have w1:IntKind.i64.wrap ((j:Int)+1)=(j:Int)+1:=wrap_i64 _ (by omega) (by omega)
 have le:j*3+3≤(rrL L).length:=by omega
 have mp:=bK L
 have g4:=ei hj
 have rc:=jk hr
 have c0:=bu true
 clear hr hj
 obtain ⟨ev,nm,gone⟩:=w
 simp only [siS,Wv.rcs,Wv.rlv] at hu rc g4 ⊢
 cases hx with
 | nil=>simp at h1
 | sl _ fl=>
  have g4:=g4 []
  rw [List.append_nil] at g4
  clear hl
  generalize rrP L=P at*
  generalize rrL L=C at*
  rcases rc with rfl|⟨rfl,rfl⟩
  ·cases u
   all_goals (simp +contextual (maxSteps:=1000000) [ir10_0,ssL,↓ssM,aa,ssU,Go.Sx.LV.undef,Go.undef,ssR,k1,k2,w1,mp,g4,le,hu])
  ·rw [c0] at hu g4
   cases u
   all_goals (simp +contextual (maxSteps:=1000000) [ir10_0,ssL,↓ssM,aa,ssU,Go.Sx.LV.undef,Go.undef,ssR,k1,k2,w1,mp,g4,le,hu])
 | arr _ R id cp ex a1 a2=>
  have g4:=g4 R
  have le2:j*3+3≤(rrL L++R).length:=by rw [List.length_append];omega
  clear hl
  generalize rrL L++R=C at*
  rcases rc with rfl|⟨rfl,rfl⟩
  ·cases u
   all_goals (simp +contextual (maxSteps:=1000000) [ir10_0,ssL,↓ssM,aa,ssU,Go.Sx.LV.undef,Go.undef,ssR,k1,k2,w1,g4,le2,hu,a1,a2])
  ·rw [c0] at hu g4
   cases u
   all_goals (simp +contextual (maxSteps:=1000000) [ir10_0,ssL,↓ssM,aa,ssU,Go.Sx.LV.undef,Go.undef,ssR,k1,k2,w1,g4,le2,hu,a1,a2])
theorem AJ (hx:Rr H nx x L) (ok:Bool) {i:Nat} :
  run ⟨Ω,gG,H,nx⟩ ir10_0 (siS x o v ok L.length i L.length)=some (.exit 2,⟨(siS x o v ok L.length i L.length).env++[(27,.bool false)],⟨[],[]⟩⟩):=by
 simp only [siS]
 cases hx with
 | nil=>simp +contextual (maxSteps:=1000000) [ir10_0,ssL,↓ssM,aa,ssU,Go.Sx.LV.undef,Go.undef,ssR]
 | sl _ fl=>
  generalize rrP L=P at*
  simp +contextual (maxSteps:=1000000) [ir10_0,ssL,↓ssM,aa,ssU,Go.Sx.LV.undef,Go.undef,ssR]
 | arr _ R id cp ex a1 a2=>simp +contextual (maxSteps:=1000000) [ir10_0,ssL,↓ssM,aa,ssU,Go.Sx.LV.undef,Go.undef,ssR,a2]
theorem sY (hx:Rr H nx x L) (h30:L.length<2^30) (hL : ∀ w∈L,w.Ok∧w.right=true) (hv:v.Ok) {i:Nat} : ∀ (m j:Nat) (ok:Bool),j+m=L.length →
  run ⟨Ω,gG,H,nx⟩ (.loop ir10_0) (siS x o v ok L.length i j)=some (.exit 2,⟨(siS x o v (ok&&okK Wv.und (L.drop j) v) L.length i L.length).env++[(27,.bool false)],⟨[],[]⟩⟩)
 | 0,j,ok,hj=>by
  obtain rfl:j=L.length:=by omega
  rw [ai,AJ hx,List.drop_length]
  simp [okK];rfl
 | m+1,j,ok,hj=>by
  have h1:j<L.length:=by omega
  have hw:=List.getElem?_eq_getElem h1
  have hm:=hL _ (List.getElem_mem h1)
  have hu : ∀ H nx,Ω 38 [.p (.agg v.rcs),.p (.agg (L[j]).rcs)] H nx=some (.bool (v.und L[j]),[],[]):=fun H nx=>yz v L[j] true true hv hm.1 H nx
  rw [ai,yP hx hw h30 hm.2 ok _ hu,aE,aB,sY hx h30 hL hv m (j+1) _ (by omega),List.drop_eq_getElem_cons h1]
  simp only [okK,List.all_cons,Bool.and_assoc]
def setsW (L:List Wv) (l:List Wv) (out:List Wv):List Wv:=(l.filter (okK Wv.und L)).foldl (putK Wv.bytes) out
abbrev soS (x:LV) (o:PV) (n i:Nat):St:=⟨[(0,x),(3,.p o),(9,x),(10,.int .i64 n),(11,.int .i64 i)],⟨[],[]⟩⟩
theorem Bu (hx:Rr H nx x L) {i:Nat} (hi:L[i]?=some v) (h30:L.length<2^30) (hr:v.right=true) (hL : ∀ w∈L,w.Ok∧w.right=true) (hv:v.Ok) (out:List Wv) (ok:Bool) (hk:okK Wv.und L v=ok)
  (hp:ok=true→∀ H nx,Ω 40 [.p (slR out),.p (.agg v.rcs)] H nx=some (.p (slR (putK Wv.bytes out v)),[],[])):
  run ⟨Ω,gG,H,nx⟩ ir10_1 (soS x (slR out) L.length i)=some (.normal,soS x (slR (if ok then putK Wv.bytes out v else out)) L.length (i+1)):=by
 have hl:=bA L
 obtain ⟨h1,_⟩:=List.getElem?_eq_some_iff.1 hi
 have k1 : ¬(L.length:Int)≤i:=by omega
 have k2:i<L.length:=h1
 have w1:IntKind.i64.wrap ((i:Int)+1)=(i:Int)+1:=wrap_i64 _ (by omega) (by omega)
 have le:i*3+3≤(rrL L).length:=by omega
 have mp:=bK L
 have g4:=ei hi
 have rc:=jk hr
 have c0:=bu true
 have lp:=sY (o:=slR out) hx h30 hL hv (i:=i) L.length 0 true (by omega)
 simp only [List.drop_zero,hk,Bool.true_and,siS,Int.natCast_zero,List.cons_append,List.nil_append] at lp
 clear hr hi hk hL hv
 obtain ⟨ev,nm,gone⟩:=v
 simp only [soS,Wv.rcs,Wv.rlv] at hp rc g4 lp ⊢
 have hS:slR (if ok=true then putK Wv.bytes out ⟨ev,nm,gone⟩ else out)=if ok=true then slR (putK Wv.bytes out ⟨ev,nm,gone⟩) else slR out:=by split<;>rfl
 rw [hS]
 clear hS
 generalize slR out=S at*
 generalize slR (putK Wv.bytes out ⟨ev,nm,gone⟩)=S' at*
 cases hx with
 | nil=>simp at h1
 | sl _ fl=>
  have g4:=g4 []
  rw [List.append_nil] at g4
  clear hl
  generalize rrP L=P at*
  generalize rrL L=C at*
  rcases rc with rfl|⟨rfl,rfl⟩
  ·cases ok with
   | false=>simp +contextual (maxSteps:=1000000) [ir10_1,ssL,↓ssM,aa,ssU,Go.Sx.LV.undef,Go.undef,ssR,k1,k2,w1,mp,g4,le,lp]
   | true=>
    have hp:=hp rfl
    simp +contextual (maxSteps:=1000000) [ir10_1,ssL,↓ssM,aa,ssU,Go.Sx.LV.undef,Go.undef,ssR,k1,k2,w1,mp,g4,le,lp,hp]
  ·rw [c0] at g4 lp hp
   cases ok with
   | false=>simp +contextual (maxSteps:=1000000) [ir10_1,ssL,↓ssM,aa,ssU,Go.Sx.LV.undef,Go.undef,ssR,k1,k2,w1,mp,g4,le,lp]
   | true=>
    have hp:=hp rfl
    simp +contextual (maxSteps:=1000000) [ir10_1,ssL,↓ssM,aa,ssU,Go.Sx.LV.undef,Go.undef,ssR,k1,k2,w1,mp,g4,le,lp,hp]
 | arr _ R id cp ex a1 a2=>
  have g4:=g4 R
  have le2:i*3+3≤(rrL L++R).length:=by rw [List.length_append];omega
  clear hl
  generalize rrL L++R=C at*
  rcases rc with rfl|⟨rfl,rfl⟩
  ·cases ok with
   | false=>simp +contextual (maxSteps:=1000000) [ir10_1,ssL,↓ssM,aa,ssU,Go.Sx.LV.undef,Go.undef,ssR,k1,k2,w1,g4,le2,a1,a2,lp]
   | true=>
    have hp:=hp rfl
    simp +contextual (maxSteps:=1000000) [ir10_1,ssL,↓ssM,aa,ssU,Go.Sx.LV.undef,Go.undef,ssR,k1,k2,w1,g4,le2,a1,a2,lp,hp]
  ·rw [c0] at g4 lp hp
   cases ok with
   | false=>simp +contextual (maxSteps:=1000000) [ir10_1,ssL,↓ssM,aa,ssU,Go.Sx.LV.undef,Go.undef,ssR,k1,k2,w1,g4,le2,a1,a2,lp]
   | true=>
    have hp:=hp rfl
    simp +contextual (maxSteps:=1000000) [ir10_1,ssL,↓ssM,aa,ssU,Go.Sx.LV.undef,Go.undef,ssR,k1,k2,w1,g4,le2,a1,a2,lp,hp]
theorem AK (hx:Rr H nx x L) (S:PV):run ⟨Ω,gG,H,nx⟩ ir10_1 (soS x S L.length L.length)=some (.exit 0,⟨(soS x S L.length L.length).env++[(12,.bool false)],⟨[],[]⟩⟩):=by
 simp only [soS]
 cases hx with
 | nil=>simp +contextual (maxSteps:=1000000) [ir10_1,ssL,↓ssM,aa,ssU,Go.Sx.LV.undef,Go.undef,ssR]
 | sl _ fl=>
  generalize rrP L=P at*
  simp +contextual (maxSteps:=1000000) [ir10_1,ssL,↓ssM,aa,ssU,Go.Sx.LV.undef,Go.undef,ssR]
 | arr _ R id cp ex a1 a2=>simp +contextual (maxSteps:=1000000) [ir10_1,ssL,↓ssM,aa,ssU,Go.Sx.LV.undef,Go.undef,ssR,a2]
theorem v5 (L:List Wv) (w:Wv):(putK Wv.bytes L w).length≤L.length+1:=by
 unfold putK
 split
 ·omega
 ·rw [j7];exact Nat.le_refl _
theorem v6 {L:List Wv} (h:Srt Wv.bytes L) (w:Wv):Srt Wv.bytes (putK Wv.bytes L w):=by
 unfold putK
 split
 ·exact h
 ·rename_i q
  refine eS h fun v hv e => ?_
  simp only [Bool.not_eq_true,List.any_eq_false] at q
  have:=q v hv
  simp [e] at this
theorem yu {L:List Wv} {P:Wv→Prop} (h : ∀ v∈L,P v) {w:Wv} (hw:P w) : ∀ v∈putK Wv.bytes L w,P v:=by
 unfold putK
 split
 ·exact h
 ·intro v hv
  rcases insK_mem.1 hv with rfl|hv
  ·exact hw
  ·exact h v hv
theorem np (hx:Rr H nx x L) (h30:L.length<2^28) (hL : ∀ w∈L,w.Ok∧w.right=true) : ∀ (m i:Nat) (out:List Wv),i+m=L.length→out.length+m<2^29→Srt Wv.bytes out→(∀ v∈out,v.Ok) →
  run ⟨Ω,gG,H,nx⟩ (.loop ir10_1) (soS x (slR out) L.length i)=some (.exit 0,⟨(soS x (slR (setsW L (L.drop i) out)) L.length L.length).env++[(12,.bool false)],⟨[],[]⟩⟩)
 | 0,i,out,hi,_,_,_=>by
  obtain rfl:i=L.length:=by omega
  rw [ai,AK hx,List.drop_length];rfl
 | m+1,i,out,hi,hl,hs,ho=>by
  have h1:i<L.length:=by omega
  have hv:=List.getElem?_eq_getElem h1
  have hm:=hL _ (List.getElem_mem h1)
  rw [ai,Bu hx hv (by omega) hm.2 hL hm.1 out _ rfl (fun _ H nx=>Ay out L[i] (by omega) hs ho hm.1 H nx),aE,aB,List.drop_eq_getElem_cons h1]
  cases hq:okK Wv.und L L[i] with
  | true=>
   rw [if_pos rfl,np hx h30 hL m (i+1) _ (by omega) (by have:=v5 out L[i];omega) (v6 hs _) (yu ho hm.1)]
   simp only [setsW,List.filter_cons,hq,if_true,List.foldl_cons]
  | false=>
   rw [if_neg (by decide),np hx h30 hL m (i+1) _ (by omega) (by omega) hs ho]
   simp only [setsW,List.filter_cons,hq,Bool.false_eq_true,if_false]
theorem sL (hx:Rr H nx x L) (h30:L.length<2^28) (hL : ∀ w∈L,w.Ok∧w.right=true):Ω 10 [x] H nx=some (.p (slR (setsW L L [])),[],[]):=by
 have lp:=np (H:=H) (nx:=nx) hx h30 hL L.length 0 [] (by omega) (by simp;omega) trivial (by simp)
 simp only [List.drop_zero,soS,sZ,Int.natCast_zero,List.cons_append,List.nil_append] at lp
 generalize slR (setsW L L [])=S at*
 cases hx with
 | nil=>
  simp only [List.length_nil,Int.natCast_zero] at lp
  refine ae (ir:=ir10) (by kernel_rfl) ?_;simp +contextual (maxSteps:=1000000) [ir10,ssL,↓ssM,aa,ssU,Go.Sx.LV.undef,Go.undef,ssR,lp]
 | sl _ fl=>
  generalize rrP L=P at*
  refine ae (ir:=ir10) (by kernel_rfl) ?_;simp +contextual (maxSteps:=1000000) [ir10,ssL,↓ssM,aa,ssU,Go.Sx.LV.undef,Go.undef,ssR,lp]
 | arr _ R id cp ex a1 a2=>refine ae (ir:=ir10) (by kernel_rfl) ?_;simp +contextual (maxSteps:=1000000) [ir10,ssL,↓ssM,aa,ssU,Go.Sx.LV.undef,Go.undef,ssR,lp]
end
end Go.Proofs.YtoeblkipfdnnlaaGreatDoor
end

section
namespace Go.Proofs.YtoeblkipfdnnlaaGreatDoor
open Go Go.Sx
set_option maxHeartbeats 1000000
theorem yn (H:Heap):Ω 39 [.str ⟨#[40,48,44,49,44,48,41]⟩] H 0=some (.tuple [.p (Ev.node 0 (.leaf 1) (.leaf 0)).pv,.int .i64 0],[],[]):=ee (n:=60) (by kernel_rfl)
theorem yo (H:Heap):Ω 39 [.str ⟨#[40,48,44,48,44,49,41]⟩] H 0=some (.tuple [.p (Ev.node 0 (.leaf 0) (.leaf 1)).pv,.int .i64 0],[],[]):=ee (n:=60) (by kernel_rfl)
theorem yp (H:Heap):Ω 39 [.str ⟨#[49]⟩] H 0=some (.tuple [.p (Ev.leaf 1).pv,.int .i64 0],[],[]):=ee (n:=60) (by kernel_rfl)
def va:Wv:=⟨.node 0 (.leaf 1) (.leaf 0),none,false⟩
def vb:Wv:=⟨.node 0 (.leaf 0) (.leaf 1),none,false⟩
def vc:Wv:=⟨.leaf 1,none,false⟩
theorem zG:va.Ok:=⟨by simp [va,Ev.norm,Ev.n],by decide,by decide,by intro s h;cases h⟩
theorem zH:vb.Ok:=⟨by simp [vb,Ev.norm,Ev.n],by decide,by decide,by intro s h;cases h⟩
theorem Bx:vc.Ok:=⟨by simp [vc,Ev.norm],by decide,by decide,by intro s h;cases h⟩
theorem uv:(addW (addW [] va) vb).length=2:=by kernel_rfl
theorem wZ:(addW (addW (addW [] va) vb) vc).length=1:=by kernel_rfl
theorem mA (H:Heap):Ω 8 [] H 0=some (.bool true,[],[]):=by
 have pa:=yn
 have pb:=yo
 have pc:=yp
 have w1:Ws (addW [] va):=Ws.nil.add zG rfl
 have w2:Ws (addW (addW [] va) vb):=w1.add zH rfl
 have a1:=pB [] va (by decide) Ws.nil zG rfl
 have a2:=pB (addW [] va) vb (by have:=dF [] va;simp at this;omega) w1 zH rfl
 have a3:=pB (addW (addW [] va) vb) vc (by rw [uv];decide) w2 Bx rfl
 have l2:=len_ (addW (addW [] va) vb)
 have l3:=len_ (addW (addW (addW [] va) vb) vc)
 rw [uv] at l2
 rw [wZ] at l3
 rw [show va.pv false = .agg [.s (.int .u64 0),(Ev.node 0 (.leaf 1) (.leaf 0)).ptr,.s (.slice none 0 0),.s (.bool false)] from rfl] at a1
 rw [show vb.pv false = .agg [.s (.int .u64 0),(Ev.node 0 (.leaf 0) (.leaf 1)).ptr,.s (.slice none 0 0),.s (.bool false)] from rfl] at a2
 rw [show vc.pv false = .agg [.s (.int .u64 1),.s (.pointer none),.s (.slice none 0 0),.s (.bool false)] from rfl] at a3
 simp only [show (Ev.node 0 (.leaf 1) (.leaf 0)).pv = .agg [.s (.int .u64 0),(Ev.node 0 (.leaf 1) (.leaf 0)).ptr] from rfl] at pa
 simp only [show (Ev.node 0 (.leaf 0) (.leaf 1)).pv = .agg [.s (.int .u64 0),(Ev.node 0 (.leaf 0) (.leaf 1)).ptr] from rfl] at pb
 simp only [show (Ev.leaf 1).pv = .agg [.s (.int .u64 1),.s (.pointer none)] from rfl] at pc
 simp only [setP,bi] at a1 a2 a3 l2 l3
 generalize slP (addW (addW (addW [] va) vb) vc)=S3 at*
 generalize slP (addW (addW [] va) vb)=S2 at*
 generalize slP (addW [] va)=S1 at*
 generalize (Ev.node 0 (.leaf 1) (.leaf 0)).ptr=A at*
 generalize (Ev.node 0 (.leaf 0) (.leaf 1)).ptr=B at*
 refine ae (ir:=ir8) (by kernel_rfl) ?_;simp +contextual (maxSteps:=1000000) [ir8,ssL,↓ssM,aa,ssU,Go.Sx.LV.undef,Go.undef,ssR,pa,pb,pc,a1,a2,a3,l2,l3]
end Go.Proofs.YtoeblkipfdnnlaaGreatDoor
end

section
namespace Go.Sx
open Go
def cont (b:UInt8):Bool:=decide (128≤b.toNat)&&decide (b.toNat≤191)
def gud (least x n:Nat):Option (Nat × Nat):=if x<least∨1114111<x∨(55296≤x∧x<57344) then none else some (x,n)
def sgn:List UInt8→Option (Nat × Nat)
 | []=>none
 | a::r=>
  if a.toNat<128 then some (a.toNat,1)
  else if 192≤a.toNat∧a.toNat<224 then (match r with
   | b::_=>if cont b then gud 128 ((a.toNat-192)*64+(b.toNat-128)) 2 else none
   | _=>none)
  else if 224≤a.toNat∧a.toNat<240 then (match r with
   | b::c::_=>if cont b&&cont c then gud 2048 (((a.toNat-224)*64+(b.toNat-128))*64+(c.toNat-128)) 3 else none
   | _=>none)
  else if 240≤a.toNat∧a.toNat<248 then (match r with
   | b::c::d::_=>if cont b&&cont c&&cont d then gud 65536 ((((a.toNat-240)*64+(b.toNat-128))*64+(c.toNat-128))*64+(d.toNat-128)) 4 else none
   | _=>none)
  else none
theorem vq (l:List UInt8) (j:Nat):(⟨l.toArray⟩:ByteArray).get! j=(l[j]?).getD 0:=by
 simp only [ByteArray.get!]
 rw [Array.getElem!_eq_getD,Array.getD_eq_getD_getElem?]
 simp only [List.getElem?_toArray]
 cases l[j]?<;>rfl
theorem xq (b:UInt8):(b.toNat/64==2)=cont b:=by
 have:=b.toNat_lt
 rw [Bool.eq_iff_iff]
 simp only [cont,beq_iff_eq,Bool.and_eq_true,decide_eq_true_eq]
 omega
theorem wT (c:Nat):Utf8.valid c=!(decide (1114111<c)||(decide (55296≤c)&&decide (c<57344))):=by
 rw [Bool.eq_iff_iff]
 simp [Utf8.valid]
 omega
theorem py (c:Nat):(Utf8.valid c=true) = ¬(1114111<c∨(55296≤c∧c<57344)):=by
 rw [wT]
 apply propext
 simp
 omega
def decR (r:List UInt8):Nat × Nat:=
 let at' (k:Nat):Nat:=((r[k]?).getD 0).toNat
 let cn (k:Nat):Bool:=decide (k<r.length)&&cont ((r[k]?).getD 0)
 if at' 0<128 then (at' 0,1)
 else if at' 0/32==6&&cn 1 then
  (if (at' 0%32)*64+at' 1%64≥128 then ((at' 0%32)*64+at' 1%64,2) else (65533,1))
 else if at' 0/16==14&&cn 1&&cn 2 then
  (if (at' 0%16)*4096+(at' 1%64)*64+at' 2%64≥2048&&Utf8.valid ((at' 0%16)*4096+(at' 1%64)*64+at' 2%64:Nat) then ((at' 0%16)*4096+(at' 1%64)*64+at' 2%64,3) else (65533,1))
 else if at' 0/8==30&&cn 1&&cn 2&&cn 3 then
  (if (at' 0%8)*262144+(at' 1%64)*4096+(at' 2%64)*64+at' 3%64≥65536&&Utf8.valid ((at' 0%8)*262144+(at' 1%64)*4096+(at' 2%64)*64+at' 3%64:Nat) then ((at' 0%8)*262144+(at' 1%64)*4096+(at' 2%64)*64+at' 3%64,4) else (65533,1))
 else (65533,1)
theorem uU (l:List UInt8) (i:Nat):Utf8.decode ⟨l.toArray⟩ i=decR (l.drop i):=by
 have e : ∀ k,((⟨l.toArray⟩:ByteArray).get! (i+k)).toNat=(((l.drop i)[k]?).getD 0).toNat:=fun k=>by rw [vq,List.getElem?_drop]
 have c : ∀ k,(decide (i+k<(⟨l.toArray⟩:ByteArray).size)&&(((l.drop i)[k]?).getD 0).toNat/64==2)=(decide (k<(l.drop i).length)&&cont (((l.drop i)[k]?).getD 0)):=fun k=>by
  rw [←xq]
  congr 1
  rw [List.length_drop]
  show decide (i+k<l.length)=_
  rw [decide_eq_decide];omega
 unfold Utf8.decode decR
 simp only [e,c]
 rfl
theorem pN {least x n:Nat} : (match gud least x n with
  | some y=>y
  | none=>(65533,1))=if (decide (x≥least)&&Utf8.valid (x:Nat))=true then (x,n) else (65533,1):=by
 have hv:=py x
 unfold gud
 by_cases h:x<least∨1114111<x∨(55296≤x∧x<57344)
 ·rw [if_pos h,if_neg]
  rw [Bool.and_eq_true,decide_eq_true_eq,hv];omega
 ·rw [if_neg h,if_pos]
  rw [Bool.and_eq_true,decide_eq_true_eq,hv];omega
theorem dQ {b:UInt8} (h:cont b=true):b.toNat%64=b.toNat-128∧128≤b.toNat∧b.toNat≤191:=by
 simp only [cont,Bool.and_eq_true,decide_eq_true_eq] at h
 omega
theorem uT : ∀ (r:List UInt8),r≠[]→decR r=(match sgn r with
  | some x=>x
  | none=>(65533,1))
 | [],h=>absurd rfl h
 | a::r,_=>by
  have ha:=a.toNat_lt
  have b6:(a.toNat/32==6)=decide (192≤a.toNat∧a.toNat<224):=by rw [Bool.eq_iff_iff];simp;omega
  have b14:(a.toNat/16==14)=decide (224≤a.toNat∧a.toNat<240):=by rw [Bool.eq_iff_iff];simp;omega
  have b30:(a.toNat/8==30)=decide (240≤a.toNat∧a.toNat<248):=by rw [Bool.eq_iff_iff];simp;omega
  unfold decR sgn
  simp only [List.getElem?_cons_zero,Option.getD_some,b6,b14,b30]
  by_cases h1:a.toNat<128
  ·simp only [if_pos h1]
  simp only [if_neg h1]
  by_cases h2:192≤a.toNat∧a.toNat<224
  ·have n3 : ¬(224≤a.toNat∧a.toNat<240):=by omega
   have n4 : ¬(240≤a.toNat∧a.toNat<248):=by omega
   simp only [h2,n3,n4,and_self,decide_true,decide_false,Bool.true_and,Bool.false_and,if_true,if_false,Bool.false_eq_true]
   match r with
   | []=>rfl
   | b::r=>
    simp only [List.getElem?_cons_succ,List.getElem?_cons_zero,Option.getD_some,List.length_cons,show 1<r.length+1+1 by omega,decide_true,Bool.true_and]
    by_cases hb:cont b=true
    ·obtain ⟨e1,e2,e3⟩:=dQ hb
     have e4:a.toNat%32=a.toNat-192:=by omega
     have:Utf8.valid ((a.toNat-192)*64+(b.toNat-128):Nat)=true:=by rw [py];omega
     simp only [hb,and_self,decide_true,Bool.and_self,if_true]
     rw [pN]
     simp only [e1,e4,this,Bool.and_true,decide_eq_true_eq]
    ·simp [hb]
  by_cases h3:224≤a.toNat∧a.toNat<240
  ·have n4 : ¬(240≤a.toNat∧a.toNat<248):=by omega
   simp only [h2,h3,n4,and_self,decide_true,decide_false,Bool.true_and,Bool.false_and,if_true,if_false,Bool.false_eq_true]
   match r with
   | []=>rfl
   | [b]=>simp
   | b::c::r=>
    simp only [List.getElem?_cons_succ,List.getElem?_cons_zero,Option.getD_some,List.length_cons,show 1<r.length+1+1+1 by omega,show 2<r.length+1+1+1 by omega,decide_true,Bool.true_and]
    by_cases hb:(cont b&&cont c)=true
    ·simp only [Bool.and_eq_true] at hb
     obtain ⟨e1,e2,e3⟩:=dQ hb.1
     obtain ⟨f1,f2,f3⟩:=dQ hb.2
     have e4:(a.toNat%16)*4096+(b.toNat%64)*64+c.toNat%64=((a.toNat-224)*64+(b.toNat-128))*64+(c.toNat-128):=by omega
     simp only [hb.1,hb.2,and_self,decide_true,Bool.and_self,if_true]
     rw [pN]
     simp only [e4]
    ·have:(cont b&&cont c)=false:=by simpa using hb
     simp [this]
  by_cases h4:240≤a.toNat∧a.toNat<248
  ·simp only [h2,h3,h4,and_self,decide_true,decide_false,Bool.true_and,Bool.false_and,if_true,if_false,Bool.false_eq_true]
   match r with
   | []=>rfl
   | [b]=>simp
   | [b,c]=>simp
   | b::c::d::r=>
    simp only [List.getElem?_cons_succ,List.getElem?_cons_zero,Option.getD_some,List.length_cons,show 1<r.length+1+1+1+1 by omega,show 2<r.length+1+1+1+1 by omega,show 3<r.length+1+1+1+1 by omega,decide_true,Bool.true_and]
    by_cases hb:(cont b&&cont c&&cont d)=true
    ·simp only [Bool.and_eq_true] at hb
     obtain ⟨e1,e2,e3⟩:=dQ hb.1.1
     obtain ⟨f1,f2,f3⟩:=dQ hb.1.2
     obtain ⟨g1,g2,g3⟩:=dQ hb.2
     have e4:(a.toNat%8)*262144+(b.toNat%64)*4096+(c.toNat%64)*64+d.toNat%64=(((a.toNat-240)*64+(b.toNat-128))*64+(c.toNat-128))*64+(d.toNat-128):=by omega
     simp only [hb.1.1,hb.1.2,hb.2,and_self,decide_true,Bool.and_self,if_true]
     rw [pN]
     simp only [e4]
    ·have:(cont b&&cont c&&cont d)=false:=by simpa using hb
     simp [this]
  simp only [h2,h3,h4,decide_false,Bool.false_and,if_false,Bool.false_eq_true]
theorem xw (l:List UInt8) (i:Nat) (hi:i<l.length):Utf8.decode ⟨l.toArray⟩ i=(match sgn (l.drop i) with
  | some x=>x
  | none=>(65533,1)):=by
 rw [uU,uT]
 intro e
 have:=congrArg List.length e
 rw [List.length_drop,List.length_nil] at this
 omega
end Go.Sx
end

section
namespace Go.Sx
open Go
def acc (a:Nat):Option (Nat × Nat × Nat):=
 if 194≤a∧a≤223 then some (2,128,191) else if a=224 then some (3,160,191) else if a=237 then some (3,128,159) else if 225≤a∧a≤239 then some (3,128,191)
 else if a=240 then some (4,144,191) else if a=244 then some (4,128,143) else if 241≤a∧a≤243 then some (4,128,191) else none
def restOk (n lo hi:Nat) (r:List UInt8):Bool:=match n,r with
 | 2,b::_=>decide (lo≤b.toNat)&&decide (b.toNat≤hi)
 | 3,b::c::_=>decide (lo≤b.toNat)&&decide (b.toNat≤hi)&&cont c
 | 4,b::c::d::_=>decide (lo≤b.toNat)&&decide (b.toNat≤hi)&&cont c&&cont d
 | _,_=>false
def accOk (a:Nat) (r:List UInt8):Option Nat:=match acc a with
 | some (n,lo,hi)=>if restOk n lo hi r=true then some n else none
 | none=>none
theorem eP (least x n:Nat):(gud least x n).map (·.2)=if x<least∨1114111<x∨(55296≤x∧x<57344) then none else some n:=by
 unfold gud;split<;>rfl
theorem wJ (a:UInt8) (r:List UInt8) (ha : ¬a.toNat<128):(sgn (a::r)).map (·.2)=accOk a.toNat r:=by
 have h8:=a.toNat_lt
 unfold sgn accOk
 dsimp only
 rw [if_neg ha]
 by_cases h2:192≤a.toNat∧a.toNat<224
 ·rw [if_pos h2]
  by_cases h:194≤a.toNat
  ·have e:acc a.toNat=some (2,128,191):=by unfold acc;rw [if_pos (by omega)]
   rw [e]
   match r with
   | []=>rfl
   | b::r=>
    simp only [restOk,cont,Bool.and_eq_true,decide_eq_true_eq]
    by_cases hb:128≤b.toNat∧b.toNat≤191
    ·rw [if_pos hb,if_pos hb,eP,if_neg (by omega)]
    ·rw [if_neg hb,if_neg hb];rfl
  ·have e:acc a.toNat=none:=by unfold acc;repeat rw [if_neg (by omega)]
   rw [e]
   match r with
   | []=>rfl
   | b::r=>
    simp only [cont,Bool.and_eq_true,decide_eq_true_eq]
    by_cases hb:128≤b.toNat∧b.toNat≤191
    ·rw [if_pos hb,eP,if_pos (by omega)]
    ·rw [if_neg hb];rfl
 rw [if_neg h2]
 by_cases h3:224≤a.toNat∧a.toNat<240
 ·rw [if_pos h3]
  have e:acc a.toNat=some (3,if a.toNat=224 then 160 else 128,if a.toNat=237 then 159 else 191):=by
   unfold acc
   rw [if_neg (by omega)]
   by_cases q:a.toNat=224
   ·rw [if_pos q,if_pos q,if_neg (by omega)]
   ·rw [if_neg q,if_neg q]
    by_cases q2:a.toNat=237
    ·rw [if_pos q2,if_pos q2]
    ·rw [if_neg q2,if_neg q2,if_pos (by omega)]
  rw [e]
  match r with
  | []=>rfl
  | [b]=>rfl
  | b::c::r=>
   simp only [restOk,cont,Bool.and_eq_true,decide_eq_true_eq]
   by_cases hb:(128≤b.toNat∧b.toNat≤191)∧(128≤c.toNat∧c.toNat≤191)
   ·rw [if_pos hb,eP]
    by_cases q:a.toNat=224<;>by_cases q2:a.toNat=237<;>simp only [q,q2,if_true,if_false,Nat.reduceEqDiff]
    ·omega
    ·by_cases q3:160≤b.toNat
     ·rw [if_neg (by omega),if_pos (by omega)]
     ·rw [if_pos (by omega),if_neg (by omega)]
    ·by_cases q3:b.toNat≤159
     ·rw [if_neg (by omega),if_pos (by omega)]
     ·rw [if_pos (by omega),if_neg (by omega)]
    ·rw [if_neg (by omega),if_pos (by omega)]
   ·rw [if_neg hb,if_neg]
    ·rfl
    ·split<;>split<;>omega
 rw [if_neg h3]
 by_cases h4:240≤a.toNat∧a.toNat<248
 ·rw [if_pos h4]
  by_cases h5:a.toNat≤244
  ·have e:acc a.toNat=some (4,if a.toNat=240 then 144 else 128,if a.toNat=244 then 143 else 191):=by
    unfold acc
    rw [if_neg (by omega),if_neg (by omega),if_neg (by omega),if_neg (by omega)]
    by_cases q:a.toNat=240
    ·rw [if_pos q,if_pos q,if_neg (by omega)]
    ·rw [if_neg q,if_neg q]
     by_cases q2:a.toNat=244
     ·rw [if_pos q2,if_pos q2]
     ·rw [if_neg q2,if_neg q2,if_pos (by omega)]
   rw [e]
   match r with
   | []=>rfl
   | [b]=>rfl
   | [b,c]=>rfl
   | b::c::d::r=>
    simp only [restOk,cont,Bool.and_eq_true,decide_eq_true_eq]
    by_cases hb:((128≤b.toNat∧b.toNat≤191)∧(128≤c.toNat∧c.toNat≤191))∧(128≤d.toNat∧d.toNat≤191)
    ·rw [if_pos hb,eP]
     by_cases q:a.toNat=240<;>by_cases q2:a.toNat=244<;>simp only [q,q2,if_true,if_false,Nat.reduceEqDiff]
     ·omega
     ·by_cases q3:144≤b.toNat
      ·rw [if_neg (by omega),if_pos (by omega)]
      ·rw [if_pos (by omega),if_neg (by omega)]
     ·by_cases q3:b.toNat≤143
      ·rw [if_neg (by omega),if_pos (by omega)]
      ·rw [if_pos (by omega),if_neg (by omega)]
     ·rw [if_neg (by omega),if_pos (by omega)]
    ·rw [if_neg hb,if_neg]
     ·rfl
     ·split<;>split<;>omega
  ·have e:acc a.toNat=none:=by unfold acc;repeat rw [if_neg (by omega)]
   rw [e]
   match r with
   | []=>rfl
   | [b]=>rfl
   | [b,c]=>rfl
   | b::c::d::r=>
    simp only [cont,Bool.and_eq_true,decide_eq_true_eq]
    by_cases hb:((128≤b.toNat∧b.toNat≤191)∧(128≤c.toNat∧c.toNat≤191))∧(128≤d.toNat∧d.toNat≤191)
    ·rw [if_pos hb,eP,if_pos (by omega)]
    ·rw [if_neg hb];rfl
 ·rw [if_neg h4]
  have e:acc a.toNat=none:=by unfold acc;repeat rw [if_neg (by omega)]
  rw [e];rfl
theorem vw {least x n y k:Nat} (h:gud least x n=some (y,k)):k=n:=by
 unfold gud at h
 split at h
 ·cases h
 ·simp only [Option.some.injEq,Prod.mk.injEq] at h;exact h.2.symm
theorem sX : ∀ {l:List UInt8} {x k:Nat},sgn l=some (x,k)→1≤k∧k≤l.length
 | [],x,k,h=>by cases h
 | a::r,x,k,h=>by
  unfold sgn at h
  dsimp only at h
  split at h
  ·simp only [Option.some.injEq,Prod.mk.injEq] at h;obtain ⟨_,rfl⟩:=h;simp
  split at h
  ·split at h
   ·split at h
    ·have:=vw h;subst this;simp
    ·cases h
   ·cases h
  split at h
  ·split at h
   ·split at h
    ·have:=vw h;subst this;simp
    ·cases h
   ·cases h
  split at h
  ·split at h
   ·split at h
    ·have:=vw h;subst this;simp
    ·cases h
   ·cases h
  ·cases h
def valN:Nat→List UInt8→Bool
 | _,[]=>true
 | 0,_::_=>false
 | n+1,a::r=>match sgn (a::r) with
  | some (_,k)=>valN n ((a::r).drop k)
  | none=>false
end Go.Sx
end

section
namespace Go.Proofs.YtoeblkipfdnnlaaGreatDoor
open Go Go.Sx
set_option maxHeartbeats 1000000
def contN:Nat→Nat→List UInt8→Option Nat
 | 0,x,_=>some x
 | _+1,_,[]=>none
 | k+1,x,b::r=>if cont b then contN k (64*x+b.toNat-128) r else none
theorem bJ {b:UInt8} (h:cont b=true):128≤b.toNat∧b.toNat≤191:=by simpa [cont] using h
theorem zD (a:UInt8) (r:List UInt8):sgn (a::r)=if a.toNat<128 then some (a.toNat,1)
  else if 192≤a.toNat∧a.toNat<224 then (contN 1 (a.toNat-192) r).bind fun x=>gud 128 x 2
  else if 224≤a.toNat∧a.toNat<240 then (contN 2 (a.toNat-224) r).bind fun x=>gud 2048 x 3
  else if 240≤a.toNat∧a.toNat<248 then (contN 3 (a.toNat-240) r).bind fun x=>gud 65536 x 4
  else none:=by
 unfold sgn
 dsimp only
 split
 ·rfl
 ·split
  ·match r with
   | []=>rfl
   | b::_=>
    by_cases h:cont b
    ·have:=bJ h
     simp only [contN,h,if_true,Option.bind_some]
     exact congrArg (fun x=>gud 128 x 2) (by omega)
    ·simp [contN,h]
  ·split
   ·match r with
    | []=>rfl
    | [b]=>by_cases h:cont b<;>simp [contN,h]
    | b::c::_=>
     by_cases h:cont b
     ·by_cases h2:cont c
      ·have:=bJ h
       have:=bJ h2
       simp only [contN,h,h2,Bool.and_self,if_true,Option.bind_some]
       exact congrArg (fun x=>gud 2048 x 3) (by omega)
      ·simp [contN,h,h2]
     ·simp [contN,h]
   ·split
    ·match r with
     | []=>rfl
     | [b]=>by_cases h:cont b<;>simp [contN,h]
     | [b,c]=>by_cases h:cont b<;>by_cases h2:cont c<;>simp [contN,h,h2]
     | b::c::d::_=>
      by_cases h:cont b
      ·by_cases h2:cont c
       ·by_cases h3:cont d
        ·have:=bJ h
         have:=bJ h2
         have:=bJ h3
         simp only [contN,h,h2,h3,Bool.and_self,if_true,Option.bind_some]
         exact congrArg (fun x=>gud 65536 x 4) (by omega)
        ·simp [contN,h,h2,h3]
       ·simp [contN,h,h2]
      ·simp [contN,h]
    ·rfl
theorem gR : ∀ (k x i:Nat) (r:List UInt8) (y:Nat),x<2^(6*i)→contN k x r=some y→y<2^(6*(i+k))
 | 0,x,i,r,y,h,e=>by cases e;exact h
 | k+1,x,i,[],y,h,e=>by cases e
 | k+1,x,i,b::r,y,h,e=>by
  rw [contN] at e
  split at e
  ·rename_i hb
   have:=bJ hb
   have hp:2^(6*(i+1))=2^(6*i)*64:=by rw [Nat.mul_add,Nat.pow_add]
   have:=gR k _ (i+1) r y (by omega) e
   rwa [show i+1+k=i+(k+1) by omega] at this
  ·cases e
theorem mc (s:List UInt8) (at' n least:Nat) (hs:s.length<2^31) (H:Heap) (nx:Nat) : ∀ (k x i:Nat) (r:List UInt8),s.drop (at'+i)=r→n=i+k→n≤4→at'<2^31→x<2^(6*i) →
  run ⟨Ω,gG,H,nx⟩ (.loop ir155_0) ⟨[(0,.str ⟨s.toArray⟩),(1,.int .i64 at'),(8,.int .i64 n),(9,.int .i64 least),(10,.int .i64 x),(11,.int .i64 i)],⟨[],[]⟩⟩=
   match contN k x r with
   | none=>some (.ret,⟨[(4,.int .i64 0),(5,.int .i64 1),(6,.bool false)],⟨[],[]⟩⟩)
   | some y=>some (.exit 1,⟨[(8,.int .i64 n),(9,.int .i64 least),(10,.int .i64 y)],⟨[],[]⟩⟩)
 | 0,x,i,r,hr,hn,hi,ha,hx=>by
  rw [ai]
  have h1 : ¬i<n:=by omega
  have h2:n≤i:=by omega
  simp +contextual (maxSteps:=1000000) [ir155_0,ssL,↓ssM,aa,ssU,Go.Sx.LV.undef,Go.undef,ssR,h1,h2,contN]
 | k+1,x,i,[],hr,hn,hi,ha,hx=>by
  rw [ai]
  have h1:i<n:=by omega
  have h2 : ¬n≤i:=by omega
  have sz:=aY s
  have h3:s.length≤at'+i:=by simpa using hr
  have a1:IntKind.i64.wrap ((at':Int)+(i:Int))=((at'+i:Nat):Int):=by rw [wrap_i64 _ (by omega) (by omega)];omega
  generalize at'+i=q at*
  simp +contextual (maxSteps:=1000000) [ir155_0,ssL,↓ssM,aa,ssU,Go.Sx.LV.undef,Go.undef,ssR,h1,h2,contN,sz,a1,h3]
 | k+1,x,i,b::r,hr,hn,hi,ha,hx=>by
  rw [ai]
  have h1:i<n:=by omega
  have h2 : ¬n≤i:=by omega
  have sz:=aY s
  have h3:at'+i<s.length:=by
   rcases Nat.lt_or_ge (at'+i) s.length with h|h
   ·exact h
   ·rw [List.drop_of_length_le h] at hr;cases hr
  have h3' : ¬s.length≤at'+i:=by omega
  have hg:s[at'+i]?=some b:=by rw [←List.head?_drop,hr];rfl
  have hr':s.drop (at'+(i+1))=r:=by rw [←Nat.add_assoc,←List.drop_drop,hr];rfl
  have a1:IntKind.i64.wrap ((at':Int)+(i:Int))=((at'+i:Nat):Int):=by rw [wrap_i64 _ (by omega) (by omega)];omega
  have hx2:x<2^24:=Nat.lt_of_lt_of_le hx (Nat.pow_le_pow_right (by decide) (by omega))
  have hb:=b.toNat_lt
  have a2:IntKind.i64.wrap (64*(x:Int))=64*(x:Int):=wrap_i64 _ (by omega) (by omega)
  have a3:IntKind.i64.wrap (b.toNat:Int)=(b.toNat:Int):=wrap_i64 _ (by omega) (by omega)
  have a4:IntKind.i64.wrap (64*(x:Int)+(b.toNat:Int))=64*(x:Int)+(b.toNat:Int):=wrap_i64 _ (by omega) (by omega)
  have a6:IntKind.i64.wrap ((i:Int)+1)=((i+1:Nat):Int):=by rw [wrap_i64 _ (by omega) (by omega)];omega
  have c4:(!decide ((128:Int)≤b.toNat)||!decide ((b.toNat:Int)≤191))=!cont b:=by
   rw [Bool.eq_iff_iff]
   simp [cont]
   omega
  clear h3
  by_cases c3:cont b=true
  ·have:=bJ c3
   have a5:IntKind.i64.wrap (64*(x:Int)+(b.toNat:Int)-128)=((64*x+b.toNat-128:Nat):Int):=by rw [wrap_i64 _ (by omega) (by omega)];omega
   have hp:2^(6*(i+1))=2^(6*i)*64:=by rw [Nat.mul_add,Nat.pow_add]
   have ih:=mc s at' n least hs H nx k (64*x+b.toNat-128) (i+1) r hr' (by omega) hi ha (by omega)
   rw [contN,if_pos c3]
   clear hr' hr hx
   generalize at'+i=q at*
   generalize 64*x+b.toNat-128=x' at*
   generalize i+1=i' at*
   generalize IRC.loop ir155_0=LB at*
   simp +contextual (maxSteps:=1000000) [ir155_0,ssL,↓ssM,aa,ssU,Go.Sx.LV.undef,Go.undef,ssR,h1,h2,sz,a1,h3',hg,c3,c4,a2,a3,a4,a5,a6]
   simpa using ih
  ·rw [contN,if_neg c3]
   generalize at'+i=q at*
   generalize IRC.loop ir155_0=LB at*
   simp +contextual (maxSteps:=1000000) [ir155_0,ssL,↓ssM,aa,ssU,Go.Sx.LV.undef,Go.undef,ssR,h1,h2,sz,a1,h3',hg,c3,c4]
def sgnV (r:List UInt8):LV:=match sgn r with
 | some (x,k)=>.tuple [.int .i64 x,.int .i64 k,.bool true]
 | none=>.tuple [.int .i64 0,.int .i64 1,.bool false]
theorem j4 (least n:Nat) (least' n':Int) (h1:least'=least) (h2:n'=n) (y:Nat):
  iteK (!decide (least'≤(y:Int))||!decide ((y:Int)≤1114111)||decide ((55296:Int)≤y)&&!decide ((57344:Int)≤y))
   (some (LV.tuple [.int .i64 0,.int .i64 1,.bool false])) (some (.tuple [.int .i64 y,.int .i64 n',.bool true]))=
  some (match gud least y n with
   | some (x,k)=>.tuple [.int .i64 x,.int .i64 k,.bool true]
   | none=>.tuple [.int .i64 0,.int .i64 1,.bool false]):=by
 subst h1 h2
 have c:(!decide ((least:Int)≤(y:Int))||!decide ((y:Int)≤1114111)||decide ((55296:Int)≤y)&&!decide ((57344:Int)≤y))=decide (y<least∨1114111<y∨(55296≤y∧y<57344)):=by
  rw [Bool.eq_iff_iff]
  simp only [Bool.or_eq_true,Bool.and_eq_true,decide_eq_true_eq,Bool.not_eq_true',decide_eq_false_iff_not]
  omega
 rw [c]
 unfold gud
 by_cases h:y<least∨1114111<y∨(55296≤y∧y<57344)
 ·rw [if_pos h,decide_eq_true h];rfl
 ·rw [if_neg h,decide_eq_false h];rfl
theorem Bt (s:List UInt8) (q:Nat) (hs:s.length<2^31) (hq:q<s.length):Ψ 155 [.str ⟨s.toArray⟩,.int .i64 q] []=some (sgnV (s.drop q)):=by
 obtain ⟨a,r,hr⟩ : ∃ a r,s.drop q=a::r:=by
  cases h:s.drop q with
  | nil=>simp at h;omega
  | cons a r=>exact ⟨a,r,rfl⟩
 have sz:=aY s
 have hg:s[q]?=some a:=by rw [←List.head?_drop,hr];rfl
 have hr':s.drop (q+1)=r:=by rw [←List.drop_drop,hr];rfl
 have ha:=a.toNat_lt
 have a1:IntKind.i64.wrap (a.toNat:Int)=(a.toNat:Int):=wrap_i64 _ (by omega) (by omega)
 rw [hr,sgnV,zD]
 have lp:=fun n least H nx k x h1 h2 h3=>mc s q n least hs H nx k x 1 r hr' h1 h2 (by omega) h3
 clear hr hr' hq sz hs
 by_cases c1:a.toNat<128
 ·have f1 : ¬(128:Int)≤a.toNat:=by omega
  rw [if_pos c1]
  clear lp
  refine bf (ir:=ir155) (by kernel_rfl) ?_;simp +contextual (maxSteps:=1000000) [ir155,ssL,↓ssM,aa,ssU,Go.Sx.LV.undef,Go.undef,ssR,hg,a1,f1]
 ·rw [if_neg c1]
  by_cases c2:192≤a.toNat∧a.toNat<224
  ·rw [if_pos c2]
   have e0 : ¬a.toNat<128:=by omega
   have f1:(128:Int)≤a.toNat:=by omega
   have g1:(192:Int)≤a.toNat:=by omega
   have g2 : ¬(224:Int)≤a.toNat:=by omega
   have a2:IntKind.i64.wrap ((a.toNat:Int)-192)=((a.toNat-192:Nat):Int):=by rw [wrap_i64 _ (by omega) (by omega)];omega
   have l2:=fun H nx=>lp 2 128 H nx 1 (a.toNat-192) (by omega) (by omega) (by omega)
   have hy:=fun y=>gR 1 (a.toNat-192) 1 r y (by omega)
   generalize contN 1 (a.toNat-192) r=o at*
   generalize a.toNat-192=x at*
   clear lp
   rcases o with _|y
   ·simp only [Int.cast_ofNat_Int,Int.natCast_one] at l2
    refine bf (ir:=ir155) (by kernel_rfl) ?_;simp +contextual (maxSteps:=1000000) [ir155,ssL,↓ssM,aa,ssU,Go.Sx.LV.undef,Go.undef,ssR,hg,a1,a2,f1,g1,g2,l2,sgnV]
   ·simp only [Int.cast_ofNat_Int,Int.natCast_one] at l2
    refine bf (ir:=ir155) (by kernel_rfl) ?_;simp +contextual (maxSteps:=1000000) [ir155,ssL,↓ssM,aa,ssU,Go.Sx.LV.undef,Go.undef,ssR,hg,a1,a2,f1,g1,g2,l2]
    exact j4 128 2 _ _ rfl rfl y
  ·rw [if_neg c2]
   by_cases c3:224≤a.toNat∧a.toNat<240
   ·rw [if_pos c3]
    have e0 : ¬a.toNat<128:=by omega
    have f1:(128:Int)≤a.toNat:=by omega
    have k1:(192:Int)≤a.toNat:=by omega
    have g1:(224:Int)≤a.toNat:=by omega
    have g2 : ¬(240:Int)≤a.toNat:=by omega
    have a2:IntKind.i64.wrap ((a.toNat:Int)-224)=((a.toNat-224:Nat):Int):=by rw [wrap_i64 _ (by omega) (by omega)];omega
    have l2:=fun H nx=>lp 3 2048 H nx 2 (a.toNat-224) (by omega) (by omega) (by omega)
    have hy:=fun y=>gR 2 (a.toNat-224) 1 r y (by omega)
    generalize contN 2 (a.toNat-224) r=o at*
    generalize a.toNat-224=x at*
    clear lp
    rcases o with _|y
    ·simp only [Int.cast_ofNat_Int,Int.natCast_one] at l2
     refine bf (ir:=ir155) (by kernel_rfl) ?_;simp +contextual (maxSteps:=1000000) [ir155,ssL,↓ssM,aa,ssU,Go.Sx.LV.undef,Go.undef,ssR,hg,a1,a2,f1,g1,g2,k1,l2,sgnV]
    ·simp only [Int.cast_ofNat_Int,Int.natCast_one] at l2
     refine bf (ir:=ir155) (by kernel_rfl) ?_;simp +contextual (maxSteps:=1000000) [ir155,ssL,↓ssM,aa,ssU,Go.Sx.LV.undef,Go.undef,ssR,hg,a1,a2,f1,g1,g2,k1,l2]
     exact j4 2048 3 _ _ rfl rfl y
   ·rw [if_neg c3]
    by_cases c4:240≤a.toNat∧a.toNat<248
    ·rw [if_pos c4]
     have e0 : ¬a.toNat<128:=by omega
     have f1:(128:Int)≤a.toNat:=by omega
     have k1:(192:Int)≤a.toNat:=by omega
     have k2:(224:Int)≤a.toNat:=by omega
     have g1:(240:Int)≤a.toNat:=by omega
     have g2 : ¬(248:Int)≤a.toNat:=by omega
     have a2:IntKind.i64.wrap ((a.toNat:Int)-240)=((a.toNat-240:Nat):Int):=by rw [wrap_i64 _ (by omega) (by omega)];omega
     have l2:=fun H nx=>lp 4 65536 H nx 3 (a.toNat-240) (by omega) (by omega) (by omega)
     have hy:=fun y=>gR 3 (a.toNat-240) 1 r y (by omega)
     generalize contN 3 (a.toNat-240) r=o at*
     generalize a.toNat-240=x at*
     clear lp
     rcases o with _|y
     ·simp only [Int.cast_ofNat_Int,Int.natCast_one] at l2
      refine bf (ir:=ir155) (by kernel_rfl) ?_;simp +contextual (maxSteps:=1000000) [ir155,ssL,↓ssM,aa,ssU,Go.Sx.LV.undef,Go.undef,ssR,hg,a1,a2,f1,g1,g2,k1,k2,l2,sgnV]
     ·simp only [Int.cast_ofNat_Int,Int.natCast_one] at l2
      refine bf (ir:=ir155) (by kernel_rfl) ?_;simp +contextual (maxSteps:=1000000) [ir155,ssL,↓ssM,aa,ssU,Go.Sx.LV.undef,Go.undef,ssR,hg,a1,a2,f1,g1,g2,k1,k2,l2]
      exact j4 65536 4 _ _ rfl rfl y
    ·rw [if_neg c4]
     clear lp
     have f1:(128:Int)≤a.toNat:=by omega
     by_cases c5:192≤a.toNat
     ·have k1:(192:Int)≤a.toNat:=by omega
      have k2:(224:Int)≤a.toNat:=by omega
      have k3:(240:Int)≤a.toNat:=by omega
      have k4:(248:Int)≤a.toNat:=by omega
      refine bf (ir:=ir155) (by kernel_rfl) ?_;simp +contextual (maxSteps:=1000000) [ir155,ssL,↓ssM,aa,ssU,Go.Sx.LV.undef,Go.undef,ssR,hg,a1,f1,k1,k2,k3,k4]
     ·have k1 : ¬(192:Int)≤a.toNat:=by omega
      have k2 : ¬(224:Int)≤a.toNat:=by omega
      have k3 : ¬(240:Int)≤a.toNat:=by omega
      refine bf (ir:=ir155) (by kernel_rfl) ?_;simp +contextual (maxSteps:=1000000) [ir155,ssL,↓ssM,aa,ssU,Go.Sx.LV.undef,Go.undef,ssR,hg,a1,f1,k1,k2,k3]
def chk:Nat→List UInt8→Bool
 | _,[]=>true
 | 0,_::_=>false
 | m+1,a::r=>match sgn (a::r) with
  | none=>false
  | some (x,k)=>if x<32∨x=127 then false else chk m ((a::r).drop k)
theorem lY (s:List UInt8) (hs:s.length<2^30) (H:Heap) (nx:Nat) : ∀ (m q:Nat),s.length-q≤m→q≤s.length →
  run ⟨Ω,gG,H,nx⟩ (.loop ir127_0) ⟨[(0,.str ⟨s.toArray⟩),(5,.int .i64 q)],⟨[],[]⟩⟩=
   if chk m (s.drop q) then some (.exit 0,⟨[],⟨[],[]⟩⟩) else some (.ret,⟨[(4,.int .i64 7)],⟨[],[]⟩⟩):=fun m q hm hq=>by
 have sz:=aY s
 rw [ai]
 cases hr:s.drop q with
 | nil=>
  have h1:s.length≤q:=by simpa using hr
  have h2 : ¬q<s.length:=by omega
  rw [show chk m []=true by cases m<;>rfl]
  simp +contextual (maxSteps:=1000000) [ir127_0,ssL,↓ssM,aa,ssU,Go.Sx.LV.undef,Go.undef,ssR,sz,h1,h2]
 | cons a r=>
  have h2:q<s.length:=by
   rcases Nat.lt_or_ge q s.length with h|h
   ·exact h
   ·rw [List.drop_of_length_le h] at hr;cases hr
  have h1 : ¬s.length≤q:=by omega
  obtain ⟨m,rfl⟩ : ∃ m',m=m'+1:=⟨m-1,by omega⟩
  have sg:=Bt s q (by omega) h2
  rw [hr,sgnV] at sg
  rw [chk]
  cases hg:sgn (a::r) with
  | none=>
   rw [hg] at sg
   generalize IRC.loop ir127_0=LB
   simp +contextual (maxSteps:=1000000) [ir127_0,ssL,↓ssM,aa,ssU,Go.Sx.LV.undef,Go.undef,ssR,sz,h1,h2,sg]
  | some xk=>
   obtain ⟨x,k⟩:=xk
   rw [hg] at sg
   simp only at sg ⊢
   have hp:=sX hg
   rw [←hr,List.length_drop] at hp
   have hd:(a::r).drop k=s.drop (q+k):=by rw [←hr,List.drop_drop]
   have ih:=lY s hs H nx m (q+k) (by omega) (by omega)
   simp only [hd]
   have a1:IntKind.i64.wrap ((q:Int)+(k:Int))=((q+k:Nat):Int):=by rw [wrap_i64 _ (by omega) (by omega)];omega
   have c1:(!decide ((32:Int)≤(x:Int))||decide ((x:Int)=127))=decide (x<32∨x=127):=by
    rw [Bool.eq_iff_iff]
    simp
    omega
   generalize q+k=q' at*
   generalize IRC.loop ir127_0=LB at*
   by_cases c2:x<32∨x=127
   ·have c3:(!decide ((32:Int)≤(x:Int))||decide ((x:Int)=127))=true:=by rw [c1,decide_eq_true c2]
    rw [if_pos c2]
    simp +contextual (maxSteps:=1000000) [ir127_0,ssL,↓ssM,aa,ssU,Go.Sx.LV.undef,Go.undef,ssR,sz,h1,h2,sg,c3]
   ·have c3:(!decide ((32:Int)≤(x:Int))||decide ((x:Int)=127))=false:=by rw [c1,decide_eq_false c2]
    rw [if_neg c2]
    simp +contextual (maxSteps:=1000000) [ir127_0,ssL,↓ssM,aa,ssU,Go.Sx.LV.undef,Go.undef,ssR,sz,h1,h2,sg,c3,a1,ih]
termination_by m=>m
theorem sH (s:List UInt8) (most:Nat) (hs:s.length<2^30) (hm:most<2^30):Ψ 127 [.str ⟨s.toArray⟩,.int .i64 most] []=some (.int .i64 (if most<s.length then 9 else if chk s.length s then 0 else 7)):=by
 have sz:=aY s
 have lp:=fun H nx=>lY s hs H nx s.length 0 (by omega) (by omega)
 simp only [List.drop_zero,Int.natCast_zero] at lp
 by_cases h1:most<s.length
 ·have h2 : ¬s.length≤most:=by omega
  rw [if_pos h1]
  clear lp
  refine bf (ir:=ir127) (by kernel_rfl) ?_;simp +contextual (maxSteps:=1000000) [ir127,ssL,↓ssM,aa,ssU,Go.Sx.LV.undef,Go.undef,ssR,sz,h1,h2]
 ·have h2:s.length≤most:=by omega
  rw [if_neg h1]
  by_cases h3:chk s.length s=true
  ·simp only [h3,if_true] at lp ⊢
   refine bf (ir:=ir127) (by kernel_rfl) ?_;simp +contextual (maxSteps:=1000000) [ir127,ssL,↓ssM,aa,ssU,Go.Sx.LV.undef,Go.undef,ssR,sz,h1,h2,lp]
  ·simp only [h3,if_false,Bool.false_eq_true] at lp ⊢
   refine bf (ir:=ir127) (by kernel_rfl) ?_;simp +contextual (maxSteps:=1000000) [ir127,ssL,↓ssM,aa,ssU,Go.Sx.LV.undef,Go.undef,ssR,sz,h1,h2,lp]
end Go.Proofs.YtoeblkipfdnnlaaGreatDoor
end

section
namespace Go.Proofs.YtoeblkipfdnnlaaGreatDoor
open Go Go.Sx
set_option maxHeartbeats 1000000
theorem qJ (l:List UInt8) : ∀ (k i:Nat) (r:List UInt8),l.length-i=k→ByteArray.toList.loop ⟨l.toArray⟩ i r=r.reverse++l.drop i
 | 0,i,r,h=>by
  rw [ByteArray.toList.loop]
  have hs:(⟨l.toArray⟩:ByteArray).size=l.length:=by simp [ByteArray.size]
  rw [if_neg (by rw [hs];omega),List.drop_of_length_le (by omega),List.append_nil]
 | k+1,i,r,h=>by
  rw [ByteArray.toList.loop]
  have hs:(⟨l.toArray⟩:ByteArray).size=l.length:=by simp [ByteArray.size]
  rw [if_pos (by rw [hs];omega),qJ l k (i+1) _ (by omega),List.drop_eq_getElem_cons (show i<l.length by omega)]
  have hg:(⟨l.toArray⟩:ByteArray).get! i=l[i]:=by
   simp only [ByteArray.get!]
   rw [Array.getElem!_eq_getD,Array.getD_eq_getD_getElem?]
   simp [show i<l.length by omega]
  rw [hg];simp
theorem jp (l:List UInt8):(⟨l.toArray⟩:ByteArray).toList=l:=by
 rw [ByteArray.toList,qJ l _ 0 [] rfl];simp
theorem bB (l:List UInt8) (i j:Nat):(⟨l.toArray⟩:ByteArray).extract i j=⟨((l.take j).drop i).toArray⟩:=by
 apply ByteArray.ext
 simp [ByteArray.data_extract,List.drop_take]
theorem yR (a b:List UInt8):(⟨a.toArray⟩:ByteArray)++⟨b.toArray⟩=⟨(a++b).toArray⟩:=by
 apply ByteArray.ext
 simp
def stripS:List UInt8→List UInt8
 | []=>[]
 | a::r=>if a.toNat=32 then stripS r else a::r
def stripE (l:List UInt8):List UInt8:=(stripS l.reverse).reverse
def dbl:List UInt8→Option Nat
 | a::b::r=>if a.toNat=32∧b.toNat=32 then some 0 else (dbl (b::r)).map (· + 1)
 | _=>none
def foldR:Nat→List UInt8→List UInt8
 | 0,l=>l
 | m+1,l=>match dbl (stripE (stripS l)) with
  | none=>stripE (stripS l)
  | some i=>foldR m ((stripE (stripS l)).take i++(stripE (stripS l)).drop (i+1))
theorem cj : ∀ l:List UInt8,(stripS l).length≤l.length
 | []=>Nat.le_refl _
 | a::r=>by rw [stripS];split;exact Nat.le_succ_of_le (cj r);exact Nat.le_refl _
theorem me : ∀ l:List UInt8,(stripS l).length=l.length→stripS l=l
 | [],_=>rfl
 | a::r,h=>by
  rw [stripS] at h ⊢
  split
  ·rename_i h1
   rw [if_pos h1] at h
   have:=cj r
   simp at h;omega
  ·rfl
theorem fR (l:List UInt8):(stripE l).length≤l.length:=by
 have:=cj l.reverse
 rw [List.length_reverse] at this
 rwa [stripE,List.length_reverse]
theorem uo (l:List UInt8) (h:(stripE l).length=l.length):stripE l=l:=by
 rw [stripE,List.length_reverse,←@List.length_reverse _ l] at h
 rw [stripE,me _ h,List.reverse_reverse]
theorem pJ : ∀ {l:List UInt8} {i:Nat},dbl l=some i→i+1<l.length
 | [],i,h=>by cases h
 | [_],i,h=>by cases h
 | a::b::r,i,h=>by
  rw [dbl] at h
  split at h
  ·cases h;simp
  ·cases hd:dbl (b::r) with
   | none=>rw [hd] at h;cases h
   | some j=>
    rw [hd] at h
    have:=pJ hd
    simp at h this ⊢
    omega
theorem j5 : ∀ (m:Nat) (l:List UInt8),(foldR m l).length≤(stripE (stripS l)).length∨m=0
 | 0,l=>.inr rfl
 | m+1,l=>by
  left
  rw [foldR]
  split
  ·exact Nat.le_refl _
  ·rename_i i hi
   have:=pJ hi
   have hl:((stripE (stripS l)).take i++(stripE (stripS l)).drop (i+1)).length≤(stripE (stripS l)).length:=by simp;omega
   rcases j5 m ((stripE (stripS l)).take i++(stripE (stripS l)).drop (i+1)) with h|h
   ·have h1:=fR (stripS ((stripE (stripS l)).take i++(stripE (stripS l)).drop (i+1)))
    have h2:=cj ((stripE (stripS l)).take i++(stripE (stripS l)).drop (i+1))
    omega
   ·subst h;exact hl
theorem vo {m:Nat} {l:List UInt8} (hm:0<m) (h:foldR m l=l):stripS l=l∧stripE l=l∧dbl l=none:=by
 have h1:=cj l
 have h2:=fR (stripS l)
 have h3:=(j5 m l).resolve_right (by omega)
 rw [h] at h3
 have e1:=me l (by omega)
 rw [e1] at h2 h3
 have e2:=uo l (by omega)
 refine ⟨e1,e2,?_⟩
 obtain ⟨m,rfl⟩ : ∃ k,m=k+1:=⟨m-1,by omega⟩
 rw [foldR,e1,e2] at h
 cases hd:dbl l with
 | none=>rfl
 | some i=>
  rw [hd] at h
  simp only at h
  have:=pJ hd
  have hl:(l.take i++l.drop (i+1)).length<l.length:=by simp;omega
  rcases j5 m (l.take i++l.drop (i+1)) with h4|h4
  ·have h5:=fR (stripS (l.take i++l.drop (i+1)))
   have h6:=cj (l.take i++l.drop (i+1))
   rw [h] at h4
   omega
  ·subst h4
   rw [foldR] at h
   rw [h] at hl
   omega
theorem rE (H:Heap) (nx:Nat) : ∀ (l:List UInt8),l.length<2^30 →
  run ⟨Ω,gG,H,nx⟩ (.loop ir128_2) ⟨[(0,.str ⟨l.toArray⟩)],⟨[],[]⟩⟩=some (.exit 0,⟨[(0,.str ⟨(stripS l).toArray⟩)],⟨[],[]⟩⟩)
 | [],h=>by
  rw [ai]
  have sz:(⟨#[]⟩:ByteArray).size=0:=rfl
  simp +contextual (maxSteps:=1000000) [ir128_2,ssL,↓ssM,aa,ssU,Go.Sx.LV.undef,Go.undef,ssR,stripS,sz]
 | a::r,h=>by
  rw [ai,stripS]
  have sz:=aY (a::r)
  have hg : ∀ h:0<(a::r).length,(a::r)[0]'h=a:=fun _=>rfl
  have ih:=rE H nx r (by simp at h;omega)
  have e1:((a::r).take (a::r).length).drop 1=r:=by rw [List.take_length];rfl
  have e2:=bB (a::r) 1 (a::r).length
  rw [e1] at e2
  have h0:0<(a::r).length:=by simp
  have h1:1≤(a::r).length:=by simp
  have h2 : ¬(a::r).length=0:=by simp
  have h3 : ¬(a::r).length≤0:=by simp
  generalize a::r=l at*
  generalize IRC.loop ir128_2=LB at*
  by_cases c:a.toNat=32
  ·have c':(a.toNat:Int)=32:=by omega
   rw [if_pos c]
   simp +contextual (maxSteps:=1000000) [ir128_2,ssL,↓ssM,aa,ssU,Go.Sx.LV.undef,Go.undef,ssR,sz,hg,c,c',e2,h0,h1,h2,h3,ih]
  ·have c' : ¬(a.toNat:Int)=32:=by omega
   rw [if_neg c]
   simp +contextual (maxSteps:=1000000) [ir128_2,ssL,↓ssM,aa,ssU,Go.Sx.LV.undef,Go.undef,ssR,sz,hg,c,c',h0,h1,h2,h3]
theorem ry (H:Heap) (nx:Nat) : ∀ (r:List UInt8),r.length<2^30 →
  run ⟨Ω,gG,H,nx⟩ (.loop ir128_1) ⟨[(0,.str ⟨r.reverse.toArray⟩)],⟨[],[]⟩⟩=some (.exit 2,⟨[(0,.str ⟨(stripS r).reverse.toArray⟩)],⟨[],[]⟩⟩)
 | [],h=>by
  rw [ai]
  have sz:(⟨#[]⟩:ByteArray).size=0:=rfl
  simp +contextual (maxSteps:=1000000) [ir128_1,ssL,↓ssM,aa,ssU,Go.Sx.LV.undef,Go.undef,ssR,stripS,sz]
 | a::r,h=>by
  rw [ai,stripS]
  have sz:=aY (a::r).reverse
  have hl:(a::r).reverse.length=r.length+1:=by simp
  rw [hl] at sz
  have hg:(a::r).reverse[r.length]?=some a:=by simp
  have ih:=ry H nx r (by simp at h;omega)
  have e2:=bB (a::r).reverse 0 r.length
  have e1:((a::r).reverse.take r.length).drop 0=r.reverse:=by simp
  rw [e1] at e2
  have a1:IntKind.i64.wrap (((r.length+1:Nat):Int)-1)=(r.length:Int):=by
   simp at h
   rw [wrap_i64 _ (by omega) (by omega)];omega
  have h0 : ¬r.length+1=0:=by omega
  have h3:r.length≤r.length+1:=by omega
  have h4 : ¬((r.length+1:Nat):Int)≤0:=by omega
  have hg' : ∀ h,(a::r).reverse.toArray[r.length]'h=a:=fun h=>by simp
  generalize hl':(a::r).reverse=l at*
  generalize r.length+1=n1 at*
  generalize r.length=n at*
  clear e1 hl
  generalize IRC.loop ir128_1=LB at*
  by_cases c:a.toNat=32
  ·have c':(a.toNat:Int)=32:=by omega
   rw [if_pos c]
   simp +contextual (maxSteps:=1000000) [ir128_1,ssL,↓ssM,aa,ssU,Go.Sx.LV.undef,Go.undef,ssR,sz,hg,c,c',e2,h0,h3,h4,a1,ih]
  ·have c' : ¬(a.toNat:Int)=32:=by omega
   rw [if_neg c,hl']
   simp +contextual (maxSteps:=1000000) [ir128_1,ssL,↓ssM,aa,ssU,Go.Sx.LV.undef,Go.undef,ssR,sz,hg,c,c',h0,h3,h4,a1]
theorem uF (a b:List UInt8) (ha:a.length<2^31) (hb:b.length<2^31):binS .add ⟨a.toArray⟩ ⟨b.toArray⟩=some (.string ⟨(a++b).toArray⟩):=by
 rw [binS,if_neg,yR]
 rw [aY,aY,show IntKind.i64.max=9223372036854775807 by decide]
 omega
theorem rx (H:Heap) (nx m:Nat) (s:List UInt8) (hs:s.length<2^30) (ih0 : ∀ t:List UInt8,t.length<s.length→Ψ 128 [.str ⟨t.toArray⟩] []=some (.str ⟨(foldR m t).toArray⟩)) : ∀ (k i:Nat),s.length-i=k→i≤s.length →
  run ⟨Ω,gG,H,nx⟩ (.loop ir128_0) ⟨[(0,.str ⟨s.toArray⟩),(3,.int .i64 i)],⟨[],[]⟩⟩=match dbl (s.drop i) with
   | none=>some (.exit 4,⟨[(0,.str ⟨s.toArray⟩)],⟨[],[]⟩⟩)
   | some j=>some (.ret,⟨[(2,.str ⟨(foldR m (s.take (i+j)++s.drop (i+j+1))).toArray⟩)],⟨[],[]⟩⟩):=fun k i hk hi=>by
 have sz:=aY s
 have a1:IntKind.i64.wrap ((i:Int)+1)=((i+1:Nat):Int):=by rw [wrap_i64 _ (by omega) (by omega)];omega
 rw [ai]
 match hr:s.drop i with
 | []=>
  have h0:s.length≤i:=by simpa using hr
  have h1:s.length≤i+1:=by omega
  clear h0
  have h2 : ¬i+1<s.length:=by omega
  rw [dbl]
  ·generalize i+1=i' at*
   simp +contextual (maxSteps:=1000000) [ir128_0,ssL,↓ssM,aa,ssU,Go.Sx.LV.undef,Go.undef,ssR,sz,a1,h1,h2]
  ·intros;simp_all
 | [a]=>
  have h1:s.length≤i+1:=by have:=congrArg List.length hr;simp at this;omega
  have h2 : ¬i+1<s.length:=by omega
  rw [dbl]
  ·generalize i+1=i' at*
   simp +contextual (maxSteps:=1000000) [ir128_0,ssL,↓ssM,aa,ssU,Go.Sx.LV.undef,Go.undef,ssR,sz,a1,h1,h2]
  ·intros;simp_all
 | a::b::r=>
  have h2:i+1<s.length:=by have:=congrArg List.length hr;simp at this;omega
  have h1 : ¬s.length≤i+1:=by omega
  have hga : ∀ h,s[i]'h=a:=fun h=>by
   have:s[i]?=some a:=by rw [←List.head?_drop,hr];rfl
   exact (List.getElem?_eq_some_iff.1 this).2
  have h5:i<s.length:=by omega
  have hr1:s.drop (i+1)=b::r:=by rw [←List.drop_drop,hr];rfl
  have hgb : ∀ h,s[i+1]'h=b:=fun h=>by
   have:s[i+1]?=some b:=by rw [←List.head?_drop,hr1];rfl
   exact (List.getElem?_eq_some_iff.1 this).2
  have ih:=rx H nx m s hs ih0 (k-1) (i+1) (by omega) (by omega)
  rw [hr1] at ih
  rw [dbl]
  by_cases c:a.toNat=32∧b.toNat=32
  ·obtain ⟨ca,cb⟩:=c
   have ca':(a.toNat:Int)=32:=by omega
   have cb':(b.toNat:Int)=32:=by omega
   have e1:=bB s 0 i
   rw [List.drop_zero] at e1
   have e2:=bB s (i+1) s.length
   rw [List.take_length] at e2
   have bs:=uF (s.take i) (s.drop (i+1)) (by simp;omega) (by simp;omega)
   have i0:=ih0 (s.take i++s.drop (i+1)) (by simp;omega)
   rw [if_pos ⟨ca,cb⟩]
   simp only [Nat.add_zero]
   generalize s.take i++s.drop (i+1)=t at*
   generalize s.take i=x1 at*
   have h3:i≤s.length:=hi
   have h4:i+1≤s.length:=by omega
   clear ih hr1 hr
   generalize s.drop (i+1)=x2 at*
   generalize i+1=i' at*
   generalize IRC.loop ir128_0=LB at*
   simp +contextual (maxSteps:=1000000) [ir128_0,ssL,↓ssM,aa,ssU,Go.Sx.LV.undef,Go.undef,ssR,sz,a1,h1,h2,h3,h4,h5,hga,hgb,ca,cb,ca',cb',e1,e2,bs,i0]
  ·rw [if_neg c]
   have eq:(match (dbl (b::r)).map (· + 1) with
     | none=>some (Ex.exit 4,(⟨[(0,.str ⟨s.toArray⟩)],⟨[],[]⟩⟩:St))
     | some j=>some (.ret,⟨[(2,.str ⟨(foldR m (s.take (i+j)++s.drop (i+j+1))).toArray⟩)],⟨[],[]⟩⟩))=(match dbl (b::r) with
     | none=>some (Ex.exit 4,(⟨[(0,.str ⟨s.toArray⟩)],⟨[],[]⟩⟩:St))
     | some j=>some (.ret,⟨[(2,.str ⟨(foldR m (s.take (i+1+j)++s.drop (i+1+j+1))).toArray⟩)],⟨[],[]⟩⟩)):=by
    cases dbl (b::r) with
    | none=>rfl
    | some j=>simp only [Option.map_some];rw [show i+(j+1)=i+1+j by omega]
   rw [eq,←ih]
   have c':(decide ((a.toNat:Int)=32)&&decide ((b.toNat:Int)=32))=false:=by
    rw [Bool.and_eq_false_iff,decide_eq_false_iff_not,decide_eq_false_iff_not]
    omega
   clear ih hr1 hr eq
   generalize i+1=i' at*
   generalize IRC.loop ir128_0=LB at*
   simp +contextual (maxSteps:=1000000) [ir128_0,ssL,↓ssM,aa,ssU,Go.Sx.LV.undef,Go.undef,ssR,sz,a1,h1,h2,h5,hga,hgb,c']
termination_by k=>k
theorem wa : ∀ (m:Nat) (l:List UInt8),l.length<m→l.length<2^30→Ψ 128 [.str ⟨l.toArray⟩] []=some (.str ⟨(foldR m l).toArray⟩)
 | 0,l,h,h2=>absurd h (Nat.not_lt_zero _)
 | m+1,l,h,h2=>by
  have l1:=cj l
  have l2:=fR (stripS l)
  have p2:=fun H nx=>rE H nx l h2
  have p1:=fun H nx=>ry H nx (stripS l).reverse (by rw [List.length_reverse];omega)
  rw [List.reverse_reverse,show (stripS (stripS l).reverse).reverse=stripE (stripS l) from rfl] at p1
  have p0:=fun H nx=>rx H nx m (stripE (stripS l)) (by omega) (fun t ht=>wa m t (by omega) (by omega)) _ 0 rfl (by omega)
  rw [foldR]
  simp only [List.drop_zero,Int.natCast_zero,Nat.zero_add] at p0
  generalize stripE (stripS l)=t at*
  generalize stripS l=u at*
  cases hd:dbl t with
  | none=>
   rw [hd] at p0
   refine bf (ir:=ir128) (by kernel_rfl) ?_;simp +contextual (maxSteps:=1000000) [ir128,ssL,↓ssM,aa,ssU,Go.Sx.LV.undef,Go.undef,ssR,p2,p1,p0]
  | some j=>
   rw [hd] at p0
   refine bf (ir:=ir128) (by kernel_rfl) ?_;simp +contextual (maxSteps:=1000000) [ir128,ssL,↓ssM,aa,ssU,Go.Sx.LV.undef,Go.undef,ssR,p2,p1,p0]
end Go.Proofs.YtoeblkipfdnnlaaGreatDoor
end

section
namespace Go.Proofs.YtoeblkipfdnnlaaGreatDoor
open Go Go.Sx
set_option maxHeartbeats 1000000
theorem gN (a b:List UInt8):binS .eql ⟨a.toArray⟩ ⟨b.toArray⟩=some (.bool (decide (a=b))):=by
 rw [binS,jp,jp]
 congr 2
 rw [Bool.eq_iff_iff];simp
theorem nI (a b:List UInt8):binS .neq ⟨a.toArray⟩ ⟨b.toArray⟩=some (.bool (!decide (a=b))):=by
 rw [binS,jp,jp]
 congr 3
 rw [Bool.eq_iff_iff];simp
def errR (s:List UInt8):Int:=if 40<s.length then 9 else if chk s.length s=false then 7 else if s=[]∨foldR (s.length+1) s≠s then 7 else 0
theorem wg (s:List UInt8) (hs:s.length<2^30):Ψ 93 [.p (.agg (fldP s))] []=some (.int .i64 (errR s)):=by
 have k0:Ψ 127 [.str ⟨#[]⟩,.int .i64 12] []=some (.int .i64 0):=by
  have:=sH [] 12 (by decide) (by decide)
  simpa [chk] using this
 have k1:=sH s 40 hs (by decide)
 have fd:=wa (s.length+1) s (by omega) hs
 have e1:=gN s []
 have e2:=nI (foldR (s.length+1) s) s
 simp only [show ([]:List UInt8).toArray = #[] from rfl,Int.cast_ofNat_Int] at e1 k1
 unfold errR
 by_cases h1:40<s.length
 ·rw [if_pos h1] at k1 ⊢
  clear fd e1 e2
  refine bf (ir:=ir93) (by kernel_rfl) ?_;simp +contextual (maxSteps:=1000000) [ir93,ssL,↓ssM,aa,ssU,Go.Sx.LV.undef,Go.undef,ssR,k0,k1]
 ·rw [if_neg h1] at k1 ⊢
  cases h2:chk s.length s with
  | false=>
   rw [h2] at k1
   rw [if_pos rfl]
   simp only [Bool.false_eq_true,if_false] at k1
   clear fd e1 e2
   refine bf (ir:=ir93) (by kernel_rfl) ?_;simp +contextual (maxSteps:=1000000) [ir93,ssL,↓ssM,aa,ssU,Go.Sx.LV.undef,Go.undef,ssR,k0,k1]
  | true=>
   rw [h2] at k1
   rw [if_neg (by decide)]
   simp only [if_true] at k1
   generalize foldR (s.length+1) s=t at*
   by_cases h3:s=[]
   ·rw [decide_eq_true h3] at e1
    rw [if_pos (.inl h3)]
    clear h3
    refine bf (ir:=ir93) (by kernel_rfl) ?_;simp +contextual (maxSteps:=1000000) [ir93,ssL,↓ssM,aa,ssU,Go.Sx.LV.undef,Go.undef,ssR,k0,k1,e1]
   ·simp only [h3,decide_false] at e1
    by_cases h4:t=s
    ·rw [if_neg (by simp [h3,h4])]
     simp only [h4,decide_true,Bool.not_true] at e2 fd
     refine bf (ir:=ir93) (by kernel_rfl) ?_;simp +contextual (maxSteps:=1000000) [ir93,ssL,↓ssM,aa,ssU,Go.Sx.LV.undef,Go.undef,ssR,k0,k1,e1,e2,fd]
    ·rw [if_pos (.inr h4)]
     simp only [h4,decide_false,Bool.not_false] at e2
     refine bf (ir:=ir93) (by kernel_rfl) ?_;simp +contextual (maxSteps:=1000000) [ir93,ssL,↓ssM,aa,ssU,Go.Sx.LV.undef,Go.undef,ssR,k0,k1,e1,e2,fd]
structure Nam (s:List UInt8):Prop where
 l:s.length≤40
 c:chk s.length s=true
 n:s≠[]
 f:stripS s=s∧stripE s=s∧dbl s=none
theorem vG {s:List UInt8} (h:errR s=0):Nam s:=by
 unfold errR at h
 split at h
 ·cases h
 split at h
 ·cases h
 split at h
 ·cases h
 rename_i h1 h2 h3
 rw [not_or] at h3
 exact ⟨by omega,by simpa using h2,h3.1,vo (Nat.succ_pos _) (Decidable.not_not.1 h3.2)⟩
end Go.Proofs.YtoeblkipfdnnlaaGreatDoor
end

section
namespace Go.Proofs.YtoeblkipfdnnlaaGreatDoor
open Go Go.Sx
set_option maxHeartbeats 1000000
theorem Au (x:Nat) (h : ¬(x<32∨x=127)):Ψ 159 [.int .i32 x] []=some (.bool true):=by
 have h1:(32:Int)≤x:=by omega
 have h2 : ¬(x:Int)=127:=by omega
 refine bf (ir:=ir159) (by kernel_rfl) ?_;simp +contextual (maxSteps:=1000000) [ir159,ssL,↓ssM,aa,ssU,Go.Sx.LV.undef,Go.undef,ssR,h1,h2]
theorem xp (x:Nat) (h : ¬(x<32∨x=127)):Ψ 158 [.int .i32 x] []=some (.bool false):=by
 have p:=Au x h
 refine bf (ir:=ir158) (by kernel_rfl) ?_;simp +contextual (maxSteps:=1000000) [ir158,ssL,↓ssM,aa,ssU,Go.Sx.LV.undef,Go.undef,ssR,p]
theorem tN:Ψ 131 [.int .i64 1] []=some (.str ⟨#[110,97,109,101]⟩):=by
 refine bf (ir:=ir131) (by kernel_rfl) ?_;simp +contextual (maxSteps:=1000000) [ir131,ssL,↓ssM,aa,ssU,Go.Sx.LV.undef,Go.undef,ssR]
theorem xK (s:List UInt8) (a:UInt8) (hs:s.length<2^30) (ha:a.toNat≠32):Ψ 220 [.str ⟨(s++[a]).toArray⟩,.str ⟨#[32]⟩] []=some (.bool false):=by
 have sz:=aY (s++[a])
 have sz2:(⟨#[32]⟩:ByteArray).size=1:=rfl
 have hl:(s++[a]).length=s.length+1:=by simp
 rw [hl] at sz
 have e2:=bB (s++[a]) s.length (s.length+1)
 have e1:((s++[a]).take (s.length+1)).drop s.length=[a]:=by rw [←hl,List.take_length];simp
 rw [e1] at e2
 have a1:IntKind.i64.wrap (((s.length+1:Nat):Int)-1)=(s.length:Int):=by rw [wrap_i64 _ (by omega) (by omega)];omega
 have bq:binS .eql ⟨[a].toArray⟩ ⟨#[32]⟩=some (.bool (decide ([a]=[32]))):=gN [a] [32]
 rw [decide_eq_false (by intro h;simp at h;subst h;exact ha rfl)] at bq
 have h0:1≤s.length+1:=by omega
 have h3:s.length≤s.length+1:=by omega
 have h4:(1:Int)≤((s.length+1:Nat):Int):=by omega
 generalize (s++[a]).toArray=l at*
 generalize [a].toArray=l1 at*
 generalize s.length+1=n1 at*
 generalize s.length=n at*
 clear hl e1
 refine bf (ir:=ir220) (by kernel_rfl) ?_;simp +contextual (maxSteps:=1000000) [ir220,ssL,↓ssM,aa,ssU,Go.Sx.LV.undef,Go.undef,ssR,sz,sz2,e2,a1,bq,h0,h3,h4]
theorem ur (s:List UInt8) (a:UInt8) (hs:s.length<2^30) (ha:a.toNat≠32):Ψ 186 [.str ⟨(s++[a]).toArray⟩,.str ⟨#[32]⟩] []=some (.str ⟨(s++[a]).toArray⟩):=by
 have h:=xK s a hs ha
 generalize (s++[a]).toArray=l at*
 refine bf (ir:=ir186) (by kernel_rfl) ?_;simp +contextual (maxSteps:=1000000) [ir186,ssL,↓ssM,aa,ssU,Go.Sx.LV.undef,Go.undef,ssR,h]
theorem wQ (s:List UInt8) (a:UInt8) (hs:s.length<2^30) (ha:a.toNat≠32):Ψ 160 [.str ⟨(s++[a]).toArray⟩,.str ⟨#[32]⟩] []=some (.str ⟨(s++[a]).toArray⟩):=by
 have h:=ur s a hs ha
 generalize (s++[a]).toArray=l at*
 refine bf (ir:=ir160) (by kernel_rfl) ?_;simp +contextual (maxSteps:=1000000) [ir160,ssL,↓ssM,aa,ssU,Go.Sx.LV.undef,Go.undef,ssR,h]
theorem uS {a b:UInt8} {r:List UInt8} (h:dbl (a::b::r)=none) : ¬(a.toNat=32∧b.toNat=32)∧dbl (b::r)=none:=by
 rw [dbl] at h
 split at h
 ·cases h
 ·rename_i h1
  refine ⟨h1,?_⟩
  cases hd:dbl (b::r) with
  | none=>rfl
  | some j=>rw [hd] at h;cases h
abbrev pfS (nx i:Nat) (s:List UInt8) (fl bl:Bool) (J:List (Ob)) (ex:Bool):St:=
 ⟨[(3,.arr (nx+J.length) 0 i 1 i ex),(4,.bool bl),(8,sB fl s),(9,.int .i64 s.length),(10,.int .i64 i)],⟨[],J++[some (.cells (byt (s.take i)))]⟩⟩
def jnk (J:List (Ob)):Prop:=J=[]∨J=[none]∨∃ l,J=[some (.cells l)]
theorem pZ (s:List UInt8) (fl ex:Bool) (hs:s.length<2^30) (H:Heap) (nx i:Nat) (p b:UInt8) (hb:s[i]?=some b) (hc : ¬(p.toNat=32∧b.toNat=32)) (hi:0<i) (J:List (Ob)) (hJ:jnk J):
  ∃ J',jnk J'∧run ⟨Ω,gG,H,nx⟩ ir133_0 (pfS nx i s fl (decide (p.toNat=32)) J ex)=some (.normal,pfS nx (i+1) s fl (decide (b.toNat=32)) J' false):=by
 have h1:i<s.length:=(List.getElem?_eq_some_iff.1 hb).1
 have h2 : ¬s.length≤i:=by omega
 have hg : ∀ h,(byt s)[i]'h = .int .u8 b.toNat:=fun h=>(List.getElem?_eq_some_iff.1 (bE hb)).2
 have a1:IntKind.i64.wrap ((i:Int)+1)=(i:Int)+1:=wrap_i64 _ (by omega) (by omega)
 have c1:(!decide (b.toNat=32)||!decide (p.toNat=32))=true:=by
  rw [Bool.or_eq_true,Bool.not_eq_true',Bool.not_eq_true',decide_eq_false_iff_not,decide_eq_false_iff_not]
  omega
 have c2:decide ((b.toNat:Int)=32)=decide (b.toNat=32):=decide_eq_decide.2 (by omega)
 have q41 : ¬1099511627776<i+1:=by omega
 have tl:(byt (s.take i)).length=i:=by rw [ay,List.length_take];omega
 have i1:ids.idsL (byt (s.take i))=[]:=aK _
 have r1 : ∀ n' m',ren.go n' m' (byt (s.take i))=some (byt (s.take i)):=fun n' m'=>aM _ _ _
 have t1:List.take i (byt (s.take i))=byt (s.take i):=List.take_of_length_le (by rw [tl];exact Nat.le_refl _)
 have e1:byt (s.take i)++[.p (.s (.int .u8 b.toNat))]=byt (s.take (i+1)):=by
  rw [List.take_add_one,hb,bQ];rfl
 simp only [pfS]
 generalize byt (s.take i)=X at*
 generalize byt (s.take (i+1))=Y at*
 cases ex with
 | true=>
  refine ⟨[some (.cells X)],.inr (.inr ⟨X,rfl⟩),?_⟩
  rcases hJ with rfl|rfl|⟨l,rfl⟩ <;>
  simp +contextual (maxSteps:=100000) [ir133_0,ssL,↓ssM,aa,ssU,Go.Sx.LV.undef,Go.undef,ssR,h1,h2,hg,aV,av,a1,c1,c2,q41,tl,i1,r1,t1,e1,ay,av,aG,aK,aM,aU,aX,aF,aJ]
 | false=>
  refine ⟨[none],.inr (.inl rfl),?_⟩
  rcases hJ with rfl|rfl|⟨l,rfl⟩ <;>
  simp +contextual (maxSteps:=100000) [ir133_0,ssL,↓ssM,aa,ssU,Go.Sx.LV.undef,Go.undef,ssR,h1,h2,hg,aV,av,a1,c1,c2,q41,tl,i1,r1,t1,e1,ay,av,aG,aK,aM,aU,aX,aF,aJ]
theorem kg (s:List UInt8) (fl:Bool) (hs:s.length<2^30) (H:Heap) (nx:Nat) : ∀ (r:List UInt8) (i:Nat) (p:UInt8) (J:List (Ob)) (ex:Bool),s.drop i=r→0<i→dbl (p::r)=none→jnk J→i≤s.length →
  ∃ ex',run ⟨Ω,gG,H,nx⟩ (.loop ir133_0) (pfS nx i s fl (decide (p.toNat=32)) J ex)=some (.exit 0,⟨[(3,.arr nx 0 s.length 1 s.length ex')],⟨[],[some (.cells (byt s))]⟩⟩)
 | [],i,p,J,ex,hr,hi,hd,hJ,hle=>by
  have h1:s.length≤i:=by simpa using hr
  obtain rfl:i=s.length:=by omega
  refine ⟨ex,?_⟩
  rw [ai]
  have h2 : ¬s.length<s.length:=by omega
  have i1:ids.idsL (byt s)=[]:=aK _
  have r1 : ∀ n' m',ren.go n' m' (byt s)=some (byt s):=fun n' m'=>aM _ _ _
  have t1:s.take s.length=s:=List.take_length
  rcases hJ with rfl|rfl|⟨l,rfl⟩ <;>
  simp +contextual (maxSteps:=100000) [ir133_0,ssL,↓ssM,aa,ssU,Go.Sx.LV.undef,Go.undef,ssR,h1,h2,aV,av,i1,r1,t1,ay,av,aG,aK,aM,aU,aX,aF,aJ]
 | b::r,i,p,J,ex,hr,hi,hd,hJ,hle=>by
  have hb:s[i]?=some b:=by rw [←List.head?_drop,hr];rfl
  have hr':s.drop (i+1)=r:=by rw [←List.drop_drop,hr];rfl
  have h1:i<s.length:=(List.getElem?_eq_some_iff.1 hb).1
  obtain ⟨hc,hd'⟩:=uS hd
  obtain ⟨J',hJ',st⟩:=pZ s fl ex hs H nx i p b hb hc hi J hJ
  obtain ⟨ex',ih⟩:=kg s fl hs H nx r (i+1) b J' false hr' (Nat.succ_pos i) hd' hJ' h1
  exact ⟨ex',by rw [ai,st,aE,aB,ih]⟩
theorem oV (s:List UInt8) (a:UInt8) (r:List UInt8) (hr:s=a::r) (ha:a.toNat≠32) (fl:Bool) (hs:s.length<2^30) (H:Heap) (nx:Nat):
  run ⟨Ω,gG,H,nx⟩ ir133_0 ⟨[(3,.p (.s (.slice none 0 0))),(4,.bool true),(8,sB fl s),(9,.int .i64 s.length),(10,.int .i64 0)],⟨[],[]⟩⟩=some (.normal,pfS nx 1 s fl (decide (a.toNat=32)) [] false):=by
 have h1:0<s.length:=by rw [hr];simp
 have h2 : ¬s.length≤0:=by omega
 have h3 : ¬s.length=0:=by omega
 have hg : ∀ h,(byt s)[0]'h = .int .u8 a.toNat:=fun h=>by subst hr;rfl
 have a1:IntKind.i64.wrap 1=1:=by decide
 have c1:decide ((a.toNat:Int)=32)=false:=decide_eq_false (by omega)
 have c2 : ¬a.toNat=32:=ha
 have c3 : ¬(a.toNat:Int)=32:=by omega
 have e1:byt (s.take 1)=[.p (.s (.int .u8 a.toNat))]:=by subst hr;rfl
 have hne : ¬s=[]:=by rw [hr];simp
 simp only [pfS,e1]
 clear hr
 simp +contextual (maxSteps:=100000) [ir133_0,ssL,↓ssM,aa,ssU,Go.Sx.LV.undef,Go.undef,ssR,h1,h2,h3,hg,aV,av,a1,c1,c2,c3,hne,ay,av,aG,aK,aM,aU,aX,aF,aJ]
theorem kC {a:UInt8} {r:List UInt8} (h:stripS (a::r)=a::r):a.toNat≠32:=fun c=>by
 rw [stripS,if_pos c] at h
 have:=cj r
 rw [h] at this
 simp only [List.length_cons] at this
 omega
theorem Ao (s:List UInt8) (h:Nam s):Ψ 133 [.str ⟨s.toArray⟩] []=some (.str ⟨s.toArray⟩):=by
 obtain ⟨hl,-,hn,hS,hE,hd⟩:=h
 have hs:s.length<2^30:=by omega
 obtain ⟨a,r,hr⟩:=List.exists_cons_of_ne_nil hn
 have ha:a.toNat≠32:=kC (r:=r) (by rw [←hr];exact hS)
 have lp : ∀ fl H nx,∃ ex',run ⟨Ω,gG,H,nx⟩ (.loop ir133_0) ⟨[(3,.p (.s (.slice none 0 0))),(4,.bool true),(8,sB fl s),(9,.int .i64 s.length),(10,.int .i64 0)],⟨[],[]⟩⟩=some (.exit 0,⟨[(3,.arr nx 0 s.length 1 s.length ex')],⟨[],[some (.cells (byt s))]⟩⟩):=fun fl H nx=>by
  obtain ⟨ex',lp⟩:=kg s fl hs H nx r 1 a [] false (by rw [hr];rfl) (by decide) (by rw [←hr];exact hd) (.inl rfl) (by rw [hr];simp)
  exact ⟨ex',by rw [ai,oV s a r hr ha fl hs,aE,aB,lp]⟩
 obtain ⟨q,z,hq⟩ : ∃ q z,s=q++[z]:=⟨s.dropLast,s.getLast hn,(List.dropLast_concat_getLast hn).symm⟩
 have hz:z.toNat≠32:=by
  rw [stripE,hq,List.reverse_append] at hE
  have h2:=congrArg List.reverse hE
  rw [List.reverse_reverse,List.reverse_append] at h2
  exact kC h2
 have tr:Ψ 160 [.str ⟨s.toArray⟩,.str ⟨#[32]⟩] []=some (.str ⟨s.toArray⟩):=by
  rw [hq];exact wQ q z (by have:=congrArg List.length hq;simp at this;omega) hz
 obtain ⟨ex',lp'⟩:=lp false (hpL []) 0
 have sz:=aY s
 have h3 : ¬s.length=0:=by rw [hr];simp
 have bb:=cw s
 have dp:List.map (fun x=>PV.s (.int .u8 (UInt8.toNat x:Int))) s=bytP s:=rfl
 clear hS hE hq hr lp
 refine bf (ir:=ir133) (by kernel_rfl) ?_;simp +contextual (maxSteps:=1000000) [ir133,ssL,↓ssM,aa,ssU,Go.Sx.LV.undef,Go.undef,ssR,sz,h3,hn,lp',tr,bb,ay,av,aG,aK,aM,aU,aX,aF,aJ,dp,aV,av]
end Go.Proofs.YtoeblkipfdnnlaaGreatDoor
end

section
namespace Go.Proofs.YtoeblkipfdnnlaaGreatDoor
open Go Go.Sx
set_option maxHeartbeats 1000000
theorem oz (s:List UInt8) (hs:s.length<2^30) (H:Heap) (nx:Nat) : ∀ (m q:Nat),chk m (s.drop q)=true→q≤s.length →
  run ⟨Ω,gG,H,nx⟩ (.loop ir219_0) ⟨[(1,.fn 158 [] []),(2,.bool true),(10,.ref nx 0)],⟨[],[some (.iter ⟨s.toArray⟩ q)]⟩⟩=some (.exit 0,⟨[],⟨[],[some (.iter ⟨s.toArray⟩ s.length)]⟩⟩):=fun m q hc hq=>by
 have sz:=aY s
 rw [ai]
 cases hr:s.drop q with
 | nil=>
  have h1:s.length≤q:=by simpa using hr
  obtain rfl:q=s.length:=by omega
  have h2 : ¬s.length<s.length:=by omega
  simp +contextual (maxSteps:=1000000) [ir219_0,ssL,↓ssM,aa,ssU,Go.Sx.LV.undef,Go.undef,ssR,sz,h1,h2]
 | cons a r=>
  have h2:q<s.length:=by
   rcases Nat.lt_or_ge q s.length with h|h
   ·exact h
   ·rw [List.drop_of_length_le h] at hr;cases hr
  have h1 : ¬s.length≤q:=by omega
  have dc:=xw s q h2
  rw [hr] at hc dc
  obtain ⟨m,rfl⟩ : ∃ m',m=m'+1:=by
   cases m with
   | zero=>rw [chk] at hc;cases hc
   | succ m'=>exact ⟨m',rfl⟩
  rw [chk] at hc
  cases hg:sgn (a::r) with
  | none=>rw [hg] at hc;cases hc
  | some xk=>
   obtain ⟨x,k⟩:=xk
   rw [hg] at hc dc
   simp only at hc dc
   split at hc
   ·cases hc
   ·rename_i h3
    have hp:=sX hg
    rw [←hr,List.length_drop] at hp
    rw [←hr,List.drop_drop] at hc
    have ih:=oz s hs H nx m (q+k) hc (by omega)
    have ck:=xp x h3
    generalize IRC.loop ir219_0=LB at*
    have d1:(Utf8.decode ⟨s.toArray⟩ q).1=x:=by rw [dc]
    have d2:(Utf8.decode ⟨s.toArray⟩ q).2=k:=by rw [dc]
    simp +contextual (maxSteps:=1000000) [ir219_0,ssL,↓ssM,aa,ssU,Go.Sx.LV.undef,Go.undef,ssR,sz,h1,h2,d1,d2,ck]
    exact ih
termination_by m=>m
theorem BD (s:List UInt8) (hs:s.length<2^30) (hc:chk s.length s=true):Ψ 219 [.str ⟨s.toArray⟩,.fn 158 [] [],.bool true] []=some (.int .i64 (-1)):=by
 have lp:=fun H nx=>oz s hs H nx s.length 0 hc (Nat.zero_le _)
 clear hc
 refine bf (ir:=ir219) (by kernel_rfl) ?_;simp +contextual (maxSteps:=1000000) [ir219,ssL,↓ssM,aa,ssU,Go.Sx.LV.undef,Go.undef,ssR,lp]
theorem A5 (s:List UInt8) (hs:s.length<2^30) (hc:chk s.length s=true):Ψ 185 [.str ⟨s.toArray⟩,.fn 158 [] []] []=some (.int .i64 (-1)):=by
 have h:=BD s hs hc
 refine bf (ir:=ir185) (by kernel_rfl) ?_;simp +contextual (maxSteps:=1000000) [ir185,ssL,↓ssM,aa,ssU,Go.Sx.LV.undef,Go.undef,ssR,h]
theorem A0 (s:List UInt8) (hs:s.length<2^30) (hc:chk s.length s=true):Ψ 157 [.str ⟨s.toArray⟩,.fn 158 [] []] []=some (.bool false):=by
 have h:=A5 s hs hc
 refine bf (ir:=ir157) (by kernel_rfl) ?_;simp +contextual (maxSteps:=1000000) [ir157,ssL,↓ssM,aa,ssU,Go.Sx.LV.undef,Go.undef,ssR,h]
end Go.Proofs.YtoeblkipfdnnlaaGreatDoor
end

section
namespace Go.Proofs.YtoeblkipfdnnlaaGreatDoor
open Go Go.Sx
set_option maxHeartbeats 1000000
theorem sv (s:List UInt8) (most:Nat) (hs:s.length≤most) (hm:most<2^30) (hc:chk s.length s=true) (hv:Ψ 156 [.str ⟨s.toArray⟩] []=some (.bool true)):
  Ψ 132 [.str ⟨s.toArray⟩,.int .i64 most] []=some (.int .i64 0):=by
 have sz:=aY s
 have h:=A0 s (by omega) hc
 refine bf (ir:=ir132) (by kernel_rfl) ?_;simp +contextual (maxSteps:=1000000) [ir132,ssL,↓ssM,aa,ssU,Go.Sx.LV.undef,Go.undef,ssR,sz,h,hv,hs]
theorem ym (s:List UInt8) (h:Nam s) (hv0:Ψ 156 [.str ⟨#[]⟩] []=some (.bool true)) (hv:Ψ 156 [.str ⟨s.toArray⟩] []=some (.bool true)):
  Ψ 94 [.p (.agg (fldP s))] []=some (.int .i64 0):=by
 have k0:Ψ 132 [.str ⟨#[]⟩,.int .i64 12] []=some (.int .i64 0):=sv [] 12 (by decide) (by decide) rfl hv0
 have k1:Ψ 132 [.str ⟨s.toArray⟩,.int .i64 40] []=some (.int .i64 0):=sv s 40 h.l (by decide) h.c hv
 have fd:=Ao s h
 have kn:=tN
 have e1:binS .eql ⟨s.toArray⟩ ⟨#[]⟩=some (.bool (decide (s=[]))):=gN s []
 rw [decide_eq_false h.n] at e1
 have e2:=nI s s
 rw [decide_eq_true rfl,Bool.not_true] at e2
 have e3:binS .eql ⟨#[110,97,109,101]⟩ ⟨#[]⟩=some (.bool false):=gN [110,97,109,101] []
 clear hv hv0 h
 refine bf (ir:=ir94) (by kernel_rfl) ?_;simp +contextual (maxSteps:=1000000) [ir94,ssL,↓ssM,aa,ssU,Go.Sx.LV.undef,Go.undef,ssR,k0,k1,fd,kn,e1,e2,e3]
end Go.Proofs.YtoeblkipfdnnlaaGreatDoor
end

section
namespace Go.Proofs.YtoeblkipfdnnlaaGreatDoor
open Go Go.Sx
set_option maxHeartbeats 1000000
theorem di {w k:Nat} (i:Nat) (h:w &&& 9259542123273814144=0) (hm:(9259542123273814144:Nat).testBit i=true):w.testBit i=false:=by
 have:=congrArg (fun n=>n.testBit i) h
 simpa [Nat.testBit_and,hm] using this
theorem eJ {a:Nat} (ha:a<256) (h:a.testBit 7=false):a<128:=by
 rcases Nat.lt_or_ge a 128 with h1|h1
 ·exact h1
 ·exfalso
  have:a.testBit 7=true:=by
   rw [Nat.testBit,Nat.shiftRight_eq_div_pow]
   have:a/2^7=1:=by omega
   rw [this];decide
  rw [this] at h;cases h
theorem gH (a k:Nat):(a*2^k).testBit (k+7)=a.testBit 7:=by
 rw [←Nat.shiftLeft_eq,Nat.testBit_shiftLeft]
 simp
theorem Bz (a b c d e f g h:UInt8) (r:List UInt8) : ∃ w:Nat,w<2^64∧Ψ 184 [.str ⟨(a::b::c::d::e::f::g::h::r).toArray⟩] []=some (.int .u64 w) ∧
  (w &&& 9259542123273814144=0→a.toNat<128∧b.toNat<128∧c.toNat<128∧d.toNat<128∧e.toNat<128∧f.toNat<128∧g.toNat<128∧h.toNat<128):=by
 have l0:=a.toNat_lt
 have z0:=bW a.toNat (by omega)
 have l1:=b.toNat_lt
 have z1:=bW b.toNat (by omega)
 have l2:=c.toNat_lt
 have z2:=bW c.toNat (by omega)
 have l3:=d.toNat_lt
 have z3:=bW d.toNat (by omega)
 have l4:=e.toNat_lt
 have z4:=bW e.toNat (by omega)
 have l5:=f.toNat_lt
 have z5:=bW f.toNat (by omega)
 have l6:=g.toNat_lt
 have z6:=bW g.toNat (by omega)
 have l7:=h.toNat_lt
 have z7:=bW h.toNat (by omega)
 have s1:=et b.toNat 8 (by omega)
 rw [Nat.mod_eq_of_lt (by omega)] at s1
 have b1:b.toNat*2^8<2^64:=by omega
 have t1:=gH b.toNat 8
 generalize b.toNat*2^8=x1 at*
 have s2:=et c.toNat 16 (by omega)
 rw [Nat.mod_eq_of_lt (by omega)] at s2
 have b2:c.toNat*2^16<2^64:=by omega
 have t2:=gH c.toNat 16
 generalize c.toNat*2^16=x2 at*
 have s3:=et d.toNat 24 (by omega)
 rw [Nat.mod_eq_of_lt (by omega)] at s3
 have b3:d.toNat*2^24<2^64:=by omega
 have t3:=gH d.toNat 24
 generalize d.toNat*2^24=x3 at*
 have s4:=et e.toNat 32 (by omega)
 rw [Nat.mod_eq_of_lt (by omega)] at s4
 have b4:e.toNat*2^32<2^64:=by omega
 have t4:=gH e.toNat 32
 generalize e.toNat*2^32=x4 at*
 have s5:=et f.toNat 40 (by omega)
 rw [Nat.mod_eq_of_lt (by omega)] at s5
 have b5:f.toNat*2^40<2^64:=by omega
 have t5:=gH f.toNat 40
 generalize f.toNat*2^40=x5 at*
 have s6:=et g.toNat 48 (by omega)
 rw [Nat.mod_eq_of_lt (by omega)] at s6
 have b6:g.toNat*2^48<2^64:=by omega
 have t6:=gH g.toNat 48
 generalize g.toNat*2^48=x6 at*
 have s7:=et h.toNat 56 (by omega)
 rw [Nat.mod_eq_of_lt (by omega)] at s7
 have b7:h.toNat*2^56<2^64:=by omega
 have t7:=gH h.toNat 56
 generalize h.toNat*2^56=x7 at*
 have o1:=cZ a.toNat x1 (by omega) b1
 have p1:=Nat.or_lt_two_pow (show a.toNat<2^64 by omega) b1
 generalize hy1:a.toNat ||| x1=y1 at*
 have o2:=cZ y1 x2 p1 b2
 have p2:=Nat.or_lt_two_pow p1 b2
 generalize hy2:y1 ||| x2=y2 at*
 have o3:=cZ y2 x3 p2 b3
 have p3:=Nat.or_lt_two_pow p2 b3
 generalize hy3:y2 ||| x3=y3 at*
 have o4:=cZ y3 x4 p3 b4
 have p4:=Nat.or_lt_two_pow p3 b4
 generalize hy4:y3 ||| x4=y4 at*
 have o5:=cZ y4 x5 p4 b5
 have p5:=Nat.or_lt_two_pow p4 b5
 generalize hy5:y4 ||| x5=y5 at*
 have o6:=cZ y5 x6 p5 b6
 have p6:=Nat.or_lt_two_pow p5 b6
 generalize hy6:y5 ||| x6=y6 at*
 have o7:=cZ y6 x7 p6 b7
 have p7:=Nat.or_lt_two_pow p6 b7
 generalize hy7:y6 ||| x7=y7 at*
 simp only [Int.cast_ofNat_Int] at s1 s2 s3 s4 s5 s6 s7
 refine ⟨y7,p7,?_,fun h => ?_⟩
 ·clear l0 l1 l2 l3 l4 l5 l6 l7 b1 b2 b3 b4 b5 b6 b7 t1 t2 t3 t4 t5 t6 t7 p1 p2 p3 p4 p5 p6 p7 hy1 hy2 hy3 hy4 hy5 hy6 hy7
  refine bf (ir:=ir184) (by kernel_rfl) ?_;simp +contextual (maxSteps:=1000000) [ir184,ssL,↓ssM,aa,ssU,Go.Sx.LV.undef,Go.undef,ssR,z0,z1,z2,z3,z4,z5,z6,z7,s1,s2,s3,s4,s5,s6,s7,o1,o2,o3,o4,o5,o6,o7]
 ·subst hy1 hy2 hy3 hy4 hy5 hy6 hy7
  have g0:=di (k:=0) 7 h (by decide)
  simp only [Nat.testBit_or,Bool.or_eq_false_iff] at g0
  have g1:=di (k:=0) 15 h (by decide)
  simp only [Nat.testBit_or,Bool.or_eq_false_iff] at g1
  have g2:=di (k:=0) 23 h (by decide)
  simp only [Nat.testBit_or,Bool.or_eq_false_iff] at g2
  have g3:=di (k:=0) 31 h (by decide)
  simp only [Nat.testBit_or,Bool.or_eq_false_iff] at g3
  have g4:=di (k:=0) 39 h (by decide)
  simp only [Nat.testBit_or,Bool.or_eq_false_iff] at g4
  have g5:=di (k:=0) 47 h (by decide)
  simp only [Nat.testBit_or,Bool.or_eq_false_iff] at g5
  have g6:=di (k:=0) 55 h (by decide)
  simp only [Nat.testBit_or,Bool.or_eq_false_iff] at g6
  have g7:=di (k:=0) 63 h (by decide)
  simp only [Nat.testBit_or,Bool.or_eq_false_iff] at g7
  simp only [Nat.reduceAdd] at t1 t2 t3 t4 t5 t6 t7
  exact ⟨eJ (by omega) (g0.1.1.1.1.1.1.1),eJ (by omega) (t1.symm.trans (g1.1.1.1.1.1.1.2)),eJ (by omega) (t2.symm.trans (g2.1.1.1.1.1.2)),eJ (by omega) (t3.symm.trans (g3.1.1.1.1.2)),eJ (by omega) (t4.symm.trans (g4.1.1.1.2)),eJ (by omega) (t5.symm.trans (g5.1.1.2)),eJ (by omega) (t6.symm.trans (g6.1.2)),eJ (by omega) (t7.symm.trans (g7.2))⟩
end Go.Proofs.YtoeblkipfdnnlaaGreatDoor
end

section
namespace Go.Proofs.YtoeblkipfdnnlaaGreatDoor
open Go Go.Sx
set_option maxHeartbeats 1000000
theorem mw (x y:Nat) (hx:x<2^64) (hy:y<2^64):binI .and .u64 x y=some (.int .u64 (x &&& y:Nat)):=by
 have:binI .and .u64 (x:Int) (y:Int)=some (.int .u64 (IntKind.u64.wrap (BitVec.ofInt 64 (x:Int) &&& BitVec.ofInt 64 (y:Int)).toNat)):=rfl
 rw [this,BitVec.ofInt_natCast,BitVec.ofInt_natCast,BitVec.toNat_and,BitVec.toNat_ofNat,BitVec.toNat_ofNat,Nat.mod_eq_of_lt hx,Nat.mod_eq_of_lt hy,bW _ (Nat.lt_of_le_of_lt Nat.and_le_left hx)]
def good (l:List UInt8):Prop:=∃ m,valN m l=true
theorem vu:good []:=⟨0,rfl⟩
theorem ov : ∀ (m:Nat) (l:List UInt8),chk m l=true→good l
 | m,[],h=>vu
 | 0,a::r,h=>by cases h
 | m+1,a::r,h=>by
  rw [chk] at h
  cases hg:sgn (a::r) with
  | none=>rw [hg] at h;cases h
  | some xk=>
   obtain ⟨x,k⟩:=xk
   rw [hg] at h
   simp only at h
   split at h
   ·cases h
   ·obtain ⟨n,hn⟩:=ov m _ h
    exact ⟨n+1,by rw [valN,hg];exact hn⟩
theorem ox {a:UInt8} {r:List UInt8} (h:good (a::r)) : ∃ x k,sgn (a::r)=some (x,k)∧good ((a::r).drop k):=by
 obtain ⟨m,hm⟩:=h
 cases m with
 | zero=>cases hm
 | succ m=>
  rw [valN] at hm
  cases hg:sgn (a::r) with
  | none=>rw [hg] at hm;cases hm
  | some xk=>
   obtain ⟨x,k⟩:=xk
   rw [hg] at hm
   exact ⟨x,k,rfl,m,hm⟩
theorem ow {a:UInt8} {r:List UInt8} (h:good (a::r)) (ha:a.toNat<128):good r:=by
 obtain ⟨x,k,hs,hg⟩:=ox h
 rw [zD,if_pos ha] at hs
 simp only [Option.some.injEq,Prod.mk.injEq] at hs
 obtain ⟨-,rfl⟩:=hs
 exact hg
theorem lG : ∀ (k:Nat) (l:List UInt8),good l→(∀ i,i<k→(l.getD i 0).toNat<128)→good (l.drop k)
 | 0,l,h,_=>h
 | k+1,[],h,_=>by simpa using h
 | k+1,a::r,h,hl=>lG k r (ow h (hl 0 (by omega))) fun i hi=>hl (i+1) (by omega)
theorem kG (l:List UInt8) (h8:8≤l.length) : ∃ w:Nat,w<2^64∧Ψ 184 [.str ⟨l.toArray⟩] []=some (.int .u64 w)∧(w &&& 9259542123273814144=0→∀ i,i<8→(l.getD i 0).toNat<128):=by
 match l,h8 with
 | a::b::c::d::e::f::g::h::r,_=>
  obtain ⟨w,hw,e1,e2⟩:=Bz a b c d e f g h r
  refine ⟨w,hw,e1,fun hz i hi => ?_⟩
  obtain ⟨h0,h1,h2,h3,h4,h5,h6,h7⟩:=e2 hz
  match i,hi with
  | 0,_=>exact h0
  | 1,_=>exact h1
  | 2,_=>exact h2
  | 3,_=>exact h3
  | 4,_=>exact h4
  | 5,_=>exact h5
  | 6,_=>exact h6
  | 7,_=>exact h7
end Go.Proofs.YtoeblkipfdnnlaaGreatDoor
end

section
namespace Go.Proofs.YtoeblkipfdnnlaaGreatDoor
open Go Go.Sx
set_option maxHeartbeats 1000000
theorem yk {x y M:Nat} (h:(x ||| y) &&& M=0):x &&& M=0∧y &&& M=0:=by
 have:(x &&& M) ||| (y &&& M)=0:=by rw [←Nat.and_or_distrib_right];exact h
 exact Nat.or_eq_zero_iff.1 this
theorem vs0 (H:Heap) (nx:Nat) : ∀ (m:Nat) (l:List UInt8),l.length≤m→l.length<2^30 →
  ∃ j,run ⟨Ω,gG,H,nx⟩ (.loop ir156_0) ⟨[(0,.str ⟨l.toArray⟩)],⟨[],[]⟩⟩=some (.exit 2,⟨[(0,.str ⟨(l.drop j).toArray⟩)],⟨[],[]⟩⟩)∧∀ i,i<j→(l.getD i 0).toNat<128:=fun m l hm hl=>by
 have sz:=aY l
 by_cases h:l.length≤32
 ·refine ⟨0,?_,fun i hi=>absurd hi (Nat.not_lt_zero _)⟩
  rw [ai,List.drop_zero]
  have h1 : ¬32<l.length:=by omega
  have hI:(l.length:Int)≤32:=by omega
  simp +contextual (maxSteps:=100000) [ir156_0,ssL,↓ssM,aa,ssU,Go.Sx.LV.undef,Go.undef,ssR,sz,h,h1,hI]
 ·obtain ⟨w0,b0,q0,g0⟩:=kG l (by omega)
  obtain ⟨w1,b1,q1,g1⟩:=kG (l.drop 8) (by simp;omega)
  obtain ⟨w2,b2,q2,g2⟩:=kG (l.drop 16) (by simp;omega)
  obtain ⟨w3,b3,q3,g3⟩:=kG (l.drop 24) (by simp;omega)
  have x1:=bB l 8 l.length
  have x2:=bB l 16 l.length
  have x3:=bB l 24 l.length
  have x4:=bB l 32 l.length
  rw [List.take_length] at x1 x2 x3 x4
  have o1:=cZ w0 w1 b0 b1
  have o2:=cZ w2 w3 b2 b3
  have o3:=cZ (w0 ||| w1) (w2 ||| w3) (Nat.or_lt_two_pow b0 b1) (Nat.or_lt_two_pow b2 b3)
  have a1:=mw ((w0 ||| w1) ||| (w2 ||| w3)) 9259542123273814144 (Nat.or_lt_two_pow (Nat.or_lt_two_pow b0 b1) (Nat.or_lt_two_pow b2 b3)) (by decide)
  have hz:((w0 ||| w1) ||| (w2 ||| w3)) &&& 9259542123273814144=0→∀ i,i<32→(l.getD i 0).toNat<128:=fun hz i hi=>by
   obtain ⟨z1,z2⟩:=yk hz
   obtain ⟨z3,z4⟩:=yk z1
   obtain ⟨z5,z6⟩:=yk z2
   rcases Nat.lt_or_ge i 8 with c|c
   ·exact g0 z3 i c
   rcases Nat.lt_or_ge i 16 with c2|c2
   ·have:=g1 z4 (i-8) (by omega)
    simpa [List.getD_eq_getElem?_getD,List.getElem?_drop,show 8+(i-8)=i by omega] using this
   rcases Nat.lt_or_ge i 24 with c3|c3
   ·have:=g2 z5 (i-16) (by omega)
    simpa [List.getD_eq_getElem?_getD,List.getElem?_drop,show 16+(i-16)=i by omega] using this
   ·have:=g3 z6 (i-24) (by omega)
    simpa [List.getD_eq_getElem?_getD,List.getElem?_drop,show 24+(i-24)=i by omega] using this
  have h1:32<l.length:=by omega
  have hI : ¬(l.length:Int)≤32:=by omega
  have h8:8≤l.length:=by omega
  have h16:16≤l.length:=by omega
  have h24:24≤l.length:=by omega
  have h32:32≤l.length:=by omega
  clear g0 g1 g2 g3 b0 b1 b2 b3
  simp only [Int.cast_ofNat_Int] at a1
  generalize w0 ||| w1=y1 at*
  generalize w2 ||| w3=y2 at*
  generalize y1 ||| y2=y3 at*
  generalize y3 &&& 9259542123273814144=y4 at*
  by_cases c:y4=0
  ·have c':(y4:Int)=0:=by omega
   obtain ⟨j,e,hj⟩:=vs0 H nx (m-32) (l.drop 32) (by simp;omega) (by simp;omega)
   refine ⟨32+j,?_,fun i hi => ?_⟩
   ·rw [ai,←List.drop_drop,←e]
    generalize IRC.loop ir156_0=LB at*
    clear e hj
    simp +contextual (maxSteps:=100000) [ir156_0,ssL,↓ssM,aa,ssU,Go.Sx.LV.undef,Go.undef,ssR,sz,h,h1,hI,h8,h16,h24,h32,q0,q1,q2,q3,x1,x2,x3,x4,o1,o2,o3,a1,c,c']
   ·rcases Nat.lt_or_ge i 32 with c2|c2
    ·exact hz c i c2
    ·have:=hj (i-32) (by omega)
     simpa [List.getD_eq_getElem?_getD,List.getElem?_drop,show 32+(i-32)=i by omega] using this
  ·have c' : ¬(y4:Int)=0:=by omega
   refine ⟨0,?_,fun i hi=>absurd hi (Nat.not_lt_zero _)⟩
   rw [ai,List.drop_zero]
   generalize IRC.loop ir156_0=LB at*
   simp +contextual (maxSteps:=100000) [ir156_0,ssL,↓ssM,aa,ssU,Go.Sx.LV.undef,Go.undef,ssR,sz,h,h1,hI,h8,h16,h24,h32,q0,q1,q2,q3,x1,x2,x3,x4,o1,o2,o3,a1,c,c']
termination_by m=>m
decreasing_by omega
end Go.Proofs.YtoeblkipfdnnlaaGreatDoor
end

section
namespace Go.Proofs.YtoeblkipfdnnlaaGreatDoor
open Go Go.Sx
set_option maxHeartbeats 1000000
def accL:List Nat:=[128,191,160,191,128,159,144,191,128,143,0,0,0,0,0,0,0,0,0,0,0,0,0,0,0,0,0,0,0,0,0,0]
def tabOk (a:Nat):Bool:=decide (a<128)||(match acc a with
 | some (n,lo,hi)=>decide (firstN a%8=n)&&decide (accL[2*(firstN a/16)]?=some lo)&&decide (accL[2*(firstN a/16)+1]?=some hi)&&decide (2≤n∧n≤4)
 | none=>decide (firstN a%8=1))
theorem yS:(List.range 256).all tabOk=true:=by decide +kernel
theorem nv {a:Nat} (h:a<256) (h2:128≤a) {n lo hi:Nat} (e:acc a=some (n,lo,hi)):
  firstN a%8=n∧accL[2*(firstN a/16)]?=some lo∧accL[2*(firstN a/16)+1]?=some hi∧2≤n∧n≤4:=by
 have:=List.all_eq_true.1 yS a (List.mem_range.2 h)
 unfold tabOk at this
 rw [e,decide_eq_false (by omega)] at this
 simp only [Bool.false_or,Bool.and_eq_true,decide_eq_true_eq] at this
 exact ⟨this.1.1.1,this.1.1.2,this.1.2,this.2⟩
theorem wV (H:Heap) (nx:Nat):run ⟨Ω,gG,H,nx⟩ (.loop ir156_1) ⟨[(0,.str ⟨#[]⟩)],⟨[],[]⟩⟩=some (.exit 0,⟨[],⟨[],[]⟩⟩):=by
 have sz:(⟨#[]⟩:ByteArray).size=0:=rfl
 rw [ai]
 simp +contextual (maxSteps:=100000) [ir156_1,ssL,↓ssM,aa,ssU,Go.Sx.LV.undef,Go.undef,ssR,sz]
theorem yU:Ψ 156 [.str ⟨#[]⟩] []=some (.bool true):=by
 have h:=wV
 refine bf (ir:=ir156) (by kernel_rfl) ?_;simp +contextual (maxSteps:=1000000) [ir156,ssL,↓ssM,aa,ssU,Go.Sx.LV.undef,Go.undef,ssR,h]
end Go.Proofs.YtoeblkipfdnnlaaGreatDoor
end

section
namespace Go.Proofs.YtoeblkipfdnnlaaGreatDoor
open Go Go.Sx
set_option maxHeartbeats 1000000
theorem AN (H:Heap) (nx:Nat) (a:UInt8) (r:List UInt8) (ha:a.toNat<128) (hl:r.length<2^29):
  ∃ j,run ⟨Ω,gG,H,nx⟩ ir156_1 ⟨[(0,.str ⟨(a::r).toArray⟩)],⟨[],[]⟩⟩=some (.normal,⟨[(0,.str ⟨(r.drop j).toArray⟩)],⟨[],[]⟩⟩)∧∀ i,i<j→(r.getD i 0).toNat<128:=by
 have sz:=aY (a::r)
 have sz2:=aY r
 have hL:(a::r).length=r.length+1:=rfl
 have hg : ∀ h:0<(a::r).length,(a::r)[0]'h=a:=fun _=>rfl
 have e1:=bB (a::r) 1 (a::r).length
 rw [List.take_length,List.drop_one,List.tail_cons] at e1
 have f1 : ¬(128:Int)≤a.toNat:=by omega
 have h0:0<(a::r).length:=by rw [hL];omega
 have h1:1≤(a::r).length:=h0
 have hI : ¬((a::r).length:Int)≤0:=by omega
 have h2 : ¬(a::r).length=0:=by omega
 generalize a::r=l at*
 by_cases c8:r.length≤8
 ·have cI:(r.length:Int)≤8:=by omega
  have c8' : ¬8<r.length:=by omega
  refine ⟨0,?_,fun i hi=>absurd hi (Nat.not_lt_zero _)⟩
  rw [List.drop_zero]
  simp +contextual (maxSteps:=60000) [ir156_1,ssL,↓ssM,aa,ssU,Go.Sx.LV.undef,Go.undef,ssR,sz,sz2,hg,e1,f1,h0,h1,hI,h2,c8,cI,c8']
 have cI : ¬(r.length:Int)≤8:=by omega
 have c8':8<r.length:=by omega
 have d8:8≤r.length:=by omega
 obtain ⟨w0,b0,q0,g0⟩:=kG r (by omega)
 have a0:=mw w0 9259542123273814144 b0 (by decide)
 simp only [Int.cast_ofNat_Int] at a0
 have x8:=bB r 8 r.length
 rw [List.take_length] at x8
 by_cases z0:w0 &&& 9259542123273814144=0
 ·have g0':=g0 z0
  rw [z0] at a0
  have hr8:(r.drop 8).length=r.length-8:=List.length_drop
  have hd : ∀ k,r.drop (8+k)=(r.drop 8).drop k:=fun k=>by rw [List.drop_drop]
  have hgd : ∀ i,(r.getD (8+i) 0)=(r.drop 8).getD i 0:=fun i=>by simp [List.getD_eq_getElem?_getD,List.getElem?_drop]
  have sz3:=aY (r.drop 8)
  suffices hs : ∃ j,run ⟨Ω,gG,H,nx⟩ ir156_1 ⟨[(0,.str ⟨l.toArray⟩)],⟨[],[]⟩⟩=some (.normal,⟨[(0,.str ⟨((r.drop 8).drop j).toArray⟩)],⟨[],[]⟩⟩)∧∀ i,i<j→((r.drop 8).getD i 0).toNat<128 by
   obtain ⟨j,e,hj⟩:=hs
   refine ⟨8+j,by rw [hd];exact e,fun i hi => ?_⟩
   rcases Nat.lt_or_ge i 8 with c|c
   ·exact g0' i c
   ·have:=hj (i-8) (by omega)
    rwa [←hgd,show 8+(i-8)=i by omega] at this
  clear hd hgd g0 g0'
  generalize r.drop 8=t at*
  by_cases c16:t.length≤16
  ·have tI:(t.length:Int)≤16:=by omega
   have c16' : ¬16<t.length:=by omega
   refine ⟨0,?_,fun i hi=>absurd hi (Nat.not_lt_zero _)⟩
   rw [List.drop_zero]
   simp +contextual (maxSteps:=200000) [ir156_1,ssL,↓ssM,aa,ssU,Go.Sx.LV.undef,Go.undef,ssR,sz,sz2,sz3,hg,e1,f1,h0,h1,hI,h2,c8,cI,c8',d8,q0,a0,x8,c16,tI,c16']
  have tI : ¬(t.length:Int)≤16:=by omega
  have c16':16<t.length:=by omega
  have d8':8≤t.length:=by omega
  have d16:16≤t.length:=by omega
  obtain ⟨w1,b1,q1,g1⟩:=kG t (by omega)
  obtain ⟨w2,b2,q2,g2⟩:=kG (t.drop 8) (by simp;omega)
  have y8:=bB t 8 t.length
  have y16:=bB t 16 t.length
  rw [List.take_length] at y8 y16
  have o1:=cZ w1 w2 b1 b2
  have a1:=mw (w1 ||| w2) 9259542123273814144 (Nat.or_lt_two_pow b1 b2) (by decide)
  simp only [Int.cast_ofNat_Int] at a1
  have gz:=@yk w1 w2 9259542123273814144
  generalize w1 ||| w2=y at*
  by_cases z1:y &&& 9259542123273814144=0
  ·rw [z1] at a1
   obtain ⟨u1,u2⟩:=gz z1
   have g1':=g1 u1
   have g2':=g2 u2
   obtain ⟨j,e,hj⟩:=vs0 H nx (t.drop 16).length (t.drop 16) (Nat.le_refl _) (by simp;omega)
   refine ⟨16+j,?_,fun i hi => ?_⟩
   ·rw [←List.drop_drop]
    clear g1 g2 g1' g2' gz hj
    simp +contextual (maxSteps:=200000) [ir156_1,ssL,↓ssM,aa,ssU,Go.Sx.LV.undef,Go.undef,ssR,sz,sz2,sz3,hg,e1,f1,h0,h1,hI,h2,c8,cI,c8',d8,q0,a0,x8,c16,tI,c16',d8',d16,q1,q2,y8,y16,o1,a1,e]
   ·rcases Nat.lt_or_ge i 8 with c|c
    ·exact g1' i c
    rcases Nat.lt_or_ge i 16 with c2|c2
    ·have:=g2' (i-8) (by omega)
     simpa [List.getD_eq_getElem?_getD,List.getElem?_drop,show 8+(i-8)=i by omega] using this
    ·have:=hj (i-16) (by omega)
     simpa [List.getD_eq_getElem?_getD,List.getElem?_drop,show 16+(i-16)=i by omega] using this
  ·have z1' : ¬((y &&& 9259542123273814144:Nat):Int)=0:=by omega
   refine ⟨0,?_,fun i hi=>absurd hi (Nat.not_lt_zero _)⟩
   rw [List.drop_zero]
   clear g1 g2 gz
   generalize y &&& 9259542123273814144=n1 at*
   simp +contextual (maxSteps:=200000) [ir156_1,ssL,↓ssM,aa,ssU,Go.Sx.LV.undef,Go.undef,ssR,sz,sz2,sz3,hg,e1,f1,h0,h1,hI,h2,c8,cI,c8',d8,q0,a0,x8,c16,tI,c16',d8',d16,q1,q2,y8,y16,o1,a1,z1,z1']
 ·have z0' : ¬((w0 &&& 9259542123273814144:Nat):Int)=0:=by omega
  refine ⟨0,?_,fun i hi=>absurd hi (Nat.not_lt_zero _)⟩
  rw [List.drop_zero]
  clear g0
  generalize w0 &&& 9259542123273814144=n0 at*
  simp +contextual (maxSteps:=200000) [ir156_1,ssL,↓ssM,aa,ssU,Go.Sx.LV.undef,Go.undef,ssR,sz,sz2,hg,e1,f1,h0,h1,hI,h2,c8,cI,c8',d8,q0,a0,x8,z0,z0']
end Go.Proofs.YtoeblkipfdnnlaaGreatDoor
end

section
namespace Go.Proofs.YtoeblkipfdnnlaaGreatDoor
open Go Go.Sx
set_option maxHeartbeats 1000000
theorem zK (x:Nat) (hx:x<256):binI .and .u8 x 7=some (.int .u8 (x%8:Nat)):=by
 have:binI .and .u8 (x:Int) 7=some (.int .u8 (IntKind.u8.wrap (BitVec.ofInt 8 (x:Int) &&& BitVec.ofInt 8 (7:Int)).toNat)):=rfl
 have h7:BitVec.ofInt 8 (7:Int)=7#8:=rfl
 have hm:x &&& 7=x%8:=Nat.and_two_pow_sub_one_eq_mod x 3
 rw [this,BitVec.ofInt_natCast,h7,BitVec.toNat_and,BitVec.toNat_ofNat,Nat.mod_eq_of_lt (by omega)]
 rw [show (7#8).toNat=7 from rfl,hm]
 congr 2
 have:x%8<8:=Nat.mod_lt _ (by decide)
 rw [jC]
 simp only [UInt8.toNat_ofNat']
 omega
theorem AI (x:Nat):shI .shr .u8 x 4=some (.int .u8 (x/16:Nat)):=by
 have:shI .shr .u8 (x:Int) 4=some (.int .u8 ((x:Int).fdiv (2^(min 4 8)))):=by
  simp only [shI]
  rw [if_neg (by omega)]
  rfl
 rw [this]
 congr 2
 rw [show ((2:Int)^(min 4 8))=((16:Nat):Int) from rfl,Int.fdiv_eq_ediv_of_nonneg _ (by omega)]
 exact (Int.natCast_ediv x 16).symm
theorem gn {a:Nat} (h:a<256):firstT[a]?=some (.s (.int .u8 (firstN a:Nat))):=by
 unfold firstT
 rw [List.getElem?_map,List.getElem?_range h];rfl
theorem gp:firstT.length=256:=by simp [firstT]
theorem mi:accT=accL.map fun a:Nat=>PV.s (.int .u8 (a:Int)):=rfl
theorem iP (a:Nat):firstN a<256:=by
 unfold firstN
 repeat' split
 all_goals omega
theorem gG1:gG 1=some firstT:=rfl
theorem gG2:gG 2=some accT:=rfl
end Go.Proofs.YtoeblkipfdnnlaaGreatDoor
end

section
namespace Go.Proofs.YtoeblkipfdnnlaaGreatDoor
open Go Go.Sx
set_option maxHeartbeats 1000000
theorem AO (H:Heap) (nx:Nat) (a b:UInt8) (r:List UInt8) (ha:128≤a.toNat) (lo hi:Nat) (e:acc a.toNat=some (2,lo,hi)) (hlo:lo≤b.toNat) (hhi:b.toNat≤hi):
  run ⟨Ω,gG,H,nx⟩ ir156_1 ⟨[(0,.str ⟨(a::b::r).toArray⟩)],⟨[],[]⟩⟩=some (.normal,⟨[(0,.str ⟨r.toArray⟩)],⟨[],[]⟩⟩):=by
 have h8:=a.toNat_lt
 have sz:=aY (a::b::r)
 obtain ⟨t1,t2,t3,-,-⟩:=nv (by omega) ha e
 have fl:=iP a.toNat
 have k7:=zK (firstN a.toNat) fl
 have k4:=AI (firstN a.toNat)
 rw [t1] at k7
 have gt:=gn (show a.toNat<256 by omega)
 have ft:=gp
 have G1:=gG1
 have G2:=gG2
 have hg0 : ∀ h:0<(a::b::r).length,(a::b::r)[0]'h=a:=fun _=>rfl
 have f1:(128:Int)≤a.toNat:=by omega
 have h0:0<(a::b::r).length:=by simp
 have hI : ¬((a::b::r).length:Int)≤0:=by simp;omega
 have h2 : ¬(a::b::r).length=0:=by simp
 have w1:IntKind.i64.wrap 2=2:=by decide
 have gg : ∀ h,firstT[a.toNat]'h = .s (.int .u8 (firstN a.toNat:Nat)):=fun h=>(List.getElem?_eq_some_iff.1 gt).2
 clear gt
 have hF:firstN a.toNat/16<16:=by omega
 have aL:accT.length=32:=rfl
 have pf:List.take 2 (List.drop ((((firstN a.toNat:Nat):Int)/16).toNat*2) (List.map LV.p accT))=[.p (.s (.int .u8 (lo:Int))),.p (.s (.int .u8 (hi:Int)))]:=by
  have e1:(((firstN a.toNat:Nat):Int)/16).toNat=firstN a.toNat/16:=by omega
  rw [e1,Nat.mul_comm]
  have hb:2*(firstN a.toNat/16)+1<accL.length:=by rw [show accL.length=32 from rfl];omega
  rw [List.getElem?_eq_getElem (by omega)] at t2 t3
  simp only [Option.some.injEq] at t2 t3
  rw [mi,List.map_map,←List.map_drop,List.drop_eq_getElem_cons (show 2*(firstN a.toNat/16)<accL.length by omega),List.drop_eq_getElem_cons hb,t2,t3]
  rfl
 simp only [Int.cast_ofNat_Int] at k7
 have f2:(2:Int)≤((a::b::r).length:Int):=by simp;omega
 have n1:1<(a::b::r).length:=by simp
 have n2:2≤(a::b::r).length:=by simp
 have hg1 : ∀ h:1<(a::b::r).length,(a::b::r)[1]'h=b:=fun _=>rfl
 have c1:(lo:Int)≤b.toNat:=by omega
 have c2:(b.toNat:Int)≤hi:=by omega
 have x2:=bB (a::b::r) 2 (a::b::r).length
 rw [List.take_length,show (a::b::r).drop 2=r from rfl] at x2
 generalize firstT=FT at*
 generalize accT=AT at*
 generalize a::b::r=l at*
 generalize firstN a.toNat=F at*
 clear t1 t2 t3 e
 simp +contextual (maxSteps:=200000) [ir156_1,ssL,↓ssM,aa,ssU,Go.Sx.LV.undef,Go.undef,ssR,sz,hg0,hg1,f1,f2,n1,n2,h0,hI,h2,k7,k4,G1,G2,ft,gg,w1,pf,aL,hF,c1,c2,x2]
 omega
end Go.Proofs.YtoeblkipfdnnlaaGreatDoor
end
