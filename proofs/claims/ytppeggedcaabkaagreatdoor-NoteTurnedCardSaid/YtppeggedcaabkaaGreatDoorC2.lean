/- What the proof of the claim leans on, part 2 of 5: the value machine, the functions as it has them, their specifications. No condition. -/
import Derived.Test.YtppeggedcaabkaaGreatDoorC1
import Derived.LoopN
import Derived.ProofKit
import Derived.OpenShut
import Derived.Below
import Derived.Deep.Slices
import Derived.ChangeArms
set_option linter.all false
set_option linter.unnecessarySimpa false
set_option linter.unusedSimpArgs false
set_option linter.unusedVariables false
set_option linter.constructorNameAsVariable false
set_option maxHeartbeats 4000000
section
namespace Go.Sx
open Go
theorem jr (t:Tr) (m:Nat) : ∀ (l:List Tr) (k:Nat),pairsD t m k l=true ↔ ∀ i,i<l.length→(m.testBit (k+i)||apartD (l.getD i default) t)=true
 | [],k=>by simp [pairsD]
 | s::l,k=>by
  simp only [pairsD,Bool.and_eq_true,jr t m l (k+1)]
  constructor
  ·rintro ⟨h1,h2⟩ i hi
   match i with
   | 0=>simpa using h1
   | i+1=>
    have:=h2 i (by simp at hi;omega)
    rw [show k+1+i=k+(i+1) by omega] at this
    simpa using this
  ·intro h
   refine ⟨by simpa using h 0 (by simp),fun i hi => ?_⟩
   have:=h (i+1) (by simp;omega)
   rw [show k+(i+1)=k+1+i by omega] at this
   simpa using this
theorem lY (l r:List Tr) (i:Nat) (h:i<l.length):(l++r).getD i default=l.getD i default:=by
 simp [List.getD_eq_getElem?_getD,List.getElem?_append_left h]
theorem fI : ∀ (r seen:List Tr) (bs:List Nat),indepR seen r bs=true ↔ ∀ j,j<r.length→∀ i,i<seen.length+j→((bs.getD j 0).testBit i||apartD ((seen++r).getD i default) (r.getD j default))=true
 | [],seen,bs=>by simp [indepR]
 | t::r,seen,bs=>by
  have key:indepR seen (t::r) bs=(pairsD t (bs.getD 0 0) 0 seen&&indepR (seen++[t]) r bs.tail):=by cases bs<;>rfl
  rw [key,Bool.and_eq_true,jr,fI r (seen++[t]) bs.tail]
  constructor
  ·rintro ⟨h1,h2⟩ j hj i hi
   match j with
   | 0=>
    have:=h1 i (by simpa using hi)
    rw [Nat.zero_add] at this
    rw [lY _ _ _ (by simpa using hi)]
    exact this
   | j+1=>
    have:=h2 j (by simp at hj;omega) i (by simp;omega)
    rw [List.append_assoc] at this
    have e:bs.tail.getD j 0=bs.getD (j+1) 0:=by cases bs<;>simp
    rw [e] at this
    exact this
  ·intro h
   refine ⟨fun i hi => ?_,fun j hj i hi => ?_⟩
   ·have:=h 0 (by simp) i (by simpa using hi)
    rw [lY _ _ _ hi] at this
    rw [Nat.zero_add]
    exact this
   ·have:=h (j+1) (by simp;omega) i (by simp at hi;omega)
    have e:bs.tail.getD j 0=bs.getD (j+1) 0:=by cases bs<;>simp
    rw [e,List.append_assoc]
    exact this
theorem jv : ∀ {tr:List Tr},quickD tr=true→∀ t∈tr,(t.md=true→t.tch=[])∧t.lo=t.hi
 | [],_,_,h=>by cases h
 | a::r,h,t,ht=>by
  simp only [quickD,Bool.and_eq_true] at h
  obtain ⟨⟨h1,h2⟩,h3⟩:=h
  rcases List.mem_cons.1 ht with rfl|ht
  ·refine ⟨fun hm => ?_,by simpa using h2⟩
   rw [hm] at h1
   simpa using h1
  ·exact jv h3 t ht
theorem fY {a b:Tr} (ha:(a.md=true→a.tch=[])∧a.lo=a.hi) (hb:(b.md=true→b.tch=[])∧b.lo=b.hi):apartD a b=true:=by
 unfold apartD
 rw [Bool.and_eq_true,List.all_eq_true,List.all_eq_true]
 refine ⟨fun x hx => ?_,fun x _ => ?_⟩
 ·cases h1:a.md with
  | true=>rw [ha.1 h1] at hx;cases hx
  | false=>
   cases h2:b.md with
   | true=>rw [hb.1 h2];simp
   | false=>simp
 ·simp only [Bool.not_eq_true',Bool.and_eq_false_iff,decide_eq_false_iff_not]
  have:=ha.2
  omega
theorem kA {tr:List Tr} {bs:List Nat} (h:indepD tr bs=true) (i j:Nat) (hij:i<j) (hj:j<tr.length) (hb:(bs.getD j 0).testBit i=false):apartD (tr.getD i default) (tr.getD j default)=true:=by
 unfold indepD at h
 split at h
 ·rename_i hq
  have hm:=jv hq
  have e : ∀ k,k<tr.length→tr.getD k default∈tr:=fun k hk=>by
   rw [List.getD_eq_getElem?_getD,List.getElem?_eq_getElem hk];exact List.getElem_mem hk
  exact fY (hm _ (e i (by omega))) (hm _ (e j hj))
 ·have:=(fI tr [] bs).1 h j hj i (by simpa using hij)
  rw [hb] at this
  simpa using this
theorem gH {c:Ctx} : ∀ {l:List IROper} {env:Env} {h:Hp} {tr:List Tr} {r:Env × Hp},runOpsT c l env h=some (tr,r)→∀ i,i<l.length →
  (∀ x∈(tr.getD i default).rds,x∈(l.getD i default).op.slots++gslot (l.getD i default).guard)∧(tr.getD i default).wr=(l.getD i default).dst
 | [],_,_,_,_,_,i,hi=>by cases hi
 | o::l,env,h,tr,r,hr,i,hi=>by
  simp only [runOpsT] at hr
  split at hr
  ·split at hr
   ·split at hr
    ·rename_i tr' e h' ht
     obtain ⟨rfl,rfl⟩:=by simpa using hr
     match i with
     | 0=>exact ⟨fun x hx=>hx,rfl⟩
     | i+1=>exact gH ht i (by simp at hi;omega)
    ·cases hr
   ·cases hr
  ·split at hr
   ·rename_i tr' e h' ht
    obtain ⟨rfl,rfl⟩:=by simpa using hr
    match i with
    | 0=>exact ⟨fun x hx=>List.mem_append.2 (.inr hx),rfl⟩
    | i+1=>exact gH ht i (by simp at hi;omega)
   ·cases hr
  ·cases hr
theorem kB {ops:List IROper} {bs:List Nat} (h:indepS ops bs=true) (i j:Nat) (hij:i<j) (hj:j<ops.length) (hb:(bs.getD j 0).testBit i=false):apartS (ops.getD i default) (ops.getD j default)=true:=by
 unfold indepS at h
 have h1:=List.all_eq_true.1 h j (List.mem_range.2 hj)
 have h2:=List.all_eq_true.1 h1 i (List.mem_range.2 hij)
 rw [hb] at h2
 simpa using h2
theorem p9 {a b:Tr} {p q:IROper} (h:apartS p q=true) (hd:apartD a b=true) (ha:(∀ x∈a.rds,x∈p.op.slots++gslot p.guard)∧a.wr=p.dst) (hb:(∀ x∈b.rds,x∈q.op.slots++gslot q.guard)∧b.wr=q.dst):apartT a b=true:=by
 unfold apartS at h
 unfold apartD at hd
 rw [Bool.and_eq_true] at h hd
 obtain ⟨h1,h2⟩:=h
 unfold apartT
 rw [Bool.and_eq_true,Bool.and_eq_true,Bool.and_eq_true]
 refine ⟨⟨⟨?_,?_⟩,hd.1⟩,hd.2⟩
 ·rw [ha.2]
  cases e:p.dst with
  | none=>rfl
  | some d=>
   rw [e] at h1
   simp only [Bool.and_eq_true,Bool.not_eq_true'] at h1 ⊢
   refine ⟨?_,by rw [hb.2];exact h1.2⟩
   cases hc:b.rds.contains d with
   | false=>rfl
   | true=>
    have hm:d∈q.op.slots++gslot q.guard:=hb.1 d (by simpa using hc)
    have h11:=h1.1
    rw [List.contains_eq_mem] at h11
    simp only [decide_eq_false_iff_not] at h11
    exact absurd hm h11
 ·rw [hb.2]
  cases e:q.dst with
  | none=>rfl
  | some d=>
   rw [e] at h2
   simp only [Bool.not_eq_true'] at h2 ⊢
   cases hc:a.rds.contains d with
   | false=>rfl
   | true=>
    have hm:d∈p.op.slots++gslot p.guard:=ha.1 d (by simpa using hc)
    rw [List.contains_eq_mem] at h2
    simp only [decide_eq_false_iff_not] at h2
    exact absurd hm h2
end Go.Sx
end

section
namespace Go.Sx
open Go
theorem VR.agree {I:Nat→Prop} {μ μ2:Mu} {w:World} {l:LV} {v:Value} (h:VR I μ w l v):(∀ id∈ids l,μ2 id=μ id)→VR I μ2 w l v:=by
 induction h with
 | junk v=>exact fun _=>.junk v
 | p h=>exact fun _=>.p h
 | ref id off b o s h=>exact fun hid=>.ref id off b o s (by rw [hid id (by simp [ids]),h])
 | arr id off len sz cp ex b o s o' cap h ho hlen hcp hf hs=>exact fun hid=>.arr id off len sz cp ex b o s o' cap (by rw [hid id (by simp [ids]),h]) ho hlen hcp hf hs
 | agg cs a hl h1 _ ih=>exact fun hid=>.agg cs a hl h1 fun j l u hj hu=>ih j l u hj hu fun id h=>hid id (by simp only [ids];exact cG hj id h)
 | tuple cs a hl _ ih=>exact fun hid=>.tuple cs a hl fun j l u hj hu=>ih j l u hj hu fun id h=>hid id (by simp only [ids];exact cG hj id h)
 | fn f fs cs fa ca hl hl' _ _ ih ih'=>
  exact fun hid=>.fn f fs cs fa ca hl hl' (fun j l u hj hu=>ih j l u hj hu fun id h=>hid id (by simp only [ids,List.mem_append];exact .inl (cG hj id h)))
   (fun j l u hj hu=>ih' j l u hj hu fun id h=>hid id (by simp only [ids,List.mem_append];exact .inr (cG hj id h)))
theorem ek : ∀ {cs:List LV} {id:Nat},id∈ids.idsL cs→∃ (j:Nat) (l:LV),cs[j]?=some l∧id∈ids l
 | [],id,h=>by simp [ids.idsL] at h
 | x::r,id,h=>by
  simp only [ids.idsL,List.mem_append] at h
  rcases h with h|h
  ·exact ⟨0,x,rfl,h⟩
  ·obtain ⟨j,l,h1,h2⟩:=ek h
   exact ⟨j+1,l,h1,h2⟩
theorem VR.mapped {I:Nat→Prop} {μ:Mu} {w:World} {l:LV} {v:Value} (h:VR I μ w l v) : ∀ id∈ids l,(μ id).isSome=true:=by
 induction h with
 | junk v=>intro id hid;simp [ids] at hid
 | p h=>intro id hid;simp [ids] at hid
 | ref id off b o s h=>intro i hid;simp [ids] at hid;subst hid;rw [h];rfl
 | arr id off len sz cp ex b o s o' cap h ho hlen hcp hf hs=>intro i hid;simp [ids] at hid;subst hid;rw [h];rfl
 | agg cs a hl h1 _ ih=>
  intro id hid
  simp only [ids] at hid
  obtain ⟨j,l,hj,hl'⟩:=ek hid
  have hlt:j<a.size:=by rw [hl];exact (List.getElem?_eq_some_iff.1 hj).1
  exact ih j l a[j] hj (by simp [hlt]) id hl'
 | tuple cs a hl _ ih=>
  intro id hid
  simp only [ids] at hid
  obtain ⟨j,l,hj,hl'⟩:=ek hid
  have hlt:j<a.size:=by rw [hl];exact (List.getElem?_eq_some_iff.1 hj).1
  exact ih j l a[j] hj (by simp [hlt]) id hl'
 | fn f fs cs fa ca hl hl' _ _ ih ih'=>
  intro id hid
  simp only [ids,List.mem_append] at hid
  rcases hid with hid|hid
  ·obtain ⟨j,l,hj,hm⟩:=ek hid
   have hlt:j<fa.size:=by rw [hl];exact (List.getElem?_eq_some_iff.1 hj).1
   exact ih j l fa[j] hj (by simp [hlt]) id hm
  ·obtain ⟨j,l,hj,hm⟩:=ek hid
   have hlt:j<ca.size:=by rw [hl'];exact (List.getElem?_eq_some_iff.1 hj).1
   exact ih' j l ca[j] hj (by simp [hlt]) id hm
section rename
variable {I:Nat→Prop} {μ:Mu} {w:World} {nx:Nat} {seen:List Nat}
def renMu (μ:Mu) (nx:Nat) (seen:List Nat):Mu:=fun id=>if id<nx then μ id else match seen[id-nx]? with
 | some j=>μ j
 | none=>none
theorem mJ {id j:Nat} (h:renId nx seen id=some j):renMu μ nx seen j=μ id:=by
 unfold renId at h
 split at h
 ·rename_i hlt
  obtain rfl:=Option.some.inj h
  simp [renMu,hlt]
 ·split at h
  ·rename_i k hk
   obtain rfl:=Option.some.inj h
   have hget:seen[k]?=some id:=by
    obtain ⟨hlt,he,_⟩:=List.idxOf?_eq_some_iff.1 hk
    rw [List.getElem?_eq_getElem hlt]
    simpa using he
   simp [renMu,show ¬(nx+k<nx) by omega,hget]
  ·cases h
theorem fM : ∀ {cs cs':List LV},ren.go nx seen cs=some cs'→cs'.length=cs.length∧∀ (j:Nat) l',cs'[j]?=some l'→∃ l,cs[j]?=some l∧ren nx seen l=some l'
 | [],cs',h=>by simp only [ren.go,Option.some.injEq] at h;subst h;exact ⟨rfl,by simp⟩
 | x::r,cs',h=>by
  simp only [ren.go] at h
  split at h
  ·rename_i y l h1 h2
   obtain rfl:=Option.some.inj h
   obtain ⟨g1,g2⟩:=fM h2
   refine ⟨by simp [g1],fun j l' hj => ?_⟩
   cases j with
   | zero=>simp at hj;subst hj;exact ⟨x,rfl,h1⟩
   | succ j=>exact g2 j l' hj
  ·cases h
theorem VR.ren {l:LV} {v:Value} (h:VR I μ w l v) : ∀ {l':LV},Sx.ren nx seen l=some l'→VR I (renMu μ nx seen) w l' v:=by
 induction h with
 | junk v=>intro l' h;simp only [Sx.ren,Option.some.injEq] at h;subst h;exact .junk v
 | p h=>intro l' h';simp only [Sx.ren,Option.some.injEq] at h';subst h';exact .p h
 | ref id off b o s h=>
  intro l' h'
  simp only [Sx.ren] at h'
  split at h'
  ·rename_i j hj
   obtain rfl:=Option.some.inj h'
   exact .ref j off b o s (by rw [mJ hj,h])
  ·cases h'
 | arr id off len sz cp ex b o s o' cap h ho hlen hcp hf hs=>
  intro l' h'
  simp only [Sx.ren] at h'
  split at h'
  ·rename_i j hj
   obtain rfl:=Option.some.inj h'
   exact .arr j off len sz cp ex b o s o' cap (by rw [mJ hj,h]) ho hlen hcp hf hs
  ·cases h'
 | agg cs a hl h1 _ ih=>
  intro l' h'
  simp only [Sx.ren] at h'
  split at h'
  ·rename_i cs' hcs
   obtain rfl:=Option.some.inj h'
   obtain ⟨g1,g2⟩:=fM hcs
   refine .agg cs' a (by rw [g1];exact hl) h1 fun j l u hj hu => ?_
   obtain ⟨l0,hl0,hr⟩:=g2 j l hj
   exact ih j l0 u hl0 hu hr
  ·cases h'
 | tuple cs a hl _ ih=>
  intro l' h'
  simp only [Sx.ren] at h'
  split at h'
  ·rename_i cs' hcs
   obtain rfl:=Option.some.inj h'
   obtain ⟨g1,g2⟩:=fM hcs
   refine .tuple cs' a (by rw [g1];exact hl) fun j l u hj hu => ?_
   obtain ⟨l0,hl0,hr⟩:=g2 j l hj
   exact ih j l0 u hl0 hu hr
  ·cases h'
 | fn f fs cs fa ca hl hl' _ _ ih ih'=>
  intro l' h'
  simp only [Sx.ren] at h'
  split at h'
  ·rename_i x y hx hy
   obtain rfl:=Option.some.inj h'
   obtain ⟨g1,g2⟩:=fM hx
   obtain ⟨g3,g4⟩:=fM hy
   refine .fn f x y fa ca (by rw [g1];exact hl) (by rw [g3];exact hl') (fun j l u hj hu => ?_) fun j l u hj hu => ?_
   ·obtain ⟨l0,hl0,hr⟩:=g2 j l hj
    exact ih j l0 u hl0 hu hr
   ·obtain ⟨l0,hl0,hr⟩:=g4 j l hj
    exact ih' j l0 u hl0 hu hr
  ·cases h'
theorem OR.ren {id id':Nat} {o:Obj} {o':Option Obj} (h:OR I μ w id o) (hid:renMu μ nx seen id'=μ id) (hr:renO nx seen (some o)=some o') : ∃ p,o'=some p∧OR I (renMu μ nx seen) w id' p:=by
 cases o with
 | cells cs=>
  simp only [renO] at hr
  split at hr
  ·rename_i l hl
   obtain rfl:=Option.some.inj hr
   obtain ⟨b,o,s,e,hm,hs,hle,hf,hc⟩:=h
   obtain ⟨g1,g2⟩:=fM hl
   refine ⟨_,rfl,b,o,s,e,by rw [hid,hm],hs,by rw [g1];exact hle,hf,fun j l' hj => ?_⟩
   obtain ⟨l0,hl0,hr⟩:=g2 j l' hj
   obtain ⟨u,h1,h2,h3⟩:=hc j l0 hl0
   exact ⟨u,h1,h2,h3.ren hr⟩
  ·cases hr
 | iter s q=>
  simp only [renO,Option.some.injEq] at hr
  subst hr
  obtain ⟨b,hm,hb⟩:=h
  exact ⟨_,rfl,b,by rw [hid,hm],hb⟩
theorem cU : ∀ {u u':Upd},renU nx seen u=some u'→∀ id,(findU u' id=none↔findU u id=none)∧∀ o',findU u' id=some o'→∃ o,findU u id=some o∧renO nx seen o=some o'
 | [],u',h,id=>by simp only [renU,Option.some.injEq] at h;subst h;exact ⟨Iff.rfl,by simp [findU]⟩
 | (k,o)::r,u',h,id=>by
  simp only [renU] at h
  split at h
  ·rename_i p l h1 h2
   obtain rfl:=Option.some.inj h
   have ih:=cU h2 id
   simp only [findU]
   by_cases e:id=k
   ·rw [if_pos e,if_pos e]
    exact ⟨by simp,fun o' ho=>⟨o,rfl,by rw [←Option.some.inj ho];exact h1⟩⟩
   ·rw [if_neg e,if_neg e];exact ih
  ·cases h
theorem mK {H:Heap} {h:Hp} : ∀ {l:List Nat} {n:List (Option Obj)},renN H nx h seen l=some n→n.length=l.length∧∀ (k:Nat) id,l[k]?=some id→∃ p,n[k]?=some p∧renO nx seen (look H nx h id)=some p
 | [],n,h=>by simp only [renN,Option.some.injEq] at h;subst h;exact ⟨rfl,by simp⟩
 | x::r,n,h=>by
  simp only [renN] at h
  split at h
  ·rename_i p l h1 h2
   obtain rfl:=Option.some.inj h
   obtain ⟨g1,g2⟩:=mK h2
   refine ⟨by simp [g1],fun k id hk => ?_⟩
   cases k with
   | zero=>simp at hk;subst hk;exact ⟨p,rfl,h1⟩
   | succ k=>exact g2 k id hk
  ·cases h
theorem bN {lk:Nat→Option Obj} : ∀ (n:Nat) (todo seen S:List Nat),reach lk n todo seen=some S→seen.Nodup→S.Nodup
 | 0,[],seen,S,h,hs=>by simp only [reach,Option.some.injEq] at h;subst h;exact hs
 | 0,_::_,seen,S,h,hs=>by simp [reach] at h
 | n+1,[],seen,S,h,hs=>by simp only [reach,Option.some.injEq] at h;subst h;exact hs
 | n+1,id::todo,seen,S,h,hs=>by
  simp only [reach] at h
  split at h
  ·exact bN n todo seen S h hs
  ·rename_i hc
   have hc':id∉seen:=by simpa using hc
   split at h
   ·exact bN n _ _ S h (by
     rw [List.nodup_append]
     refine ⟨hs,by simp,fun a ha b hb => ?_⟩
     simp at hb;subst hb
     exact fun e=>hc' (e▸ha))
   ·exact bN n todo seen S h hs
end rename
theorem kv {I I':Nat→Prop} {μ:Mu} {w:World} {H:Heap} {nx:Nat} {h:Hp} (hI : ∀ b,I b→I' b) (hobj : ∀ id o,look H nx h id=some o→OR I μ w id o):
  ∀ (n:Nat) (l:LV) (x:PV) (v:Value),frzL nx h n l=some x→VR I μ w l v→(∀ id∈ids l,∀ b,blk μ id=some b→I' b)→PR I' w x v
 | 0,l,x,v,hf,_,_=>by simp [frzL] at hf
 | n+1,.p y,x,v,hf,hv,_=>by
  simp only [frzL,Option.some.injEq] at hf
  subst hf
  exact hv.pp.mono hI fun _ _=>rfl
 | n+1,.arr id off len sz cp ex,x,v,hf,hv,hb=>by
  simp only [frzL] at hf
  split at hf
  ·cases hf
  ·rename_i hlt
   split at hf
   ·rename_i cs hcs
    split at hf
    ·rename_i hle
     split at hf
     ·rename_i l hl
      obtain rfl:=Option.some.inj hf
      have hlook:look H nx h id=some (.cells cs):=by unfold look;rw [if_neg hlt,hcs]
      obtain ⟨b,o,s,e,hm,_,_,_,hat⟩:=hobj id _ hlook
      obtain ⟨b',o',s',o2,cap,hm',rfl,hoo,hlc,hex,hroom,hcp,hlcp⟩:=cM hv
      rw [hm] at hm'
      obtain ⟨rfl,rfl,rfl⟩:b=b'∧o=o'∧s=s':=by simpa using hm'
      have hIb:I' b:=hb id (by simp [ids]) b (by simp [blk,hm])
      have hps:=dk hl
      have hat2:At I μ w b (o+off) (l.map .p):=by rw [←hps];exact (At.drop (I:=I) (μ:=μ) (w:=w) (b:=b) (o:=o) (cs:=cs) hat off).take (len*sz)
      refine mi (μ:=μ) hIb ?_ len sz cap _ hlc (fun hfl=>by
       simp only [Bool.and_eq_true,beq_iff_eq] at hfl
       rw [hex hfl.1,hfl.2])
      rcases hoo with h0|h0
      ·have hl0:l=[]:=by
        have:l.length=0:=by
         have:=congrArg List.length hps
         simp at this
         have hz:len=0:=by omega
         rw [hz] at this;simp at this;omega
        exact List.eq_nil_of_length_eq_zero this
       rw [hl0];intro j q hj;simp at hj
      ·rw [h0]
       intro j q hj
       obtain ⟨u,h1,h2,h3⟩:=hat2 j q hj
       exact ⟨u,h1,h2,h3.mono hI (fun _ _ h=>h) fun _ _=>rfl⟩
     ·cases hf
    ·cases hf
   ·cases hf
 | n+1,.agg cs,x,v,hf,hv,hb=>by
  simp only [frzL] at hf
  split at hf
  ·rename_i l hl
   obtain rfl:=Option.some.inj hf
   obtain ⟨ar,rfl,hsz,h1,hc⟩:=tU hv
   have hgo : ∀ (cs:List LV) (l:List PV),frzL.go nx h n cs=some l→l.length=cs.length∧∀ (j:Nat) y,l[j]?=some y→∃ q,cs[j]?=some q∧frzL nx h n q=some y:=by
    intro cs
    induction cs with
    | nil=>intro l hl;simp only [frzL.go,Option.some.injEq] at hl;subst hl;exact ⟨rfl,by simp⟩
    | cons q r ih=>
     intro l hl
     simp only [frzL.go] at hl
     split at hl
     ·rename_i y l' h1 h2
      obtain rfl:=Option.some.inj hl
      obtain ⟨g1,g2⟩:=ih l' h2
      refine ⟨by simp [g1],fun j z hz => ?_⟩
      cases j with
      | zero=>simp at hz;subst hz;exact ⟨q,rfl,h1⟩
      | succ j=>exact g2 j z hz
     ·cases hl
   obtain ⟨g1,g2⟩:=hgo cs l hl
   refine .agg l ar (by rw [g1];exact hsz) h1 fun j y u hj hu => ?_
   obtain ⟨q,hq,hfq⟩:=g2 j y hj
   exact kv hI hobj n q y u hfq (hc j q u hq hu) fun id hid b hbb=>hb id (by simp only [ids];exact cG hq id hid) b hbb
  ·cases hf
 | n+1,.junk,x,v,hf,_,_=>by simp [frzL] at hf
 | n+1,.ref id off,x,v,hf,hv,hb=>by
  simp only [frzL] at hf
  split at hf
  ·cases hf
  ·rename_i hlt
   split at hf
   ·rename_i cs hcs
    split at hf
    ·rename_i l hl
     obtain rfl:=Option.some.inj hf
     have hlook:look H nx h id=some (.cells cs):=by unfold look;rw [if_neg hlt,hcs]
     obtain ⟨b,o,s,e,hm,_,_,_,hat⟩:=hobj id _ hlook
     obtain ⟨b',o',s',hm',rfl⟩:=cZ hv
     rw [hm] at hm'
     obtain ⟨rfl,rfl,rfl⟩:b=b'∧o=o'∧s=s':=by simpa using hm'
     refine jo (μ:=μ) (hb id (by simp [ids]) b (by simp [blk,hm])) (fun j q hj => ?_) off
     rw [←dk hl] at hj
     obtain ⟨u,h1,h2,h3⟩:=hat j q hj
     exact ⟨u,h1,h2,h3.mono hI (fun _ _ h=>h) fun _ _=>rfl⟩
    ·cases hf
   ·cases hf
 | n+1,.tuple ..,x,v,hf,_,_=>by simp [frzL] at hf
 | n+1,.fn ..,x,v,hf,_,_=>by simp [frzL] at hf
end Go.Sx
end

section
namespace Go.Sx
open Go
section
variable {P:Program} {I0 I:Nat→Prop} {μ0 μ:Mu} {w0 w:World} {H:Heap} {nx:Nat}
theorem sD {I I':Nat→Prop} {h:Hp} (hI : ∀ b,I b→I' b) (hobj : ∀ id o,look H nx h id=some o→OR I μ w id o) {r r':LV} {v:Value} (hf:frz nx h r=some r') (hv:VR I μ w r v) (hb : ∀ id∈ids r,∀ b,blk μ id=some b→I' b) (μ':Mu):
  VR I' μ' w r' v∧ids r'=[]:=by
 have hgo : ∀ (cs l:List LV),frz.go nx h cs=some l→l.length=cs.length∧ids.idsL l=[]∧∀ (j:Nat) y,l[j]?=some y→∃ q x,cs[j]?=some q∧y = .p x∧frzL nx h 8 q=some x:=by
  intro cs
  induction cs with
  | nil=>intro l hl;simp only [frz.go,Option.some.injEq] at hl;subst hl;exact ⟨rfl,rfl,by simp⟩
  | cons q r ih=>
   intro l hl
   simp only [frz.go] at hl
   split at hl
   ·rename_i y l' h1 h2
    obtain rfl:=Option.some.inj hl
    obtain ⟨g1,g3,g2⟩:=ih l' h2
    refine ⟨by simp [g1],by simp [ids.idsL,ids,g3],fun j z hz => ?_⟩
    cases j with
    | zero=>simp at hz;subst hz;exact ⟨q,y,rfl,rfl,h1⟩
    | succ j=>exact g2 j z hz
   ·cases hl
 unfold frz at hf
 split at hf
 ·rename_i vs
  split at hf
  ·rename_i l hl
   obtain rfl:=Option.some.inj hf
   obtain ⟨ar,rfl,hsz,hc⟩:=jF hv
   obtain ⟨g1,g3,g2⟩:=hgo vs l hl
   refine ⟨.tuple l ar (by rw [g1];exact hsz) fun j y u hj hu => ?_,by simp [ids,g3]⟩
   obtain ⟨q,x,hq,rfl,hfq⟩:=g2 j y hj
   exact .p (kv hI hobj 8 q x u hfq (hc j q u hq hu) fun id hid b hbb=>hb id (by simp only [ids];exact cG hq id hid) b hbb)
  ·cases hf
 ·split at hf
  ·rename_i x hx
   obtain rfl:=Option.some.inj hf
   exact ⟨.p (kv hI hobj 8 r x v hx hv hb),rfl⟩
  ·cases hf
theorem jj {h:Hp} : ∀ (m:Nat) (l:LV) (x:PV),frzL nx h m l=some x→∀ id∈ids l,nx≤id∧∃ o,look H nx h id=some o
 | 0,l,x,hx,id,hid=>by simp [frzL] at hx
 | m+1,.p y,x,hx,id,hid=>by simp [ids] at hid
 | m+1,.arr i off len sz cp ex,x,hx,id,hid=>by
  simp [ids] at hid
  subst hid
  simp only [frzL] at hx
  split at hx
  ·cases hx
  ·rename_i hlt'
   split at hx
   ·rename_i cs hcs
    exact ⟨by omega,.cells cs,by unfold look;rw [if_neg hlt',hcs]⟩
   ·cases hx
 | m+1,.agg cs,x,hx,id,hid=>by
  simp only [ids] at hid
  simp only [frzL] at hx
  split at hx
  ·rename_i l hl
   have hgo : ∀ (cs:List LV) (l:List PV),frzL.go nx h m cs=some l→∀ id∈ids.idsL cs,nx≤id∧∃ o,look H nx h id=some o:=by
    intro cs
    induction cs with
    | nil=>intro l _ id hid;simp [ids.idsL] at hid
    | cons q rr ihc=>
     intro l hl id hid
     simp only [frzL.go] at hl
     split at hl
     ·rename_i y l' h1 h2
      simp only [ids.idsL,List.mem_append] at hid
      rcases hid with hid|hid
      ·exact jj m q y h1 id hid
      ·exact ihc l' h2 id hid
     ·cases hl
   exact hgo cs l hl id hid
  ·cases hx
 | m+1,.junk,x,hx,id,hid=>by simp [frzL] at hx
 | m+1,.ref i off,x,hx,id,hid=>by
  simp [ids] at hid
  subst hid
  simp only [frzL] at hx
  split at hx
  ·cases hx
  ·rename_i hlt'
   split at hx
   ·rename_i cs hcs
    exact ⟨by omega,.cells cs,by unfold look;rw [if_neg hlt',hcs]⟩
   ·cases hx
 | m+1,.tuple ..,x,hx,id,hid=>by simp [frzL] at hx
 | m+1,.fn ..,x,hx,id,hid=>by simp [frzL] at hx
theorem ux {h:Hp} {r r':LV} (hf:frz nx h r=some r') : ∀ id∈ids r,nx≤id∧∃ o,look H nx h id=some o:=by
 intro id hid
 have hgo : ∀ (cs l:List LV),frz.go nx h cs=some l→∀ id∈ids.idsL cs,nx≤id∧∃ o,look H nx h id=some o:=by
  intro cs
  induction cs with
  | nil=>intro l _ id hid;simp [ids.idsL] at hid
  | cons q rr ihc=>
   intro l hl id hid
   simp only [frz.go] at hl
   split at hl
   ·rename_i y l' h1 h2
    simp only [ids.idsL,List.mem_append] at hid
    rcases hid with hid|hid
    ·exact jj 8 q y h1 id hid
    ·exact ihc l' h2 id hid
   ·cases hl
 unfold frz at hf
 split at hf
 ·rename_i vs
  split at hf
  ·rename_i l hl
   exact hgo vs l hl id (by simpa only [ids] using hid)
  ·cases hf
 ·split at hf
  ·rename_i x hx;exact jj 8 r x hx id hid
  ·cases hf
theorem fW {k k' r0 r:LV} {h:Hp} {u:Upd} {n:List (Option Obj)} (hf:tidyR H nx k r0 h=some (k',r,u,n)) (h0 : ∀ id,nx≤id→μ0 id=none)
  (hH0:HR I0 μ0 w0 (fun _=>True) H) (g:Goes I0 I μ0 μ w0 w H (look H nx h) (fun _=>True) (fun id=>nx≤id∧id<nx+h.new.length)) (hk:Keys H h):
  (∀ id o,findU u id=some o→(H id).isSome=true) ∧
  ∃ I' μ',Goes I0 I' μ0 μ' w0 w H (look H nx ⟨u,n⟩) (fun _=>True) (fun id=>nx≤id∧id<nx+n.length)∧(∀ b,I b→I' b)∧(∀ v,VR I μ w k v→VR I' μ' w k' v)∧(∀ v,VR I μ w r0 v→VR I' μ' w r v):=by
 unfold tidyR at hf
 split at hf
 ·cases hf
 rename_i r1 hr1
 split at hf
 ·cases hf
 rename_i seen hseen
 split at hf
 case isFalse=>cases hf
 rename_i hown
 split at hf
 case h_2=>cases hf
 rename_i r2 u2 n2 hr2 hu2 hn2
 simp only [Option.some.injEq,Prod.mk.injEq] at hf
 obtain ⟨rfl,rfl,rfl,rfl⟩:=hf
 have hr:HR I μ w (fun _=>True) (look H nx h):=g.hr.sub fun _ _=>⟨.inl trivial,rfl⟩
 have hnd:seen.Nodup:=bN 1000 _ _ seen hseen (by simp)
 have hal : ∀ id∈seen,nx≤id∧∃ o,look H nx h id=some o:=fun id hid=>by
  have:=cm 1000 _ _ seen hseen (by simp) id hid
  by_cases hc:id<nx
  ·rw [if_pos hc] at this;cases this
  ·rw [if_neg hc] at this;exact ⟨by omega,Option.isSome_iff_exists.1 this⟩
 obtain ⟨hnl,hng⟩:=mK hn2
 have hkeys : ∀ id o,findU u2 id=some o→(H id).isSome=true:=fun id o ho=>by
  obtain ⟨o',ho',_⟩:=(cU hu2 id).2 o ho
  exact hk id o' ho'
 obtain ⟨I',hI'⟩ : ∃ I':Nat→Prop,I'=fun b=>I b∨(∃ id∈ids r0,nx≤id∧(∃ o,look H nx h id=some o)∧blk μ id=some b):=⟨_,rfl⟩
 have hII : ∀ b,I b→I' b:=fun b hb=>by rw [hI'];exact .inl hb
 have hval : ∀ v,VR I μ w k v→VR I' (renMu μ nx seen) w r2 v:=fun v hv=>(hv.ren hr2).mono hII (fun _ _ h=>h) fun _ _=>rfl
 have hval2 : ∀ v,VR I μ w r0 v→VR I' (renMu μ nx seen) w r1 v:=fun v hv=>by
  have hfz:=ux (H:=H) hr1
  exact (sD (I':=I') hII (fun id o ho=>hr.obj id o trivial ho) hr1 hv (fun id hid b hb=>by
   rw [hI'];exact .inr ⟨id,hid,(hfz id hid).1,(hfz id hid).2,hb⟩) _).1
 have hfrom : ∀ id o,look H nx ⟨u2,n2⟩ id=some o→∃ j p,look H nx h j=some p∧renMu μ nx seen id=μ j∧OR I (renMu μ nx seen) w id o∧(id<nx→j=id)∧(nx≤id→seen[id-nx]?=some j):=by
  intro id o ho
  by_cases hid:id<nx
  ·have ho':=ho
   unfold look at ho'
   rw [if_pos hid] at ho'
   simp only [] at ho'
   have hmu:renMu μ nx seen id=μ id:=by simp [renMu,hid]
   cases hfu:findU u2 id with
   | some q=>
    rw [hfu] at ho'
    simp only at ho'
    subst ho'
    obtain ⟨q',hq',hren⟩:=(cU hu2 id).2 _ hfu
    cases q' with
    | none=>simp [renO] at hren
    | some p=>
     have hl:look H nx h id=some p:=by unfold look;rw [if_pos hid,hq']
     obtain ⟨p',hp',hor⟩:=(hr.obj id p trivial hl).ren hmu hren
     obtain rfl:=Option.some.inj hp'
     exact ⟨id,p,hl,hmu,hor,fun _=>rfl,fun h=>absurd h (by omega)⟩
   | none=>
    rw [hfu] at ho'
    simp only at ho'
    have hnone:=((cU hu2 id).1).1 hfu
    have hl:look H nx h id=some o:=by unfold look;rw [if_pos hid,hnone];exact ho'
    refine ⟨id,o,hl,hmu,?_,fun _=>rfl,fun h=>absurd h (by omega)⟩
    have hor:=hr.obj id o trivial hl
    have hor0:=hH0.obj id o trivial ho'
    cases o with
    | cells cs=>
     obtain ⟨b,oo,s,e,hm,hs,hle,hfz,hc⟩:=hor
     obtain ⟨_,_,_,_,_,_,_,_,hc0⟩:=hor0
     refine ⟨b,oo,s,e,by rw [hmu,hm],hs,hle,hfz,fun j l hj => ?_⟩
     obtain ⟨q,h1,h2,h3⟩:=hc j l hj
     obtain ⟨q0,_,_,h30⟩:=hc0 j l hj
     refine ⟨q,h1,h2,h3.agree fun i hi => ?_⟩
     have:i<nx:=by
      rcases Nat.lt_or_ge i nx with h4|h4
      ·exact h4
      ·have:=h30.mapped i hi
       rw [h0 i h4] at this;cases this
     simp [renMu,this]
    | iter s q=>
     obtain ⟨b,hm,hb⟩:=hor
     exact ⟨b,by rw [hmu,hm],hb⟩
  ·have ho':=ho
   unfold look at ho'
   rw [if_neg hid] at ho'
   simp only [] at ho'
   cases hs:seen[id-nx]? with
   | none=>
    have hlt':seen.length≤id-nx:=by
     rcases Nat.lt_or_ge (id-nx) seen.length with h1|h1
     ·rw [List.getElem?_eq_getElem h1] at hs;cases hs
     ·exact h1
    rw [List.getElem?_eq_none (by omega)] at ho'
    cases ho'
   | some j=>
    obtain ⟨p,hp1,hp2⟩:=hng _ j hs
    rw [hp1] at ho'
    simp only at ho'
    subst ho'
    obtain ⟨_,q,hq⟩:=hal j (List.mem_of_getElem? hs)
    rw [hq] at hp2
    have hmu:renMu μ nx seen id=μ j:=by simp [renMu,hid,hs]
    obtain ⟨p',hp',hor⟩:=(hr.obj j q trivial hq).ren hmu hp2
    obtain rfl:=Option.some.inj hp'
    exact ⟨j,q,hq,hmu,hor,fun h=>absurd h hid,fun _=>rfl⟩
 have hlen : ∀ id,nx+n2.length≤id→look H nx ⟨u2,n2⟩ id=none:=fun id hid=>bg hid
 refine ⟨hkeys,I',renMu μ nx seen,⟨fun id hn => ?_,fun id hn=>h0 id hn.1,fun b hb=>hII b (g.up b hb),fun b hb => ?_,g.stp,⟨fun id o _ ho => ?_,fun id id' o o' _ _ ho ho' hne => ?_,fun id o b _ ho hb => ?_,fun b hb => ?_⟩,fun id b hn he hb => ?_,
  fun id ht=>absurd trivial ht,fun id hn hl => ?_⟩,hII,hval,hval2⟩
 ·by_cases hid:id<nx
  ·simp only [renMu,if_pos hid]
   exact g.mu id (by omega)
  ·have hge:seen.length≤id-nx:=by omega
   simp only [renMu,if_neg hid,List.getElem?_eq_none hge]
   exact (h0 id (by omega)).symm
 ·rw [hI'] at hb
  rcases hb with hb|⟨id,hid,hge,⟨o,ho⟩,hbk⟩
  ·exact g.back b hb
  ·refine .inr (g.new id b ⟨hge,?_⟩ ⟨o,ho⟩ hbk)
   rcases aV ho with h1|h1<;>omega
 ·obtain ⟨j,p,_,_,hor,_⟩:=hfrom id o ho
  exact hor.mono hII (fun _ _ h=>h) (fun _ _=>rfl) fun _ _=>rfl
 ·obtain ⟨j,p,hj,hmu,_,hlt1,hge1⟩:=hfrom id o ho
  obtain ⟨j',p',hj',hmu',_,hlt2,hge2⟩:=hfrom id' o' ho'
  simp only [blk,hmu,hmu']
  refine hr.inj j j' p p' trivial trivial hj hj' fun e=>hne ?_
  subst e
  by_cases c1:id<nx<;>by_cases c2:id'<nx
  ·exact (hlt1 c1).symm.trans (hlt2 c2)
  ·have:=(hal j (List.mem_of_getElem? (hge2 (by omega)))).1
   have:=hlt1 c1;omega
  ·have:=(hal j (List.mem_of_getElem? (hge1 (by omega)))).1
   have:=hlt2 c2;omega
  ·have e1:=hge1 (by omega)
   have e2:=hge2 (by omega)
   have:=(List.getElem?_inj (List.getElem?_eq_some_iff.1 e1).1 hnd).1 (e1.trans e2.symm)
   omega
 ·obtain ⟨j,p,hj,hmu,_,hlt1,hge1⟩:=hfrom id o ho
  simp only [blk,hmu]
  rw [hI'] at hb
  rcases hb with hb|⟨i,hi,hge,⟨q,hq⟩,hbk⟩
  ·exact hr.imm j p b trivial hj hb
  ·intro e
   have hne:j≠i:=by
    intro e2
    subst e2
    by_cases c1:id<nx
    ·have:=hlt1 c1;omega
    ·have hm:=List.mem_of_getElem? (hge1 (by omega))
     have:=List.all_eq_true.1 hown j hi
     simp [hm] at this
   exact hr.inj j i p q trivial trivial hj hq hne (e.trans hbk.symm)
 ·rw [hI'] at hb
  rcases hb with hb|⟨id,hid,hge,⟨o,ho⟩,hbk⟩
  ·exact hr.lt b hb
  ·obtain ⟨b',hb',hlt'⟩:=(hr.obj id o trivial ho).lt
   rw [hbk] at hb'
   obtain rfl:=Option.some.inj hb'
   exact hlt'
 ·obtain ⟨o,ho⟩:=he
  obtain ⟨j,p,hj,hmu,_,hlt1,hge1⟩:=hfrom id o ho
  simp only [blk,hmu] at hb
  have hjn:=(hal j (List.mem_of_getElem? (hge1 hn.1))).1
  refine g.new j b ⟨hjn,?_⟩ ⟨p,hj⟩ hb
  rcases aV hj with h1|h1<;>omega
 ·by_cases hid:id<nx
  ·unfold look
   rw [if_pos hid]
   simp only []
   cases hfu:findU u2 id with
   | none=>exact hl
   | some q=>have:=hkeys id q hfu;rw [hl] at this;cases this
  ·exact hlen id (by omega)
theorem kt {own:Bool} {r0 r:LV} {h:Hp} {u:Upd} {n:List (Option Obj)} {v:Value} (hf:finish own H nx r0 h=some (r,u,n)) (h0 : ∀ id,nx≤id→μ0 id=none)
  (hH0:HR I0 μ0 w0 (fun _=>True) H) (g:Goes I0 I μ0 μ w0 w H (look H nx h) (fun _=>True) (fun id=>nx≤id∧id<nx+h.new.length)) (hk:Keys H h) (hv:VR I μ w r0 v):
  (∀ id o,findU u id=some o→(H id).isSome=true) ∧
  ∃ I' μ',Goes I0 I' μ0 μ' w0 w H (look H nx ⟨u,n⟩) (fun _=>True) (fun id=>nx≤id∧id<nx+n.length)∧VR I' μ' w r v:=by
 cases own with
 | true=>
  have hf':tidyR H nx r0 (.tuple []) h=some (r,.tuple [],u,n):=by
   simp only [finish,if_true,Bool.true_or] at hf
   simp only [tidyR,frz,frz.go,ids,ids.idsL,List.all_nil,if_true]
   split at hf
   ·cases hf
   ·rename_i seen hs
    split at hf
    ·rename_i a b c h1 h2 h3
     simp only [Option.some.injEq,Prod.mk.injEq] at hf
     obtain ⟨rfl,rfl,rfl⟩:=hf
     simp only [h1,h2,h3]
    ·cases hf
  obtain ⟨a,I',μ',b,_,c,_⟩:=fW hf' h0 hH0 g hk
  exact ⟨a,I',μ',b,c v hv⟩
 | false=>
  obtain ⟨r1,hr1⟩ : ∃ r1,frz nx h r0=some r1:=by
   cases e:frz nx h r0 with
   | none=>simp [finish,e] at hf
   | some r1=>exact ⟨r1,rfl⟩
  have hids:ids r1=[]:=(sD (I:=I) (I':=fun _=>True) (μ:=μ) (w:=w) (fun _ _=>trivial) (fun id o ho=>(g.hr.sub (D':=fun _=>True) (lk':=look H nx h) fun _ _=>⟨.inl trivial,rfl⟩).obj id o trivial ho) hr1 hv (fun _ _ _ _=>trivial) μ).2
  have hren : ∀ seen,ren nx seen r1=some r1:=fun seen=>by
   unfold frz at hr1
   split at hr1
   ·split at hr1
    ·rename_i l hl
     obtain rfl:=Option.some.inj hr1
     have : ∀ (cs l:List LV),frz.go nx h cs=some l→ren.go nx seen l=some l:=by
      intro cs
      induction cs with
      | nil=>intro l hl;simp only [frz.go,Option.some.injEq] at hl;subst hl;rfl
      | cons q rr ih=>
       intro l hl
       simp only [frz.go] at hl
       split at hl
       ·rename_i y l' h1 h2
        obtain rfl:=Option.some.inj hl
        simp only [ren.go,ren,ih l' h2]
       ·cases hl
     simp only [ren,this _ l hl]
    ·cases hr1
   ·split at hr1
    ·obtain rfl:=Option.some.inj hr1;rfl
    ·cases hr1
  have hf':tidyR H nx (.tuple []) r0 h=some (.tuple [],r,u,n):=by
   simp only [finish,Bool.false_eq_true,if_false,hr1,Bool.false_or,hids,List.nil_append] at hf
   simp only [tidyR,hr1,ids,ids.idsL,List.nil_append]
   split at hf
   ·cases hf
   ·rename_i seen hs
    split at hf
    ·rename_i hall
     rw [if_pos hall]
     rw [hren] at hf
     split at hf
     ·rename_i a b c h1 h2 h3
      simp only [Option.some.injEq,Prod.mk.injEq] at hf
      obtain ⟨rfl,rfl,rfl⟩:=hf
      obtain rfl:=Option.some.inj h1
      simp only [ren,ren.go,h2,h3]
     ·cases hf
    ·cases hf
  obtain ⟨a,I',μ',b,_,_,c⟩:=fW hf' h0 hH0 g hk
  exact ⟨a,I',μ',b,c v hv⟩
end
theorem Inv.tidy {c:Ctx} {I0:Nat→Prop} {μ0:Mu} {w0:World} {nt:Nat} {env:Env} {h:Hp} {a:Act} {w:World} {I:Nat→Prop} {μ:Mu} (i:Inv c I0 μ0 w0 nt env h a w I μ)
  {keep fz:List Nat} {ks fs:List LV} {u:Upd} {n:List (Option Obj)}
  (hr:tidyR c.H c.nx (.tuple (keep.map (get env))) (.tuple (fz.map (get env))) h=some (.tuple ks,.tuple fs,u,n)):
  ∃ I' μ',Inv c I0 μ0 w0 nt (keep.zip ks++fz.zip fs) ⟨u,n⟩ a w I' μ':=by
 have h0 : ∀ id,c.nx≤id→μ0 id=Option.none:=fun id hid=>by
  by_cases e:id<c.nx+h.new.length
  ·exact i.goes.fresh id ⟨hid,e⟩
  ·rw [←i.goes.mu id (by omega)];exact i.none id (by omega)
 obtain ⟨hk,I',μ',g,hII,v1,v2⟩:=fW hr h0 i.base i.goes i.keys
 have hvs : ∀ (l:List Nat),VR I μ w (.tuple (l.map (get env))) (.tuple (l.map fun t=>a.tmps.getD t undef).toArray):=fun l=>
  .tuple _ _ (by simp) fun j x v hj hv=>by
   simp only [List.getElem?_map,Option.map_eq_some_iff,List.getElem?_toArray] at hj hv
   obtain ⟨t,ht,rfl⟩:=hj
   obtain ⟨t',ht',rfl⟩:=hv
   obtain rfl:=Option.some.inj (ht.symm.trans ht')
   exact i.env t
 have hz : ∀ (l:List Nat) (xs:List LV),VR I' μ' w (.tuple xs) (.tuple (l.map fun t=>a.tmps.getD t undef).toArray)→∀ t x,(t,x)∈l.zip xs→VR I' μ' w x (a.tmps.getD t undef):=fun l xs hx t x hm=>by
  obtain ⟨ar,e,_,hc⟩:=jF hx
  obtain rfl:=Value.tuple.inj e
  obtain ⟨j,hj,e⟩:=List.mem_iff_getElem.1 hm
  rw [List.getElem_zip] at e
  obtain ⟨e1,e2⟩:=Prod.mk.inj e
  have h1:j<l.length:=by rw [List.length_zip] at hj;omega
  have h2:j<xs.length:=by rw [List.length_zip] at hj;omega
  exact hc j x _ (by rw [List.getElem?_eq_getElem h2,e2]) (by simp [h1,e1])
 have hg : ∀ (l:Env) t,get l t = .junk∨(t,get l t)∈l:=by
  intro l t
  induction l with
  | nil=>exact .inl rfl
  | cons p r ih=>
   obtain ⟨s,x⟩:=p
   simp only [get]
   by_cases e:t=s
   ·subst e;rw [if_pos rfl];exact .inr List.mem_cons_self
   ·rw [if_neg e];exact ih.imp (fun h=>h) fun h=>List.mem_cons_of_mem _ h
 refine ⟨I',μ',⟨fun t => ?_,i.size,i.defers,g,fun id hid => ?_,i.glob.mono hII fun _ _=>rfl,hk,i.base⟩⟩
 ·rcases hg (keep.zip ks++fz.zip fs) t with e|e
  ·rw [e];exact .junk _
  ·rcases List.mem_append.1 e with e|e
   ·exact hz keep ks (v1 _ (hvs keep)) _ _ e
   ·exact hz fz fs (v2 _ (hvs fz)) _ _ e
 ·have hid':c.nx+n.length≤id:=hid
  rw [g.mu id (by omega)];exact h0 id (by omega)
end Go.Sx
end

section
namespace Go.Sx
open Go
def Ex.out:Ex→Exit
 | .goto l=>.goto l
 | .normal=>.normal
 | .exit id=>.exit id
 | .ret=>.ret
section
variable {P:Program} {imT:An} {c:Ctx} {I0:Nat→Prop} {μ0:Mu} {w0:World} {nt:Nat} {res:List Nat}
theorem Inv.drew {env:Env} {h:Hp} {a:Act} {w:World} {I:Nat→Prop} {μ:Mu} (i:Inv c I0 μ0 w0 nt env h a w I μ):Inv c I0 μ0 w0 nt env h a { w with drawn:=w.drawn+1 } I μ:=by
 have g:Goes I I μ μ w { w with drawn:=w.drawn+1 } (look c.H c.nx h) (look c.H c.nx h) (fun _=>True) (fun _=>False):=(Goes.drew i.hr.lt).widen i.hr fun _ h=>h.elim
 exact ⟨i.env.mono fun l v hl=>g.vr i.hr hl,i.size,i.defers,i.goes.trans g fun id=>by simp,i.none,i.glob.mono g.up (g.imm_block i.hr),i.keys,i.base⟩
theorem m7 {n:Nat} {k f:List Nat} {st st':St} {e:Ex} (h:runC c n (.tidy k f) st=some (e,st')):e = .normal∧∀ (a:Act) (w:World) (I:Nat→Prop) (μ:Mu),Inv c I0 μ0 w0 nt st.env st.h a w I μ→∃ I' μ',Inv c I0 μ0 w0 nt st'.env st'.h a w I' μ':=by
 simp only [runC] at h
 split at h
 case h_2=>cases h
 rename_i ks fs u m hr
 simp only [Option.some.injEq,Prod.mk.injEq] at h
 obtain ⟨rfl,rfl⟩:=h
 exact ⟨rfl,fun a w I μ i=>i.tidy hr⟩
theorem kc {n:Nat} {b:IRC} {l:List (Nat × List Nat)} {id:Nat} {a0:List Nat} {st st':St} {e:Ex} (h:runC c n (thenT b (tidyOf l id a0)) st=some (e,st')):
  ∃ st1,runC c n b st=some (e,st1)∧∀ (a:Act) (w:World) (I:Nat→Prop) (μ:Mu),Inv c I0 μ0 w0 nt st1.env st1.h a w I μ→∃ I' μ',Inv c I0 μ0 w0 nt st'.env st'.h a w I' μ':=by
 unfold tidyOf at h
 split at h
 ·simp only [thenT,runC] at h
  cases hb:runC c n b st with
  | none=>rw [hb] at h;cases h
  | some y=>
   obtain ⟨e1,st1⟩:=y
   rw [hb] at h
   cases e1 with
   | normal=>
    obtain ⟨rfl,hi⟩:=m7 (c:=c) (I0:=I0) (μ0:=μ0) (w0:=w0) (nt:=nt) (n:=n) (k:=a0.filter fun x => !(List.contains _ x)) (f:=a0.filter fun x=>List.contains _ x) (st:=st1) (e:=e) (st':=st') h
    exact ⟨st1,rfl,hi⟩
   | exit j=>simp only [Option.some.injEq,Prod.mk.injEq] at h;obtain ⟨rfl,rfl⟩:=h;exact ⟨st1,rfl,fun a w I μ i=>⟨I,μ,i⟩⟩
   | ret=>simp only [Option.some.injEq,Prod.mk.injEq] at h;obtain ⟨rfl,rfl⟩:=h;exact ⟨st1,rfl,fun a w I μ i=>⟨I,μ,i⟩⟩
   | goto j=>simp only [Option.some.injEq,Prod.mk.injEq] at h;obtain ⟨rfl,rfl⟩:=h;exact ⟨st1,rfl,fun a w I μ i=>⟨I,μ,i⟩⟩
 ·exact ⟨st',h,fun a w I μ i=>⟨I,μ,i⟩⟩
theorem j3 {n:Nat} {b:Bool} {l:List Nat} {d:IRC} {st st':St} {e:Ex} (h:runC c n (if b then .seq (.tidy l []) d else d) st=some (e,st')):
  ∃ st0,runC c n d st0=some (e,st')∧∀ (a:Act) (w:World) (I:Nat→Prop) (μ:Mu),Inv c I0 μ0 w0 nt st.env st.h a w I μ→∃ I' μ',Inv c I0 μ0 w0 nt st0.env st0.h a w I' μ':=by
 cases b with
 | false=>exact ⟨st,h,fun a w I μ i=>⟨I,μ,i⟩⟩
 | true=>
  simp only [if_true] at h
  rw [runC] at h
  cases hb:runC c n (.tidy l []) st with
  | none=>rw [hb] at h;cases h
  | some y=>
   obtain ⟨e1,st1⟩:=y
   rw [hb] at h
   obtain ⟨rfl,hi⟩:=m7 (I0:=I0) (μ0:=μ0) (w0:=w0) (nt:=nt) hb
   exact ⟨st1,h,hi⟩
def Qk (t:Tr):Prop:=(t.md=true→t.tch=[])∧t.lo=t.hi
theorem fj {c:Ctx} {fin:Bool} : ∀ {l:List IROper} {env env':Env} {h h':Hp},runOpsQ c fin l env h=some (env',h')→∃ tr,runOpsT c l env h=some (tr,env',h')∧tr.length=l.length∧∀ i,i<l.length→(i+1<l.length∨fin=false)→Qk (tr.getD i default)
 | [],env,env',h,h',hr=>by
  simp only [runOpsQ,Option.some.injEq,Prod.mk.injEq] at hr
  obtain ⟨rfl,rfl⟩:=hr
  exact ⟨[],rfl,rfl,fun i hi=>by cases hi⟩
 | o::r,env,env',h,h',hr=>by
  simp only [runOpsQ] at hr
  split at hr
  ·rename_i hw
   split at hr
   ·rename_i x hx
    split at hr
    ·rename_i hq
     obtain ⟨tr,h1,h2,h3⟩:=fj hr
     refine ⟨_,by simp only [runOpsT,hw,hx,h1];rfl,by simp [h2],fun i hi hc => ?_⟩
     cases i with
     | zero=>
      have hq':quickR h x=true:=by
       rcases Bool.or_eq_true_iff.1 hq with hq|hq
       ·rw [Bool.and_eq_true] at hq
        rcases hc with hc|hc
        ·have:r=[]:=by simpa using hq.2
         subst this;simp at hc
        ·rw [hc] at hq;cases hq.1
       ·exact hq
      simp only [quickR,Bool.and_eq_true,beq_iff_eq] at hq'
      refine ⟨fun hm => ?_,by simp [hq'.2]⟩
      have hm':x.md=true:=by simpa using hm
      rw [hm'] at hq'
      simpa using hq'.1
     | succ i=>simpa using h3 i (by simpa using hi) (hc.imp (fun h=>by simpa using h) id)
    ·cases hr
   ·cases hr
  ·rename_i hw
   obtain ⟨tr,h1,h2,h3⟩:=fj hr
   refine ⟨_,by simp only [runOpsT,hw,h1];rfl,by simp [h2],fun i hi hc => ?_⟩
   cases i with
   | zero=>exact ⟨fun hm=>by simp at hm,by simp⟩
   | succ i=>simpa using h3 i (by simpa using hi) (hc.imp (fun h=>by simpa using h) id)
  ·cases hr
theorem n8 {c:Ctx} {bs:List Nat} {l:List IROper} {env env':Env} {h h':Hp} (hr:runOpsQ c (lastFull bs l.length) l env h=some (env',h')) : ∃ tr,runOpsT c l env h=some (tr,env',h')∧indepD tr bs=true:=by
 obtain ⟨tr,h1,h2,h3⟩:=fj hr
 refine ⟨tr,h1,?_⟩
 unfold indepD
 split
 ·rfl
 ·refine (fI tr [] bs).2 fun j hj i hi => ?_
  have hi':i<j:=by simpa using hi
  rw [List.nil_append,Bool.or_eq_true]
  by_cases hc:j+1<l.length∨lastFull bs l.length=false
  ·exact .inr (fY (h3 i (by omega) (.inl (by omega))) (h3 j (by omega) hc))
  ·left
   simp only [not_or,Bool.not_eq_false] at hc
   have:=List.all_eq_true.1 hc.2 i (List.mem_range.2 (by omega))
   rwa [show l.length-1=j by omega] at this
theorem kP (hO:OSound P c.G c.O) (hm:P.follows .mixedOrders=true) {id:Nat} {ops:Array Oper} {draw:Bool} {x:LCtx} {after:List Nat} {n:Nat} {st st':St} {e:Ex} {a:Act} {w:World} {I:Nat→Prop} {μ:Mu} {Q:Exit→Act→World→Prop}
  (hr:runC c n (cc P imT nt res x (.region id ops draw) after).1 st=some (e,st')) (hi:Inv c I0 μ0 w0 nt st.env st.h a w I μ) (hQ : ∀ a' w' I' μ',Inv c I0 μ0 w0 nt st'.env st'.h a' w' I' μ'→Q e.out a' w'):
  (Code.region id ops draw).wp P Q a w:=by
 simp only [cc] at hr
 obtain ⟨st1,hr,hti⟩:=kc (I0:=I0) (μ0:=μ0) (w0:=w0) (nt:=nt) hr
 have hQ : ∀ a' w' I' μ',Inv c I0 μ0 w0 nt st1.env st1.h a' w' I' μ'→Q e.out a' w':=fun a' w' I' μ' i=>by
  obtain ⟨I'',μ'',i'⟩:=hti a' w' I' μ' i
  exact hQ a' w' I'' μ'' i'
 clear hti
 split at hr
 case isTrue=>simp [runC] at hr
 rename_i hedge
 cases draw with
 | false=>
  simp only [Bool.false_and,Bool.false_eq_true,if_false,runC] at hr
  split at hr
  case h_2=>cases hr
  rename_i env h hrun
  simp only [Option.some.injEq,Prod.mk.injEq] at hr
  obtain ⟨rfl,rfl⟩:=hr
  refine wp_region ?_
  rw [List.range_eq_range']
  exact kW (imT:=imT) hO (fun a' w' I' μ' hi'=>hQ a' w' I' μ' (hi'.keep after)) ops.size 0 _ _ a w I μ (by omega) (by simpa using hrun) hi
 | true=>
  have hdr : ∃ tr env h,runOpsT c (ops.toList.map (coper P imT nt ops)) st.env st.h=some (tr,env,h)∧indepD tr (Region.before ops).toList=true∧e = .normal∧st1=⟨keep after env,h⟩:=by
   split at hr
   ·simp only [runC] at hr
    split at hr
    case h_2=>cases hr
    rename_i env h hrun
    obtain ⟨tr,h1,h2⟩:=n8 hrun
    simp only [Option.some.injEq,Prod.mk.injEq] at hr
    exact ⟨tr,env,h,h1,h2,hr.1.symm,hr.2.symm⟩
   ·simp only [if_true,runC] at hr
    split at hr
    case h_2=>cases hr
    rename_i tr env h hrun
    split at hr
    case isFalse=>cases hr
    rename_i hind
    simp only [Option.some.injEq,Prod.mk.injEq] at hr
    exact ⟨tr,env,h,hrun,hind,hr.1.symm,hr.2.symm⟩
  clear hr
  obtain ⟨tr,env,h,hrun,hind,rfl,rfl⟩:=hdr
  obtain ⟨E,Hs,R,a1,a2,a3,a4,a5,a6⟩:=mR _ _ _ _ _ _ hrun
  simp only [List.length_map,Array.length_toList] at a3 a4 a5 a6
  have hreg:Reg P imT c nt ops E Hs R tr:=by
   refine ⟨hO,fun i o ho => ?_,fun i o e ho he hb => ?_,fun i j hij hj hb => ?_⟩
   ·have hlt:=(Array.getElem?_eq_some_iff.1 ho).1
    have:=a6 i hlt
    simp only [List.getElem_map,Array.getElem_toList] at this
    rw [(Array.getElem?_eq_some_iff.1 ho).2] at this
    exact this
   ·simp only [Bool.true_and,Bool.not_eq_true',Bool.not_eq_false,Bool.and_eq_true] at hedge
    have h1:=Array.all_eq_true'.1 hedge.1 (o,i) (by
     rw [Array.mem_zipIdx_iff_getElem?];exact ho)
    have h2:=Array.all_eq_true'.1 h1 e he
    rw [hb] at h2
    simpa using h2
   ·simp only [Bool.true_and,Bool.not_eq_true',Bool.not_eq_false,Bool.and_eq_true] at hedge
    have hget:(Region.before ops).toList.getD j 0=(Region.before ops).getD j 0:=by
     simp [List.getD_eq_getElem?_getD,Array.getD_eq_getD_getElem?]
    have hb':((Region.before ops).toList.getD j 0).testBit i=false:=by rw [hget];exact hb
    have hl1:i<(ops.toList.map (coper P imT nt ops)).length:=by simp;omega
    have hl2:j<(ops.toList.map (coper P imT nt ops)).length:=by simp;omega
    exact p9 (kB hedge.2 i j hij hl2 hb') (kA hind i j hij (by omega) hb') (gH hrun i hl1) (gH hrun j hl2)
  refine wp_region_any hm ?_
  have hi':=hi.drew
  rw [←a1,←a2] at hi'
  refine sd (I0:=I0) (μ0:=μ0) (w0:=w0) hreg hi'.keys hi.base (fun a' w' I' μ' hi2=>hQ a' w' I' μ' ?_) ops.size _ a _ I μ (by simp) (by
    refine Nat.le_trans (List.length_filter_le _ _) ?_
    simp) ?_
  ·rw [a3,a4] at hi2
   exact hi2.keep after
  ·have hfalse:(fun k=>(Array.replicate ops.size false).getD k false)=fun _=>false:=funext fun k=>by
    simp only [Array.getD_eq_getD_getElem?,Array.getElem?_replicate]
    split<;>rfl
   rw [hfalse]
   have he : ∀ k t,eD (E 0) R tr (fun _=>false) k t=get (E 0) t:=by
    intro k
    induction k with
    | zero=>intro t;rfl
    | succ k ih=>intro t;rw [eD,if_neg (by simp)];exact ih t
   have hl : ∀ k id,lD c.H c.nx Hs tr (fun _=>false) k id=look c.H c.nx (Hs 0) id:=by
    intro k
    induction k with
    | zero=>intro t;rfl
    | succ k ih=>intro t;rw [lD,if_neg (by simp)];exact ih t
   refine ⟨fun t=>by rw [he];exact hi'.env t,hi'.size,hi'.defers,?_,fun id h1 _=>hi'.none id h1,hi'.glob,fun j o e hj=>by cases hj⟩
   have:lD c.H c.nx Hs tr (fun _=>false) ops.size=look c.H c.nx (Hs 0):=funext fun id=>hl _ id
   rw [this]
   exact hi'.goes.congrN fun id=>by simp
theorem iA {b:IRC} (hb:splitI b=none) (l:List (Nat × List Nat)) (id:Nat) (a:List Nat):splitI (thenT b (tidyOf l id a))=none:=by
 unfold tidyOf
 split
 ·simp [thenT,splitI,hb]
 ·simpa [thenT] using hb
theorem cL {P:Program} {imT:An} {nt:Nat} {res:List Nat} : ∀ (c:Code) (x:LCtx) (a:List Nat),splitI (cc P imT nt res x c a).1=none→∀ j,findLabel c j=none
 | .label l,x,a,h,j=>by simp [cc,splitI] at h
 | .seq p q,x,a,h,j=>by
  simp only [cc,splitI] at h
  split at h
  ·cases h
  ·rename_i h1
   split at h
   ·cases h
   ·rename_i h2
    simp only [findLabel,cL p _ _ h1 j,cL q _ _ h2 j]
 | .skip,x,a,h,j=>rfl
 | .region ..,x,a,h,j=>rfl
 | .cond ..,x,a,h,j=>rfl
 | .block ..,x,a,h,j=>rfl
 | .loop ..,x,a,h,j=>rfl
 | .exit ..,x,a,h,j=>rfl
 | .ret,x,a,h,j=>rfl
 | .rangeFunc ..,x,a,h,j=>rfl
 | .scope ..,x,a,h,j=>rfl
 | .goto ..,x,a,h,j=>rfl
 | .refuse ..,x,a,h,j=>rfl
theorem eI {P:Program} {imT:An} {nt:Nat} {res:List Nat} : ∀ (c:Code) (x:LCtx) (a:List Nat) (X:IRC) (l:Nat) (lv:List Nat) (Y:IRC),splitI (cc P imT nt res x c a).1=some (X,l,lv,Y) →
  (∃ rest,findLabel c l=some rest∧(cc P imT nt res x rest a).1=Y)∧(splitI Y=none→∀ j,j≠l→findLabel c j=none)
 | .label k,x,a,X,l,lv,Y,h=>by
  simp only [cc,splitI,Option.some.injEq,Prod.mk.injEq] at h
  obtain ⟨rfl,rfl,rfl,rfl⟩:=h
  refine ⟨⟨.skip,by simp [findLabel],rfl⟩,fun _ j hj => ?_⟩
  have : ¬(k==j)=true:=by simp;exact fun e=>hj e.symm
  simp [findLabel,this]
 | .seq p q,x,a,X,l,lv,Y,h=>by
  simp only [cc,splitI] at h
  split at h
  ·rename_i X1 l1 lv1 Y1 h1
   simp only [Option.some.injEq,Prod.mk.injEq] at h
   obtain ⟨rfl,rfl,rfl,rfl⟩:=h
   obtain ⟨⟨rest,h2,h3⟩,h4⟩:=eI p _ _ _ _ _ _ h1
   refine ⟨⟨.seq rest q,by simp [findLabel,h2],by simp only [cc,h3]⟩,fun hn j hj => ?_⟩
   simp only [splitI] at hn
   split at hn
   ·cases hn
   ·rename_i h5
    split at hn
    ·cases hn
    ·rename_i h6
     simp only [findLabel,h4 h5 j hj,cL q _ _ h6 j]
  ·rename_i h1
   split at h
   ·rename_i X1 l1 lv1 Y1 h2
    simp only [Option.some.injEq,Prod.mk.injEq] at h
    obtain ⟨rfl,rfl,rfl,rfl⟩:=h
    obtain ⟨⟨rest,h3,h4⟩,h5⟩:=eI q _ _ _ _ _ _ h2
    refine ⟨⟨rest,by simp only [findLabel,cL p _ _ h1,h3],h4⟩,fun hn j hj => ?_⟩
    simp only [findLabel,cL p _ _ h1,h5 hn j hj]
   ·cases h
 | .skip,x,a,X,l,lv,Y,h=>by simp [cc,splitI] at h
 | .region id ops draw,x,a,X,l,lv,Y,h=>by
  simp only [cc] at h
  rw [iA (by split<;>(try split)<;>rfl)] at h
  cases h
 | .cond ..,x,a,X,l,lv,Y,h=>by
  simp only [cc,kpI] at h
  split at h<;>simp [splitI] at h
 | .block ..,x,a,X,l,lv,Y,h=>by
  simp only [cc] at h
  rw [iA rfl] at h
  cases h
 | .loop ..,x,a,X,l,lv,Y,h=>by simp [cc,splitI] at h
 | .exit ..,x,a,X,l,lv,Y,h=>by
  simp only [cc,kpX] at h
  split at h<;>simp [splitI] at h
 | .ret,x,a,X,l,lv,Y,h=>by simp [cc,splitI] at h
 | .rangeFunc ..,x,a,X,l,lv,Y,h=>by simp [cc,splitI] at h
 | .scope c,x,a,X,l,lv,Y,h=>by
  simp only [cc] at h
  split at h
  ·split at h<;>simp [splitI] at h
  ·simp [splitI] at h
 | .goto ..,x,a,X,l,lv,Y,h=>by
  simp only [cc,kpG] at h
  split at h<;>simp [splitI] at h
 | .refuse ..,x,a,X,l,lv,Y,h=>by simp [cc,splitI] at h
theorem fV (c:Ctx) (n:Nat) : ∀ (i X:IRC) (l:Nat) (lv:List Nat) (Y:IRC) (st:St),splitI i=some (X,l,lv,Y)→runC c n i st=match runC c n X st with
  | some (.normal,st')=>runC c n Y st'
  | r=>r
 | .label k lv',X,l,lv,Y,st,h=>by
  simp only [splitI,Option.some.injEq,Prod.mk.injEq] at h
  obtain ⟨rfl,rfl,rfl,rfl⟩:=h
  rfl
 | .seq p q,X,l,lv,Y,st,h=>by
  simp only [splitI] at h
  split at h
  ·rename_i X1 l1 lv1 Y1 h1
   simp only [Option.some.injEq,Prod.mk.injEq] at h
   obtain ⟨rfl,rfl,rfl,rfl⟩:=h
   simp only [runC,fV c n p _ _ _ _ st h1]
   cases runC c n X1 st with
   | none=>rfl
   | some r=>
    obtain ⟨e,s⟩:=r
    cases e<;>rfl
  ·split at h
   ·rename_i X1 l1 lv1 Y1 h2
    simp only [Option.some.injEq,Prod.mk.injEq] at h
    obtain ⟨rfl,rfl,rfl,rfl⟩:=h
    simp only [runC]
    cases runC c n p st with
    | none=>rfl
    | some r=>
     obtain ⟨e,s⟩:=r
     cases e with
     | normal=>exact fV c n q _ _ _ _ s h2
     | _=>rfl
   ·cases h
 | .skip,_,_,_,_,_,h=>by simp [splitI] at h
 | .region ..,_,_,_,_,_,h=>by simp [splitI] at h
 | .cond ..,_,_,_,_,_,h=>by simp [splitI] at h
 | .block ..,_,_,_,_,_,h=>by simp [splitI] at h
 | .loop ..,_,_,_,_,_,h=>by simp [splitI] at h
 | .exit ..,_,_,_,_,_,h=>by simp [splitI] at h
 | .ret,_,_,_,_,_,h=>by simp [splitI] at h
 | .bad,_,_,_,_,_,h=>by simp [splitI] at h
 | .goto ..,_,_,_,_,_,h=>by simp [splitI] at h
 | .scope ..,_,_,_,_,_,h=>by simp [splitI] at h
 | .tidy ..,_,_,_,_,_,h=>by simp [splitI] at h
 | .regq ..,_,_,_,_,_,h=>by simp [splitI] at h
def jumps (P:Program) (p:Code) (Q:Exit→Act→World→Prop):Nat→Code→Act→World→Prop
 | 0,_,_,_=>False
 | n+1,c,a,w=>c.wp P (fun e a w=>match e with
  | .goto l=>(match findLabel p l with
   | some rest=>jumps P p Q n rest a w
   | none=>Q (.goto l) a w)
  | e=>Q e a w) a w
theorem kZ {P:Program} {b:Frame} {a:Act} {k:List Item} {cs:List Frame} {w:World} {c:Code} : step P (lone (b.at a (.inScope c::k)) cs w) = .next (lone (b.at a k) cs w):=
 step_lone_go (by simp [stepG,stepG.exec,Frame.at])
theorem oc {P:Program} {b:Frame} {a:Act} {k:List Item} {cs:List Frame} {w:World} {c:Code} : step P (lone (b.at a (.code (.scope c)::k)) cs w) = .next (lone (b.at a (.code c :: .inScope c::k)) cs w):=
 step_lone_go (by simp [stepG,stepG.exec,Frame.at])
theorem gL {P:Program} {p:Code} {Q:Exit→Act→World→Prop} {a:Act} {w:World} (n:Nat) (h:jumps P p Q n p a w):(Code.scope p).wp P Q a w:=by
 intro b k cs
 have key : ∀ n c a w,jumps P p Q n c a w→∃ e a' w',Q e a' w'∧Arrives P (lone (b.at a (.code c :: .inScope p::k)) cs w) b k cs e a' w':=by
  intro n
  induction n with
  | zero=>intro c a w h;exact h.elim
  | succ n ih=>
   intro c a w h
   obtain ⟨e,a₁,w₁,hq,harr⟩:=h b (.inScope p::k) cs
   cases e with
   | normal=>exact ⟨.normal,a₁,w₁,hq,Steps.trans harr (.one kZ)⟩
   | exit id=>exact ⟨.exit id,a₁,w₁,hq,fun k' hk=>harr k' (by simp [exitTo,hk])⟩
   | goto l=>
    simp only at hq
    split at hq
    ·rename_i rest hl
     obtain ⟨e₂,a₂,w₂,hq₂,harr₂⟩:=ih rest a₁ w₁ hq
     exact ⟨e₂,a₂,w₂,hq₂,.of_steps (harr _ (by simp [gotoIn,hl])) harr₂⟩
    ·rename_i hl
     exact ⟨.goto l,a₁,w₁,hq,fun k' hk=>harr k' (by simp [gotoIn,hl,hk])⟩
   | ret=>exact ⟨_,a₁,w₁,hq,harr⟩
   | panic ch=>exact ⟨_,a₁,w₁,hq,harr⟩
   | outgrown=>exact ⟨_,a₁,w₁,hq,harr⟩
 obtain ⟨e,a',w',hq,harr⟩:=key n p a w h
 exact ⟨e,a',w',hq,.of_steps (.one oc) harr⟩
def CS (P:Program) (imT:An) (c:Ctx) (I0:Nat→Prop) (μ0:Mu) (w0:World) (nt:Nat) (res:List Nat) (n:Nat) (code:Code):Prop:=
 ∀ (x:LCtx) (after:List Nat) (st st':St) (e:Ex) (a:Act) (w:World) (I:Nat→Prop) (μ:Mu) (Q:Exit→Act→World→Prop),
  runC c n (cc P imT nt res x code after).1 st=some (e,st')→Inv c I0 μ0 w0 nt st.env st.h a w I μ→(∀ a' w' I' μ',Inv c I0 μ0 w0 nt st'.env st'.h a' w' I' μ'→Q e.out a' w')→code.wp P Q a w
theorem oF {n:Nat} : CS P imT c I0 μ0 w0 nt res n .skip:=by
 intro x after st st' e a w I μ Q hr hi hQ
 simp only [cc,runC,Option.some.injEq,Prod.mk.injEq] at hr
 obtain ⟨rfl,rfl⟩:=hr
 exact wp_skip (hQ a w I μ hi)
theorem rY {n:Nat} {p q:Code} (hp:CS P imT c I0 μ0 w0 nt res n p) (hq:CS P imT c I0 μ0 w0 nt res n q):CS P imT c I0 μ0 w0 nt res n (.seq p q):=by
 intro x after st st' e a w I μ Q hr hi hQ
 simp only [cc,runC] at hr
 refine wp_seq ?_
 split at hr
 ·rename_i st1 h1
  refine hp _ _ st st1 .normal a w I μ _ h1 hi fun a' w' I' μ' hi' => ?_
  exact hq _ _ st1 st' e a' w' I' μ' _ hr hi' hQ
 ·rename_i hne
  cases hrun:runC c n (cc P imT nt res x p (cc P imT nt res x q after).2).1 st with
  | none=>rw [hrun] at hr;cases hr
  | some y=>
   obtain ⟨e1,st1⟩:=y
   rw [hrun] at hr
   simp only [Option.some.injEq,Prod.mk.injEq] at hr
   obtain ⟨rfl,rfl⟩:=hr
   refine hp _ _ st st1 e1 a w I μ _ hrun hi fun a' w' I' μ' hi' => ?_
   have hn:e1 ≠ .normal:=fun h=>by subst h;exact hne st1 hrun
   cases e1 with
   | normal=>exact absurd rfl hn
   | exit id=>exact hQ a' w' I' μ' hi'
   | ret=>exact hQ a' w' I' μ' hi'
   | goto l=>exact hQ a' w' I' μ' hi'
theorem uQ {n:Nat} {k:Bool} {b:IRC} {l:List Nat} {st st':St} {e:Ex} {Q:Exit→Act→World→Prop} (h:runC c n (kpI k b l) st=some (e,st')) (hQ : ∀ a' w' I' μ',Inv c I0 μ0 w0 nt st'.env st'.h a' w' I' μ'→Q e.out a' w'):
  ∃ st1,runC c n b st=some (e,st1)∧∀ a' w' I' μ',Inv c I0 μ0 w0 nt st1.env st1.h a' w' I' μ'→Q e.out a' w':=by
 cases k with
 | false=>exact ⟨st',h,hQ⟩
 | true=>
  simp only [kpI,if_true,runC] at h
  split at h
  ·rename_i st1 h1
   simp only [runOps,Option.some.injEq,Prod.mk.injEq] at h
   obtain ⟨rfl,rfl⟩:=h
   exact ⟨st1,h1,fun a' w' I' μ' i=>hQ a' w' I' μ' (i.keep l)⟩
  ·exact ⟨st',h,hQ⟩
theorem ue {n:Nat} {o:Operand} {p q:Code} (hp:CS P imT c I0 μ0 w0 nt res n p) (hq:CS P imT c I0 μ0 w0 nt res n q):CS P imT c I0 μ0 w0 nt res n (.cond o p q):=by
 intro x after st st' e a w I μ Q hr hi hQ
 simp only [cc] at hr
 obtain ⟨st1,hr,hQ⟩:=uQ hr hQ
 simp only [runC] at hr
 split at hr
 case h_2=>cases hr
 rename_i t ht
 have hv:=hi.env.opds hi.glob o
 rw [ht] at hv
 refine wp_cond (t:=t) (bh hv) ?_
 cases t with
 | true=>simp only [if_true] at hr ⊢;exact hp _ _ st st1 e a w I μ Q hr hi hQ
 | false=>simp only [Bool.false_eq_true,if_false] at hr ⊢;exact hq _ _ st st1 e a w I μ Q hr hi hQ
theorem rU {n:Nat} {id:Nat} {p:Code} (hp:CS P imT c I0 μ0 w0 nt res n p):CS P imT c I0 μ0 w0 nt res n (.block id p):=by
 intro x after st st' e a w I μ Q hr hi hQ
 simp only [cc] at hr
 obtain ⟨stt,hr,hti⟩:=kc (I0:=I0) (μ0:=μ0) (w0:=w0) (nt:=nt) hr
 have hQ : ∀ a' w' I' μ',Inv c I0 μ0 w0 nt stt.env stt.h a' w' I' μ'→Q e.out a' w':=fun a' w' I' μ' i=>by
  obtain ⟨I'',μ'',i'⟩:=hti a' w' I' μ' i
  exact hQ a' w' I'' μ'' i'
 clear hti
 simp only [runC] at hr
 refine wp_block ?_
 split at hr
 ·rename_i j st1 h1
  refine hp _ _ st st1 (.exit j) a w I μ _ h1 hi fun a' w' I' μ' hi' => ?_
  simp only [Ex.out,Exit.inBlock]
  split at hr
  ·rename_i hj
   simp only [Option.some.injEq,Prod.mk.injEq] at hr
   obtain ⟨rfl,rfl⟩:=hr
   rw [if_pos hj]
   exact hQ a' w' I' μ' hi'
  ·rename_i hj
   simp only [Option.some.injEq,Prod.mk.injEq] at hr
   obtain ⟨rfl,rfl⟩:=hr
   rw [if_neg hj]
   exact hQ a' w' I' μ' hi'
 ·rename_i hne
  cases hrun:runC c n (cc P imT nt res ((id,after)::x) p after).1 st with
  | none=>rw [hrun] at hr;cases hr
  | some y=>
   obtain ⟨e1,st1⟩:=y
   rw [hrun] at hr
   simp only [Option.some.injEq,Prod.mk.injEq] at hr
   obtain ⟨rfl,rfl⟩:=hr
   refine hp _ _ st st1 e1 a w I μ _ hrun hi fun a' w' I' μ' hi' => ?_
   cases e1 with
   | normal=>exact hQ a' w' I' μ' hi'
   | exit j=>exact absurd hrun (hne j st1)
   | ret=>exact hQ a' w' I' μ' hi'
   | goto l=>exact hQ a' w' I' μ' hi'
theorem ui {n:Nat} {p:Code} (hp:CS P imT c I0 μ0 w0 nt res n p):CS P imT c I0 μ0 w0 nt res n (.loop p):=by
 intro x after st st' e a w I μ Q hr hi hQ
 simp only [cc,runC] at hr
 obtain ⟨l,hl⟩ : ∃ l,l=(cc P imT nt res x p (cc P imT nt res x p []).2).2:=⟨_,rfl⟩
 obtain ⟨l2,hl2⟩ : ∃ l2,l2=(cc P imT nt res x p l).2:=⟨_,rfl⟩
 rw [←hl,←hl2] at hr
 have key : ∀ (k:Nat) (st:St) (a:Act) (w:World) (I:Nat→Prop) (μ:Mu),iter (runC c n (if imT.lp then .seq (.tidy l2 []) (cc P imT nt res x p l).1 else (cc P imT nt res x p l).1)) k st=some (e,st')→Inv c I0 μ0 w0 nt st.env st.h a w I μ→Code.rounds P p Q k a w:=by
  intro k
  induction k with
  | zero=>intro st a w I μ hk;simp [iter] at hk
  | succ k ih=>
   intro st a w I μ hk hi
   simp only [iter] at hk
   rw [rounds_succ]
   split at hk
   ·rename_i st1 h1
    obtain ⟨st0,h1,hti⟩:=j3 (I0:=I0) (μ0:=μ0) (w0:=w0) (nt:=nt) h1
    obtain ⟨I2,μ2,hi2⟩:=hti a w I μ hi
    exact hp _ _ st0 st1 .normal a w I2 μ2 _ h1 hi2 fun a' w' I' μ' hi'=>ih st1 a' w' I' μ' hk hi'
   ·rename_i hne
    cases hrun:runC c n (if imT.lp then .seq (.tidy l2 []) (cc P imT nt res x p l).1 else (cc P imT nt res x p l).1) st with
    | none=>rw [hrun] at hk;cases hk
    | some y=>
     obtain ⟨e1,st1⟩:=y
     rw [hrun] at hk
     simp only [Option.some.injEq,Prod.mk.injEq] at hk
     obtain ⟨rfl,rfl⟩:=hk
     obtain ⟨st0,hrun0,hti⟩:=j3 (I0:=I0) (μ0:=μ0) (w0:=w0) (nt:=nt) hrun
     obtain ⟨I2,μ2,hi2⟩:=hti a w I μ hi
     refine hp _ _ st0 st1 e1 a w I2 μ2 _ hrun0 hi2 fun a' w' I' μ' hi' => ?_
     cases e1 with
     | normal=>exact absurd hrun (hne st1)
     | exit j=>exact hQ a' w' I' μ' hi'
     | ret=>exact hQ a' w' I' μ' hi'
     | goto l=>exact hQ a' w' I' μ' hi'
 exact wp_loop_rounds n (key n st a w I μ hr hi)
theorem ug {n id:Nat} : CS P imT c I0 μ0 w0 nt res n (.exit id):=by
 intro x after st st' e a w I μ Q hr hi hQ
 simp only [cc,kpX] at hr
 split at hr
 ·simp only [runC,runOps,Option.some.injEq,Prod.mk.injEq] at hr
  obtain ⟨rfl,rfl⟩:=hr
  exact wp_exit (hQ a w I μ (hi.keep _))
 ·simp only [runC,Option.some.injEq,Prod.mk.injEq] at hr
  obtain ⟨rfl,rfl⟩:=hr
  exact wp_exit (hQ a w I μ hi)
theorem wm {n:Nat} : CS P imT c I0 μ0 w0 nt res n .ret:=by
 intro x after st st' e a w I μ Q hr hi hQ
 simp only [cc,runC,Option.some.injEq,Prod.mk.injEq] at hr
 obtain ⟨rfl,rfl⟩:=hr
 exact wp_ret (hQ a w I μ hi)
theorem rV {n l:Nat} : CS P imT c I0 μ0 w0 nt res n (.label l):=by
 intro x after st st' e a w I μ Q hr hi hQ
 simp only [cc,runC,Option.some.injEq,Prod.mk.injEq] at hr
 obtain ⟨rfl,rfl⟩:=hr
 exact wp_label (hQ a w I μ hi)
theorem uh {n l:Nat} : CS P imT c I0 μ0 w0 nt res n (.goto l):=by
 intro x after st st' e a w I μ Q hr hi hQ
 simp only [cc,kpG] at hr
 split at hr
 ·simp only [runC,runOps,Option.some.injEq,Prod.mk.injEq] at hr
  obtain ⟨rfl,rfl⟩:=hr
  exact wp_goto (hQ a w I μ (hi.keep _))
 ·simp only [runC,Option.some.injEq,Prod.mk.injEq] at hr
  obtain ⟨rfl,rfl⟩:=hr
  exact wp_goto (hQ a w I μ hi)
theorem rX {n:Nat} {p:Code} (hp:CS P imT c I0 μ0 w0 nt res n p) (hr' : ∀ l rest,findLabel p l=some rest→CS P imT c I0 μ0 w0 nt res n rest):CS P imT c I0 μ0 w0 nt res n (.scope p):=by
 intro x after st st' e a w I μ Q hr hi hQ
 simp only [cc] at hr
 split at hr
 case h_2=>simp [runC] at hr
 rename_i X l lv Y hs
 split at hr
 case isFalse=>simp [runC] at hr
 rename_i hn
 have hn':splitI Y=none:=by simpa using hn
 obtain ⟨x',hx'⟩ : ∃ x',x'=labelOf (cc P imT nt res (labelOf (cc P imT nt res x p after).1++x) p after).1++x:=⟨_,rfl⟩
 rw [←hx'] at hs
 obtain ⟨⟨rest,hl,hY⟩,hne⟩:=eI p x' after X l lv Y hs
 have hne:=hne hn'
 have hrun:=fV c n _ _ _ _ _ st hs
 have key : ∀ (k:Nat) (s:St) (a:Act) (w:World) (I:Nat→Prop) (μ:Mu),iterG (runC c n Y) l k s=some (e,st')→Inv c I0 μ0 w0 nt s.env s.h a w I μ→jumps P p Q k rest a w:=by
  intro k
  induction k with
  | zero=>intro s a w I μ hk;simp [iterG] at hk
  | succ k ih=>
   intro s a w I μ hk hi
   simp only [iterG] at hk
   cases hY':runC c n Y s with
   | none=>rw [hY'] at hk;cases hk
   | some r=>
    obtain ⟨e1,s1⟩:=r
    rw [hY'] at hk
    refine hr' l rest hl x' after s s1 e1 a w I μ _ (by rw [hY];exact hY') hi fun a' w' I' μ' hi' => ?_
    cases e1 with
    | goto j=>
     simp only at hk
     split at hk
     ·rename_i e2
      subst e2
      simp only [Ex.out,hl]
      exact ih s1 a' w' I' μ' hk hi'
     ·rename_i e2
      simp only [Option.some.injEq,Prod.mk.injEq] at hk
      obtain ⟨rfl,rfl⟩:=hk
      simp only [Ex.out,hne j e2]
      exact hQ a' w' I' μ' hi'
    | normal=>
     simp only [Option.some.injEq,Prod.mk.injEq] at hk
     obtain ⟨rfl,rfl⟩:=hk
     exact hQ a' w' I' μ' hi'
    | exit id=>
     simp only [Option.some.injEq,Prod.mk.injEq] at hk
     obtain ⟨rfl,rfl⟩:=hk
     exact hQ a' w' I' μ' hi'
    | ret=>
     simp only [Option.some.injEq,Prod.mk.injEq] at hk
     obtain ⟨rfl,rfl⟩:=hk
     exact hQ a' w' I' μ' hi'
 simp only [runC] at hr
 cases hX:runC c n X st with
 | none=>rw [hX] at hr;cases hr
 | some r=>
  obtain ⟨e1,s1⟩:=r
  rw [hX] at hr hrun
  cases e1 with
  | normal=>
   simp only at hr hrun
   obtain ⟨m,hm'⟩ : ∃ m,m=n:=⟨_,rfl⟩
   have hr0:iterG (runC c n Y) l m s1=some (e,st'):=by rw [hm'];exact hr
   cases m with
   | zero=>simp [iterG] at hr0
   | succ m=>
    simp only [iterG] at hr0
    cases hY':runC c n Y s1 with
    | none=>rw [hY'] at hr0;cases hr0
    | some r=>
     obtain ⟨e2,s2⟩:=r
     rw [hY'] at hr0
     refine gL (m+1) (hp x' after st s2 e2 a w I μ _ (by rw [hrun];exact hY') hi fun a' w' I' μ' hi' => ?_)
     cases e2 with
     | goto j=>
      simp only at hr0
      split at hr0
      ·rename_i e3
       subst e3
       simp only [Ex.out,hl]
       exact key m s2 a' w' I' μ' hr0 hi'
      ·rename_i e3
       simp only [Option.some.injEq,Prod.mk.injEq] at hr0
       obtain ⟨rfl,rfl⟩:=hr0
       simp only [Ex.out,hne j e3]
       exact hQ a' w' I' μ' hi'
     | normal=>
      simp only [Option.some.injEq,Prod.mk.injEq] at hr0
      obtain ⟨rfl,rfl⟩:=hr0
      exact hQ a' w' I' μ' hi'
     | exit id=>
      simp only [Option.some.injEq,Prod.mk.injEq] at hr0
      obtain ⟨rfl,rfl⟩:=hr0
      exact hQ a' w' I' μ' hi'
     | ret=>
      simp only [Option.some.injEq,Prod.mk.injEq] at hr0
      obtain ⟨rfl,rfl⟩:=hr0
      exact hQ a' w' I' μ' hi'
  | goto j=>
   simp only at hr hrun
   refine gL (n+1) (hp x' after st s1 (.goto j) a w I μ _ hrun hi fun a' w' I' μ' hi' => ?_)
   split at hr
   ·rename_i e3
    subst e3
    simp only [Ex.out,hl]
    exact key n s1 a' w' I' μ' hr hi'
   ·rename_i e3
    simp only [Option.some.injEq,Prod.mk.injEq] at hr
    obtain ⟨rfl,rfl⟩:=hr
    simp only [Ex.out,hne j e3]
    exact hQ a' w' I' μ' hi'
  | exit id=>
   simp only [Option.some.injEq,Prod.mk.injEq] at hr
   obtain ⟨rfl,rfl⟩:=hr
   exact gL 1 (hp x' after st s1 (.exit id) a w I μ _ hrun hi fun a' w' I' μ' hi'=>hQ a' w' I' μ' hi')
  | ret=>
   simp only [Option.some.injEq,Prod.mk.injEq] at hr
   obtain ⟨rfl,rfl⟩:=hr
   exact gL 1 (hp x' after st s1 .ret a w I μ _ hrun hi fun a' w' I' μ' hi'=>hQ a' w' I' μ' hi')
theorem wl (hO:OSound P c.G c.O) (hm:P.follows .mixedOrders=true) (n:Nat) : ∀ code:Code,CS P imT c I0 μ0 w0 nt res n code∧∀ l rest,findLabel code l=some rest→CS P imT c I0 μ0 w0 nt res n rest:=by
 intro code
 induction code with
 | skip=>exact ⟨oF,fun l rest h=>by cases h⟩
 | region id ops draw=>exact ⟨fun x after st st' e a w I μ Q hr hi hQ=>kP hO hm hr hi hQ,fun l rest h=>by cases h⟩
 | seq p q hp hq=>
  refine ⟨rY hp.1 hq.1,fun l rest h => ?_⟩
  simp only [findLabel] at h
  split at h
  ·rename_i r hr
   obtain rfl:=Option.some.inj h
   exact rY (hp.2 l r hr) hq.1
  ·exact hq.2 l rest h
 | cond o p q hp hq=>exact ⟨ue hp.1 hq.1,fun l rest h=>by cases h⟩
 | block id p hp=>exact ⟨rU hp.1,fun l rest h=>by cases h⟩
 | loop p hp=>exact ⟨ui hp.1,fun l rest h=>by cases h⟩
 | rangeFunc f ps as p=>exact ⟨fun x after st st' e a w I μ Q hr hi hQ=>by simp [cc,runC] at hr,fun l rest h=>by cases h⟩
 | exit id=>exact ⟨ug,fun l rest h=>by cases h⟩
 | scope p hp=>exact ⟨rX hp.1 hp.2,fun l rest h=>by cases h⟩
 | label k=>
  refine ⟨rV,fun l rest h => ?_⟩
  simp only [findLabel] at h
  split at h
  ·obtain rfl:=Option.some.inj h
   exact oF
  ·cases h
 | goto l=>exact ⟨uh,fun l rest h=>by cases h⟩
 | ret=>exact ⟨wm,fun l rest h=>by cases h⟩
 | refuse why=>exact ⟨fun x after st st' e a w I μ Q hr hi hQ=>by simp [cc,runC] at hr,fun l rest h=>by cases h⟩
theorem nj (hO:OSound P c.G c.O) (hm:P.follows .mixedOrders=true) (n:Nat) : ∀ (code:Code) (x:LCtx) (after:List Nat) (st st':St) (e:Ex) (a:Act) (w:World) (I:Nat→Prop) (μ:Mu) (Q:Exit→Act→World→Prop),
  runC c n (cc P imT nt res x code after).1 st=some (e,st')→Inv c I0 μ0 w0 nt st.env st.h a w I μ→(∀ a' w' I' μ',Inv c I0 μ0 w0 nt st'.env st'.h a' w' I' μ'→Q e.out a' w')→code.wp P Q a w:=fun code=>(wl hO hm n code).1
end
end Go.Sx
end

section
namespace Go.Sx
open Go
theorem gQ (seen:List Nat) (nx:Nat) : ∀ cs:List LV,(bk.go seen nx cs).length=cs.length
 | []=>rfl
 | x::r=>by simp only [bk.go,List.length_cons,gQ seen nx r]
theorem gP (seen:List Nat) (nx:Nat) : ∀ (cs:List LV) (j:Nat),(bk.go seen nx cs)[j]?=(cs[j]?).map (bk seen nx)
 | [],j=>by simp [bk.go]
 | x::r,0=>by simp [bk.go]
 | x::r,j+1=>by simp [bk.go,gP seen nx r j]
theorem wj {seen:List Nat} {nx:Nat} : ∀ (l l':LV),ren 0 seen l=some l'→bk seen nx l'=l:=by
 have hid : ∀ i j,renId 0 seen i=some j→bkId seen nx j=i:=fun i j h=>by
  simp only [renId,Nat.not_lt_zero,if_false] at h
  split at h
  ·rename_i k hk
   obtain rfl:=Option.some.inj h
   obtain ⟨hlt,he,_⟩:=List.idxOf?_eq_some_iff.1 hk
   simp only [bkId,Nat.zero_add,List.getElem?_eq_getElem hlt]
   simpa using he
  ·cases h
 intro l
 refine LV.rec (motive_1:=fun l=>∀ l',ren 0 seen l=some l'→bk seen nx l'=l) (motive_2:=fun cs=>∀ cs',ren.go 0 seen cs=some cs'→bk.go seen nx cs'=cs) ?_ ?_ ?_ ?_ ?_ ?_ ?_ ?_ ?_ l
 ·intro l' h;simp only [ren,Option.some.injEq] at h;subst h;rfl
 ·intro x l' h;simp only [ren,Option.some.injEq] at h;subst h;rfl
 ·intro i off l' h
  simp only [ren] at h
  split at h
  ·rename_i j hj;obtain rfl:=Option.some.inj h;simp only [bk,hid i j hj]
  ·cases h
 ·intro i off len sz cp ex l' h
  simp only [ren] at h
  split at h
  ·rename_i j hj;obtain rfl:=Option.some.inj h;simp only [bk,hid i j hj]
  ·cases h
 ·intro cs ih l' h
  simp only [ren] at h
  split at h
  ·rename_i x hx;obtain rfl:=Option.some.inj h;simp only [bk,ih x hx]
  ·cases h
 ·intro cs ih l' h
  simp only [ren] at h
  split at h
  ·rename_i x hx;obtain rfl:=Option.some.inj h;simp only [bk,ih x hx]
  ·cases h
 ·intro f a b iha ihb l' h
  simp only [ren] at h
  split at h
  ·rename_i x y hx hy;obtain rfl:=Option.some.inj h;simp only [bk,iha x hx,ihb y hy]
  ·cases h
 ·intro cs' h;simp only [ren.go,Option.some.injEq] at h;subst h;rfl
 ·intro x r ihx ihr cs' h
  simp only [ren.go] at h
  split at h
  ·rename_i y l h1 h2;obtain rfl:=Option.some.inj h;simp only [bk.go,ihx y h1,ihr l h2]
  ·cases h
theorem t9 {seen:List Nat} {nx:Nat} {o o':Option Obj} (h:renO 0 seen o=some o'):bkO seen nx o'=o:=by
 cases o with
 | none=>simp only [renO,Option.some.injEq] at h;subst h;rfl
 | some o=>
  cases o with
  | cells cs=>
   simp only [renO] at h
   split at h
   ·rename_i l hl
    obtain rfl:=Option.some.inj h
    have:=wj (seen:=seen) (nx:=nx) (.agg cs) (.agg l) (by simp only [ren,hl])
    simp only [bk,LV.agg.injEq] at this
    simp only [bkO,this]
   ·cases h
  | iter s q=>simp only [renO,Option.some.injEq] at h;subst h;rfl
theorem VR.bk {I:Nat→Prop} {μ μ':Mu} {w:World} {seen:List Nat} {nx:Nat} (hμ : ∀ id x,μ id=some x→μ' (bkId seen nx id)=some x) {l:LV} {v:Value} (h:VR I μ w l v):VR I μ' w (bk seen nx l) v:=by
 induction h with
 | junk v=>exact .junk v
 | p h=>exact .p h
 | ref id off b o s h=>exact .ref _ off b o s (hμ _ _ h)
 | arr id off len sz cp ex b o s o' cap h ho hlen hcp hf hs=>exact .arr _ off len sz cp ex b o s o' cap (hμ _ _ h) ho hlen hcp hf hs
 | agg cs a hl h1 _ ih=>
  refine .agg _ a (by rw [gQ];exact hl) h1 fun j l u hj hu => ?_
  rw [gP] at hj
  obtain ⟨l0,h0,rfl⟩:=Option.map_eq_some_iff.1 hj
  exact ih j l0 u h0 hu
 | tuple cs a hl _ ih=>
  refine .tuple _ a (by rw [gQ];exact hl) fun j l u hj hu => ?_
  rw [gP] at hj
  obtain ⟨l0,h0,rfl⟩:=Option.map_eq_some_iff.1 hj
  exact ih j l0 u h0 hu
 | fn f fs cs fa ca hl hl' _ _ ih ih'=>
  refine .fn f _ _ fa ca (by rw [gQ];exact hl) (by rw [gQ];exact hl') (fun j l u hj hu => ?_) fun j l u hj hu => ?_
  ·rw [gP] at hj
   obtain ⟨l0,h0,rfl⟩:=Option.map_eq_some_iff.1 hj
   exact ih j l0 u h0 hu
  ·rw [gP] at hj
   obtain ⟨l0,h0,rfl⟩:=Option.map_eq_some_iff.1 hj
   exact ih' j l0 u h0 hu
theorem OR.bk {I:Nat→Prop} {μ μ':Mu} {w:World} {seen:List Nat} {nx id:Nat} (hμ : ∀ id x,μ id=some x→μ' (bkId seen nx id)=some x) {o:Obj} (h:OR I μ w id o) : ∃ p,bkO seen nx (some o)=some p∧OR I μ' w (bkId seen nx id) p:=by
 cases o with
 | cells cs=>
  obtain ⟨b,o,s,e,hm,hs,hle,hf,hc⟩:=h
  refine ⟨_,rfl,b,o,s,e,hμ _ _ hm,hs,by rw [gQ];exact hle,hf,fun j l hj => ?_⟩
  rw [gP] at hj
  obtain ⟨l0,h0,rfl⟩:=Option.map_eq_some_iff.1 hj
  obtain ⟨u,h1,h2,h3⟩:=hc j l0 h0
  exact ⟨u,h1,h2,h3.bk hμ⟩
 | iter s q=>
  obtain ⟨b,hm,hb⟩:=h
  exact ⟨_,rfl,b,hμ _ _ hm,hb⟩
theorem gz {H:Heap} {seen:List Nat} : ∀ {l:List Nat} {n:List (Option Obj)},renH H seen l=some n→n.length=l.length∧∀ (k:Nat) id,l[k]?=some id→∃ p,n[k]?=some p∧renO 0 seen (H id)=some p
 | [],n,h=>by simp only [renH,Option.some.injEq] at h;subst h;exact ⟨rfl,by simp⟩
 | x::r,n,h=>by
  simp only [renH] at h
  split at h
  ·rename_i p l h1 h2
   obtain rfl:=Option.some.inj h
   obtain ⟨g1,g2⟩:=gz h2
   refine ⟨by simp [g1],fun k id hk => ?_⟩
   cases k with
   | zero=>simp at hk;subst hk;exact ⟨p,rfl,h1⟩
   | succ k=>exact g2 k id hk
  ·cases h
theorem Sim.can {P:Program} {G:Nat→Option (List PV)} {f:FuncId} {args a:List LV} {H:Heap} {nx:Nat} {seen:List Nat} {l:List (Option Obj)} {r:LV} {u U:Upd} {n:List (Option Obj)}
  (hs:reach H 1000 (ids.idsL args) []=some seen) (ha:ren.go 0 seen args=some a) (hl:renH H seen seen=some l) (s:Sim P G f a (hpL l) l.length r u n)
  (hU : ∀ id,¬id∈seen→findU U id=none) (hUs : ∀ c id,seen[c]?=some id→(findU U id).getD (H id)=bkO seen nx (look (hpL l) l.length ⟨u,n⟩ c)):
  Sim P G f args H nx (bk seen nx r) U (n.map (bkO seen nx)):=by
 have hnd:seen.Nodup:=bN 1000 _ _ seen hs (by simp)
 have hal : ∀ id∈seen,(H id).isSome=true:=cm 1000 _ _ seen hs (by simp)
 obtain ⟨hll,hlg⟩:=gz hl
 obtain ⟨hal1,hag⟩:=fM ha
 have hgetc : ∀ c o,hpL l c=some o→∃ id p,seen[c]?=some id∧H id=some p∧renO 0 seen (some p)=some (some o):=fun c o h=>by
  simp only [hpL] at h
  split at h
  ·rename_i q hq
   subst h
   have hlt:c<seen.length:=by rw [←hll];exact (List.getElem?_eq_some_iff.1 hq).1
   obtain ⟨p,h1,h2⟩:=hlg c seen[c] (List.getElem?_eq_getElem hlt)
   rw [hq] at h1
   obtain rfl:=Option.some.inj h1
   obtain ⟨o',ho'⟩:=Option.isSome_iff_exists.1 (hal seen[c] (List.getElem_mem hlt))
   exact ⟨seen[c],o',List.getElem?_eq_getElem hlt,ho',by rw [←ho'];exact h2⟩
  ·cases h
 refine ⟨fun id o ho => ?_,s.body,fun I μ w vs hH hlt h0 hG hsz hv => ?_⟩
 ·by_cases hm:id∈seen
  ·exact hal id hm
  ·rw [hU id hm] at ho;cases ho
 have hmu : ∀ c,renMu μ 0 seen c=(seen[c]?).bind μ:=fun c=>by simp only [renMu,Nat.not_lt_zero,if_false,Nat.sub_zero];cases seen[c]?<;>rfl
 have hHc:HR I (renMu μ 0 seen) w (fun _=>True) (hpL l):=by
  refine ⟨fun c o _ ho => ?_,fun c c' o o' _ _ ho ho' hne => ?_,fun c o b _ ho hb => ?_,hH.lt⟩
  ·obtain ⟨id,p,h1,h2,h3⟩:=hgetc c o ho
   obtain ⟨q,hq,hor⟩:=(hH.obj id p trivial h2).ren (nx:=0) (seen:=seen) (id':=c) (by rw [hmu,h1];rfl) h3
   obtain rfl:=Option.some.inj hq
   exact hor
  ·obtain ⟨id,p,h1,h2,h3⟩:=hgetc c o ho
   obtain ⟨id',p',h1',h2',h3'⟩:=hgetc c' o' ho'
   simp only [blk,hmu,h1,h1',Option.bind_some]
   refine hH.inj id id' p p' trivial trivial h2 h2' fun e=>hne ?_
   subst e
   exact (List.getElem?_inj (List.getElem?_eq_some_iff.1 h1).1 hnd).1 (h1.trans h1'.symm)
  ·obtain ⟨id,p,h1,h2,h3⟩:=hgetc c o ho
   simp only [blk,hmu,h1,Option.bind_some]
   exact hH.imm id p b trivial h2 hb
 refine (s.call I (renMu μ 0 seen) w vs hHc (fun c o ho => ?_) (fun c hc => ?_) hG (by rw [hsz,hal1]) fun j x v hj hvj => ?_).mono ?_
 ·obtain ⟨id,p,h1,_⟩:=hgetc c o ho
  rw [hll];exact (List.getElem?_eq_some_iff.1 h1).1
 ·rw [hmu,List.getElem?_eq_none (by omega)];rfl
 ·obtain ⟨y,hy,hr⟩:=hag j x hj
  exact (hv j y v hy hvj).ren hr
 rintro e w' ⟨v,I',μ',rfl,g,hvr⟩
 obtain ⟨k,hk⟩ : ∃ k,k=l.length:=⟨_,rfl⟩
 rw [←hk] at g hll
 have hμ' : ∀ c,c<k→μ' c=(seen[c]?).bind μ:=fun c hc=>by rw [g.mu c (by omega),hmu]
 have hμn : ∀ c,k+n.length≤c→μ' c=none:=fun c hc=>by rw [g.mu c (by omega),hmu,List.getElem?_eq_none (by omega)];rfl
 obtain ⟨μ2,hμ2⟩ : ∃ μ2:Mu,μ2=fun id=>if id<nx then μ id else if id<nx+n.length then μ' (k+(id-nx)) else none:=⟨_,rfl⟩
 have hbkμ : ∀ c x,μ' c=some x→μ2 (bkId seen nx c)=some x:=fun c x hx=>by
  rw [hμ2]
  by_cases hc:c<k
  ·rw [hμ' c hc] at hx
   have hlt':c<seen.length:=by omega
   rw [List.getElem?_eq_getElem hlt',Option.bind_some] at hx
   have:seen[c]<nx:=by
    obtain ⟨o,ho⟩:=Option.isSome_iff_exists.1 (hal seen[c] (List.getElem_mem hlt'))
    exact hlt _ o ho
   simp only [bkId,List.getElem?_eq_getElem hlt',if_pos this]
   exact hx
  ·have hc2:c<k+n.length:=by
    rcases Nat.lt_or_ge c (k+n.length) with h1|h1
    ·exact h1
    ·rw [hμn c h1] at hx;cases hx
   simp only [bkId,List.getElem?_eq_none (show seen.length≤c by omega)]
   rw [if_neg (by omega),if_pos (by omega),show k+(nx+(c-seen.length)-nx)=c by omega]
   exact hx
 obtain ⟨lk,hlk⟩ : ∃ lk:Heap,lk=fun id=>if id∈seen then H id else none:=⟨_,rfl⟩
 obtain ⟨lk',hlk'⟩ : ∃ lk':Heap,lk'=fun id=>if id<nx then (if id∈seen then look H nx ⟨U,n.map (bkO seen nx)⟩ id else none) else look H nx ⟨U,n.map (bkO seen nx)⟩ id:=⟨_,rfl⟩
 have hin : ∀ id,id∈seen→∃ c,c<k∧seen[c]?=some id∧id<nx:=fun id hid=>by
  obtain ⟨c,hc,rfl⟩:=List.mem_iff_getElem.1 hid
  obtain ⟨o,ho⟩:=Option.isSome_iff_exists.1 (hal _ hid)
  exact ⟨c,by omega,List.getElem?_eq_getElem hc,hlt _ o ho⟩
 have hLs : ∀ c id,seen[c]?=some id→look H nx ⟨U,n.map (bkO seen nx)⟩ id=bkO seen nx (look (hpL l) k ⟨u,n⟩ c):=fun c id hc=>by
  obtain ⟨c',_,_,hidn⟩:=hin id (List.mem_of_getElem? hc)
  rw [hk,←hUs c id hc]
  unfold look
  rw [if_pos hidn]
  cases findU U id<;>rfl
 have hLn : ∀ id,nx≤id→look H nx ⟨U,n.map (bkO seen nx)⟩ id=bkO seen nx (look (hpL l) k ⟨u,n⟩ (k+(id-nx))):=fun id hid=>by
  unfold look
  rw [if_neg (by omega),if_neg (by omega)]
  simp only [List.getElem?_map,show k+(id-nx)-k=id-nx by omega]
  cases n[id-nx]? with
  | none=>rfl
  | some o=>rfl
 have hfrom : ∀ id o,(id∈seen∨(nx≤id∧id<nx+n.length))→lk' id=some o→∃ c p,bkId seen nx c=id∧look (hpL l) k ⟨u,n⟩ c=some p∧bkO seen nx (some p)=some o∧μ2 id=μ' c∧(id∈seen→c<k)∧(nx≤id→c=k+(id-nx)):=fun id o hd ho=>by
  have hbn : ∀ q:Option Obj,bkO seen nx q=some o→∃ p,q=some p∧bkO seen nx (some p)=some o:=fun q hq=>by
   cases q with
   | none=>cases hq
   | some p=>exact ⟨p,rfl,hq⟩
  rw [hlk'] at ho
  simp only [] at ho
  by_cases hm:id∈seen
  ·obtain ⟨c,hc,hsc,hidn⟩:=hin id hm
   rw [if_pos hidn,if_pos hm,hLs c id hsc] at ho
   obtain ⟨p,hp,hb⟩:=hbn _ ho
   exact ⟨c,p,by simp [bkId,hsc],hp,hb,by rw [hμ2,hμ' c hc,hsc];simp only [if_pos hidn,Option.bind_some],fun _=>hc,fun h=>absurd hidn (by omega)⟩
  ·obtain ⟨h1,h2⟩:=hd.resolve_left hm
   rw [if_neg (by omega),hLn id h1] at ho
   obtain ⟨p,hp,hb⟩:=hbn _ ho
   refine ⟨k+(id-nx),p,?_,hp,hb,?_,fun h=>absurd h hm,fun _=>rfl⟩
   ·simp only [bkId,List.getElem?_eq_none (show seen.length≤k+(id-nx) by omega)];omega
   ·rw [hμ2];simp only [if_neg (show ¬id<nx by omega),if_pos h2]
 have hcinj : ∀ id id' c c',bkId seen nx c=id→bkId seen nx c'=id'→id≠id'→c≠c':=fun id id' c c' h1 h2 hne e=>hne (by rw [←h1,←h2,e])
 have hown : ∀ b,Own (renMu μ 0 seen) (fun _=>True) (hpL l) b→Own μ (fun id=>id∈seen) lk b:=fun b ⟨c,o,_,ho,hb⟩=>by
  obtain ⟨id,p,h1,h2,_⟩:=hgetc c o ho
  have hm:=List.mem_of_getElem? h1
  refine ⟨id,p,hm,by rw [hlk];simp only [if_pos hm];exact h2,?_⟩
  simp only [blk,hmu,h1,Option.bind_some] at hb
  exact hb
 have g2:Goes I I' μ μ2 w w' lk lk' (fun id=>id∈seen) (fun id=>nx≤id∧id<nx+n.length):=by
  refine ⟨fun id hn => ?_,fun id hn=>h0 id hn.1,g.up,fun b hb=>(g.back b hb).imp (fun h=>h) (Or.imp (fun h=>h) (hown b)),g.stp.mono hown,⟨fun id o hd ho => ?_,fun id id' o o' hd hd' ho ho' hne => ?_,fun id o b hd ho hb => ?_,g.hr.lt⟩,
   fun id b hn he hb => ?_,fun id ht hn => ?_,fun id hn hl' => ?_⟩
  ·rw [hμ2]
   by_cases h1:id<nx
   ·simp only [if_pos h1]
   ·simp only [if_neg h1,if_neg (show ¬id<nx+n.length by omega)]
    exact (h0 id (by omega)).symm
  ·obtain ⟨c,p,h1,h2,h3,h4,_⟩:=hfrom id o hd ho
   have hor:=g.hr.obj c p (by
    rcases aV h2 with h|h
    ·exact .inl trivial
    ·exact .inl trivial) h2
   obtain ⟨q,hq,hor2⟩:=hor.bk hbkμ
   rw [h3] at hq
   obtain rfl:=Option.some.inj hq
   rw [h1] at hor2
   exact hor2
  ·obtain ⟨c,p,h1,h2,h3,h4,_⟩:=hfrom id o hd ho
   obtain ⟨c',p',h1',h2',h3',h4',_⟩:=hfrom id' o' hd' ho'
   simp only [blk,h4,h4']
   exact g.hr.inj c c' p p' (.inl trivial) (.inl trivial) h2 h2' (hcinj id id' c c' h1 h1' hne)
  ·obtain ⟨c,p,h1,h2,h3,h4,_⟩:=hfrom id o hd ho
   simp only [blk,h4]
   exact g.hr.imm c p b (.inl trivial) h2 hb
  ·obtain ⟨o,ho⟩:=he
   obtain ⟨c,p,h1,h2,h3,h4,_,h6⟩:=hfrom id o (.inr hn) ho
   simp only [blk,h4] at hb
   have hc:=h6 hn.1
   exact (g.new c b (by omega) ⟨p,h2⟩ hb).imp (fun h=>h) (hown b)
  ·rw [hlk,hlk']
   simp only [if_neg ht]
   by_cases h1:id<nx
   ·rw [if_pos h1]
   ·rw [if_neg h1,hLn id (by omega)]
    have:look (hpL l) k ⟨u,n⟩ (k+(id-nx))=none:=bg (by simp only [];omega)
    rw [this];rfl
  ·have hns : ¬id∈seen:=fun hm=>by
    rw [hlk] at hl'
    simp only [if_pos hm] at hl'
    have:=hal id hm
    rw [hl'] at this;cases this
   rw [hlk']
   simp only [if_neg hns]
   by_cases h1:id<nx
   ·rw [if_pos h1]
   ·rw [if_neg h1,hLn id (by omega)]
    have:look (hpL l) k ⟨u,n⟩ (k+(id-nx))=none:=bg (by simp only [];omega)
    rw [this];rfl
 refine ⟨v,I',μ2,rfl,?_,hvr.bk hbkμ⟩
 have hfin:=g2.lift (lk0:=H) (lk0':=look H nx ⟨U,n.map (bkO seen nx)⟩) hH (fun id ht=>by rw [hlk];simp only [if_pos ht]) (fun id hd => ?_) fun id ht hn => ?_
 ·simpa only [List.length_map] using hfin
 ·rw [hlk']
  rcases hd with hd|hd
  ·obtain ⟨c,_,_,hidn⟩:=hin id hd
   simp only [if_pos hidn,if_pos hd]
  ·simp only [if_neg (show ¬id<nx by omega)]
 ·unfold look
  by_cases h1:id<nx
  ·rw [if_pos h1];simp only [hU id ht]
  ·rw [if_neg h1]
   simp only [List.getElem?_map]
   have h2:H id=none:=by
    cases hh:H id with
    | none=>rfl
    | some o=>exact absurd (hlt id o hh) h1
   rw [List.getElem?_eq_none (show n.length≤id-nx by omega),h2]
   rfl
theorem mF (u:Upd) : ∀ (l:List (Option Obj)) (i c:Nat),(outU u i l)[c]?=(l[c]?).map fun o=>(findU u (i+c)).getD o
 | [],i,c=>by simp [outU]
 | o::r,i,0=>by simp [outU]
 | o::r,i,c+1=>by simp only [outU,List.getElem?_cons_succ,mF u r (i+1) c,show i+1+c=i+(c+1) by omega]
theorem gv (u:Upd) : ∀ (l:List (Option Obj)) (i:Nat),(outU u i l).length=l.length
 | [],i=>rfl
 | o::r,i=>by simp [outU,gv u r (i+1)]
theorem gV {f:Option Obj→Option Obj} : ∀ (s:List Nat) (m:List (Option Obj)) (id:Nat),(¬id∈s→findU (s.zip (m.map f)) id=none)∧∀ (c:Nat),s.Nodup→s[c]?=some id→findU (s.zip (m.map f)) id=(m[c]?).map f
 | [],m,id=>⟨fun _=>rfl,by simp⟩
 | x::s,[],id=>⟨fun _=>rfl,fun c _ _=>by simp [findU]⟩
 | x::s,y::m,id=>by
  obtain ⟨h1,h2⟩:=gV (f:=f) s m id
  simp only [List.map_cons,List.zip_cons_cons,findU]
  refine ⟨fun hn => ?_,fun c hnd hc => ?_⟩
  ·simp only [List.mem_cons,not_or] at hn
   rw [if_neg hn.1];exact h1 hn.2
  ·rw [List.nodup_cons] at hnd
   cases c with
   | zero=>simp at hc;subst hc;simp
   | succ c=>
    have hne:id≠x:=fun e=>hnd.1 (by subst e;exact List.mem_of_getElem? (by simpa using hc))
    rw [if_neg hne,h2 c hnd.2 (by simpa using hc)]
    simp
theorem rt {P:Program} {G:Nat→Option (List PV)} {O:Oracle} (C:FuncId→Nat) (hO:OSound P G O):OSound P G (sel C O):=fun f args H nx r U N h=>by
 unfold sel at h
 have key : ∀ {seen:List Nat} {a:List LV} {l:List (Option Obj)} {r0:LV} {u:Upd} {n:List (Option Obj)},reach H 1000 (ids.idsL args) []=some seen→ren.go 0 seen args=some a→renH H seen seen=some l→O f a (hpL l) l.length=some (r0,u,n) →
   (∀ id,¬id∈seen→findU U id=none)→(∀ c id,seen[c]?=some id→(findU U id).getD (H id)=bkO seen nx (look (hpL l) l.length ⟨u,n⟩ c))→N=n.map (bkO seen nx)→r=bk seen nx r0→Sim P G f args H nx r U N:=by
  intro seen a l r0 u n hs ha hl ho h1 h2 h3 h4
  subst h3 h4
  exact (hO _ _ _ _ _ _ _ ho).can hs ha hl h1 h2
 split at h
 ·exact hO _ _ _ _ _ _ _ h
 ·unfold can at h
  split at h
  ·cases h
  rename_i seen hs
  split at h
  case h_2=>cases h
  rename_i a l ha hl
  split at h
  case h_2=>cases h
  rename_i r0 l' hr
  simp only [if_true,Option.some.injEq,Prod.mk.injEq] at h
  obtain ⟨rfl,rfl,rfl⟩:=h
  unfold ansW at hr
  split at hr
  case h_2=>cases hr
  rename_i r1 u n ho
  simp only [Option.some.injEq,Prod.mk.injEq] at hr
  obtain ⟨rfl,rfl⟩:=hr
  have hnd:seen.Nodup:=bN 1000 _ _ seen hs (by simp)
  obtain ⟨hll,_⟩:=gz hl
  refine key hs ha hl ho (fun id hid=>(gV _ _ id).1 hid) (fun c id hc => ?_) ?_ rfl
  ·have hcl:c<l.length:=by rw [hll];exact (List.getElem?_eq_some_iff.1 hc).1
   rw [(gV _ _ id).2 c hnd hc,List.getElem?_append_left (by rw [gv];exact hcl),mF,List.getElem?_eq_getElem hcl]
   simp only [Option.map_some,Nat.zero_add]
   congr 1
   unfold look
   rw [if_pos hcl]
   cases findU u c with
   | some p=>rfl
   | none=>simp [hpL,hcl]
  ·rw [List.drop_append,List.drop_eq_nil_of_le (by rw [gv];omega),gv,hll];simp
 ·unfold can at h
  split at h
  ·cases h
  rename_i seen hs
  split at h
  case h_2=>cases h
  rename_i a l ha hl
  split at h
  case h_2=>cases h
  rename_i r0 l' hr
  simp only [Bool.false_eq_true,if_false,Option.some.injEq,Prod.mk.injEq] at h
  obtain ⟨rfl,rfl,rfl⟩:=h
  simp only [] at hr
  unfold noW ansP at hr
  split at hr
  case h_2=>cases hr
  rename_i r1 hr1
  obtain ⟨rfl,rfl⟩:r1=r0∧l'=[]:=by simpa [eq_comm] using hr
  split at hr1
  case h_2=>cases hr1
  rename_i r2 ho
  obtain rfl:=Option.some.inj hr1
  have hnd:seen.Nodup:=bN 1000 _ _ seen hs (by simp)
  obtain ⟨hll,hlg⟩:=gz hl
  refine key hs ha hl ho (fun _ _=>rfl) (fun c id hc => ?_) rfl rfl
  obtain ⟨p,h1,h2⟩:=hlg c id hc
  have hcl:c<l.length:=(List.getElem?_eq_some_iff.1 h1).1
  have e:look (hpL l) l.length ⟨[],[]⟩ c=p:=by
   unfold look
   rw [if_pos hcl]
   simp [findU,hpL,h1]
  rw [e,t9 h2]
  rfl
end Go.Sx
end

section
namespace Go.Sx
open Go
section
variable {P:Program} {I0 I:Nat→Prop} {μ0 μ:Mu} {w0 w:World} {H:Heap} {nx:Nat}
def oneV:List Value→Value
 | [x]=>x
 | l=>.tuple l.toArray
def resG (tmps:Array Value):ResultVar→Sem Value
 | .tmp t=>pure (tmps.getD t undef)
 | .cell q t=>do loadVar t (← asAddr (tmps.getD q undef))
theorem vo {fn:Func} {a:Act} {rs:List (Nat × Option (Nat × Bool))} {st:St} {vs:List LV} (h:resSlots P fn.results.toList=some rs) (hv:resVs H nx st rs=some vs) (henv:EnvR I μ w st.env a) (hr:HR I μ w (fun _=>True) (look H nx st.h)):
  ∃ us:List Value,(results fn a.tmps).run P w = .ok (oneV us) w∧us.length=vs.length∧∀ (j:Nat) l u,vs[j]?=some l→us[j]?=some u→VR I μ w l u:=by
 have hl : ∀ (g:ResultVar→Sem Value),(∀ t,g (.tmp t)=pure (a.tmps.getD t undef))→(∀ q t,g (.cell q t)=do loadVar t (← asAddr (a.tmps.getD q undef)))→∀ (l:List ResultVar) (rs:List (Nat × Option (Nat × Bool))) (vs:List LV),resSlots P l=some rs→resVs H nx st rs=some vs →
   ∃ us:List Value,(l.mapM (m:=Sem) g).run P w = .ok us w∧us.length=vs.length∧∀ (j:Nat) l u,vs[j]?=some l→us[j]?=some u→VR I μ w l u:=by
  intro g hg hg2 l
  induction l with
  | nil=>
   intro rs vs h hv
   simp only [resSlots,Option.some.injEq] at h;subst h
   simp only [resVs,Option.some.injEq] at hv;subst hv
   exact ⟨[],by simp,rfl,by simp⟩
  | cons x r ih=>
   intro rs vs h hv
   have fin : ∀ (y:Nat × Option (Nat × Bool)) (l':List (Nat × Option (Nat × Bool))) (q:LV),rs=y::l'→resSlots P r=some l'→(resV H nx st y=some q→∃ u,(g x).run P w = .ok u w∧VR I μ w q u)→resV H nx st y=some q →
     ∃ us:List Value,((x::r).mapM (m:=Sem) g).run P w = .ok us w∧us.length=vs.length∧∀ (j:Nat) l u,vs[j]?=some l→us[j]?=some u→VR I μ w l u:=by
    intro y l' q hrs hl' hq hy
    subst hrs
    simp only [resVs,hy] at hv
    split at hv
    ·rename_i v l2 hv1 hv2
     obtain rfl:=Option.some.inj hv1
     obtain rfl:=Option.some.inj hv
     obtain ⟨u,h1,h2⟩:=hq hy
     obtain ⟨us,g1,g2,g3⟩:=ih l' l2 hl' hv2
     refine ⟨u::us,by simp only [List.mapM_cons,Sem.run_bind,h1,Result.andThen_ok,g1,Sem.run_pure],by simp [g2],fun j l u' hj hu => ?_⟩
     cases j with
     | zero=>simp at hj hu;rw [←hj,←hu];exact h2
     | succ j=>exact g3 j l u' hj hu
    ·cases hv
   cases x with
   | tmp t=>
    simp only [resSlots] at h
    split at h
    ·rename_i l' hl'
     obtain rfl:=Option.some.inj h
     exact fin (t,none) l' (get st.env t) rfl hl' (fun _=>⟨a.tmps.getD t undef,by rw [hg];simp,henv t⟩) rfl
    ·cases h
   | cell q t=>
    simp only [resSlots] at h
    split at h
    ·rename_i s gg l' hs hgg hl'
     obtain rfl:=Option.some.inj h
     cases hy:resV H nx st (q,some (s,gg)) with
     | none=>simp [resVs,hy] at hv
     | some y=>
      refine fin (q,some (s,gg)) l' y rfl hl' (fun hy => ?_) hy
      have hx:=henv q
      have key : ∀ {b o off:Nat} {cs:List LV},At I μ w b o cs→rd cs off s gg=some y→a.tmps.getD q undef = .pointer (some ⟨b,o+off,none⟩)→∃ u,(g (.cell q t)).run P w = .ok u w∧VR I μ w y u:=fun hat hv he=>by
       obtain ⟨u,h1,h2⟩:=pg (P:=P) hat hv hs hgg
       refine ⟨u,?_,h2⟩
       rw [hg2,he]
       simp only [asAddr,Sem.run_bind,Sem.run_pure,Result.andThen_ok,h1]
      simp only [resV] at hy
      split at hy
      ·rename_i cs off hv'
       rw [hv'] at hx
       obtain ⟨b,o,he,_,hat⟩:=hx.pp.imm_at (μ:=μ)
       exact key hat hy he
      ·rename_i id off hv'
       rw [hv'] at hx
       split at hy
       ·rename_i cs hlk
        obtain ⟨b,o,sz,e,hm,_,_,_,hat⟩:=hr.obj id _ trivial hlk
        obtain ⟨b',o',s',hm',he⟩:=cZ hx
        rw [hm] at hm'
        obtain ⟨rfl,rfl,rfl⟩:b=b'∧o=o'∧sz=s':=by simpa using hm'
        exact key (off:=off) hat hy he
       ·cases hy
      ·cases hy
    ·cases h
 have h2 : ∀ (g:ResultVar→Sem Value),(∀ t,g (.tmp t)=pure (a.tmps.getD t undef))→(∀ q t,g (.cell q t)=do loadVar t (← asAddr (a.tmps.getD q undef))) →
   ∃ us:List Value,(List.toArray <$> (fn.results.toList.mapM (m:=Sem) g)).run P w = .ok us.toArray w∧us.length=vs.length∧∀ (j:Nat) l u,vs[j]?=some l→us[j]?=some u→VR I μ w l u:=fun g hg hg2=>by
  obtain ⟨us,q1,q2,q3⟩:=hl g hg hg2 _ rs vs h hv
  refine ⟨us,?_,q2,q3⟩
  rw [←bind_pure_comp,Sem.run_bind,q1]
  rfl
 have e:results fn a.tmps=(do let vs ← fn.results.mapM (resG a.tmps);pure (if h:vs.size=1 then vs[0] else .tuple vs)):=by
  unfold results
  congr 1
 rw [e,Array.mapM_eq_mapM_toList,Sem.run_bind]
 obtain ⟨us,q1,q2,q3⟩:=h2 (resG a.tmps) (fun t=>rfl) (fun q t=>rfl)
 refine ⟨us,?_,q2,q3⟩
 rw [q1]
 simp only [Result.andThen_ok]
 cases us with
 | nil=>rfl
 | cons x l=>
  cases l with
  | nil=>rfl
  | cons y l=>rfl
theorem rA {k k' r0 r:LV} {h:Hp} {u:Upd} {n:List (Option Obj)} (hf:tidyR H nx k r0 h=some (k',r,u,n)) (hk:Keys H h) : ∀ id o,findU u id=some o→(H id).isSome=true:=by
 unfold tidyR at hf
 split at hf
 ·cases hf
 split at hf
 ·cases hf
 split at hf
 case isFalse=>cases hf
 split at hf
 case h_2=>cases hf
 rename_i r2 u2 n2 hr2 hu2 hn2
 simp only [Option.some.injEq,Prod.mk.injEq] at hf
 obtain ⟨_,_,rfl,rfl⟩:=hf
 intro id o ho
 obtain ⟨o',ho',_⟩:=(cU hu2 id).2 o ho
 exact hk id o' ho'
theorem lW {own:Bool} {r0 r:LV} {h:Hp} {u:Upd} {n:List (Option Obj)} (hf:finish own H nx r0 h=some (r,u,n)) (hk:Keys H h) : ∀ id o,findU u id=some o→(H id).isSome=true:=by
 unfold finish at hf
 split at hf
 ·cases hf
 split at hf
 ·cases hf
 split at hf
 case isFalse=>cases hf
 split at hf
 case h_2=>cases hf
 rename_i r2 u2 n2 hr2 hu2 hn2
 simp only [Option.some.injEq,Prod.mk.injEq] at hf
 obtain ⟨rfl,rfl,rfl⟩:=hf
 intro id o ho
 obtain ⟨o',ho',_⟩:=(cU hu2 id).2 o ho
 exact hk id o' ho'
theorem eE {c:Ctx} (hO:OSound P c.G c.O) : ∀ (l:List IROper) (env env':Env) (h h':Hp),runOps c l env h=some (env',h')→Keys c.H h→Keys c.H h'
 | [],env,env',h,h',hr,hk=>by
  simp only [runOps,Option.some.injEq,Prod.mk.injEq] at hr
  obtain ⟨rfl,rfl⟩:=hr
  exact hk
 | o::r,env,env',h,h',hr,hk=>by
  simp only [runOps] at hr
  split at hr
  ·split at hr
   ·rename_i x hx
    exact eE hO r _ _ _ _ hr ((eS hx).1.keys hO hk)
   ·cases hr
  ·exact eE hO r _ _ _ _ hr hk
  ·cases hr
theorem cP {c:Ctx} (hO:OSound P c.G c.O) : ∀ (l:List IROper) (env env':Env) (h h':Hp) (tr:List Tr),runOpsT c l env h=some (tr,env',h')→Keys c.H h→Keys c.H h'
 | [],env,env',h,h',tr,hr,hk=>by
  simp only [runOpsT,Option.some.injEq,Prod.mk.injEq] at hr
  obtain ⟨rfl,rfl,rfl⟩:=hr
  exact hk
 | o::r,env,env',h,h',tr,hr,hk=>by
  simp only [runOpsT] at hr
  split at hr
  ·split at hr
   ·rename_i x hx
    split at hr
    ·rename_i tr1 e1 h1 hrun
     simp only [Option.some.injEq,Prod.mk.injEq] at hr
     obtain ⟨rfl,rfl,rfl⟩:=hr
     exact cP hO r _ _ _ _ _ hrun ((eS hx).1.keys hO hk)
    ·cases hr
   ·cases hr
  ·split at hr
   ·rename_i tr1 e1 h1 hrun
    simp only [Option.some.injEq,Prod.mk.injEq] at hr
    obtain ⟨rfl,rfl,rfl⟩:=hr
    exact cP hO r _ _ _ _ _ hrun hk
   ·cases hr
  ·cases hr
theorem kT {c:Ctx} (hO:OSound P c.G c.O) {fin:Bool} {l:List IROper} {env env':Env} {h h':Hp} (hr:runOpsQ c fin l env h=some (env',h')) (hk:Keys c.H h):Keys c.H h':=by
 obtain ⟨tr,h1,_⟩:=fj hr
 exact cP hO _ _ _ _ _ _ h1 hk
theorem aZ {c:Ctx} (hO:OSound P c.G c.O) (n:Nat) : ∀ (i:IRC) (st st':St) (e:Ex),runC c n i st=some (e,st')→Keys c.H st.h→Keys c.H st'.h
 | .skip,st,st',e,hr,hk=>by
  simp only [runC,Option.some.injEq,Prod.mk.injEq] at hr
  obtain ⟨rfl,rfl⟩:=hr;exact hk
 | .region ops none live,st,st',e,hr,hk=>by
  simp only [runC] at hr
  split at hr
  ·rename_i env h hrun
   simp only [Option.some.injEq,Prod.mk.injEq] at hr
   obtain ⟨rfl,rfl⟩:=hr
   exact eE hO _ _ _ _ _ hrun hk
  ·cases hr
 | .region ops (some b) live,st,st',e,hr,hk=>by
  simp only [runC] at hr
  split at hr
  ·rename_i tr env h hrun
   split at hr
   ·simp only [Option.some.injEq,Prod.mk.injEq] at hr
    obtain ⟨rfl,rfl⟩:=hr
    exact cP hO _ _ _ _ _ _ hrun hk
   ·cases hr
  ·cases hr
 | .seq a b,st,st',e,hr,hk=>by
  simp only [runC] at hr
  split at hr
  ·rename_i st1 h1
   exact aZ hO n b st1 st' e hr (aZ hO n a st st1 .normal h1 hk)
  ·exact aZ hO n a st st' e hr hk
 | .cond x a b,st,st',e,hr,hk=>by
  simp only [runC] at hr
  split at hr
  ·rename_i t ht
   cases t with
   | true=>simp only [if_true] at hr;exact aZ hO n a st st' e hr hk
   | false=>simp only [Bool.false_eq_true,if_false] at hr;exact aZ hO n b st st' e hr hk
  ·cases hr
 | .block id a,st,st',e,hr,hk=>by
  simp only [runC] at hr
  split at hr
  ·rename_i j st1 h1
   have:=aZ hO n a st st1 _ h1 hk
   split at hr <;>
    (simp only [Option.some.injEq,Prod.mk.injEq] at hr
     obtain ⟨rfl,rfl⟩:=hr
     exact this)
  ·exact aZ hO n a st st' e hr hk
 | .loop a,st,st',e,hr,hk=>by
  simp only [runC] at hr
  have : ∀ (k:Nat) (st:St),iter (runC c n a) k st=some (e,st')→Keys c.H st.h→Keys c.H st'.h:=by
   intro k
   induction k with
   | zero=>intro st h;simp [iter] at h
   | succ k ih=>
    intro st h hk
    simp only [iter] at h
    split at h
    ·rename_i st1 h1
     exact ih st1 h (aZ hO n a st st1 _ h1 hk)
    ·exact aZ hO n a st st' e h hk
  exact this n st hr hk
 | .exit id,st,st',e,hr,hk=>by
  simp only [runC,Option.some.injEq,Prod.mk.injEq] at hr
  obtain ⟨rfl,rfl⟩:=hr;exact hk
 | .ret,st,st',e,hr,hk=>by
  simp only [runC,Option.some.injEq,Prod.mk.injEq] at hr
  obtain ⟨rfl,rfl⟩:=hr;exact hk
 | .bad,st,st',e,hr,hk=>by simp [runC] at hr
 | .label l lv,st,st',e,hr,hk=>by
  simp only [runC,Option.some.injEq,Prod.mk.injEq] at hr
  obtain ⟨rfl,rfl⟩:=hr;exact hk
 | .goto l,st,st',e,hr,hk=>by
  simp only [runC,Option.some.injEq,Prod.mk.injEq] at hr
  obtain ⟨rfl,rfl⟩:=hr;exact hk
 | .scope a l b,st,st',e,hr,hk=>by
  simp only [runC] at hr
  have : ∀ (k:Nat) (st:St),iterG (runC c n b) l k st=some (e,st')→Keys c.H st.h→Keys c.H st'.h:=by
   intro k
   induction k with
   | zero=>intro st h;simp [iterG] at h
   | succ k ih=>
    intro st h hk
    simp only [iterG] at h
    split at h
    ·rename_i j st1 h1
     have hk1:=aZ hO n b st st1 _ h1 hk
     split at h
     ·exact ih st1 h hk1
     ·simp only [Option.some.injEq,Prod.mk.injEq] at h
      obtain ⟨rfl,rfl⟩:=h
      exact hk1
    ·exact aZ hO n b st st' e h hk
  split at hr
  ·rename_i st1 h1
   exact this n st1 hr (aZ hO n a st st1 _ h1 hk)
  ·rename_i j st1 h1
   have hk1:=aZ hO n a st st1 _ h1 hk
   split at hr
   ·exact this n st1 hr hk1
   ·simp only [Option.some.injEq,Prod.mk.injEq] at hr
    obtain ⟨rfl,rfl⟩:=hr
    exact hk1
  ·exact aZ hO n a st st' e hr hk
 | .tidy keep fz,st,st',e,h,hk=>by
  simp only [runC] at h
  split at h
  case h_2=>cases h
  rename_i ks fs u m hr
  simp only [Option.some.injEq,Prod.mk.injEq] at h
  obtain ⟨_,rfl⟩:=h
  exact rA hr hk
 | .regq fin ops live,st,st',e,hr,hk=>by
  simp only [runC] at hr
  split at hr
  ·rename_i env h hrun
   simp only [Option.some.injEq,Prod.mk.injEq] at hr
   obtain ⟨rfl,rfl⟩:=hr
   exact kT hO hrun hk
  ·cases hr
theorem n7 {imT:An} {f:FuncId} {fn:Func} {ir:IRF} {O:Oracle} {G:Nat→Option (List PV)} {n:Nat} {args:List LV} {r:LV} {u:Upd} {nw:List (Option Obj)} (hO:OSound P G O) (hm:P.follows .mixedOrders=true)
  (hf:P.funcs[f]?=some fn) (hc:cF P imT fn=some ir) (hn:fn.name ≠ "runtime.NumGoroutine") (hr:runF O G n ir args H nx=some (r,u,nw)):Sim P G f args H nx r u nw:=by
 unfold cF at hc
 split at hc
 case h_2=>cases hc
 rename_i c rs hb hrs
 obtain rfl:=Option.some.inj hc
 unfold runF at hr
 split at hr
 case isFalse=>cases hr
 rename_i hal
 simp only at hr hal
 have start : ∀ (I:Nat→Prop) (μ:Mu) (w:World) (vs:Array Value),HR I μ w (fun _=>True) H→(∀ id o,H id=some o→id<nx)→(∀ id,nx≤id→μ id=none)→GOK G I w →
   vs.size=args.length→(∀ (j:Nat) (l:LV) (v:Value),args[j]?=some l→vs[j]?=some v→VR I μ w l v) →
   Inv ⟨O,G,H,nx⟩ I μ w fn.ntmps ((List.range (fn.params.size+fn.nfree)).zip args) ⟨[],[]⟩ { tmps:=vs++Array.replicate (fn.ntmps-vs.size) undef,defers:=[] } w I μ:=by
  intro I μ w vs hH hlt h0 hG hl hv
  have hlook:look H nx ⟨[],[]⟩=H:=funext fun id=>by
   unfold look
   by_cases hid:id<nx
   ·rw [if_pos hid];rfl
   ·rw [if_neg hid]
    simp only [List.getElem?_nil]
    cases hh:H id with
    | none=>rfl
    | some o=>exact absurd (hlt id o hh) hid
  refine ⟨fun t => ?_,by simp;omega,rfl,?_,fun id hid=>h0 id (by simpa using hid),hG,(fun id o ho=>by cases ho),hH⟩
  ·have hget : ∀ (l:List LV) (k:Nat),get ((List.range' k l.length).zip l) t=if k≤t then (match l[t-k]? with
     | some v=>v
     | none=>.junk) else .junk:=by
    intro l
    induction l with
    | nil=>intro k;simp [get]
    | cons x r ih=>
     intro k
     simp only [List.length_cons,List.range'_succ,List.zip_cons_cons,get]
     by_cases e:t=k
     ·subst e;simp
     ·rw [if_neg e,ih (k+1)]
      by_cases h1:k≤t
      ·rw [if_pos h1,if_pos (by omega),show t-k=(t-(k+1))+1 by omega];rfl
      ·rw [if_neg h1,if_neg (by omega)]
   have hlen:fn.params.size+fn.nfree=args.length:=by simpa using hal.symm
   rw [hlen,List.range_eq_range',hget args 0,if_pos (Nat.zero_le _),Nat.sub_zero]
   cases ht:args[t]? with
   | none=>exact .junk _
   | some l=>
    have hlt':t<vs.size:=by rw [hl];exact (List.getElem?_eq_some_iff.1 ht).1
    have hvt:vs[t]?=some vs[t]:=by simp [hlt']
    have:(vs++Array.replicate (fn.ntmps-vs.size) undef).getD t undef=vs[t]:=by
     rw [Array.getD_eq_getD_getElem?,Array.getElem?_append_left hlt',hvt];rfl
    simp only [this]
    exact hv t l _ ht hvt
  ·simp only [hlook]
   exact ((Goes.refl hH.lt).widen hH fun _ h=>h.elim).congrN fun id=>by simp
 split at hr
 ·cases hr
 ·cases hr
 ·rename_i e st hne hne' hrun
  have hkst:=aZ hO n _ _ st e hrun (fun id o ho=>by cases ho)
  split at hr
  case h_2=>cases hr
  rename_i vl hvl
  have hfin:=hr
  refine ⟨lW hfin hkst,⟨fn,hf,by rw [hb];rfl,hn⟩,fun I μ w vs hH hlt h0 hG hl hv => ?_⟩
  refine calls_of_wp hf hb ?_
  refine nj (imT:=imT) hO hm n c [] _ _ st e _ w I μ _ hrun (start I μ w vs hH hlt h0 hG hl hv) fun a' w' I' μ' hi => ?_
  obtain ⟨us,hrun2,hlen2,hpt⟩:=vo (P:=P) hrs hvl hi.env hi.hr
  have hval:VR I' μ' w' (oneL vl) (oneV us):=by
   cases vl with
   | nil=>
    obtain rfl:us=[]:=List.eq_nil_of_length_eq_zero hlen2
    exact .tuple [] #[] rfl (by simp)
   | cons x r=>
    cases us with
    | nil=>cases hlen2
    | cons y us=>
     cases r with
     | nil=>
      obtain rfl:us=[]:=List.eq_nil_of_length_eq_zero (by simpa using hlen2)
      exact hpt 0 x y rfl rfl
     | cons x2 r=>
      cases us with
      | nil=>simp at hlen2
      | cons y2 us=>exact .tuple _ _ (by simpa using hlen2) fun j l u hj hu=>hpt j l u hj (by simpa using hu)
  obtain ⟨_,I2,μ2,q1,q2⟩:=kt hfin h0 hH hi.goes hkst hval
  have hpost:a'.defers=[]∧∃ v,(results fn a'.tmps).run P w' = .ok v w'∧(∃ v_1 I'_1 μ'_1,Ending.returned v=Ending.returned v_1∧Goes I I'_1 μ μ'_1 w w' H (look H nx ⟨u,nw⟩) (fun _=>True) (fun id=>nx≤id∧id<nx+nw.length)∧VR I'_1 μ'_1 w' r v_1):=
   ⟨hi.defers,_,hrun2,_,I2,μ2,rfl,q1,q2⟩
  cases e with
  | normal=>exact hpost
  | ret=>exact hpost
  | exit id=>exact absurd rfl (hne id)
  | goto l=>exact absurd rfl (hne' l)
 ·cases hr
theorem ij {C:FuncId→Nat} {an:FuncId→An} {F:FuncId→Option IRF} {G:Nat→Option (List PV)} {X:Oracle} (hm:P.follows .mixedOrders=true) (hX:OSound P G X)
  (hF : ∀ f ir,F f=some ir→∃ fn,P.funcs[f]?=some fn∧cF P (an f) fn=some ir∧fn.name ≠ "runtime.NumGoroutine") : ∀ n,OSound P G (evalN C F G X n)
 | 0=>fun f args H nx r u n h=>by simp [evalN] at h
 | n+1=>fun f args H nx r u nw h=>by
  simp only [evalN] at h
  split at h
  ·rename_i ir hir
   obtain ⟨fn,h1,h2,h3⟩:=hF f ir hir
   exact n7 (rt C (ij hm hX hF n)) hm h1 h2 h3 h
  ·exact hX f args H nx r u nw h
end
end Go.Sx
end

section
namespace Go.Sx
open Go
def findF:List (FuncId × IRF)→FuncId→Option IRF
 | [],_=>none
 | (g,ir)::r,f=>if f=g then some ir else findF r f
theorem jZ : ∀ {l:List (FuncId × IRF)} {f:FuncId} {ir:IRF},findF l f=some ir→(f,ir)∈l
 | [],f,ir,h=>by cases h
 | (g,i)::r,f,ir,h=>by
  simp only [findF] at h
  split at h
  ·rename_i e
   obtain rfl:=Option.some.inj h
   rw [e];exact List.mem_cons_self
  ·exact List.mem_cons_of_mem _ (jZ h)
def noG:Nat→Option (List PV):=fun _=>none
def noX:Oracle:=fun _ _ _ _=>none
def noH:Heap:=fun _=>none
theorem noX_sound (P:Program) (G:Nat→Option (List PV)):OSound P G noX:=fun _ _ _ _ _ _ _ h=>by cases h
theorem call_of_eval {C:FuncId→Nat} {P:Program} {an:FuncId→An} {L:List (FuncId × IRF)} {G:Nat→Option (List PV)} {X:Oracle} (hm:P.follows .mixedOrders=true) (hX:OSound P G X)
  (hL : ∀ p∈L,∃ fn,P.funcs[p.1]?=some fn∧cF P (an p.1) fn=some p.2∧fn.name ≠ "runtime.NumGoroutine") {n:Nat} {f:FuncId} {args:List LV} {x:PV} (h:evalN C (findF L) G X n f args noH 0=some (.p x,[],[]))
  {I:Nat→Prop} {w:World} {vs:Array Value} (hI : ∀ b,I b→b<w.heap.size) (hG:GOK G I w) (hl:vs.size=args.length) (hv : ∀ (j:Nat) (l:LV) (v:Value),args[j]?=some l→vs[j]?=some v→VR I (fun _=>none) w l v):
  Calls P f vs w (fun e w'=>∃ v I',e = .returned v∧(w'.os=w.os∧w'.tape=w.tape∧w'.output=w.output∧w.heap.size≤w'.heap.size∧∀ k,k<w.heap.size→w'.heap[k]?=w.heap[k]?)∧PR I' w' x v):=by
 have hs:=ij (C:=C) (P:=P) (an:=an) (F:=findF L) hm hX (fun f ir hf=>hL (f,ir) (jZ hf)) n f args noH 0 _ _ _ h
 refine (hs.call I (fun _=>none) w vs ⟨fun _ _ _ h=>(by cases h),fun _ _ _ _ _ _ h=>(by cases h),fun _ _ _ _ h=>(by cases h),hI⟩ (fun _ _ h=>(by cases h)) (fun _ _=>rfl) hG hl hv).mono ?_
 rintro e w' ⟨v,I',μ',rfl,g,hv⟩
 refine ⟨v,I',rfl,⟨g.stp.os,g.stp.tape,g.stp.output,g.stp.size,fun k hk=>g.stp.block k hk fun ⟨id,o,_,ho,_⟩=>(by cases ho)⟩,hv.pp⟩
end Go.Sx
end

section
namespace Go.Sx
open Go
def Up (Om:Nat→Oracle) (O:Oracle):Prop:=∀ f a H nx r,O f a H nx=some r→∃ m,∀ m',m≤m'→Om m' f a H nx=some r
section
variable {Om:Nat→Oracle} {O:Oracle} {G:Nat→Option (List PV)} {H:Heap} {nx:Nat}
theorem lu (hO:Up Om O) {dr:Bool} {h:Hp} {f:FuncId} {args:List LV} {r:Res} (hr:callO ⟨O,G,H,nx⟩ dr h f args=some r) : ∃ M,∀ m,M≤m→callO ⟨Om m,G,H,nx⟩ dr h f args=some r:=by
 unfold callO at hr
 simp only at hr
 cases dr with
 | true=>
  simp only [if_true] at hr
  split at hr
  ·rename_i S hS
   split at hr
   ·rename_i hall
    split at hr
    ·rename_i x u n hc
     obtain ⟨M,hM⟩:=hO _ _ _ _ _ hc
     refine ⟨M,fun m hm => ?_⟩
     unfold callO
     simp only [if_true,hS]
     rw [if_pos hall,hM m hm]
     exact hr
    ·cases hr
   ·cases hr
  ·cases hr
 | false=>
  simp only [Bool.false_eq_true,if_false] at hr
  split at hr
  ·rename_i x u n hc
   obtain ⟨M,hM⟩:=hO _ _ _ _ _ hc
   refine ⟨M,fun m hm => ?_⟩
   unfold callO
   simp only [Bool.false_eq_true,if_false]
   rw [hM m hm]
   exact hr
  ·cases hr
theorem kq (hO:Up Om O) {dr:Bool} {env:Env} {h:Hp} {op:IROp} {r:Res} (hr:evOp ⟨O,G,H,nx⟩ dr env h op=some r) : ∃ M,∀ m,M≤m→evOp ⟨Om m,G,H,nx⟩ dr env h op=some r:=by
 cases op
 case call f args=>exact lu hO hr
 case callv x args=>
  have e : ∀ Q:Oracle,evOp ⟨Q,G,H,nx⟩ dr env h (.callv x args)=match opd ⟨O,G,H,nx⟩ env x with
   | .fn f a b=>callO ⟨Q,G,H,nx⟩ dr h f (a++args.map (opd ⟨O,G,H,nx⟩ env)++b)
   | _=>none:=fun Q=>rfl
  rw [e] at hr
  split at hr
  ·rename_i f a b hx
   obtain ⟨M,hM⟩:=lu hO hr
   exact ⟨M,fun m hm=>by rw [e,hx];exact hM m hm⟩
  ·cases hr
 all_goals exact ⟨0,fun m _=>hr⟩
theorem g9 (hO:Up Om O) : ∀ {ops:List IROper} {env:Env} {h:Hp} {r:Env × Hp},runOps ⟨O,G,H,nx⟩ ops env h=some r→∃ M,∀ m,M≤m→runOps ⟨Om m,G,H,nx⟩ ops env h=some r
 | [],env,h,r,hr=>⟨0,fun _ _=>hr⟩
 | o::l,env,h,r,hr=>by
  simp only [runOps] at hr
  split at hr
  ·rename_i hw
   split at hr
   ·rename_i x hx
    obtain ⟨M,hM⟩:=kq hO hx
    obtain ⟨N,hN⟩:=g9 hO hr
    exact ⟨max M N,fun m hm=>by simp only [runOps,hw,hM m (by omega),hN m (by omega)]⟩
   ·cases hr
  ·rename_i hw
   obtain ⟨N,hN⟩:=g9 hO hr
   exact ⟨N,fun m hm=>by simp only [runOps,hw,hN m hm]⟩
  ·cases hr
theorem fS (hO:Up Om O) : ∀ {ops:List IROper} {env:Env} {h:Hp} {r:List Tr × Env × Hp},runOpsT ⟨O,G,H,nx⟩ ops env h=some r→∃ M,∀ m,M≤m→runOpsT ⟨Om m,G,H,nx⟩ ops env h=some r
 | [],env,h,r,hr=>⟨0,fun _ _=>hr⟩
 | o::l,env,h,r,hr=>by
  simp only [runOpsT] at hr
  split at hr
  ·rename_i hw
   split at hr
   ·rename_i x hx
    split at hr
    ·rename_i tr e h' ht
     obtain ⟨M,hM⟩:=kq hO hx
     obtain ⟨N,hN⟩:=fS hO ht
     exact ⟨max M N,fun m hm=>by simp only [runOpsT,hw,hM m (by omega),hN m (by omega)];exact hr⟩
    ·cases hr
   ·cases hr
  ·rename_i hw
   split at hr
   ·rename_i tr e h' ht
    obtain ⟨N,hN⟩:=fS hO ht
    exact ⟨N,fun m hm=>by simp only [runOpsT,hw,hN m hm];exact hr⟩
   ·cases hr
  ·cases hr
theorem fQ (hO:Up Om O) {fin:Bool} : ∀ {ops:List IROper} {env:Env} {h:Hp} {r:Env × Hp},runOpsQ ⟨O,G,H,nx⟩ fin ops env h=some r→∃ M,∀ m,M≤m→runOpsQ ⟨Om m,G,H,nx⟩ fin ops env h=some r
 | [],env,h,r,hr=>⟨0,fun _ _=>hr⟩
 | o::l,env,h,r,hr=>by
  simp only [runOpsQ] at hr
  split at hr
  ·rename_i hw
   split at hr
   ·rename_i x hx
    split at hr
    ·rename_i hq
     obtain ⟨M,hM⟩:=kq hO hx
     obtain ⟨N,hN⟩:=fQ hO hr
     exact ⟨max M N,fun m hm=>by simp only [runOpsQ,hw,hM m (by omega),hN m (by omega),hq,if_true]⟩
    ·cases hr
   ·cases hr
  ·rename_i hw
   obtain ⟨N,hN⟩:=fQ hO hr
   exact ⟨N,fun m hm=>by simp only [runOpsQ,hw,hN m hm]⟩
  ·cases hr
theorem kD {f:St→Option (Ex × St)} {g:Nat→St→Option (Ex × St)} (hf : ∀ st r,f st=some r→∃ M,∀ m,M≤m→g m st=some r) : ∀ {k:Nat} {st:St} {r:Ex × St},iter f k st=some r→∃ M,∀ m,M≤m→∀ k',k≤k'→iter (g m) k' st=some r
 | 0,st,r,hr=>by cases hr
 | k+1,st,r,hr=>by
  simp only [iter] at hr
  split at hr
  ·rename_i st' h1
   obtain ⟨M,hM⟩:=hf _ _ h1
   obtain ⟨N,hN⟩:=kD hf hr
   refine ⟨max M N,fun m hm k' hk => ?_⟩
   obtain ⟨j,rfl⟩ : ∃ j,k'=j+1:=⟨k'-1,by omega⟩
   simp only [iter,hM m (by omega)]
   exact hN m (by omega) j (by omega)
  ·rename_i hne
   obtain ⟨M,hM⟩:=hf _ _ hr
   refine ⟨M,fun m hm k' hk => ?_⟩
   obtain ⟨j,rfl⟩ : ∃ j,k'=j+1:=⟨k'-1,by omega⟩
   simp only [iter,hM m hm]
   split
   ·rename_i st' e
    rw [hr,e] at hne
    exact absurd rfl (hne st')
   ·rfl
theorem jm {f:St→Option (Ex × St)} {g:Nat→St→Option (Ex × St)} {l:Nat} (hf : ∀ st r,f st=some r→∃ M,∀ m,M≤m→g m st=some r) : ∀ {k:Nat} {st:St} {r:Ex × St},iterG f l k st=some r→∃ M,∀ m,M≤m→∀ k',k≤k'→iterG (g m) l k' st=some r
 | 0,st,r,hr=>by cases hr
 | k+1,st,r,hr=>by
  simp only [iterG] at hr
  split at hr
  ·rename_i j st' h1
   obtain ⟨M,hM⟩:=hf _ _ h1
   split at hr
   ·rename_i e
    obtain ⟨N,hN⟩:=jm hf hr
    refine ⟨max M N,fun m hm k' hk => ?_⟩
    obtain ⟨q,rfl⟩ : ∃ q,k'=q+1:=⟨k'-1,by omega⟩
    simp only [iterG,hM m (by omega),e,if_true]
    exact hN m (by omega) q (by omega)
   ·rename_i e
    refine ⟨M,fun m hm k' hk => ?_⟩
    obtain ⟨q,rfl⟩ : ∃ q,k'=q+1:=⟨k'-1,by omega⟩
    simp only [iterG,hM m hm,if_neg e]
    exact hr
  ·rename_i hne
   obtain ⟨M,hM⟩:=hf _ _ hr
   refine ⟨M,fun m hm k' hk => ?_⟩
   obtain ⟨q,rfl⟩ : ∃ q,k'=q+1:=⟨k'-1,by omega⟩
   simp only [iterG,hM m hm]
   split
   ·rename_i j st' e
    rw [hr,e] at hne
    exact absurd rfl (hne j st')
   ·rfl
theorem pJ (hO:Up Om O) {n:Nat} : ∀ {code:IRC} {st:St} {r:Ex × St},runC ⟨O,G,H,nx⟩ n code st=some r→∃ M,∀ m,M≤m→runC ⟨Om m,G,H,nx⟩ m code st=some r:=by
 intro code
 induction code with
 | skip=>intro st r hr;exact ⟨0,fun _ _=>hr⟩
 | region ops draw live=>
  intro st r hr
  cases draw with
  | none=>
   simp only [runC] at hr
   split at hr
   ·rename_i env h h1
    obtain ⟨M,hM⟩:=g9 hO h1
    exact ⟨M,fun m hm=>by simp only [runC,hM m hm];exact hr⟩
   ·cases hr
  | some before=>
   simp only [runC] at hr
   split at hr
   ·rename_i tr env h h1
    obtain ⟨M,hM⟩:=fS hO h1
    exact ⟨M,fun m hm=>by simp only [runC,hM m hm];exact hr⟩
   ·cases hr
 | seq a b iha ihb=>
  intro st r hr
  simp only [runC] at hr
  split at hr
  ·rename_i st' h1
   obtain ⟨M,hM⟩:=iha h1
   obtain ⟨N,hN⟩:=ihb hr
   exact ⟨max M N,fun m hm=>by simp only [runC,hM m (by omega),hN m (by omega)]⟩
  ·rename_i hne
   obtain ⟨M,hM⟩:=iha hr
   refine ⟨M,fun m hm => ?_⟩
   simp only [runC,hM m hm]
   split
   ·rename_i st' e
    rw [hr,e] at hne
    exact absurd rfl (hne st')
   ·rfl
 | cond x a b iha ihb=>
  intro st r hr
  have e : ∀ (Q:Oracle) k,runC ⟨Q,G,H,nx⟩ k (.cond x a b) st=match opd ⟨O,G,H,nx⟩ st.env x with
   | .p (.s (.bool t))=>if t then runC ⟨Q,G,H,nx⟩ k a st else runC ⟨Q,G,H,nx⟩ k b st
   | _=>none:=fun Q k=>rfl
  rw [e] at hr
  split at hr
  ·rename_i t hx
   cases t with
   | true=>
    obtain ⟨M,hM⟩:=iha hr
    exact ⟨M,fun m hm=>by rw [e,hx];exact hM m hm⟩
   | false=>
    obtain ⟨M,hM⟩:=ihb hr
    exact ⟨M,fun m hm=>by rw [e,hx];exact hM m hm⟩
  ·cases hr
 | block id a iha=>
  intro st r hr
  simp only [runC] at hr
  split at hr
  ·rename_i j st' h1
   obtain ⟨M,hM⟩:=iha h1
   exact ⟨M,fun m hm=>by simp only [runC,hM m hm];exact hr⟩
  ·rename_i hne
   obtain ⟨M,hM⟩:=iha hr
   refine ⟨M,fun m hm => ?_⟩
   simp only [runC,hM m hm]
   split
   ·rename_i j st' e
    rw [hr,e] at hne
    exact absurd rfl (hne j st')
   ·rfl
 | loop a iha=>
  intro st r hr
  simp only [runC] at hr
  obtain ⟨M,hM⟩:=kD (g:=fun m=>runC ⟨Om m,G,H,nx⟩ m a) (fun st r h=>iha h) hr
  exact ⟨max M n,fun m hm=>by simp only [runC];exact hM m (by omega) m (by omega)⟩
 | exit id=>intro st r hr;exact ⟨0,fun _ _=>hr⟩
 | ret=>intro st r hr;exact ⟨0,fun _ _=>hr⟩
 | bad=>intro st r hr;cases hr
 | label l lv=>intro st r hr;exact ⟨0,fun _ _=>hr⟩
 | tidy k f=>intro st r hr;exact ⟨0,fun _ _=>hr⟩
 | regq fin ops live=>
  intro st r hr
  simp only [runC] at hr
  split at hr
  ·rename_i env h h1
   obtain ⟨M,hM⟩:=fQ hO h1
   exact ⟨M,fun m hm=>by simp only [runC,hM m hm];exact hr⟩
  ·cases hr
 | goto l=>intro st r hr;exact ⟨0,fun _ _=>hr⟩
 | scope a l b iha ihb=>
  intro st r hr
  simp only [runC] at hr
  have hG : ∀ {s:St} {r:Ex × St},iterG (runC ⟨O,G,H,nx⟩ n b) l n s=some r→∃ M,∀ m,M≤m→iterG (runC ⟨Om m,G,H,nx⟩ m b) l m s=some r:=fun h=>by
   obtain ⟨M,hM⟩:=jm (g:=fun m=>runC ⟨Om m,G,H,nx⟩ m b) (fun st r h=>ihb h) h
   exact ⟨max M n,fun m hm=>hM m (by omega) m (by omega)⟩
  split at hr
  ·rename_i st1 h1
   obtain ⟨M,hM⟩:=iha h1
   obtain ⟨N,hN⟩:=hG hr
   exact ⟨max M N,fun m hm=>by simp only [runC,hM m (by omega)];exact hN m (by omega)⟩
  ·rename_i j st1 h1
   obtain ⟨M,hM⟩:=iha h1
   split at hr
   ·rename_i e
    obtain ⟨N,hN⟩:=hG hr
    exact ⟨max M N,fun m hm=>by simp only [runC,hM m (by omega),e,if_true];exact hN m (by omega)⟩
   ·rename_i e
    exact ⟨M,fun m hm=>by simp only [runC,hM m hm,if_neg e];exact hr⟩
  ·rename_i h1 h2
   obtain ⟨M,hM⟩:=iha hr
   refine ⟨M,fun m hm => ?_⟩
   simp only [runC,hM m hm]
   split
   ·rename_i st' e
    rw [hr,e] at h1
    exact absurd rfl (h1 st')
   ·rename_i j st' e
    rw [hr,e] at h2
    exact absurd rfl (h2 j st')
   ·rfl
theorem pK (hO:Up Om O) {n:Nat} {f:IRF} {args:List LV} {r:LV × Upd × List (Option Obj)} (hr:runF O G n f args H nx=some r) : ∃ M,∀ m,M≤m→runF (Om m) G m f args H nx=some r:=by
 unfold runF at hr
 split at hr
 case isFalse=>cases hr
 rename_i hl
 split at hr
 ·cases hr
 ·cases hr
 ·rename_i ex st hne hne' h1
  obtain ⟨M,hM⟩:=pJ hO h1
  refine ⟨M,fun m hm => ?_⟩
  unfold runF
  rw [if_pos hl,hM m hm]
  split
  ·rename_i j st' e
   simp only [Option.some.injEq,Prod.mk.injEq] at e
   exact absurd e.1 (by intro e';exact hne j e')
  ·rename_i j st' e
   simp only [Option.some.injEq,Prod.mk.injEq] at e
   exact absurd e.1 (by intro e';exact hne' j e')
  ·rename_i e
   simp only [Option.some.injEq,Prod.mk.injEq] at e
   rw [←e.2];exact hr
  ·rename_i e;cases e
 ·cases hr
end
section
variable {C:FuncId→Nat} {O:Oracle} {f:FuncId} {a:List LV} {H:Heap} {nx:Nat}
theorem v8 (hc:C f=0):sel C O f a H nx=O f a H nx:=by simp only [sel,hc]
theorem v9 (hc:C f=1):sel C O f a H nx=can (ansW O f) true a H nx:=by simp only [sel,hc]
theorem wa {k:Nat} (hc:C f=k+2):sel C O f a H nx=can (fun a l=>noW (ansP O f a l)) false a H nx:=by simp only [sel,hc]
end
theorem tK {C:FuncId→Nat} {Om:Nat→Oracle} {O:Oracle} (hO:Up Om O):Up (fun m=>sel C (Om m)) (sel C O):=fun f a H nx r h=>by
 have hcan : ∀ (w:Bool) (g:List LV→List (Option Obj)→Option (LV × List (Option Obj))) (gm:Nat→List LV→List (Option Obj)→Option (LV × List (Option Obj))),(∀ a l q,g a l=some q→∃ M,∀ m,M≤m→gm m a l=some q)→can g w a H nx=some r→∃ M,∀ m,M≤m→can (gm m) w a H nx=some r:=by
  intro w g gm hg h
  unfold can at h
  split at h
  ·cases h
  ·rename_i seen hs
   split at h
   ·rename_i a' l ha hl
    split at h
    ·rename_i r' l' hr'
     obtain ⟨M,hM⟩:=hg _ _ _ hr'
     refine ⟨M,fun m hm => ?_⟩
     unfold can
     simp only [hs,ha,hl,hM m hm]
     exact h
    ·cases h
   ·cases h
 cases hC:C f with
 | zero=>
  simp only [v8 hC] at h ⊢
  exact hO f a H nx r h
 | succ k=>
  cases k with
  | zero=>
   simp only [v9 hC] at h ⊢
   refine hcan true _ (fun m=>ansW (Om m) f) (fun a l q h => ?_) h
   unfold ansW at h ⊢
   split at h
   ·rename_i r' u n hr'
    obtain ⟨M,hM⟩:=hO _ _ _ _ _ hr'
    exact ⟨M,fun m hm=>by rw [hM m hm];exact h⟩
   ·cases h
  | succ k=>
   simp only [wa hC] at h ⊢
   refine hcan false _ (fun m a l=>noW (ansP (Om m) f a l)) (fun a l q h => ?_) h
   unfold ansP at h ⊢
   cases ho:O f a (hpL l) l.length with
   | none=>rw [ho] at h;cases h
   | some z=>
   obtain ⟨M,hM⟩:=hO _ _ _ _ _ ho
   exact ⟨M,fun m hm=>by rw [hM m hm];rw [ho] at h;exact h⟩
open Classical in
noncomputable def om0 (C:FuncId→Nat) (F:FuncId→Option IRF) (G:Nat→Option (List PV)) (E:Oracle):Oracle:=fun f a H nx=>
 if h : ∃ r n,∀ m,n≤m→evalN C F G E m f a H nx=some r then some h.choose else none
noncomputable def om (C:FuncId→Nat) (F:FuncId→Option IRF) (G:Nat→Option (List PV)) (E:Oracle):Oracle:=sel C (om0 C F G E)
section
variable {C:FuncId→Nat} {F:FuncId→Option IRF} {G:Nat→Option (List PV)} {E:Oracle} {f:FuncId} {a:List LV} {H:Heap} {nx:Nat} {r:LV × Upd × List (Option Obj)}
theorem td:Up (evalN C F G E) (om0 C F G E):=fun f a H nx r h=>by
 unfold om0 at h
 split at h
 ·rename_i h1
  obtain rfl:=Option.some.inj h
  exact h1.choose_spec
 ·cases h
theorem xK:Up (fun m=>sel C (evalN C F G E m)) (om C F G E):=tK td
theorem wK (hc:C f=0):om C F G E f a H nx=om0 C F G E f a H nx:=v8 hc
theorem yA (hc:C f=1):om C F G E f a H nx=can (ansW (om0 C F G E) f) true a H nx:=v9 hc
theorem yB (hc:C f=2):om C F G E f a H nx=can (fun a l=>noW (ansP (om0 C F G E) f a l)) false a H nx:=wa hc
theorem tc {n:Nat} (h : ∀ m,n≤m→evalN C F G E m f a H nx=some r):om0 C F G E f a H nx=some r:=by
 have h1 : ∃ r n,∀ m,n≤m→evalN C F G E m f a H nx=some r:=⟨r,n,h⟩
 unfold om0
 rw [dif_pos h1]
 obtain ⟨k,hk⟩:=h1.choose_spec
 have a1:=hk (max n k) (by omega)
 have a2:=h (max n k) (by omega)
 rw [a1] at a2
 exact a2
theorem kH {ir:IRF} (hf:F f=some ir) (n:Nat) (h:runF (om C F G E) G n ir a H nx=some r):om0 C F G E f a H nx=some r:=by
 obtain ⟨M,hM⟩:=pK xK h
 refine tc (n:=M+1) fun m hm => ?_
 obtain ⟨k,rfl⟩ : ∃ k,m=k+1:=⟨m-1,by omega⟩
 simp only [evalN,hf]
 exact hM k (by omega)
theorem ae {ir:IRF} (hf:F f=some ir) (n:Nat) (h:runF (om C F G E) G n ir a H nx=some r) (hc:C f=0:=by rfl):om C F G E f a H nx=some r:=by
 rw [wK hc];exact kH hf n h
theorem uY (hf:F f=none) (h:E f a H nx=some r):om0 C F G E f a H nx=some r:=by
 refine tc (n:=1) fun m hm => ?_
 obtain ⟨k,rfl⟩ : ∃ k,m=k+1:=⟨m-1,by omega⟩
 simp only [evalN,hf]
 exact h
theorem er : ∀ {n:Nat} {f:FuncId} {a:List LV} {H:Heap} {nx:Nat} {r:LV × Upd × List (Option Obj)},evalN C F G E n f a H nx=some r→om0 C F G E f a H nx=some r
 | 0,f,a,H,nx,r,h=>by cases h
 | n+1,f,a,H,nx,r,h=>by
  simp only [evalN] at h
  split at h
  ·rename_i ir hf
   have hu:Up (fun _:Nat=>om C F G E) (sel C (evalN C F G E n)):=fun f a H nx r h'=>by
    obtain ⟨M,hM⟩:=tK (Om:=fun _:Nat=>om0 C F G E) (O:=evalN C F G E n) (fun f a H nx r h'=>⟨0,fun _ _=>er h'⟩) f a H nx r h'
    exact ⟨M,fun m hm=>hM m hm⟩
   obtain ⟨M,hM⟩:=pK hu h
   exact kH hf M (hM M (Nat.le_refl _))
  ·rename_i hf
   exact uY hf h
theorem nM {n:Nat} (h:evalN C F G E n f a H nx=some r) (hc:C f=0:=by rfl):om C F G E f a H nx=some r:=by
 rw [wK hc];exact er h
theorem s9 (h:om0 C F G E f a H nx=some r) : ∃ m,evalN C F G E m f a H nx=some r:=by
 obtain ⟨m,hm⟩:=td f a H nx r h
 exact ⟨m,hm m (Nat.le_refl _)⟩
theorem om_eval (h:om C F G E f a H nx=some r) (hc:C f=0:=by rfl) : ∃ m,evalN C F G E m f a H nx=some r:=by
 rw [wK hc] at h;exact s9 h
end
end Go.Sx
end

section
namespace Go.Sx
open Go
noncomputable def veil {α:Type} (a:α):α:=Classical.choose (⟨a,rfl⟩ : ∃ b,b=a)
theorem iO {α:Type} (a:α):veil a=a:=Classical.choose_spec (⟨a,rfl⟩ : ∃ b,b=a)
noncomputable def runOpsS:Ctx→List IROper→Env→Hp→Option (Env × Hp):=veil runOps
noncomputable def runOpsTS:Ctx→List IROper→Env→Hp→Option (List Tr × Env × Hp):=veil runOpsT
noncomputable def runCS:Ctx→Nat→IRC→St→Option (Ex × St):=veil runC
theorem fR:runOpsS=runOps:=iO _
theorem eC:runOpsTS=runOpsT:=iO _
theorem aO:runCS=runC:=iO _
theorem cn (c:Ctx) (env:Env) (h:Hp):runOpsS c [] env h=some (env,h):=by rw [fR];rfl
theorem dY (c:Ctx) (o:IROper) (r:List IROper) (env:Env) (h:Hp):runOpsS c (o::r) env h=match wants env o.guard with
  | some true=>match evOp c false env h o.op with
   | some x=>runOpsS c r (putD env o.dst x.v) x.h
   | none=>none
  | some false=>runOpsS c r (putD env o.dst .undef) h
  | none=>none:=by rw [fR];rfl
theorem bQ (c:Ctx) (env:Env) (h:Hp):runOpsTS c [] env h=some ([],env,h):=by rw [eC];rfl
theorem dh (c:Ctx) (o:IROper) (r:List IROper) (env:Env) (h:Hp):runOpsTS c (o::r) env h=match wants env o.guard with
  | some true=>match evOp c true env h o.op with
   | some x=>match runOpsTS c r (putD env o.dst x.v) x.h with
    | some (tr,e,h')=>some (⟨x.tch,x.md,c.nx+h.new.length,c.nx+x.h.new.length,o.op.slots++gslot o.guard,o.dst⟩::tr,e,h')
    | none=>none
   | none=>none
  | some false=>match runOpsTS c r (putD env o.dst .undef) h with
   | some (tr,e,h')=>some (⟨[],false,c.nx+h.new.length,c.nx+h.new.length,gslot o.guard,o.dst⟩::tr,e,h')
   | none=>none
  | none=>none:=by rw [eC];rfl
section
variable (c:Ctx) (n:Nat) (st:St)
theorem dW:runCS c n .skip st=some (.normal,st):=by rw [aO];rfl
theorem g8 (ops:List IROper) (live:List Nat):runCS c n (.region ops none live) st=match runOpsS c ops st.env st.h with
  | some (env,h)=>some (.normal,⟨keep live env,h⟩)
  | none=>none:=by rw [aO,fR];rfl
theorem fO (ops:List IROper) (before live:List Nat):runCS c n (.region ops (some before) live) st=match runOpsTS c ops st.env st.h with
  | some (tr,env,h)=>if indepD tr before then some (.normal,⟨keep live env,h⟩) else none
  | none=>none:=by rw [aO,eC];rfl
theorem aL (a b:IRC):runCS c n (.seq a b) st=match runCS c n a st with
  | some (.normal,st')=>runCS c n b st'
  | r=>r:=by rw [aO];rfl
theorem fN (x:Opd) (a b:IRC):runCS c n (.cond x a b) st=match opd c st.env x with
  | .p (.s (.bool t))=>if t then runCS c n a st else runCS c n b st
  | _=>none:=by rw [aO];rfl
theorem cK (id:Nat) (a:IRC):runCS c n (.block id a) st=match runCS c n a st with
  | some (.exit j,st')=>if j=id then some (.normal,st') else some (.exit j,st')
  | r=>r:=by rw [aO];rfl
theorem cA (a:IRC):runCS c n (.loop a) st=iter (runCS c n a) n st:=by rw [aO];rfl
theorem dU (id:Nat):runCS c n (.exit id) st=some (.exit id,st):=by rw [aO];rfl
theorem da (l:Nat) (lv:List Nat):runCS c n (.label l lv) st=some (.normal,st):=by rw [aO];rfl
theorem dV (l:Nat):runCS c n (.goto l) st=some (.goto l,st):=by rw [aO];rfl
theorem db (a b:IRC) (l:Nat):runCS c n (.scope a l b) st=match runCS c n a st with
  | some (.normal,st')=>iterG (runCS c n b) l n st'
  | some (.goto j,st')=>if j=l then iterG (runCS c n b) l n st' else some (.goto j,st')
  | r=>r:=by rw [aO];rfl
theorem fh:runCS c n .ret st=some (.ret,st):=by rw [aO];rfl
theorem dX (k f:List Nat):runCS c n (.tidy k f) st=match tidyR c.H c.nx (.tuple (k.map (get st.env))) (.tuple (f.map (get st.env))) st.h with
  | some (.tuple ks,.tuple fs,u,m)=>some (.normal,⟨k.zip ks++f.zip fs,⟨u,m⟩⟩)
  | _=>none:=by rw [aO];rfl
end
theorem runF_S (O:Oracle) (G:Nat→Option (List PV)) (n:Nat) (f:IRF) (args:List LV) (H:Heap) (nx:Nat):runF O G n f args H nx=
 if args.length=f.params.length then
  match runCS ⟨O,G,H,nx⟩ n f.body ⟨f.params.zip args,⟨[],[]⟩⟩ with
  | some (.exit _,_)=>none
  | some (.goto _,_)=>none
  | some (_,st)=>match resVs H nx st f.results with
   | some l=>finish f.own H nx (oneL l) st.h
   | none=>none
  | none=>none
 else none:=by rw [aO];rfl
end Go.Sx
end

section
namespace Go.Proofs.YtppeggedcaabkaaGreatDoor
open Go Go.Sx
abbrev qX (d:Nat) (o:IROp) (g:Option (Nat × Bool):=none):IROper:=⟨some d,o,g⟩
abbrev qM (d s:Nat) (g:Option (Nat × Bool):=none):IROper:=⟨some d,.mv (.t s),g⟩
abbrev qV (d:Nat) (x:Opd) (g:Option (Nat × Bool):=none):IROper:=⟨some d,.mv x,g⟩
abbrev qF (d k s:Nat) (g:Option (Nat × Bool):=none):IROper:=⟨some d,.fieldAddr k (.t s),g⟩
abbrev qL (d k s:Nat) (g:Option (Nat × Bool):=none):IROper:=⟨some d,.load k false (.t s),g⟩
abbrev qT (d k s:Nat) (g:Option (Nat × Bool):=none):IROper:=⟨some d,.load k true (.t s),g⟩
abbrev qC (d f:Nat) (a:List Opd) (g:Option (Nat × Bool):=none):IROper:=⟨some d,.call f a,g⟩
abbrev qS (k a x:Nat):IROper:=⟨none,.store k (.t a) (.t x),none⟩
abbrev qA (d a b:Nat) (g:Option (Nat × Bool):=none):IROper:=⟨some d,.pick (.t a) (.t b) (.c (.p (.s (.bool false)))),g⟩
abbrev qO (d a b:Nat) (g:Option (Nat × Bool):=none):IROper:=⟨some d,.pick (.t a) (.c (.p (.s (.bool true)))) (.t b),g⟩
abbrev qN (d s:Nat) (g:Option (Nat × Bool):=none):IROper:=⟨some d,.nilCk (.t s),g⟩
abbrev qE (d s k:Nat) (g:Option (Nat × Bool):=none):IROper:=⟨some d,.ext (.t s) k,g⟩
abbrev qB (d:Nat) (o:BinOp) (a b:Opd) (g:Option (Nat × Bool):=none):IROper:=⟨some d,.bin o a b,g⟩
abbrev qy (k:Nat):Option (Nat × Bool):=some (k,true)
abbrev qn (k:Nat):Option (Nat × Bool):=some (k,false)
abbrev qi (k:Int):Opd:=.c (.p (.s (.int .i64 k)))
abbrev qu (k:Int):Opd:=.c (.p (.s (.int .u64 k)))
abbrev qf:Opd:=.c (.p (.s (.bool false)))
abbrev qt:Opd:=.c (.p (.s (.bool true)))
abbrev ql:Opd:=.c (.p (.s (.slice none 0 0)))
abbrev qp:Opd:=.c (.p (.s (.pointer none)))
abbrev zi:PV:=.s (.int .i64 0)
abbrev zu:PV:=.s (.int .u64 0)
abbrev zf:PV:=.s (.bool false)
abbrev zp:PV:=.s (.pointer none)
abbrev zs:PV:=.s (.slice none 0 0)
abbrev qR (l:List Nat):IRC:=.region [] none l
abbrev zE0:PV:=.s (.string ⟨#[]⟩)
def ir4:IRF:=⟨[0],(.seq (.region [qX 1 (.box true (.t 0)),qV 2 qf] none [1]) (.seq (.seq (.region [qC 13 7 [],qX 14 (.un .not (.t 13))] none [1,14]) (.cond (.t 14) (.seq (.region [qV 2 qf] none [2]) .ret) .skip)) (.seq (.seq (.region [qT 16 12 1,qC 17 8 [(.t 16)],qM 15 17,qE 18 15 0,qE 19 15 1,qX 3 (.alloc false [zi,zi,zi,zu,zi,zf,zu,zp,zs,zu,zi,zi,zf,zp,zu]),qX 4 (.alloc false [zi,zi,zi,zu,zi,zf,zp,zs,zu,zi,zi,zp,zu,zs]),qS 15 3 18,qS 14 4 19] none [3,4]) (.tidy [] [3,4])) (.seq (.region [qT 21 15 3,qC 22 9 [(.t 21)],qM 20 22,qE 23 20 0,qE 24 20 1,qM 5 23,qM 6 24] none [3,4,5,6]) (.seq (.region [qT 26 14 4,qC 27 10 [(.t 26)],qM 25 27,qE 28 25 0,qE 29 25 1,qM 7 28,qM 8 29] none [3,4,5,6,7,8]) (.seq (.seq (.region [qT 30 15 3,qC 31 12 [(.t 30)],qT 32 14 4,qC 33 13 [(.t 32)],qX 34 (.eq true .bool (.t 31) (.t 33)),qM 35 34,qM 36 6 (qn 35),qM 37 8 (qn 35),qB 38 .neq (.t 36) (.t 37) (qn 35),qO 39 35 38,qM 40 39,qM 41 5 (qn 40),qM 42 7 (qn 40),qC 43 11 [(.t 41),(.t 42)] (qn 40),qX 44 (.un .not (.t 43)) (qn 40),qO 45 40 44] (some [0,1,0,7,15,31,63,63,255,511,1023,2047,2047,8191,16383,32767]) [3,5,6,45]) (.cond (.t 45) (.seq (.region [qV 2 qf] none [2]) .ret) .skip)) (.seq (.seq (.region [qM 46 6,qB 47 .neq (.t 46) (qi 0)] none [3,5,6,47]) (.cond (.t 47) (.seq (.region [qM 48 6,qB 49 .eql (.t 48) (qi 1),qM 50 49,qT 51 15 3 (qy 50),qC 52 12 [(.t 51)] (qy 50),qX 53 (.un .not (.t 52)) (qy 50),qA 54 50 53,qM 2 54] none [2]) .ret) .skip)) (.seq (.seq (.region [qM 56 5,qC 57 14 [(.t 56)],qM 55 57,qE 58 55 0,qE 59 55 1,qX 9 (.alloc false [zi,zi,zi,zu,zi,zf,zu,zp,zs,zu,zi,zi,zf,zp,zu]),qS 15 9 58,qM 10 59] none [5,9,10]) (.tidy [5,10] [9])) (.seq (.region [qT 61 15 9,qC 62 9 [(.t 61)],qM 60 62,qE 63 60 0,qE 64 60 1,qM 11 63,qM 12 64] none [5,10,11,12]) (.seq (.region [qM 65 10,qB 66 .eql (.t 65) (qi 0),qM 67 66,qM 68 12 (qy 67),qB 69 .eql (.t 68) (qi 0) (qy 67),qA 70 67 69,qM 71 70,qM 72 11 (qy 71),qM 73 5 (qy 71),qC 74 11 [(.t 72),(.t 73)] (qy 71),qA 75 71 74,qM 2 75] none [2]) .ret)))))))))),[(2,none)],false⟩
def ir6:IRF:=⟨[0,1,2,3],(.seq (.region [qX 4 (.box false (.t 0)),qV 8 qf] none [1,2,3,4]) (.seq (.seq (.region [qC 20 7 [],qX 21 (.un .not (.t 20))] none [1,2,3,4,21]) (.cond (.t 21) (.seq (.region [qV 8 qf] none [8]) .ret) .skip)) (.seq (.region [qF 22 7 4,⟨none,(.store 1 (.t 22) qt),none⟩] none [1,2,3,4]) (.seq (.seq (.region [qT 24 12 4,qC 25 8 [(.t 24)],qM 23 25,qE 26 23 0,qE 27 23 1,qX 9 (.alloc false [zi,zi,zi,zu,zi,zf,zu,zp,zs,zu,zi,zi,zf,zp,zu]),qX 10 (.alloc false [zi,zi,zi,zu,zi,zf,zp,zs,zu,zi,zi,zp,zu,zs]),qS 15 9 26,qS 14 10 27] none [1,2,3,9]) (.tidy [1,2,3] [9])) (.seq (.region [qT 29 15 9,qC 30 9 [(.t 29)],qM 28 30,qE 31 28 0,qE 32 28 1,qM 11 31,qM 12 32] none [1,2,3,11,12]) (.seq (.seq (.region [qM 33 12,qB 34 .neq (.t 33) (qi 0),qM 35 34,qM 36 2 (qn 35),qB 37 .eql (.t 36) (.c (.p (.s (.int .u8 0)))) (qn 35),qO 38 35 37] none [1,2,3,11,38]) (.cond (.t 38) (.seq (.region [qV 8 qt] none [8]) .ret) .skip)) (.seq (.region [qM 39 11,qC 40 15 [(.t 39)],qM 13 40] none [1,2,3,11,13]) (.seq (.region [qM 41 13,qM 42 1,qX 43 (.cvt .i64 (.t 42)),qM 44 13,qX 45 (.len false (.t 44)),qB 46 .sub (.t 45) (qi 4),qB 47 .rem (.t 43) (.t 46),qB 48 .add (qi 4) (.t 47),qX 49 (.idxASl 1 (.t 41) (.t 48)),qL 50 1 49,qM 51 2,qB 52 .xor (.t 50) (.t 51),qX 53 (.idxASl 1 (.t 41) (.t 48)),qS 1 53 52] none [2,3,11,13]) (.seq (.seq (.region [qM 55 13,qC 56 14 [(.t 55)],qM 54 56,qE 57 54 0,qE 58 54 1,qX 14 (.alloc false [zi,zi,zi,zu,zi,zf,zu,zp,zs,zu,zi,zi,zf,zp,zu]),qS 15 14 57,qM 15 58] none [2,3,11,15]) (.tidy [2,3,11,15] [])) (.seq (.seq (.region [qM 60 11,qM 61 3,qX 62 (.cvt .i64 (.t 61)),qM 63 11,qX 64 (.len false (.t 63)),qB 65 .rem (.t 62) (.t 64),qX 66 (.slSl 1 (.t 60) none (some (.t 65)) none),qC 67 14 [(.t 66)],qM 59 67,qE 68 59 0,qE 69 59 1,qX 16 (.alloc false [zi,zi,zi,zu,zi,zf,zu,zp,zs,zu,zi,zi,zf,zp,zu]),qS 15 16 68,qM 17 69] none [2,11,15,17]) (.tidy [2,11,15,17] [])) (.seq (.seq (.region [qM 71 11,qC 72 15 [(.t 71)],qM 73 2,qX 74 (.mkSl true 1 1 [(.s (.int .u8 0))] [(0,1,(.t 73))]),qX 75 (.app 1 1 (.t 72) (.t 74)),qC 76 14 [(.t 75)],qM 70 76,qE 77 70 0,qE 78 70 1,qX 18 (.alloc false [zi,zi,zi,zu,zi,zf,zu,zp,zs,zu,zi,zi,zf,zp,zu]),qS 15 18 77,qM 19 78] none [15,17,19]) (.tidy [15,17,19] [])) (.seq (.region [qM 79 15,qB 80 .eql (.t 79) (qi 13),qM 81 80,qM 82 17 (qy 81),qB 83 .eql (.t 82) (qi 6) (qy 81),qA 84 81 83,qM 85 84,qM 86 19 (qy 85),qB 87 .eql (.t 86) (qi 6) (qy 85),qA 88 85 87,qM 8 88] none [8]) .ret)))))))))))),[(8,none)],false⟩
def ir7:IRF:=⟨[],(.seq (.region [qV 0 qf] none []) (.seq (.region [qX 4 (.build [zi,zi,zi,zu,zi,zf,zu,zp,zs,zu,zi,zi,zf,zp,zu] [(0,1,(qi 5)),(1,1,(qi 1))]),qC 5 9 [(.t 4)],qM 3 5,qE 6 3 0,qE 7 3 1,qM 1 6,qM 2 7] none [1,2]) (.seq (.region [qM 8 2,qB 9 .eql (.t 8) (qi 0),qM 10 9,qM 11 1 (qy 10),qX 12 (.mkSl true 3 1 [(.s (.int .u8 0)),(.s (.int .u8 0)),(.s (.int .u8 0))] [(0,1,(.c (.p (.s (.int .u8 5))))),(1,1,(.c (.p (.s (.int .u8 1))))),(2,1,(.c (.p (.s (.int .u8 0)))))]) (qy 10),qC 13 17 [(.t 12)] (qy 10),qC 14 11 [(.t 11),(.t 13)] (qy 10),qA 15 10 14,qM 0 15] none [0]) .ret))),[(0,none)],false⟩
def ir8_0:IRC:=(.seq (.tidy [1,2,3,4,5,162,163,164] []) (.seq (.region [qB 165 .lss (.t 164) (.t 163)] none [1,2,3,4,5,162,163,164,165]) (.seq (.cond (.t 165) .skip (.exit 0)) (.seq (.block 1 (.seq (.region [qM 166 164,qX 167 (.idxASl 1 (.t 162) (.t 164)),qL 168 1 167,qM 8 166,qM 9 168] none [1,2,3,4,5,8,9,162,163,164]) (.seq (.seq (.region [qM 169 8,qB 170 .geq (.t 169) (qi 7),qM 171 170,qM 172 8 (qn 171),qF 173 10 1 (qn 171),qL 174 1 173 (qn 171),qX 175 (.len false (.t 174)) (qn 171),qB 176 .geq (.t 172) (.t 175) (qn 171),qO 177 171 176] none [1,2,3,4,5,8,9,162,163,164,177]) (.cond (.t 177) (.exit 0) .skip)) (.seq (.seq (.region [qM 178 9,qM 179 8,qB 180 .rem (.t 179) (qi 3),qB 181 .eql (.t 180) (qi 2),qC 182 23 [(.t 178),(.c (.p (.s (.string ⟨#[65,110,110]⟩)))),(.t 181)],qX 10 (.alloc false [zp,zs,zf]),qS 3 10 182] none [1,2,3,4,5,8,10,162,163,164]) (.tidy [1,2,3,4,5,8,162,163,164] [10])) (.seq (.region [qV 11 ql] none [1,2,3,4,5,8,10,11,162,163,164]) (.seq (.seq (.region [qF 183 1 10,qL 184 1 183,qX 185 (.len false (.t 184)),qB 186 .gtr (.t 185) (qi 0)] none [1,2,3,4,5,8,10,11,162,163,164,186]) (.cond (.t 186) (.region [qX 187 (.build [zi,zE0,zE0] [(0,1,(qi 1)),(2,1,(.c (.p (.s (.string ⟨#[65,110,110]⟩)))))]),qX 188 (.mkSl true 1 3 [zi,zE0,zE0] [(0,3,(.t 187))]),qM 11 188] none [1,2,3,4,5,8,10,11,162,163,164]) .skip)) (.seq (.seq (.region [qM 190 11,qC 191 24 [(.t 190)],qM 189 191,qE 192 189 0,qE 193 189 1,qX 12 (.alloc false [zs]),qS 1 12 192,qM 13 193] none [1,2,3,4,5,8,10,12,162,163,164]) (.tidy [1,2,3,4,5,8,10,162,163,164] [12])) (.seq (.region [qF 194 8 5,qL 195 1 194,qF 196 10 1,qL 197 1 196,qM 198 8,qX 199 (.idxASl 1 (.t 197) (.t 198)),qL 200 1 199,qF 201 0 10,qL 202 1 201,qC 203 20 [(.t 202)],qT 204 1 12,qF 205 2 10,qL 206 1 205,qX 207 (.build [zu,zp,zs,zf] [(0,2,(.t 203)),(2,1,(.t 204)),(3,1,(.t 206))]),qX 208 (.build [(.s (.int .u32 0)),zu,zp,zs,zf] [(0,1,(.t 200)),(1,4,(.t 207))]),qX 209 (.mkSl true 1 5 [(.s (.int .u32 0)),zu,zp,zs,zf] [(0,5,(.t 208))]),qX 210 (.app 5 56 (.t 195) (.t 209)),qF 211 8 5,qS 1 211 210] (some [0,1,0,4,0,28,60,0,128,384,0,0,2048,8064,16380,32764,65535,131071,262143]) [1,2,3,4,5,8,10,162,163,164]) (.region [qF 212 7 4,qL 213 1 212,qF 214 10 1,qL 215 1 214,qM 216 8,qX 217 (.idxASl 1 (.t 215) (.t 216)),qL 218 1 217,qT 219 3 10,qX 220 (.build [(.s (.int .u32 0)),zp,zs,zf] [(0,1,(.t 218)),(1,3,(.t 219))]),qX 221 (.mkSl true 1 4 [(.s (.int .u32 0)),zp,zs,zf] [(0,4,(.t 220))]),qX 222 (.app 4 48 (.t 213) (.t 221)),qF 223 7 4,qS 1 223 222] (some [0,1,0,4,0,28,60,0,252,508,1023,2047,4095]) [1,2,3,4,5,162,163,164]))))))))) (.region [qB 224 .add (.t 164) (qi 1),qM 164 224] none [1,2,3,4,5,162,163,164])))))
def ir8:IRF:=⟨[0],(.seq (.region [qX 1 (.box false (.t 0)),qX 2 (.alloc false [zi,zi,zi,zu,zi,zf,zu,zp,zs,zu,zi,zi,zf,zp,zu]),qX 3 (.alloc false [zi,zi,zi,zu,zi,zf,zp,zs,zu,zi,zi,zp,zu,zs])] none [1,2,3]) (.seq (.seq (.region [qF 14 7 1,qL 15 1 14] none [1,2,3,15]) (.cond (.t 15) (.seq (.seq (.region [qF 16 0 1,qL 17 1 16,qB 18 .gtr (.t 17) (qi 4),qM 19 18,qF 20 0 1 (qn 19),qL 21 1 20 (qn 19),qB 22 .lss (.t 21) (qi 1) (qn 19),qO 23 19 22] none [1,2,3,23]) (.cond (.t 23) (.region [qF 24 3 1,⟨none,(.store 1 (.t 24) (qu 0)),none⟩] none [1,2,3]) .skip)) (.seq (.seq (.region [qF 25 0 1,qL 26 1 25,qB 27 .neq (.t 26) (qi 3),qM 28 27,qF 29 0 1 (qy 28),qL 30 1 29 (qy 28),qB 31 .neq (.t 30) (qi 4) (qy 28),qA 32 28 31] none [1,2,3,32]) (.cond (.t 32) (.region [qF 33 5 1,⟨none,(.store 1 (.t 33) (qi 0)),none⟩] none [1,2,3]) .skip)) (.seq (.region [qF 34 6 1,qL 35 1 34,qM 36 35,qF 37 0 1 (qy 36),qL 38 1 37 (qy 36),qB 39 .eql (.t 38) (qi 3) (qy 36),qA 40 36 39,qF 41 6 1,qS 1 41 40] none [1,2,3]) (.seq (.seq (.region [qF 42 0 1,qL 43 1 42,qB 44 .eql (.t 43) (qi 4),qM 45 44,qF 46 0 1 (qn 45),qL 47 1 46 (qn 45),qB 48 .eql (.t 47) (qi 5) (qn 45),qO 49 45 48,qM 50 49,qF 51 0 1 (qn 50),qL 52 1 51 (qn 50),qB 53 .eql (.t 52) (qi 7) (qn 50),qO 54 50 53] none [1,2,3,54]) (.cond (.t 54) (.region [qF 55 8 1,⟨none,(.store 1 (.t 55) ql),none⟩] none [1,2,3]) .skip)) (.seq (.region [qF 56 0 1,qL 57 1 56,qB 58 .neq (.t 57) (qi 3),qM 59 58,qF 60 0 1 (qy 59),qL 61 1 60 (qy 59),qB 62 .neq (.t 61) (qi 6) (qy 59),qA 63 59 62] none [1,2,3,63]) (.cond (.t 63) (.region [qF 64 11 1,⟨none,(.store 1 (.t 64) ql),none⟩] none [1,2,3]) .skip)))))) .skip)) (.seq (.region [qF 65 0 1,qL 66 1 65,qF 67 1 1,qL 68 1 67,qF 69 2 1,qL 70 1 69,qC 71 18 [(.t 66),(.t 68),(.t 70)],qX 4 (.alloc false [zi,zi,zi,zu,zi,zf,zp,zs,zu,zi,zi,zp,zu,zs]),qS 14 4 71] none [1,2,3,4]) (.seq (.region [qF 72 3 1,qL 73 1 72,qF 74 5 1,qL 75 1 74,qF 76 6 1,qL 77 1 76,qF 78 3 4,qS 1 78 73,qF 79 4 4,qS 1 79 75,qF 80 5 4,qS 1 80 77] (some [0,1,0,4,0,16,3,67,207,463,1023,2047]) [1,2,3,4]) (.seq (.region [qF 82 8 1,qL 83 1 82,qF 84 8 1,qL 85 1 84,qX 86 (.len false (.t 85)),qX 87 (.minmax false [(.t 86),(qi 30)]),qX 88 (.slSl 1 (.t 83) none (some (.t 87)) none),qC 89 19 [(.t 88),(qi 4)],qM 81 89,qE 90 81 0,qE 91 81 1,qF 92 6 4,qS 1 92 90] none [1,2,3,4]) (.seq (.region [qF 93 0 1,qL 94 1 93,qF 95 1 1,qL 96 1 95,qF 97 2 1,qL 98 1 97,qF 99 3 1,qL 100 1 99,qF 101 5 1,qL 102 1 101,qF 103 6 1,qL 104 1 103,qF 105 6 4,qL 106 1 105,qC 107 20 [(.t 106)],qX 108 (.build [zi,zi,zi,zu,zi,zf,zu,zp,zs,zu,zi,zi,zf,zp,zu] [(0,1,(.t 94)),(1,1,(.t 96)),(2,1,(.t 98)),(3,1,(.t 100)),(4,1,(.t 102)),(5,1,(.t 104)),(6,2,(.t 107))]),qX 5 (.alloc false [zi,zi,zi,zu,zi,zf,zu,zp,zs,zu,zi,zi,zf,zp,zu]),qS 15 5 108] (some [0,1,0,4,0,16,0,64,0,256,0,1024,0,4096,12288,32767,0,131071]) [1,2,3,4,5]) (.seq (.seq (.region [qF 109 7 1,qL 110 1 109,qX 111 (.un .not (.t 110)),qM 112 111,qF 113 0 1 (qn 112),qL 114 1 113 (qn 112),qB 115 .eql (.t 114) (qi 7) (qn 112),qO 116 112 115] none [1,2,3,4,5,116]) (.cond (.t 116) (.region [qF 117 4 1,qL 118 1 117,qF 119 4 1,qL 120 1 119,qF 121 12 4,qS 1 121 118,qF 122 14 5,qS 1 122 120] (some [0,1,0,4,3,19,63,127]) [1,2,3,4,5]) .skip)) (.seq (.seq (.region [qF 123 7 1,qL 124 1 123,qX 125 (.un .not (.t 124)),qM 126 125,qF 127 0 1 (qn 126),qL 128 1 127 (qn 126),qB 129 .eql (.t 128) (qi 6) (qn 126),qO 130 126 129] none [1,2,3,4,5,130]) (.cond (.t 130) (.seq (.region [qF 132 9 1,qL 133 1 132,qF 134 9 1,qL 135 1 134,qX 136 (.len false (.t 135)),qX 137 (.minmax false [(.t 136),(qi 20)]),qX 138 (.slSl 1 (.t 133) none (some (.t 137)) none),qC 139 21 [(.t 138),(qi 4)],qM 131 139,qE 140 131 0,qE 141 131 1,qM 6 140,qM 7 141] none [1,2,3,4,5,6]) (.seq (.region [qF 142 4 1,qL 143 1 142,qF 144 1 1,qL 145 1 144,qF 146 2 1,qL 147 1 146,qM 148 6,qX 149 (.build [zu,zi,zi,zp] [(0,1,(.t 143)),(1,1,(.t 145)),(2,1,(.t 147)),(3,1,(.t 148))]),qF 150 8 4,qS 4 150 149] none [1,2,3,4,5,6]) (.region [qF 151 4 1,qL 152 1 151,qF 153 1 1,qL 154 1 153,qF 155 2 1,qL 156 1 155,qM 157 6,qC 158 22 [(.t 157)],qX 159 (.build [zu,zi,zi,zf,zp] [(0,1,(.t 152)),(1,1,(.t 154)),(2,1,(.t 156)),(3,2,(.t 158))]),qF 160 9 5,qS 5 160 159] (some [0,1,0,4,0,16,0,64,255,511,1023]) [1,2,3,4,5]))) .skip)) (.seq (.seq (.region [qF 161 11 1,qL 162 1 161,qX 163 (.len false (.t 162)),qV 164 (qi 0)] none [1,2,3,4,5,162,163,164]) (.block 0 (.loop ir8_0))) (.seq (.region [qT 225 15 5,qT 226 14 4,qS 15 2 225,qS 14 3 226] (some [0,0,1,7]) [2,3]) .ret)))))))))),[(2,some (15,true)),(3,some (14,true))],false⟩
def ir9:IRF:=⟨[0],(.seq (.region [qX 1 (.box true (.t 0)),qV 2 ql,qV 3 (qi 0)] none [1]) (.seq (.seq (.region [qT 7 15 1,qC 8 12 [(.t 7)],qX 9 (.un .not (.t 8))] none [1,9]) (.cond (.t 9) (.seq (.region [qV 2 ql,qV 3 (qi 1)] none [2,3]) .ret) .skip)) (.seq (.region [qF 10 0 1,qL 11 1 10,qC 12 25 [(.t 11)],qM 4 12] none [1,4]) (.seq (.region [qF 13 0 1,qL 14 1 13,qX 15 (.cvt .u8 (.t 14)),qF 16 1 1,qL 17 1 16,qX 18 (.cvt .u8 (.t 17)),qF 19 2 1,qL 20 1 19,qX 21 (.cvt .u8 (.t 20)),qX 22 (.mkSl false 3 1 [(.s (.int .u8 0)),(.s (.int .u8 0)),(.s (.int .u8 0))] [(0,1,(.t 15)),(1,1,(.t 18)),(2,1,(.t 21))]),qM 5 22] none [1,4,5]) (.seq (.seq (.region [qM 23 4,qB 24 .and (.t 23) (qi 1),qB 25 .gtr (.t 24) (qi 0)] none [1,4,5,25]) (.cond (.t 25) (.region [qM 26 5,qF 27 3 1,qL 28 1 27,qC 29 26 [(.t 26),(.t 28)],qM 5 29] none [1,4,5]) .skip)) (.seq (.seq (.region [qM 30 4,qB 31 .and (.t 30) (qi 2),qB 32 .gtr (.t 31) (qi 0)] none [1,4,5,32]) (.cond (.t 32) (.region [qM 33 5,qF 34 4 1,qL 35 1 34,qX 36 (.cvt .u8 (.t 35)),qX 37 (.mkSl true 1 1 [(.s (.int .u8 0))] [(0,1,(.t 36))]),qX 38 (.app 1 1 (.t 33) (.t 37)),qM 5 38] none [1,4,5]) .skip)) (.seq (.seq (.region [qM 39 4,qB 40 .and (.t 39) (qi 16),qB 41 .gtr (.t 40) (qi 0)] none [1,4,5,41]) (.cond (.t 41) (.seq (.region [qV 6 (.c (.p (.s (.int .u8 0))))] none [1,4,5,6]) (.seq (.seq (.region [qF 42 5 1,qL 43 1 42] none [1,4,5,6,43]) (.cond (.t 43) (.region [qV 6 (.c (.p (.s (.int .u8 1))))] none [1,4,5,6]) .skip)) (.region [qM 44 5,qM 45 6,qX 46 (.mkSl true 1 1 [(.s (.int .u8 0))] [(0,1,(.t 45))]),qX 47 (.app 1 1 (.t 44) (.t 46)),qM 5 47] none [1,4,5]))) .skip)) (.seq (.seq (.region [qM 48 4,qB 49 .and (.t 48) (qi 32),qB 50 .gtr (.t 49) (qi 0)] none [1,4,5,50]) (.cond (.t 50) (.region [qM 51 5,qF 52 9 1,qT 53 5 52,qC 54 27 [(.t 51),(.t 53)],qM 5 54] none [1,4,5]) .skip)) (.seq (.seq (.region [qM 55 4,qB 56 .and (.t 55) (qi 8),qB 57 .gtr (.t 56) (qi 0)] none [1,4,5,57]) (.cond (.t 57) (.region [qM 58 5,qF 59 6 1,qT 60 2 59,qC 61 29 [(.t 60)],qX 62 (.b2s (.t 61)),qC 63 28 [(.t 58),(.t 62)],qM 5 63] none [1,4,5]) .skip)) (.seq (.seq (.region [qM 64 4,qB 65 .and (.t 64) (qi 4),qB 66 .gtr (.t 65) (qi 0)] none [1,4,5,66]) (.cond (.t 66) (.region [qM 67 5,qF 68 8 1,qL 69 1 68,qC 70 30 [(.t 67),(.t 69)],qM 5 70] none [1,4,5]) .skip)) (.seq (.seq (.region [qM 71 4,qB 72 .and (.t 71) (qi 64),qB 73 .gtr (.t 72) (qi 0)] none [1,5,73]) (.cond (.t 73) (.region [qM 74 5,qF 75 14 1,qL 76 1 75,qC 77 26 [(.t 74),(.t 76)],qM 5 77] none [5]) .skip)) (.seq (.seq (.region [qM 78 5,qX 79 (.len false (.t 78)),qB 80 .gtr (.t 79) (qi 1048576)] none [5,80]) (.cond (.t 80) (.seq (.region [qV 2 ql,qV 3 (qi 9)] none [2,3]) .ret) .skip)) (.seq (.region [qM 81 5,qC 82 31 [(.t 81)],qM 2 82,qV 3 (qi 0)] none [2,3]) .ret))))))))))))),[(2,none),(3,none)],false⟩
def ir10:IRF:=⟨[0],(.seq (.region [qX 1 (.box true (.t 0)),qV 2 ql,qV 3 (qi 0)] none [1]) (.seq (.seq (.region [qT 8 14 1,qC 9 13 [(.t 8)],qX 10 (.un .not (.t 9))] none [1,10]) (.cond (.t 10) (.seq (.region [qV 2 ql,qV 3 (qi 1)] none [2,3]) .ret) .skip)) (.seq (.region [qF 11 0 1,qL 12 1 11,qX 13 (.cvt .u8 (.t 12)),qF 14 1 1,qL 15 1 14,qX 16 (.cvt .u8 (.t 15)),qF 17 2 1,qL 18 1 17,qX 19 (.cvt .u8 (.t 18)),qX 20 (.mkSl true 3 1 [(.s (.int .u8 0)),(.s (.int .u8 0)),(.s (.int .u8 0))] [(0,1,(.t 13)),(1,1,(.t 16)),(2,1,(.t 19))]),qM 4 20] none [1,4]) (.seq (.seq (.region [qF 21 3 1,qL 22 1 21,qC 23 32 [(.t 22)],qM 5 23] none [1,4,5]) (.tidy [1,4] [5])) (.seq (.seq (.region [qF 24 6 1,qL 25 1 24,qC 26 35 [ql,(.t 25)],qC 27 34 [(.t 26)],qX 28 (.b2s (.t 27)),qC 29 33 [(.t 28)],qM 6 29] none [1,4,5,6]) (.tidy [1,4,5] [6])) (.seq (.seq (.region [qF 30 0 1,qL 31 1 30] none [1,4,5,6,31]) (.block 0 (.seq (.seq (.region [qB 33 .eql (.t 31) (qi 1),qM 32 33] none [1,4,5,6,31,32]) (.cond (.t 32) .skip (.region [qB 34 .eql (.t 31) (qi 2),qM 32 34] none [1,4,5,6,31,32]))) (.cond (.t 32) (.region [qM 35 4,qM 36 5,qM 37 6,qX 38 (.mkSl false 3 1 [zs,zs,zs] [(0,1,(.t 35)),(1,1,(.t 36)),(2,1,(.t 37))]),qC 39 36 [(.t 38)],qM 4 39] none [4]) (.seq (.region [qB 41 .eql (.t 31) (qi 3),qM 40 41] none [1,4,5,6,31,40]) (.cond (.t 40) (.seq (.region [qV 7 (.c (.p (.s (.int .u8 0))))] none [1,4,5,6,7]) (.seq (.seq (.region [qF 42 5 1,qL 43 1 42] none [1,4,5,6,7,43]) (.cond (.t 43) (.region [qV 7 (.c (.p (.s (.int .u8 1))))] none [1,4,5,6,7]) .skip)) (.region [qM 44 4,qM 45 5,qF 46 4 1,qL 47 1 46,qX 48 (.cvt .u8 (.t 47)),qM 49 7,qX 50 (.mkSl true 2 1 [(.s (.int .u8 0)),(.s (.int .u8 0))] [(0,1,(.t 48)),(1,1,(.t 49))]),qM 51 6,qF 52 7 1,qL 53 1 52,qC 54 37 [(.t 53)],qX 55 (.mkSl false 5 1 [zs,zs,zs,zs,zs] [(0,1,(.t 44)),(1,1,(.t 45)),(2,1,(.t 50)),(3,1,(.t 51)),(4,1,(.t 54))]),qC 56 36 [(.t 55)],qM 4 56] (some [0,0,0,4,12,0,60,0,0,256,768,2047,4095,8191]) [4]))) (.seq (.region [qB 58 .eql (.t 31) (qi 4),qM 57 58] none [1,4,5,6,31,57]) (.cond (.t 57) (.region [qM 59 4,qM 60 5,qF 61 4 1,qL 62 1 61,qX 63 (.cvt .u8 (.t 62)),qX 64 (.mkSl true 1 1 [(.s (.int .u8 0))] [(0,1,(.t 63))]),qX 65 (.mkSl false 3 1 [zs,zs,zs] [(0,1,(.t 59)),(1,1,(.t 60)),(2,1,(.t 64))]),qC 66 36 [(.t 65)],qM 4 66] none [4]) (.seq (.region [qB 68 .eql (.t 31) (qi 6),qM 67 68] none [1,4,6,31,67]) (.cond (.t 67) (.region [qM 69 4,qF 70 8 1,qT 71 4 70,qC 72 38 [(.t 71)],qM 73 6,qF 74 7 1,qL 75 1 74,qC 76 37 [(.t 75)],qX 77 (.mkSl false 4 1 [zs,zs,zs,zs] [(0,1,(.t 69)),(1,1,(.t 72)),(2,1,(.t 73)),(3,1,(.t 76))]),qC 78 36 [(.t 77)],qM 4 78] (some [0,0,2,6,0,0,32,110,255,511,1023]) [4]) (.seq (.region [qB 80 .eql (.t 31) (qi 7),qM 79 80] none [1,4,79]) (.cond (.t 79) (.region [qM 81 4,qF 82 12 1,qL 83 1 82,qC 84 32 [(.t 83)],qX 85 (.mkSl false 2 1 [zs,zs] [(0,1,(.t 81)),(1,1,(.t 84))]),qC 86 36 [(.t 85)],qM 4 86] none [4]) .skip)))))))))))) (.seq (.seq (.region [qM 87 4,qX 88 (.len false (.t 87)),qB 89 .gtr (.t 88) (qi 1048576)] none [4,89]) (.cond (.t 89) (.seq (.region [qV 2 ql,qV 3 (qi 9)] none [2,3]) .ret) .skip)) (.seq (.region [qM 90 4,qC 91 17 [(.t 90)],qM 2 91,qV 3 (qi 0)] none [2,3]) .ret)))))))),[(2,none),(3,none)],false⟩
def ir11_0:IRC:=(.seq (.region [qB 14 .lss (.t 13) (.t 12)] none [0,1,12,13,14]) (.seq (.cond (.t 14) .skip (.exit 0)) (.seq (.block 1 (.seq (.region [qM 15 13,qM 5 15] none [0,1,5,12,13]) (.seq (.region [qM 16 0,qM 17 5,qX 18 (.idxASl 1 (.t 16) (.t 17)),qL 19 1 18,qM 20 1,qM 21 5,qX 22 (.idxASl 1 (.t 20) (.t 21)),qL 23 1 22,qB 24 .neq (.t 19) (.t 23)] (some [0,0,3,7,0,0,48,112,255]) [0,1,12,13,24]) (.cond (.t 24) (.seq (.region [qV 4 qf] none [4]) .ret) .skip)))) (.region [qB 25 .add (.t 13) (qi 1),qM 13 25] none [0,1,12,13]))))
def ir11:IRF:=⟨[0,1],(.seq (.region [qV 4 qf] none [0,1]) (.seq (.seq (.region [qM 6 0,qX 7 (.len false (.t 6)),qM 8 1,qX 9 (.len false (.t 8)),qB 10 .neq (.t 7) (.t 9)] none [0,1,10]) (.cond (.t 10) (.seq (.region [qV 4 qf] none [4]) .ret) .skip)) (.seq (.seq (.region [qM 11 0,qX 12 (.len false (.t 11)),qV 13 (qi 0)] none [0,1,12,13]) (.block 0 (.loop ir11_0))) (.seq (.region [qV 4 qt] none [4]) .ret)))),[(4,none)],false⟩
def ir12:IRF:=⟨[0],(.seq (.region [qX 1 (.box true (.t 0)),qV 2 qf] none [1]) (.seq (.block 0 (.seq (.region [qF 4 0 1,qL 5 1 4,qC 6 25 [(.t 5)],qB 7 .lss (.t 6) (qi 0),qM 8 7,qF 9 1 1 (qn 8),qL 10 1 9 (qn 8),qC 11 39 [(.t 10)] (qn 8),qX 12 (.un .not (.t 11)) (qn 8),qO 13 8 12,qM 14 13,qF 15 2 1 (qn 14),qL 16 1 15 (qn 14),qC 17 39 [(.t 16)] (qn 14),qX 18 (.un .not (.t 17)) (qn 14),qO 19 14 18,qM 20 19,qF 21 1 1 (qn 20),qL 22 1 21 (qn 20),qF 23 2 1 (qn 20),qL 24 1 23 (qn 20),qB 25 .eql (.t 22) (.t 24) (qn 20),qO 26 20 25,qM 3 26] none [1,3]) (.cond (.t 3) (.seq (.region [qV 2 qf] none [2]) .ret) (.seq (.region [qT 28 15 1,qC 29 40 [(.t 28)],qX 30 (.un .not (.t 29)),qM 31 30,qF 32 4 1 (qn 31),qL 33 1 32 (qn 31),qB 34 .lss (.t 33) (qi 0) (qn 31),qO 35 31 34,qM 36 35,qF 37 4 1 (qn 36),qL 38 1 37 (qn 36),qB 39 .geq (.t 38) (qi 256) (qn 36),qO 40 36 39,qM 41 40,qT 42 15 1 (qn 41),qC 43 41 [(.t 42)] (qn 41),qX 44 (.un .not (.t 43)) (qn 41),qO 45 41 44,qM 27 45] none [1,27]) (.cond (.t 27) (.seq (.region [qV 2 qf] none [2]) .ret) (.seq (.region [qF 47 0 1,qL 48 1 47,qB 49 .eql (.t 48) (qi 3),qM 46 49] none [1,46]) (.cond (.t 46) (.seq (.region [qF 50 8 1,qL 51 1 50,qX 52 (.len false (.t 51)),qB 53 .leq (.t 52) (qi 4),qM 2 53] none [2]) .ret) (.seq (.region [qF 55 0 1,qL 56 1 55,qB 57 .eql (.t 56) (qi 6),qM 54 57] none [1,54]) (.cond (.t 54) (.seq (.region [qF 58 9 1,qT 59 5 58,qC 60 42 [(.t 59)],qM 61 60,qF 62 9 1 (qy 61),qF 63 1 62 (qy 61),qL 64 1 63 (qy 61),qF 65 1 1 (qy 61),qL 66 1 65 (qy 61),qB 67 .eql (.t 64) (.t 66) (qy 61),qA 68 61 67,qM 69 68,qF 70 9 1 (qy 69),qF 71 2 70 (qy 69),qL 72 1 71 (qy 69),qF 73 2 1 (qy 69),qL 74 1 73 (qy 69),qB 75 .eql (.t 72) (.t 74) (qy 69),qA 76 69 75,qM 2 76] none [2]) .ret) .skip))))))))) (.seq (.region [qV 2 qt] none [2]) .ret))),[(2,none)],false⟩
def ir13_0:IRC:=(.seq (.tidy [1,3,181,182,183] []) (.seq (.region [qB 184 .lss (.t 183) (.t 182)] none [1,3,181,182,183,184]) (.seq (.cond (.t 184) .skip (.exit 0)) (.seq (.block 1 (.seq (.seq (.region [qX 185 (.idxASl 4 (.t 181) (.t 183)),qT 186 4 185,qX 6 (.alloc false [(.s (.int .u32 0)),zp,zs,zf]),qS 4 6 186] none [1,3,6,181,182,183]) (.tidy [1,3,181,182,183] [6])) (.seq (.region [qF 187 1 6,qF 188 2 187,qL 189 1 188,qM 190 189,qF 191 1 6 (qy 190),qF 192 1 191 (qy 190),qL 193 1 192 (qy 190),qX 194 (.len false (.t 193)) (qy 190),qB 195 .gtr (.t 194) (qi 0) (qy 190),qA 196 190 195,qM 197 196,qF 198 1 6 (qn 197),qF 199 0 198 (qn 197),qL 200 1 199 (qn 197),qF 201 6 1 (qn 197),qL 202 1 201 (qn 197),qC 203 44 [(.t 200),(.t 202)] (qn 197),qX 204 (.un .not (.t 203)) (qn 197),qO 205 197 204] none [1,3,181,182,183,205]) (.cond (.t 205) (.seq (.region [qV 2 qf] none [2]) .ret) .skip)))) (.region [qB 206 .add (.t 183) (qi 1),qM 183 206] none [1,3,181,182,183])))))
def ir13:IRF:=⟨[0],(.seq (.region [qX 1 (.box true (.t 0)),qV 2 qf] none [1]) (.seq (.seq (.region [qF 7 0 1,qL 8 1 7,qB 9 .lss (.t 8) (qi 1),qM 10 9,qF 11 0 1 (qn 10),qL 12 1 11 (qn 10),qB 13 .gtr (.t 12) (qi 7) (qn 10),qO 14 10 13,qM 15 14,qF 16 1 1 (qn 15),qL 17 1 16 (qn 15),qB 18 .lss (.t 17) (qi 0) (qn 15),qO 19 15 18,qM 20 19,qF 21 1 1 (qn 20),qL 22 1 21 (qn 20),qB 23 .gtr (.t 22) (qi 11) (qn 20),qO 24 20 23,qM 25 24,qF 26 2 1 (qn 25),qL 27 1 26 (qn 25),qB 28 .lss (.t 27) (qi 0) (qn 25),qO 29 25 28,qM 30 29,qF 31 2 1 (qn 30),qL 32 1 31 (qn 30),qB 33 .gtr (.t 32) (qi 11) (qn 30),qO 34 30 33,qM 35 34,qF 36 1 1 (qn 35),qL 37 1 36 (qn 35),qF 38 2 1 (qn 35),qL 39 1 38 (qn 35),qB 40 .eql (.t 37) (.t 39) (qn 35),qO 41 35 40,qM 42 41,qF 43 4 1 (qn 42),qL 44 1 43 (qn 42),qB 45 .lss (.t 44) (qi 0) (qn 42),qO 46 42 45,qM 47 46,qF 48 4 1 (qn 47),qL 49 1 48 (qn 47),qB 50 .gtr (.t 49) (qi 255) (qn 47),qO 51 47 50] none [1,51]) (.cond (.t 51) (.seq (.region [qV 2 qf] none [2]) .ret) .skip)) (.seq (.region [qF 52 0 1,qL 53 1 52,qM 3 53] none [1,3]) (.seq (.seq (.region [qF 54 3 1,qL 55 1 54,qB 56 .neq (.t 55) (qu 0),qM 57 56,qM 58 3 (qy 57),qB 59 .gtr (.t 58) (qi 4) (qy 57),qA 60 57 59,qM 61 60,qF 62 4 1 (qn 61),qL 63 1 62 (qn 61),qB 64 .neq (.t 63) (qi 0) (qn 61),qM 65 64 (qn 61),qM 66 3 (qy 65),qB 67 .neq (.t 66) (qi 3) (qy 65),qA 68 65 67 (qn 61),qM 69 68 (qn 61),qM 70 3 (qy 69),qB 71 .neq (.t 70) (qi 4) (qy 69),qA 72 69 71 (qn 61),qO 73 61 72,qM 74 73,qF 75 5 1 (qn 74),qL 76 1 75 (qn 74),qM 77 76 (qn 74),qM 78 3 (qy 77),qB 79 .neq (.t 78) (qi 3) (qy 77),qA 80 77 79 (qn 74),qO 81 74 80,qM 82 81,qF 83 12 1 (qn 82),qL 84 1 83 (qn 82),qB 85 .neq (.t 84) (qu 0) (qn 82),qM 86 85 (qn 82),qM 87 3 (qy 86),qB 88 .neq (.t 87) (qi 7) (qy 86),qA 89 86 88 (qn 82),qO 90 82 89] none [1,3,90]) (.cond (.t 90) (.seq (.region [qV 2 qf] none [2]) .ret) .skip)) (.seq (.region [qF 91 6 1,qL 92 1 91,qN 93 92,qF 94 1 93,qL 95 1 94,qX 96 (.eq false .ptr (.t 95) qp),qM 97 96,qF 98 6 1 (qy 97),qL 99 1 98 (qy 97),qN 100 99 (qy 97),qF 101 0 100 (qy 97),qL 102 1 101 (qy 97),qB 103 .eql (.t 102) (qu 0) (qy 97),qA 104 97 103,qM 4 104] none [1,3,4]) (.seq (.seq (.region [qM 105 4,qX 106 (.un .not (.t 105)),qM 107 106,qM 108 3 (qy 107),qB 109 .eql (.t 108) (qi 4) (qy 107),qM 110 109 (qy 107),qM 111 3 (qn 110),qB 112 .eql (.t 111) (qi 5) (qn 110),qO 113 110 112 (qy 107),qM 114 113 (qy 107),qM 115 3 (qn 114),qB 116 .eql (.t 115) (qi 7) (qn 114),qO 117 114 116 (qy 107),qA 118 107 117,qM 119 118,qF 120 7 1 (qn 119),qL 121 1 120 (qn 119),qX 122 (.len false (.t 121)) (qn 119),qB 123 .gtr (.t 122) (qi 0) (qn 119),qM 124 123 (qn 119),qM 125 3 (qy 124),qB 126 .neq (.t 125) (qi 3) (qy 124),qA 127 124 126 (qn 119),qM 128 127 (qn 119),qM 129 3 (qy 128),qB 130 .neq (.t 129) (qi 6) (qy 128),qA 131 128 130 (qn 119),qO 132 119 131] none [1,3,132]) (.cond (.t 132) (.seq (.region [qV 2 qf] none [2]) .ret) .skip)) (.seq (.seq (.region [qM 133 3,qB 134 .eql (.t 133) (qi 6)] none [1,3,134]) (.cond (.t 134) (.seq (.region [qF 135 8 1,qT 136 4 135,qC 137 43 [(.t 136)],qX 138 (.un .not (.t 137)),qM 139 138,qF 140 8 1 (qn 139),qF 141 1 140 (qn 139),qL 142 1 141 (qn 139),qF 143 1 1 (qn 139),qL 144 1 143 (qn 139),qB 145 .neq (.t 142) (.t 144) (qn 139),qO 146 139 145,qM 147 146,qF 148 8 1 (qn 147),qF 149 2 148 (qn 147),qL 150 1 149 (qn 147),qF 151 2 1 (qn 147),qL 152 1 151 (qn 147),qB 153 .neq (.t 150) (.t 152) (qn 147),qO 154 147 153] none [1,3,154]) (.cond (.t 154) (.seq (.region [qV 2 qf] none [2]) .ret) .skip)) (.seq (.region [qF 155 8 1,qF 156 0 155,qL 157 1 156,qB 158 .neq (.t 157) (qu 0),qM 159 158,qF 160 8 1 (qn 159),qF 161 1 160 (qn 159),qL 162 1 161 (qn 159),qB 163 .neq (.t 162) (qi 0) (qn 159),qO 164 159 163,qM 165 164,qF 166 8 1 (qn 165),qF 167 2 166 (qn 165),qL 168 1 167 (qn 165),qB 169 .neq (.t 168) (qi 0) (qn 165),qO 170 165 169,qM 171 170,qF 172 8 1 (qn 171),qF 173 3 172 (qn 171),qL 174 1 173 (qn 171),qN 175 174 (qn 171),qF 176 0 175 (qn 171),qL 177 1 176 (qn 171),qB 178 .neq (.t 177) (qi 0) (qn 171),qO 179 171 178] none [1,3,179]) (.cond (.t 179) (.seq (.region [qV 2 qf] none [2]) .ret) .skip)))) (.seq (.seq (.region [qF 180 7 1,qL 181 1 180,qX 182 (.len false (.t 181)),qV 183 (qi 0)] none [1,3,181,182,183]) (.block 0 (.loop ir13_0))) (.seq (.region [qM 207 3,qB 208 .neq (.t 207) (qi 3),qM 209 208,qF 210 7 1 (qn 209),qL 211 1 210 (qn 209),qX 212 (.len false (.t 211)) (qn 209),qB 213 .leq (.t 212) (qi 4) (qn 209),qO 214 209 213,qM 2 214] none [2]) .ret))))))))),[(2,none)],false⟩
def ir14:IRF:=⟨[0],(.seq (.region [qX 2 (.alloc false [zi,zi,zi,zu,zi,zf,zu,zp,zs,zu,zi,zi,zf,zp,zu]),qV 3 (qi 0)] none [0,2]) (.seq (.region [qM 10 0,qC 11 45 [(.t 10)],qM 9 11,qE 12 9 0,qE 13 9 1,qE 14 9 2,qM 4 12,qM 5 13,qM 6 14] none [0,2,4,5,6]) (.seq (.seq (.region [qM 15 6,qB 16 .neq (.t 15) (qi 0)] none [0,2,4,5,6,16]) (.seq (.cond (.t 16) (.seq (.region [qX 17 (.build [zi,zi,zi,zu,zi,zf,zu,zp,zs,zu,zi,zi,zf,zp,zu] []),qM 18 6,qS 15 2 17,qM 3 18] none [2,3]) .ret) .skip) (qR [0,2,4,5]))) (.seq (.region [qM 19 4,qC 20 46 [(.t 19)],qM 7 20] none [0,2,5,7]) (.seq (.seq (.region [qM 21 7,qC 22 47 [(.t 21)],qX 8 (.alloc false [zi,zi,zi,zu,zi,zf,zu,zp,zs,zu,zi,zi,zf,zp,zu]),qS 15 8 22] none [0,2,5,7,8]) (.tidy [0,2,5,7] [8])) (.seq (.seq (.region [qM 23 5,qM 24 0,qX 25 (.len false (.t 24)),qB 26 .neq (.t 23) (.t 25),qM 27 26,qM 28 7 (qn 27),qC 29 48 [(.t 28)] (qn 27),qB 30 .neq (.t 29) (qi 0) (qn 27),qO 31 27 30,qM 32 31,qT 33 15 8 (qn 32),qC 34 12 [(.t 33)] (qn 32),qX 35 (.un .not (.t 34)) (qn 32),qO 36 32 35] none [2,8,36]) (.seq (.cond (.t 36) (.seq (.region [qX 37 (.build [zi,zi,zi,zu,zi,zf,zu,zp,zs,zu,zi,zi,zf,zp,zu] []),qS 15 2 37,qV 3 (qi 6)] none [2,3]) .ret) .skip) (qR [2,8]))) (.seq (.region [qT 38 15 8,qS 15 2 38,qV 3 (qi 0)] none [2,3]) .ret))))))),[(2,some (15,true)),(3,none)],false⟩
def ir15:IRF:=⟨[0],(.seq (.region [qV 2 ql] none [0]) (.seq (.seq (.region [qM 3 0,qX 4 (.eq false .slice (.t 3) ql)] none [0,4]) (.cond (.t 4) (.seq (.region [qV 2 ql] none [2]) .ret) .skip)) (.seq (.region [qX 5 (.mkSl false 0 1 [] []),qM 6 0,qX 7 (.app 1 1 (.t 5) (.t 6)),qM 2 7] none [2]) .ret))),[(2,none)],true⟩
def ir17:IRF:=⟨[0],(.seq (.region [qV 2 ql] none [0]) (.seq (.region [qM 4 0,qX 5 (.len false (.t 4)),qX 6 (.cvt .u32 (.t 5)),qC 7 57 [(.t 6)],qM 3 7] none [0,3]) (.seq (.region [qM 8 3,qM 9 3,qM 10 0,qX 11 (.mkSl false 2 1 [zs,zs] [(0,1,(.t 9)),(1,1,(.t 10))]),qC 12 36 [(.t 11)],qC 13 58 [(.t 12)],qC 14 57 [(.t 13)],qM 15 0,qX 16 (.mkSl false 3 1 [zs,zs,zs] [(0,1,(.t 8)),(1,1,(.t 14)),(2,1,(.t 15))]),qC 17 36 [(.t 16)],qM 2 17] none [2]) .ret))),[(2,none)],false⟩
def ir18:IRF:=⟨[0,1,2],(.seq (.region [qX 6 (.alloc false [zi,zi,zi,zu,zi,zf,zp,zs,zu,zi,zi,zp,zu,zs])] none [0,1,2,6]) (.seq (.region [qM 7 0,qM 8 1,qM 9 2,qC 10 59 [(qu 0)],qC 11 60 [],qX 12 (.build [zu,zi,zi,zp] [(3,1,(.t 11))]),qX 13 (.build [zi,zi,zi,zu,zi,zf,zp,zs,zu,zi,zi,zp,zu,zs] [(0,1,(.t 7)),(1,1,(.t 8)),(2,1,(.t 9)),(6,1,(.t 10)),(8,4,(.t 12))]),qS 14 6 13] none [6]) .ret)),[(6,some (14,true))],false⟩
def ir19:IRF:=⟨[0,1],(.seq (.region [qV 4 qp,qV 5 ql] none [0,1]) (.seq (.seq (.region [qM 9 0,qX 10 (.len false (.t 9)),qB 11 .eql (.t 10) (qi 0)] none [0,1,11]) (.cond (.t 11) (.seq (.region [qC 12 59 [(qu 0)],qM 4 12,qV 5 ql] none [4,5]) .ret) .skip)) (.seq (.region [qM 13 0,qX 14 (.idxASl 1 (.t 13) (qi 0)),qL 15 1 14,qM 6 15] none [0,1,6]) (.seq (.region [qM 16 0,qX 17 (.slSl 1 (.t 16) (some (qi 1)) none none),qM 0 17] none [0,1,6]) (.seq (.seq (.region [qM 18 1,qB 19 .eql (.t 18) (qi 0),qM 20 19,qM 21 6 (qn 20),qB 22 .rem (.t 21) (.c (.p (.s (.int .u8 4)))) (qn 20),qB 23 .lss (.t 22) (.c (.p (.s (.int .u8 2)))) (qn 20),qO 24 20 23] none [0,1,6,24]) (.cond (.t 24) (.seq (.region [qM 25 6,qB 26 .quo (.t 25) (.c (.p (.s (.int .u8 4)))),qB 27 .rem (.t 26) (.c (.p (.s (.int .u8 8)))),qX 28 (.cvt .u64 (.t 27)),qC 29 59 [(.t 28)],qM 30 0,qM 4 29,qM 5 30] none [4,5]) .ret) .skip)) (.seq (.region [qM 32 0,qM 33 1,qB 34 .sub (.t 33) (qi 1),qC 35 19 [(.t 32),(.t 34)],qM 31 35,qE 36 31 0,qE 37 31 1,qM 7 36,qM 0 37] none [0,1,6,7]) (.seq (.region [qM 39 0,qM 40 1,qB 41 .sub (.t 40) (qi 1),qC 42 19 [(.t 39),(.t 41)],qM 38 42,qE 43 38 0,qE 44 38 1,qM 8 43,qM 0 44] none [0,6,7,8]) (.seq (.region [qM 45 6,qB 46 .quo (.t 45) (.c (.p (.s (.int .u8 4)))),qB 47 .rem (.t 46) (.c (.p (.s (.int .u8 4)))),qX 48 (.cvt .u64 (.t 47)),qM 49 7,qM 50 8,qC 51 61 [(.t 48),(.t 49),(.t 50)],qM 52 0,qM 4 51,qM 5 52] none [4,5]) .ret)))))))),[(4,none),(5,none)],false⟩
def ir20:IRF:=⟨[0],(.seq (.region [qX 2 (.alloc false [zu,zp])] none [0,2]) (.seq (.seq (.region [qM 7 0,qN 8 7,qF 9 1 8,qL 10 1 9,qX 11 (.eq false .ptr (.t 10) qp)] none [0,2,11]) (.cond (.t 11) (.seq (.region [qM 13 0,qN 14 13,qF 15 0 14,qL 16 1 15,qC 17 62 [(.t 16)],qM 12 17,qE 18 12 0,qE 19 12 1,qX 3 (.alloc false [zu,zp]),qS 2 3 18,qM 4 19] none [2,3]) (.seq (.region [qT 20 2 3,qS 2 2 20] none [2]) .ret)) .skip)) (.seq (.region [qM 22 0,qN 23 22,qF 24 0 23,qL 25 1 24,qM 26 0,qN 27 26,qF 28 1 27,qL 29 1 28,qC 30 20 [(.t 29)],qM 31 0,qN 32 31,qF 33 2 32,qL 34 1 33,qC 35 20 [(.t 34)],qC 36 63 [(.t 25),(.t 30),(.t 35)],qM 21 36,qE 37 21 0,qE 38 21 1,qX 5 (.alloc false [zu,zp]),qS 2 5 37,qM 6 38] (some [0,1,3,7,0,16,48,112,240,0,512,1536,3584,8176,16383,32767,65535,65535,0,393215,1048575]) [2,5]) (.seq (.region [qT 39 2 5,qS 2 2 39] none [2]) .ret)))),[(2,some (2,true))],false⟩
def ir21:IRF:=⟨[0,1],(.seq (.region [qV 4 qp,qV 5 ql] none [0,1]) (.seq (.seq (.region [qM 9 0,qX 10 (.len false (.t 9)),qB 11 .eql (.t 10) (qi 0)] none [0,1,11]) (.cond (.t 11) (.seq (.region [qC 12 60 [],qM 4 12,qV 5 ql] none [4,5]) .ret) .skip)) (.seq (.region [qM 13 0,qX 14 (.idxASl 1 (.t 13) (qi 0)),qL 15 1 14,qM 6 15] none [0,1,6]) (.seq (.region [qM 16 0,qX 17 (.slSl 1 (.t 16) (some (qi 1)) none none),qM 0 17] none [0,1,6]) (.seq (.seq (.region [qM 18 1,qB 19 .eql (.t 18) (qi 0),qM 20 19,qM 21 6 (qn 20),qB 22 .rem (.t 21) (.c (.p (.s (.int .u8 4)))) (qn 20),qB 23 .lss (.t 22) (.c (.p (.s (.int .u8 2)))) (qn 20),qO 24 20 23] none [0,1,6,24]) (.cond (.t 24) (.seq (.region [qM 25 6,qB 26 .rem (.t 25) (.c (.p (.s (.int .u8 2)))),qX 27 (.cvt .i64 (.t 26)),qX 28 (.build [zi,zp,zp] [(0,1,(.t 27))]),qX 29 (.box true (.t 28)),qM 30 0,qM 4 29,qM 5 30] none [4,5]) .ret) .skip)) (.seq (.region [qM 32 0,qM 33 1,qB 34 .sub (.t 33) (qi 1),qC 35 21 [(.t 32),(.t 34)],qM 31 35,qE 36 31 0,qE 37 31 1,qM 7 36,qM 0 37] none [0,1,7]) (.seq (.region [qM 39 0,qM 40 1,qB 41 .sub (.t 40) (qi 1),qC 42 21 [(.t 39),(.t 41)],qM 38 42,qE 43 38 0,qE 44 38 1,qM 8 43,qM 0 44] none [0,7,8]) (.seq (.region [qM 45 7,qM 46 8,qC 47 64 [(.t 45),(.t 46)],qM 48 0,qM 4 47,qM 5 48] none [4,5]) .ret)))))))),[(4,none),(5,none)],false⟩
def ir22:IRF:=⟨[0],(.seq (.region [qX 2 (.alloc false [zf,zp])] none [0,2]) (.seq (.seq (.region [qM 5 0,qN 6 5,qF 7 0 6,qL 8 1 7] none [0,2,8]) (.block 0 (.seq (.region [qB 10 .eql (.t 8) (qi 0),qM 9 10] none [0,2,8,9]) (.cond (.t 9) (.seq (.region [qC 11 65 [],qS 2 2 11] none [2]) .ret) (.seq (.region [qB 13 .eql (.t 8) (qi 1),qM 12 13] none [0,2,12]) (.cond (.t 12) (.seq (.region [qC 14 66 [],qS 2 2 14] none [2]) .ret) .skip)))))) (.seq (.region [qM 16 0,qN 17 16,qF 18 1 17,qL 19 1 18,qC 20 22 [(.t 19)],qM 21 0,qN 22 21,qF 23 2 22,qL 24 1 23,qC 25 22 [(.t 24)],qC 26 67 [(.t 20),(.t 25)],qM 15 26,qE 27 15 0,qE 28 15 1,qX 3 (.alloc false [zf,zp]),qS 2 3 27,qM 4 28] (some [0,1,3,7,15,0,32,96,224,511,1023,2047,4095,4095,0,24575,65535]) [2,3]) (.seq (.region [qT 29 2 3,qS 2 2 29] none [2]) .ret)))),[(2,some (2,true))],false⟩
def ir23:IRF:=⟨[0,1,2],(.seq (.region [qX 6 (.alloc false [zp,zs,zf])] none [0,1,2,6]) (.seq (.seq (.region [qM 11 0,qX 12 (.len false (.t 11)),qB 13 .gtr (.t 12) (qi 40)] none [0,1,2,6,13]) (.cond (.t 13) (.region [qM 14 0,qX 15 (.slSl 1 (.t 14) none (some (qi 40)) none),qM 0 15] none [0,1,2,6]) .skip)) (.seq (.region [qM 17 0,qC 18 19 [(.t 17),(qi 4)],qM 16 18,qE 19 16 0,qE 20 16 1,qM 7 19,qM 8 20] none [1,2,6,7]) (.seq (.region [qM 21 7,qM 22 2,qX 23 (.build [zp,zs,zf] [(0,1,(.t 21)),(2,1,(.t 22))]),qX 9 (.alloc false [zp,zs,zf]),qS 3 9 23] none [1,2,6,9]) (.seq (.seq (.region [qM 24 1,qX 25 (.build [zi,zE0,zE0] [(0,1,(qi 1)),(2,1,(.t 24))]),qX 10 (.alloc false [zi,zE0,zE0]),qS 3 10 25] none [2,6,9,10]) (.tidy [2,6,9] [10])) (.seq (.seq (.region [qM 26 2,qX 27 (.un .not (.t 26)),qM 28 27,qT 29 3 10 (qy 28),qC 30 68 [(.t 29)] (qy 28),qB 31 .eql (.t 30) (qi 0) (qy 28),qA 32 28 31] none [6,9,10,32]) (.cond (.t 32) (.region [qT 33 3 10,qX 34 (.mkSl true 1 3 [zi,zE0,zE0] [(0,3,(.t 33))]),qF 35 1 9,qS 1 35 34] none [6,9]) .skip)) (.seq (.region [qT 36 3 9,qS 3 6 36] none [6]) .ret))))))),[(6,some (3,true))],false⟩
def ir24_0:IRC:=(.seq (.tidy [0,2,8,9,10] []) (.seq (.region [qB 11 .lss (.t 10) (.t 9)] none [0,2,8,9,10,11]) (.seq (.seq (.cond (.t 11) .skip (.seq (qR [0,2]) (.exit 0))) (qR [0,2,8,9,10])) (.seq (.block 1 (.seq (.seq (.region [qX 12 (.idxASl 3 (.t 8) (.t 10)),qT 13 3 12,qX 5 (.alloc false [zi,zE0,zE0]),qS 3 5 13] none [0,2,5,8,9,10]) (.tidy [0,2,8,9,10] [5])) (.seq (.region [qT 14 3 5,qC 15 69 [(.t 14)],qM 6 15] none [0,2,6,8,9,10]) (.seq (.region [qM 16 6,qB 17 .neq (.t 16) (qi 0)] none [0,2,6,8,9,10,17]) (.seq (.cond (.t 17) (.seq (.region [qX 18 (.build [zs] []),qM 19 6,qS 1 2 18,qM 3 19] none [2,3]) .ret) .skip) (qR [0,2,8,9,10])))))) (.region [qB 20 .add (.t 10) (qi 1),qM 10 20] none [0,2,8,9,10])))))
def ir24:IRF:=⟨[0],(.seq (.region [qX 2 (.alloc false [zs]),qV 3 (qi 0)] none [0,2]) (.seq (.seq (.region [qM 8 0,qX 9 (.len false (.t 8)),qV 10 (qi 0)] none [0,2,8,9,10]) (.block 0 (.loop ir24_0))) (.seq (.seq (.region [qM 21 0,qC 22 70 [(.t 21)],qX 7 (.alloc false [zs]),qS 1 7 22] none [2,7]) (.tidy [2] [7])) (.seq (.seq (.region [qT 23 1 7,qC 24 71 [(.t 23)],qB 25 .gtr (.t 24) (qi 8)] none [2,7,25]) (.seq (.cond (.t 25) (.seq (.region [qX 26 (.build [zs] []),qS 1 2 26,qV 3 (qi 8)] none [2,3]) .ret) .skip) (qR [2,7]))) (.seq (.region [qT 27 1 7,qS 1 2 27,qV 3 (qi 0)] none [2,3]) .ret))))),[(2,some (1,true)),(3,none)],false⟩
def ir25:IRF:=⟨[0],(.seq (.region [qV 2 (qi 0)] none [0]) (.seq (.seq (.region [qM 3 0] none [3]) (.block 0 (.seq (.seq (.region [qB 5 .eql (.t 3) (qi 1),qM 4 5] none [3,4]) (.cond (.t 4) .skip (.region [qB 6 .eql (.t 3) (qi 2),qM 4 6] none [3,4]))) (.cond (.t 4) (.seq (.region [qV 2 (qi 9)] none [2]) .ret) (.seq (.region [qB 8 .eql (.t 3) (qi 3),qM 7 8] none [3,7]) (.cond (.t 7) (.seq (.region [qV 2 (qi 31)] none [2]) .ret) (.seq (.region [qB 10 .eql (.t 3) (qi 4),qM 9 10] none [3,9]) (.cond (.t 9) (.seq (.region [qV 2 (qi 3)] none [2]) .ret) (.seq (.region [qB 12 .eql (.t 3) (qi 5),qM 11 12] none [3,11]) (.cond (.t 11) (.seq (.region [qV 2 (qi 0)] none [2]) .ret) (.seq (.region [qB 14 .eql (.t 3) (qi 6),qM 13 14] none [3,13]) (.cond (.t 13) (.seq (.region [qV 2 (qi 44)] none [2]) .ret) (.seq (.region [qB 16 .eql (.t 3) (qi 7),qM 15 16] none [15]) (.cond (.t 15) (.seq (.region [qV 2 (qi 64)] none [2]) .ret) .skip)))))))))))))) (.seq (.region [qV 2 (.c (.p (.s (.int .i64 (-1)))))] none [2]) .ret))),[(2,none)],false⟩
def ir26_0:IRC:=(.seq (.seq (.region [qM 11 1,qB 12 .geq (.t 11) (qu 128)] none [0,1,12]) (.cond (.t 12) .skip (.exit 0))) (.seq (.block 1 (.region [qM 15 0,qM 16 1,qX 17 (.cvt .u8 (.t 16)),qB 18 .or (.t 17) (.c (.p (.s (.int .u8 128)))),qX 19 (.mkSl false 1 1 [(.s (.int .u8 0))] [(0,1,(.t 18))]),qX 20 (.app 1 1 (.t 15) (.t 19)),qM 0 20] none [0,1])) (.region [qM 13 1,qB 14 .shr (.t 13) (qu 7),qM 1 14] none [0,1])))
def ir26:IRF:=⟨[0,1],(.seq (.region [qV 4 ql] none [0,1]) (.seq (.region [qM 5 0,qM 6 0,qX 7 (.len false (.t 6)),qM 8 0,qX 9 (.len false (.t 8)),qX 10 (.slSl 1 (.t 5) none (some (.t 7)) (some (.t 9))),qM 0 10] none [0,1]) (.seq (.block 0 (.loop ir26_0)) (.seq (.region [qM 21 0,qM 22 1,qX 23 (.cvt .u8 (.t 22)),qX 24 (.mkSl false 1 1 [(.s (.int .u8 0))] [(0,1,(.t 23))]),qX 25 (.app 1 1 (.t 21) (.t 24)),qM 4 25] none [4]) .ret)))),[(4,none)],true⟩
def ir27:IRF:=⟨[0,1],(.seq (.region [qX 3 (.box false (.t 1)),qV 4 ql] none [0,3]) (.seq (.region [qM 5 0,qF 6 0 3,qL 7 1 6,qC 8 26 [(.t 5),(.t 7)],qF 9 1 3,qL 10 1 9,qX 11 (.cvt .u64 (.t 10)),qC 12 26 [(.t 8),(.t 11)],qF 13 2 3,qL 14 1 13,qX 15 (.cvt .u64 (.t 14)),qC 16 26 [(.t 12),(.t 15)],qM 0 16] (some [0,0,2,7,0,16,48,127,0,256,768,2047,4095]) [0,3]) (.seq (.region [qM 17 0,qF 18 3 3,qT 19 2 18,qC 20 72 [(.t 19)],qX 21 (.b2s (.t 20)),qC 22 28 [(.t 17),(.t 21)],qM 4 22] none [4]) .ret))),[(4,none)],false⟩
def ir28:IRF:=⟨[0,1],(.seq (.region [qV 4 ql] none [0,1]) (.seq (.region [qM 5 0,qM 6 1,qX 7 (.len true (.t 6)),qX 8 (.cvt .u64 (.t 7)),qC 9 26 [(.t 5),(.t 8)],qM 10 1,qX 11 (.app 1 1 (.t 9) (.t 10)),qM 4 11] none [4]) .ret)),[(4,none)],true⟩
def ir29:IRF:=⟨[0],(.seq (.region [qX 1 (.box false (.t 0)),qV 2 ql] none [1]) (.seq (.region [qC 4 73 [],qM 3 4] none [1,3]) (.seq (.region [qM 5 3,qT 6 2 1,qC 7 74 [(.t 5),(.t 6)]] none [3]) (.seq (.region [qM 8 3,qC 9 75 [(.t 8)],qM 2 9] none [2]) .ret)))),[(2,none)],false⟩
def ir30_0:IRC:=(.seq (.region [qB 15 .lss (.t 14) (.t 13)] none [0,12,13,14,15]) (.seq (.cond (.t 15) .skip (.exit 0)) (.seq (.block 1 (.seq (.region [qX 16 (.idxASl 5 (.t 12) (.t 14)),qT 17 5 16,qX 6 (.alloc false [(.s (.int .u32 0)),zu,zp,zs,zf]),qS 5 6 17] none [0,6,12,13,14]) (.region [qM 18 0,qF 19 0 6,qL 20 1 19,qX 21 (.cvt .u64 (.t 20)),qC 22 26 [(.t 18),(.t 21)],qF 23 1 6,qT 24 4 23,qC 25 76 [(.t 24)],qX 26 (.b2s (.t 25)),qC 27 28 [(.t 22),(.t 26)],qM 0 27] (some [0,0,2,6,15,0,32,127,255,511,1023]) [0,12,13,14]))) (.region [qB 28 .add (.t 14) (qi 1),qM 14 28] none [0,12,13,14]))))
def ir30:IRF:=⟨[0,1],(.seq (.region [qV 4 ql] none [0,1]) (.seq (.region [qM 7 0,qM 8 1,qX 9 (.len false (.t 8)),qX 10 (.cvt .u64 (.t 9)),qC 11 26 [(.t 7),(.t 10)],qM 0 11] none [0,1]) (.seq (.seq (.region [qM 12 1,qX 13 (.len false (.t 12)),qV 14 (qi 0)] none [0,12,13,14]) (.block 0 (.loop ir30_0))) (.seq (.region [qM 29 0,qM 4 29] none [4]) .ret)))),[(4,none)],false⟩
def ir31:IRF:=⟨[0],(.seq (.region [qV 2 ql] none [0]) (.seq (.region [qM 5 0,qX 6 (.len false (.t 5)),qX 7 (.cvt .u32 (.t 6)),qC 8 77 [ql,(.t 7)],qM 3 8] none [0,3]) (.seq (.region [qM 9 3,qX 10 (.slSl 1 (.t 9) none (some (qi 4)) (some (qi 4))),qM 11 3,qX 12 (.slSl 1 (.t 11) none (some (qi 4)) (some (qi 4))),qM 13 0,qX 14 (.app 1 1 (.t 12) (.t 13)),qC 15 78 [(.t 14)],qC 16 77 [(.t 10),(.t 15)],qM 4 16] (some [0,1,0,4,0,28,60,127,255]) [0,4]) (.seq (.region [qM 17 4,qM 18 0,qX 19 (.app 1 1 (.t 17) (.t 18)),qM 2 19] none [2]) .ret)))),[(2,none)],true⟩
def ir32:IRF:=⟨[0],(.seq (.region [qV 2 ql] none [0]) (.seq (.seq (.region [qM 3 0,qB 4 .lss (.t 3) (qu 128)] none [0,4]) (.cond (.t 4) (.seq (.region [qM 5 0,qX 6 (.cvt .u8 (.t 5)),qX 7 (.mkSl false 1 1 [(.s (.int .u8 0))] [(0,1,(.t 6))]),qM 2 7] none [2]) .ret) .skip)) (.seq (.region [qM 8 0,qB 9 .rem (.t 8) (qu 128),qB 10 .add (.t 9) (qu 128),qX 11 (.cvt .u8 (.t 10)),qX 12 (.mkSl false 1 1 [(.s (.int .u8 0))] [(0,1,(.t 11))]),qM 13 0,qB 14 .quo (.t 13) (qu 128),qC 15 32 [(.t 14)],qX 16 (.app 1 1 (.t 12) (.t 15)),qM 2 16] none [2]) .ret))),[(2,none)],true⟩
def ir33:IRF:=⟨[0],(.seq (.region [qV 2 ql] none [0]) (.seq (.region [qM 3 0,qX 4 (.len true (.t 3)),qX 5 (.cvt .u64 (.t 4)),qC 6 32 [(.t 5)],qM 7 0,qX 8 (.s2b false (.t 7)),qX 9 (.app 1 1 (.t 6) (.t 8)),qM 2 9] none [2]) .ret)),[(2,none)],true⟩
def ir34_0:IRC:=(.seq (.seq (.region [qM 13 6,qB 14 .lss (.t 13) (qi 8)] none [0,3,4,5,6,14]) (.cond (.t 14) .skip (.exit 2))) (.seq (.block 3 (.seq (.region [qM 17 5,qB 18 .mul (.t 17) (.c (.p (.s (.int .u8 2)))),qM 5 18] none [0,3,4,5,6]) (.seq (.region [qM 19 4,qM 20 6,qB 21 .add (.t 19) (.t 20),qM 22 0,qX 23 (.len false (.t 22)),qB 24 .lss (.t 21) (.t 23),qM 25 24,qM 26 0 (qy 25),qM 27 4 (qy 25),qM 28 6 (qy 25),qB 29 .add (.t 27) (.t 28) (qy 25),qX 30 (.idxASl 1 (.t 26) (.t 29)) (qy 25),qL 31 1 30 (qy 25),qA 32 25 31] none [0,3,4,5,6,32]) (.cond (.t 32) (.region [qM 33 5,qB 34 .add (.t 33) (.c (.p (.s (.int .u8 1)))),qM 5 34] none [0,3,4,5,6]) .skip)))) (.region [qM 15 6,qB 16 .add (.t 15) (qi 1),qM 6 16] none [0,3,4,5,6])))
def ir34_1:IRC:=(.seq (.seq (.region [qM 7 4,qM 8 0,qX 9 (.len false (.t 8)),qB 10 .lss (.t 7) (.t 9)] none [0,3,4,10]) (.cond (.t 10) .skip (.exit 0))) (.seq (.block 1 (.seq (.region [qV 5 (.c (.p (.s (.int .u8 0))))] none [0,3,4,5]) (.seq (.seq (.region [qV 6 (qi 0)] none [0,3,4,5,6]) (.block 2 (.loop ir34_0))) (.region [qM 35 3,qM 36 5,qX 37 (.mkSl false 1 1 [(.s (.int .u8 0))] [(0,1,(.t 36))]),qX 38 (.app 1 1 (.t 35) (.t 37)),qM 3 38] none [0,3,4])))) (.region [qM 11 4,qB 12 .add (.t 11) (qi 8),qM 4 12] none [0,3,4])))
def ir34:IRF:=⟨[0],(.seq (.region [qV 2 ql] none [0]) (.seq (.region [qV 3 ql] none [0,3]) (.seq (.seq (.region [qV 4 (qi 0)] none [0,3,4]) (.block 0 (.loop ir34_1))) (.seq (.region [qM 39 3,qM 2 39] none [2]) .ret)))),[(2,none)],false⟩
def ir35:IRF:=⟨[0,1],(.seq (.region [qV 4 ql] none [0,1]) (.seq (.seq (.region [qM 5 1,qN 6 5,qF 7 1 6,qL 8 1 7,qX 9 (.eq false .ptr (.t 8) qp)] none [0,1,9]) (.cond (.t 9) (.seq (.region [qM 10 0,qC 11 80 [(.t 10),(qu 1),(qi 1)],qM 12 1,qN 13 12,qF 14 0 13,qL 15 1 14,qC 16 79 [(.t 11),(.t 15)],qM 4 16] (some [0,1,0,4,12,28,63,127]) [4]) .ret) .skip)) (.seq (.region [qM 17 0,qC 18 80 [(.t 17),(qu 0),(qi 1)],qM 0 18] none [0,1]) (.seq (.seq (.region [qM 19 1,qN 20 19,qF 21 0 20,qL 22 1 21,qB 23 .eql (.t 22) (qu 0)] none [0,1,23]) (.cond (.t 23) (.seq (.seq (.region [qM 24 1,qN 25 24,qF 26 1 25,qL 27 1 26,qC 28 81 [(.t 27)]] none [0,1,28]) (.cond (.t 28) (.seq (.region [qM 29 0,qC 30 80 [(.t 29),(qu 0),(qi 2)],qM 31 1,qN 32 31,qF 33 2 32,qL 34 1 33,qC 35 35 [(.t 30),(.t 34)],qM 4 35] (some [0,1,0,4,12,28,63,127]) [4]) .ret) .skip)) (.seq (.seq (.region [qM 36 1,qN 37 36,qF 38 2 37,qL 39 1 38,qC 40 81 [(.t 39)]] none [0,1,40]) (.cond (.t 40) (.seq (.region [qM 41 0,qC 42 80 [(.t 41),(qu 1),(qi 2)],qM 43 1,qN 44 43,qF 45 1 44,qL 46 1 45,qC 47 35 [(.t 42),(.t 46)],qM 4 47] (some [0,1,0,4,12,28,63,127]) [4]) .ret) .skip)) (.seq (.region [qM 48 0,qC 49 80 [(.t 48),(qu 2),(qi 2)],qM 50 1,qN 51 50,qF 52 1 51,qL 53 1 52,qC 54 35 [(.t 49),(.t 53)],qM 55 1,qN 56 55,qF 57 2 56,qL 58 1 57,qC 59 35 [(.t 54),(.t 58)],qM 4 59] (some [0,1,0,4,12,28,63,0,128,384,896,2047,4095]) [4]) .ret))) .skip)) (.seq (.region [qM 60 0,qC 61 80 [(.t 60),(qu 3),(qi 2)],qM 0 61] none [0,1]) (.seq (.seq (.region [qM 62 1,qN 63 62,qF 64 1 63,qL 65 1 64,qC 66 81 [(.t 65)]] none [0,1,66]) (.cond (.t 66) (.seq (.region [qM 67 0,qC 68 80 [(.t 67),(qu 0),(qi 2)],qM 69 1,qN 70 69,qF 71 0 70,qL 72 1 71,qC 73 79 [(.t 68),(.t 72)],qM 74 1,qN 75 74,qF 76 2 75,qL 77 1 76,qC 78 35 [(.t 73),(.t 77)],qM 4 78] (some [0,1,0,4,12,28,63,0,128,384,896,2047,4095]) [4]) .ret) .skip)) (.seq (.seq (.region [qM 79 1,qN 80 79,qF 81 2 80,qL 82 1 81,qC 83 81 [(.t 82)]] none [0,1,83]) (.cond (.t 83) (.seq (.region [qM 84 0,qC 85 80 [(.t 84),(qu 1),(qi 2)],qM 86 1,qN 87 86,qF 88 0 87,qL 89 1 88,qC 90 79 [(.t 85),(.t 89)],qM 91 1,qN 92 91,qF 93 1 92,qL 94 1 93,qC 95 35 [(.t 90),(.t 94)],qM 4 95] (some [0,1,0,4,12,28,63,0,128,384,896,2047,4095]) [4]) .ret) .skip)) (.seq (.region [qM 96 0,qC 97 80 [(.t 96),(qu 1),(qi 1)],qM 98 1,qN 99 98,qF 100 0 99,qL 101 1 100,qC 102 79 [(.t 97),(.t 101)],qM 103 1,qN 104 103,qF 105 1 104,qL 106 1 105,qC 107 35 [(.t 102),(.t 106)],qM 108 1,qN 109 108,qF 110 2 109,qL 111 1 110,qC 112 35 [(.t 107),(.t 111)],qM 4 112] (some [0,1,0,4,12,28,63,0,128,384,896,2047,0,4096,12288,28672,65535,131071]) [4]) .ret)))))))),[(4,none)],false⟩
def ir36_0:IRC:=(.seq (.region [qB 9 .lss (.t 8) (.t 7)] none [3,6,7,8,9]) (.seq (.cond (.t 9) .skip (.exit 0)) (.seq (.block 1 (.seq (.region [qX 10 (.idxASl 1 (.t 6) (.t 8)),qL 11 1 10,qM 5 11] none [3,5,6,7,8]) (.region [qM 12 3,qM 13 5,qX 14 (.app 1 1 (.t 12) (.t 13)),qM 3 14] none [3,6,7,8]))) (.region [qB 15 .add (.t 8) (qi 1),qM 8 15] none [3,6,7,8]))))
def ir36:IRF:=⟨[0],(.seq (.region [qV 2 ql] none [0]) (.seq (.region [qV 3 ql] none [0,3]) (.seq (.seq (.region [qM 6 0,qX 7 (.len false (.t 6)),qV 8 (qi 0)] none [3,6,7,8]) (.block 0 (.loop ir36_0))) (.seq (.region [qM 16 3,qM 2 16] none [2]) .ret)))),[(2,none)],false⟩
def ir37_0:IRC:=(.seq (.region [qB 13 .lss (.t 12) (.t 11)] none [3,10,11,12,13]) (.seq (.cond (.t 13) .skip (.exit 0)) (.seq (.block 1 (.seq (.region [qX 14 (.idxASl 4 (.t 10) (.t 12)),qT 15 4 14,qX 5 (.alloc false [(.s (.int .u32 0)),zp,zs,zf]),qS 4 5 15] none [3,5,10,11,12]) (.region [qM 16 3,qF 17 0 5,qL 18 1 17,qX 19 (.cvt .u64 (.t 18)),qC 20 32 [(.t 19)],qF 21 1 5,qT 22 3 21,qC 23 82 [(.t 22)],qX 24 (.b2s (.t 23)),qC 25 33 [(.t 24)],qX 26 (.mkSl false 3 1 [zs,zs,zs] [(0,1,(.t 16)),(1,1,(.t 20)),(2,1,(.t 25))]),qC 27 36 [(.t 26)],qM 3 27] (some [0,0,2,6,14,0,32,126,254,510,1023,2047,4095]) [3,10,11,12]))) (.region [qB 28 .add (.t 12) (qi 1),qM 12 28] none [3,10,11,12]))))
def ir37:IRF:=⟨[0],(.seq (.region [qV 2 ql] none [0]) (.seq (.region [qM 6 0,qX 7 (.len false (.t 6)),qX 8 (.cvt .u64 (.t 7)),qC 9 32 [(.t 8)],qM 3 9] none [0,3]) (.seq (.seq (.region [qM 10 0,qX 11 (.len false (.t 10)),qV 12 (qi 0)] none [3,10,11,12]) (.block 0 (.loop ir37_0))) (.seq (.region [qM 29 3,qM 2 29] none [2]) .ret)))),[(2,none)],false⟩
def ir38:IRF:=⟨[0],(.seq (.region [qX 1 (.box false (.t 0)),qV 2 ql] none [1]) (.seq (.region [qF 3 0 1,qL 4 1 3,qC 5 32 [(.t 4)],qF 6 1 1,qL 7 1 6,qX 8 (.cvt .u64 (.t 7)),qC 9 32 [(.t 8)],qF 10 2 1,qL 11 1 10,qX 12 (.cvt .u64 (.t 11)),qC 13 32 [(.t 12)],qF 14 3 1,qL 15 1 14,qC 16 83 [ql,(.t 15)],qC 17 34 [(.t 16)],qX 18 (.b2s (.t 17)),qC 19 33 [(.t 18)],qX 20 (.mkSl false 4 1 [zs,zs,zs,zs] [(0,1,(.t 5)),(1,1,(.t 9)),(2,1,(.t 13)),(3,1,(.t 19))]),qC 21 36 [(.t 20)],qM 2 21] (some [0,1,3,0,8,24,63,0,128,384,1023,0,2048,8191,16383,32767,65535,131071,262143,524287]) [2]) .ret)),[(2,none)],false⟩
def ir39:IRF:=⟨[0],(.seq (.region [qV 2 qf] none [0]) (.seq (.region [qM 3 0,qB 4 .geq (.t 3) (qi 0),qM 5 4,qM 6 0 (qy 5),qB 7 .lss (.t 6) (qi 12) (qy 5),qA 8 5 7,qM 2 8] none [2]) .ret)),[(2,none)],false⟩
def ir40:IRF:=⟨[0],(.seq (.region [qX 1 (.box true (.t 0)),qV 2 qf] none [1]) (.seq (.seq (.region [qF 7 0 1,qL 8 1 7,qC 9 25 [(.t 8)],qX 3 (.alloc false [zi]),qS 1 3 9] none [1,3]) (.tidy [1] [3])) (.seq (.region [qX 10 (.mkFn 84 [] [(.t 3)]),qM 4 10] none [1,4]) (.seq (.region [qF 11 6 1,qT 12 2 11,qX 13 (.build [zu,zp] []),qC 14 85 [(.t 12),(.t 13)],qM 5 14] none [1,4,5]) (.seq (.region [qF 15 9 1,qF 16 0 15,qL 17 1 16,qB 18 .eql (.t 17) (qu 0),qM 19 18,qF 20 9 1 (qy 19),qF 21 1 20 (qy 19),qL 22 1 21 (qy 19),qB 23 .eql (.t 22) (qi 0) (qy 19),qA 24 19 23,qM 25 24,qF 26 9 1 (qy 25),qF 27 2 26 (qy 25),qL 28 1 27 (qy 25),qB 29 .eql (.t 28) (qi 0) (qy 25),qA 30 25 29,qM 31 30,qF 32 9 1 (qy 31),qF 33 3 32 (qy 31),qT 34 2 33 (qy 31),qC 35 86 [(.t 34)] (qy 31),qA 36 31 35,qM 6 36] none [1,4,5,6]) (.seq (.region [qM 37 4,qF 38 3 1,qL 39 1 38,qB 40 .eql (.t 39) (qu 0),qX 41 (.callv (.t 37) [(qi 1),(.t 40)]),qM 42 41,qM 43 4 (qy 42),qF 44 4 1 (qy 42),qL 45 1 44 (qy 42),qB 46 .eql (.t 45) (qi 0) (qy 42),qX 47 (.callv (.t 43) [(qi 2),(.t 46)]) (qy 42),qA 48 42 47,qM 49 48,qM 50 4 (qy 49),qF 51 5 1 (qy 49),qL 52 1 51 (qy 49),qX 53 (.un .not (.t 52)) (qy 49),qX 54 (.callv (.t 50) [(qi 16),(.t 53)]) (qy 49),qA 55 49 54,qM 56 55,qM 57 4 (qy 56),qM 58 5 (qy 56),qX 59 (.callv (.t 57) [(qi 8),(.t 58)]) (qy 56),qA 60 56 59,qM 61 60,qM 62 4 (qy 61),qF 63 8 1 (qy 61),qL 64 1 63 (qy 61),qX 65 (.len false (.t 64)) (qy 61),qB 66 .eql (.t 65) (qi 0) (qy 61),qX 67 (.callv (.t 62) [(qi 4),(.t 66)]) (qy 61),qA 68 61 67,qM 69 68,qM 70 4 (qy 69),qM 71 6 (qy 69),qX 72 (.callv (.t 70) [(qi 32),(.t 71)]) (qy 69),qA 73 69 72,qM 74 73,qM 75 4 (qy 74),qF 76 14 1 (qy 74),qL 77 1 76 (qy 74),qB 78 .eql (.t 77) (qu 0) (qy 74),qX 79 (.callv (.t 75) [(qi 64),(.t 78)]) (qy 74),qA 80 74 79,qM 2 80] none [2]) .ret)))))),[(2,none)],false⟩
def ir41:IRF:=⟨[0],(.seq (.region [qX 1 (.box false (.t 0)),qV 2 qf] none [1]) (.seq (.region [qF 3 8 1,qL 4 1 3,qX 5 (.mkFn 88 [] [(.t 1)]),qC 6 87 [(.t 4),(.t 5)],qX 7 (.un .not (.t 6)),qM 2 7] none [2]) .ret)),[(2,none)],false⟩
def ir42:IRF:=⟨[0],(.seq (.region [qX 1 (.box false (.t 0)),qV 2 qf] none [1]) (.seq (.region [qF 3 0 1,qL 4 1 3,qB 5 .geq (.t 4) (qu 1),qM 6 5,qF 7 0 1 (qy 6),qL 8 1 7 (qy 6),qB 9 .lss (.t 8) (qu 4611686018427387904) (qy 6),qA 10 6 9,qM 11 10,qF 12 1 1 (qy 11),qL 13 1 12 (qy 11),qC 14 91 [(.t 13)] (qy 11),qA 15 11 14,qM 16 15,qF 17 2 1 (qy 16),qL 18 1 17 (qy 16),qC 19 91 [(.t 18)] (qy 16),qA 20 16 19,qM 21 20,qF 22 1 1 (qy 21),qL 23 1 22 (qy 21),qF 24 2 1 (qy 21),qL 25 1 24 (qy 21),qB 26 .neq (.t 23) (.t 25) (qy 21),qA 27 21 26,qM 28 27,qF 29 3 1 (qy 28),qT 30 2 29 (qy 28),qC 31 86 [(.t 30)] (qy 28),qX 32 (.un .not (.t 31)) (qy 28),qA 33 28 32,qM 2 33] none [2]) .ret)),[(2,none)],false⟩
def ir43:IRF:=⟨[0],(.seq (.region [qX 1 (.box false (.t 0)),qV 2 qf] none [1]) (.seq (.region [qF 3 0 1,qL 4 1 3,qB 5 .gtr (.t 4) (qu 0),qM 6 5,qF 7 0 1 (qy 6),qL 8 1 7 (qy 6),qB 9 .lss (.t 8) (qu 4611686018427387904) (qy 6),qA 10 6 9,qM 11 10,qF 12 1 1 (qy 11),qL 13 1 12 (qy 11),qB 14 .geq (.t 13) (qi 0) (qy 11),qA 15 11 14,qM 16 15,qF 17 1 1 (qy 16),qL 18 1 17 (qy 16),qB 19 .lss (.t 18) (qi 12) (qy 16),qA 20 16 19,qM 21 20,qF 22 2 1 (qy 21),qL 23 1 22 (qy 21),qB 24 .geq (.t 23) (qi 0) (qy 21),qA 25 21 24,qM 26 25,qF 27 2 1 (qy 26),qL 28 1 27 (qy 26),qB 29 .lss (.t 28) (qi 12) (qy 26),qA 30 26 29,qM 31 30,qF 32 1 1 (qy 31),qL 33 1 32 (qy 31),qF 34 2 1 (qy 31),qL 35 1 34 (qy 31),qB 36 .neq (.t 33) (.t 35) (qy 31),qA 37 31 36,qM 38 37,qF 39 3 1 (qy 38),qL 40 1 39 (qy 38),qN 41 40 (qy 38),qF 42 0 41 (qy 38),qL 43 1 42 (qy 38),qB 44 .neq (.t 43) (qi 0) (qy 38),qA 45 38 44,qM 2 45] none [2]) .ret)),[(2,none)],false⟩
def ir44:IRF:=⟨[0,1],(.seq (.region [qV 4 qf] none [0,1]) (.seq (.seq (.region [qM 5 0,qN 6 5,qF 7 1 6,qL 8 1 7,qX 9 (.eq false .ptr (.t 8) qp),qM 10 9,qM 11 1 (qy 10),qN 12 11 (qy 10),qF 13 1 12 (qy 10),qL 14 1 13 (qy 10),qX 15 (.eq false .ptr (.t 14) qp) (qy 10),qA 16 10 15] none [0,1,16]) (.cond (.t 16) (.seq (.region [qM 17 0,qN 18 17,qF 19 0 18,qL 20 1 19,qM 21 1,qN 22 21,qF 23 0 22,qL 24 1 23,qB 25 .leq (.t 20) (.t 24),qM 4 25] (some [0,1,3,7,0,16,48,112,255,511]) [4]) .ret) .skip)) (.seq (.region [qM 26 0,qC 27 92 [(.t 26)],qM 28 1,qC 29 92 [(.t 28)],qC 30 44 [(.t 27),(.t 29)],qM 31 30,qM 32 0 (qy 31),qC 33 93 [(.t 32)] (qy 31),qM 34 1 (qy 31),qC 35 93 [(.t 34)] (qy 31),qC 36 44 [(.t 33),(.t 35)] (qy 31),qA 37 31 36,qM 4 37] none [4]) .ret))),[(4,none)],false⟩
def ir45:IRF:=⟨[0],(.seq (.region [qV 2 ql,qV 3 (qi 0),qV 4 (qi 0)] none [0]) (.seq (.seq (.region [qM 7 0,qX 8 (.len false (.t 7)),qB 9 .lss (.t 8) (qi 8)] none [0,9]) (.seq (.cond (.t 9) (.seq (.region [qV 2 ql,qV 3 (qi 0),qV 4 (qi 6)] none [2,3,4]) .ret) .skip) (qR [0]))) (.seq (.region [qM 10 0,qC 11 94 [(.t 10)],qM 5 11] none [0,5]) (.seq (.block 0 (.seq (.region [qM 13 5,qB 14 .gtr (.t 13) (.c (.p (.s (.int .u32 1048576)))),qM 12 14] none [0,5,12]) (.seq (.cond (.t 12) (.seq (.region [qV 2 ql,qV 3 (qi 0),qV 4 (qi 9)] none [2,3,4]) .ret) (.seq (.region [qM 16 5,qX 17 (.cvt .i64 (.t 16)),qM 18 0,qX 19 (.len false (.t 18)),qB 20 .sub (.t 19) (qi 8),qB 21 .gtr (.t 17) (.t 20),qM 15 21] none [0,5,15]) (.seq (.cond (.t 15) (.seq (.region [qV 2 ql,qV 3 (qi 0),qV 4 (qi 6)] none [2,3,4]) .ret) .skip) (qR [0,5])))) (qR [0,5])))) (.seq (.region [qM 22 0,qM 23 5,qX 24 (.cvt .i64 (.t 23)),qB 25 .add (qi 8) (.t 24),qX 26 (.slSl 1 (.t 22) (some (qi 8)) (some (.t 25)) none),qC 27 95 [(.t 26)],qM 6 27] none [0,5,6]) (.seq (.seq (.region [qM 28 0,qX 29 (.slSl 1 (.t 28) (some (qi 4)) none none),qC 30 94 [(.t 29)],qM 31 0,qX 32 (.slSl 1 (.t 31) none (some (qi 4)) (some (qi 4))),qM 33 6,qX 34 (.app 1 1 (.t 32) (.t 33)),qC 35 78 [(.t 34)],qB 36 .neq (.t 30) (.t 35)] (some [0,1,3,0,8,0,63,127,255]) [5,6,36]) (.seq (.cond (.t 36) (.seq (.region [qV 2 ql,qV 3 (qi 0),qV 4 (qi 13)] none [2,3,4]) .ret) .skip) (qR [5,6]))) (.seq (.region [qM 37 6,qM 38 5,qX 39 (.cvt .i64 (.t 38)),qB 40 .add (qi 8) (.t 39),qM 2 37,qM 3 40,qV 4 (qi 0)] none [2,3,4]) .ret))))))),[(2,none),(3,none),(4,none)],false⟩
def ir46:IRF:=⟨[0],(.seq (.region [qV 2 qp] none [0]) (.seq (.region [qM 3 0,qC 4 95 [(.t 3)],qX 5 (.build [zs,zi] [(0,1,(.t 4))]),qX 6 (.box false (.t 5)),qM 2 6] none [2]) .ret)),[(2,none)],true⟩
def ir47:IRF:=⟨[0],(.seq (.region [qX 2 (.alloc false [zi,zi,zi,zu,zi,zf,zu,zp,zs,zu,zi,zi,zf,zp,zu])] none [0,2]) (.seq (.region [qM 8 0,qC 9 96 [(.t 8)],qX 10 (.cvt .i64 (.t 9)),qM 11 0,qC 12 96 [(.t 11)],qX 13 (.cvt .i64 (.t 12)),qM 14 0,qC 15 96 [(.t 14)],qX 16 (.cvt .i64 (.t 15)),qX 17 (.build [zi,zi,zi,zu,zi,zf,zu,zp,zs,zu,zi,zi,zf,zp,zu] [(0,1,(.t 10)),(1,1,(.t 13)),(2,1,(.t 16))]),qX 3 (.alloc false [zi,zi,zi,zu,zi,zf,zu,zp,zs,zu,zi,zi,zf,zp,zu]),qS 15 3 17] none [0,2,3]) (.seq (.region [qF 18 0 3,qL 19 1 18,qC 20 25 [(.t 19)],qM 4 20] none [0,2,3,4]) (.seq (.seq (.region [qM 21 4,qB 22 .lss (.t 21) (qi 0)] none [0,2,3,4,22]) (.seq (.cond (.t 22) (.seq (.region [qM 23 0,qC 24 97 [(.t 23),(qi 6)]] none [2,3]) (.seq (.region [qT 25 15 3,qS 15 2 25] none [2]) .ret)) .skip) (qR [0,2,3,4]))) (.seq (.seq (.region [qM 26 4,qB 27 .and (.t 26) (qi 1),qB 28 .gtr (.t 27) (qi 0)] none [0,2,3,4,28]) (.seq (.cond (.t 28) (.region [qM 29 0,qC 30 98 [(.t 29)],qF 31 3 3,qS 1 31 30] none [0,2,3,4]) .skip) (qR [0,2,3,4]))) (.seq (.seq (.region [qM 32 4,qB 33 .and (.t 32) (qi 2),qB 34 .gtr (.t 33) (qi 0)] none [0,2,3,4,34]) (.seq (.cond (.t 34) (.region [qM 35 0,qC 36 96 [(.t 35)],qX 37 (.cvt .i64 (.t 36)),qF 38 4 3,qS 1 38 37] none [0,2,3,4]) .skip) (qR [0,2,3,4]))) (.seq (.seq (.region [qM 39 4,qB 40 .and (.t 39) (qi 16),qB 41 .gtr (.t 40) (qi 0)] none [0,2,3,4,41]) (.seq (.cond (.t 41) (.seq (.region [qM 42 0,qC 43 96 [(.t 42)],qM 5 43] none [0,2,3,4,5]) (.seq (.seq (.region [qM 44 5,qB 45 .gtr (.t 44) (.c (.p (.s (.int .u8 1))))] none [0,2,3,4,5,45]) (.seq (.cond (.t 45) (.region [qM 46 0,qC 47 97 [(.t 46),(qi 6)]] none [0,2,3,4,5]) .skip) (qR [0,2,3,4,5]))) (.region [qM 48 5,qB 49 .eql (.t 48) (.c (.p (.s (.int .u8 1)))),qF 50 5 3,qS 1 50 49] none [0,2,3,4]))) .skip) (qR [0,2,3,4]))) (.seq (.seq (.region [qM 51 4,qB 52 .and (.t 51) (qi 32),qB 53 .gtr (.t 52) (qi 0)] none [0,2,3,4,53]) (.seq (.cond (.t 53) (.region [qM 54 0,qC 55 99 [(.t 54)],qF 56 9 3,qS 5 56 55] none [0,2,3,4]) .skip) (qR [0,2,3,4]))) (.seq (.seq (.region [qM 57 4,qB 58 .and (.t 57) (qi 8),qB 59 .gtr (.t 58) (qi 0)] none [0,2,3,4,59]) (.seq (.cond (.t 59) (.seq (.seq (.region [qM 61 0,qC 62 101 [(.t 61),(qi 1048576)],qX 63 (.s2b true (.t 62)),qC 64 100 [(.t 63)],qM 60 64,qE 65 60 0,qE 66 60 1,qX 6 (.alloc false [zu,zp]),qS 2 6 65,qM 7 66] none [0,2,3,4,6,7]) (.tidy [0,2,3,4,7] [6])) (.seq (.region [qM 67 0,qM 68 7,qC 69 97 [(.t 67),(.t 68)]] none [0,2,3,4,6]) (.region [qT 70 2 6,qF 71 6 3,qS 2 71 70] none [0,2,3,4]))) .skip) (qR [0,2,3,4]))) (.seq (.seq (.region [qM 72 4,qB 73 .and (.t 72) (qi 4),qB 74 .gtr (.t 73) (qi 0)] none [0,2,3,4,74]) (.seq (.cond (.t 74) (.region [qM 75 0,qC 76 102 [(.t 75)],qF 77 8 3,qS 1 77 76] none [0,2,3,4]) .skip) (qR [0,2,3,4]))) (.seq (.seq (.region [qM 78 4,qB 79 .and (.t 78) (qi 64),qB 80 .gtr (.t 79) (qi 0)] none [0,2,3,80]) (.seq (.cond (.t 80) (.region [qM 81 0,qC 82 98 [(.t 81)],qF 83 14 3,qS 1 83 82] none [2,3]) .skip) (qR [2,3]))) (.seq (.region [qT 84 15 3,qS 15 2 84] none [2]) .ret)))))))))))),[(2,some (15,true))],false⟩
def ir48:IRF:=⟨[0],(.seq (.region [qV 2 (qi 0)] none [0]) (.seq (.seq (.region [qM 3 0,qC 4 103 [(.t 3)],qB 5 .gtr (.t 4) (qi 0)] none [0,5]) (.seq (.cond (.t 5) (.region [qM 6 0,qC 7 97 [(.t 6),(qi 6)]] none [0]) .skip) (qR [0]))) (.seq (.region [qM 8 0,qC 9 104 [(.t 8)],qM 2 9] none [2]) .ret))),[(2,none)],false⟩
def ir57:IRF:=⟨[0],(.seq (.region [qV 2 ql] none [0]) (.seq (.region [qM 3 0,qX 4 (.cvt .u8 (.t 3)),qM 5 0,qB 6 .quo (.t 5) (.c (.p (.s (.int .u32 256)))),qX 7 (.cvt .u8 (.t 6)),qM 8 0,qB 9 .quo (.t 8) (.c (.p (.s (.int .u32 65536)))),qX 10 (.cvt .u8 (.t 9)),qM 11 0,qB 12 .quo (.t 11) (.c (.p (.s (.int .u32 16777216)))),qX 13 (.cvt .u8 (.t 12)),qX 14 (.mkSl false 4 1 [(.s (.int .u8 0)),(.s (.int .u8 0)),(.s (.int .u8 0)),(.s (.int .u8 0))] [(0,1,(.t 4)),(1,1,(.t 7)),(2,1,(.t 10)),(3,1,(.t 13))]),qM 2 14] none [2]) .ret)),[(2,none)],false⟩
def ir58_0:IRC:=(.seq (.seq (.region [qM 14 6,qB 15 .lss (.t 14) (qi 8)] none [3,5,6,8,9,10,15]) (.cond (.t 15) .skip (.exit 2))) (.seq (.block 3 (.seq (.region [qM 18 3,qB 19 .rem (.t 18) (.c (.p (.s (.int .u32 2)))),qM 20 5,qB 21 .rem (.t 20) (.c (.p (.s (.int .u8 2)))),qX 22 (.cvt .u32 (.t 21)),qB 23 .neq (.t 19) (.t 22),qM 7 23] none [3,5,6,7,8,9,10]) (.seq (.region [qM 24 3,qB 25 .quo (.t 24) (.c (.p (.s (.int .u32 2)))),qM 3 25] none [3,5,6,7,8,9,10]) (.seq (.region [qM 26 5,qB 27 .quo (.t 26) (.c (.p (.s (.int .u8 2)))),qM 5 27] none [3,5,6,7,8,9,10]) (.seq (.region [qM 28 7] none [3,5,6,8,9,10,28]) (.cond (.t 28) (.region [qM 29 3,qB 30 .xor (.t 29) (.c (.p (.s (.int .u32 3988292384)))),qM 3 30] none [3,5,6,8,9,10]) .skip)))))) (.region [qM 16 6,qB 17 .add (.t 16) (qi 1),qM 6 17] none [3,5,6,8,9,10])))
def ir58_1:IRC:=(.seq (.region [qB 11 .lss (.t 10) (.t 9)] none [3,8,9,10,11]) (.seq (.cond (.t 11) .skip (.exit 0)) (.seq (.block 1 (.seq (.region [qX 12 (.idxASl 1 (.t 8) (.t 10)),qL 13 1 12,qM 5 13] none [3,5,8,9,10]) (.seq (.region [qV 6 (qi 0)] none [3,5,6,8,9,10]) (.block 2 (.loop ir58_0))))) (.region [qB 31 .add (.t 10) (qi 1),qM 10 31] none [3,8,9,10]))))
def ir58:IRF:=⟨[0],(.seq (.region [qV 2 (.c (.p (.s (.int .u32 0))))] none [0]) (.seq (.region [qV 3 (.c (.p (.s (.int .u32 4294967295))))] none [0,3]) (.seq (.seq (.region [qM 8 0,qX 9 (.len false (.t 8)),qV 10 (qi 0)] none [3,8,9,10]) (.block 0 (.loop ir58_1))) (.seq (.region [qM 32 3,qB 33 .sub (.c (.p (.s (.int .u32 4294967295)))) (.t 32),qM 2 33] none [2]) .ret)))),[(2,none)],false⟩
def ir59:IRF:=⟨[0],(.seq (.region [qV 2 qp] none [0]) (.seq (.region [qM 3 0,qX 4 (.build [zu,zp,zp] [(0,1,(.t 3))]),qX 5 (.box true (.t 4)),qM 2 5] none [2]) .ret)),[(2,none)],false⟩
def ir60:IRF:=⟨[],(.seq (.region [qV 0 qp] none []) (.seq (.region [qX 1 (.build [zi,zp,zp] []),qX 2 (.box true (.t 1)),qM 0 2] none [0]) .ret)),[(0,none)],false⟩
def ir61:IRF:=⟨[0,1,2],(.seq (.region [qV 6 qp] none [0,1,2]) (.seq (.seq (.region [qM 8 1,qN 9 8,qF 10 1 9,qL 11 1 10,qX 12 (.eq false .ptr (.t 11) qp),qM 13 12,qM 14 2 (qy 13),qN 15 14 (qy 13),qF 16 1 15 (qy 13),qL 17 1 16 (qy 13),qX 18 (.eq false .ptr (.t 17) qp) (qy 13),qA 19 13 18,qM 20 19,qM 21 1 (qy 20),qN 22 21 (qy 20),qF 23 0 22 (qy 20),qL 24 1 23 (qy 20),qM 25 2 (qy 20),qN 26 25 (qy 20),qF 27 0 26 (qy 20),qL 28 1 27 (qy 20),qB 29 .eql (.t 24) (.t 28) (qy 20),qA 30 20 29] (some [0,1,3,7,15,31,63,127,255,511,1023,2047,4095,8191,16383,32767,65535,8191,139263,401407,925695,2097151,4194303]) [0,1,2,30]) (.cond (.t 30) (.seq (.region [qM 31 0,qM 32 1,qN 33 32,qF 34 0 33,qL 35 1 34,qB 36 .add (.t 31) (.t 35),qC 37 59 [(.t 36)],qM 6 37] none [6]) .ret) .skip)) (.seq (.region [qM 38 1,qC 39 114 [(.t 38)],qM 7 39] none [0,1,2,7]) (.seq (.seq (.region [qM 40 2,qC 41 114 [(.t 40)],qM 42 7,qB 43 .lss (.t 41) (.t 42)] none [0,1,2,7,43]) (.cond (.t 43) (.region [qM 44 2,qC 45 114 [(.t 44)],qM 7 45] none [0,1,2,7]) .skip)) (.seq (.region [qM 46 0,qM 47 7,qB 48 .add (.t 46) (.t 47),qM 49 1,qN 50 49,qF 51 0 50,qL 52 1 51,qM 53 7,qB 54 .sub (.t 52) (.t 53),qM 55 1,qN 56 55,qF 57 1 56,qL 58 1 57,qM 59 1,qN 60 59,qF 61 2 60,qL 62 1 61,qX 63 (.build [zu,zp,zp] [(0,1,(.t 54)),(1,1,(.t 58)),(2,1,(.t 62))]),qX 64 (.box true (.t 63)),qM 65 2,qN 66 65,qF 67 0 66,qL 68 1 67,qM 69 7,qB 70 .sub (.t 68) (.t 69),qM 71 2,qN 72 71,qF 73 1 72,qL 74 1 73,qM 75 2,qN 76 75,qF 77 2 76,qL 78 1 77,qX 79 (.build [zu,zp,zp] [(0,1,(.t 70)),(1,1,(.t 74)),(2,1,(.t 78))]),qX 80 (.box true (.t 79)),qX 81 (.build [zu,zp,zp] [(0,1,(.t 48)),(1,1,(.t 64)),(2,1,(.t 80))]),qX 82 (.box true (.t 81)),qM 6 82] (some [0,0,3,0,8,24,56,0,248,0,512,1536,3584,0,8192,24576,57344,131064,262136,0,524288,1572864,3670016,0,16252928,0,33554432,100663296,234881024,0,536870912,1610612736,3758096384,8589410304,17179344896,34359738367,68719476735,137438953471]) [6]) .ret))))),[(6,none)],false⟩
def ir62:IRF:=⟨[0],(.seq (.region [qX 2 (.alloc false [zu,zp]),qV 3 (qi 0)] none [0,2]) (.seq (.seq (.region [qM 4 0,qB 5 .gtr (.t 4) (qu 1048576)] none [0,2,5]) (.cond (.t 5) (.seq (.region [qX 6 (.build [zu,zp] []),qS 2 2 6,qV 3 (qi 4)] none [2,3]) .ret) .skip)) (.seq (.region [qM 7 0,qX 8 (.build [zu,zp] [(0,1,(.t 7))]),qS 2 2 8,qV 3 (qi 0)] none [2,3]) .ret))),[(2,some (2,true)),(3,none)],false⟩
def ir63:IRF:=⟨[0,1,2],(.seq (.region [qX 4 (.box false (.t 1)),qX 5 (.box false (.t 2)),qX 6 (.alloc false [zu,zp]),qV 7 (qi 0)] none [0,4,5,6]) (.seq (.region [qM 10 0,qX 11 (.minmax false [(.t 10),(qu 2097152)]),qT 12 2 4,qT 13 2 5,qC 14 115 [(.t 11),(.t 12),(.t 13)],qX 8 (.alloc false [zu,zp]),qS 2 8 14] none [6,8]) (.seq (.seq (.region [qT 15 2 8,qC 16 116 [(.t 15)],qM 9 16] none [6,8,9]) (.seq (.region [qM 17 9,qB 18 .neq (.t 17) (qi 0)] none [6,8,9,18]) (.cond (.t 18) (.seq (.region [qX 19 (.build [zu,zp] []),qM 20 9,qS 2 6 19,qM 7 20] none [6,7]) .ret) .skip))) (.seq (.region [qT 21 2 8,qS 2 6 21,qV 7 (qi 0)] none [6,7]) .ret)))),[(6,some (2,true)),(7,none)],false⟩
def ir64:IRF:=⟨[0,1],(.seq (.region [qV 4 qp] none [0,1]) (.seq (.seq (.region [qM 5 0,qN 6 5,qF 7 0 6,qL 8 1 7,qM 9 1,qN 10 9,qF 11 0 10,qL 12 1 11,qB 13 .eql (.t 8) (.t 12),qM 14 13,qM 15 0 (qy 14),qN 16 15 (qy 14),qF 17 0 16 (qy 14),qL 18 1 17 (qy 14),qB 19 .lss (.t 18) (qi 2) (qy 14),qA 20 14 19] (some [0,1,3,7,0,16,48,112,255,511,1023,2047,4095,8191,16383,32767]) [0,1,20]) (.cond (.t 20) (.seq (.region [qM 21 0,qM 4 21] none [4]) .ret) .skip)) (.seq (.region [qM 22 0,qM 23 1,qX 24 (.build [zi,zp,zp] [(0,1,(qi 2)),(1,1,(.t 22)),(2,1,(.t 23))]),qX 25 (.box true (.t 24)),qM 4 25] none [4]) .ret))),[(4,none)],false⟩
def ir65:IRF:=⟨[],(.seq (.region [qX 0 (.alloc false [zf,zp])] none [0]) (.seq (.region [qX 1 (.build [zf,zp] []),qS 2 0 1] none [0]) .ret)),[(0,some (2,true))],false⟩
def ir66:IRF:=⟨[],(.seq (.region [qX 0 (.alloc false [zf,zp])] none [0]) (.seq (.region [qX 1 (.build [zf,zp] [(0,1,qt)]),qS 2 0 1] none [0]) .ret)),[(0,some (2,true))],false⟩
def ir67:IRF:=⟨[0,1],(.seq (.region [qX 2 (.box false (.t 0)),qX 3 (.box false (.t 1)),qX 4 (.alloc false [zf,zp]),qV 5 (qi 0)] none [2,3,4]) (.seq (.region [qT 7 2 2,qT 8 2 3,qC 9 117 [(.t 7),(.t 8)],qX 6 (.alloc false [zf,zp]),qS 2 6 9] none [4,6]) (.seq (.seq (.region [qT 10 2 6,qC 11 118 [(.t 10)],qB 12 .gtr (.t 11) (qi 16)] none [4,6,12]) (.cond (.t 12) (.seq (.region [qC 13 65 [],qS 2 4 13,qV 5 (qi 3)] none [4,5]) .ret) .skip)) (.seq (.region [qT 14 2 6,qS 2 4 14,qV 5 (qi 0)] none [4,5]) .ret)))),[(4,some (2,true)),(5,none)],false⟩
def ir68:IRF:=⟨[0],(.seq (.region [qX 1 (.box true (.t 0)),qV 2 (qi 0)] none [1]) (.seq (.seq (.region [qF 5 0 1,qL 6 1 5,qB 7 .lss (.t 6) (qi 1),qM 8 7,qF 9 0 1 (qn 8),qL 10 1 9 (qn 8),qB 11 .gtr (.t 10) (qi 6) (qn 8),qO 12 8 11] none [1,12]) (.seq (.cond (.t 12) (.seq (.region [qV 2 (qi 1)] none [2]) .ret) .skip) (qR [1]))) (.seq (.seq (.region [qF 13 1 1,qL 14 1 13,qC 15 119 [(.t 14),(qi 12)],qM 3 15] none [1,3]) (.seq (.region [qM 16 3,qB 17 .neq (.t 16) (qi 0)] none [1,3,17]) (.seq (.cond (.t 17) (.seq (.region [qM 18 3,qM 2 18] none [2]) .ret) .skip) (qR [1])))) (.seq (.seq (.region [qF 19 2 1,qL 20 1 19,qC 21 119 [(.t 20),(qi 40)],qM 4 21] none [1,4]) (.seq (.region [qM 22 4,qB 23 .neq (.t 22) (qi 0)] none [1,4,23]) (.seq (.cond (.t 23) (.seq (.region [qM 24 4,qM 2 24] none [2]) .ret) .skip) (qR [1])))) (.seq (.seq (.regq true [qF 25 2 1,qL 26 1 25,qB 27 .eql (.t 26) (.c (.p zE0)),qM 28 27,qF 29 2 1 (qn 28),qL 30 1 29 (qn 28),qC 31 120 [(.t 30)] (qn 28),qF 32 2 1 (qn 28),qL 33 1 32 (qn 28),qB 34 .neq (.t 31) (.t 33) (qn 28),qO 35 28 34,qM 36 35,qF 37 0 1 (qn 36),qL 38 1 37 (qn 36),qB 39 .eql (.t 38) (qi 2) (qn 36),qM 40 39 (qn 36),qF 41 2 1 (qy 40),qL 42 1 41 (qy 40),qC 43 121 [(.t 42)] (qy 40),qX 44 (.un .not (.t 43)) (qy 40),qA 45 40 44 (qn 36),qO 46 36 45,qM 47 46,qF 48 0 1 (qn 47),qL 49 1 48 (qn 47),qB 50 .eql (.t 49) (qi 3) (qn 47),qM 51 50 (qn 47),qF 52 2 1 (qy 51),qL 53 1 52 (qy 51),qC 54 122 [(.t 53)] (qy 51),qX 55 (.un .not (.t 54)) (qy 51),qA 56 51 55 (qn 47),qO 57 47 56] [57]) (.seq (.cond (.t 57) (.seq (.region [qV 2 (qi 7)] none [2]) .ret) .skip) (qR []))) (.seq (.region [qV 2 (qi 0)] none [2]) .ret)))))),[(2,none)],false⟩
def ir69:IRF:=⟨[0],(.seq (.region [qX 1 (.box true (.t 0)),qV 2 (qi 0)] none [1]) (.seq (.seq (.region [qF 5 0 1,qL 6 1 5,qC 7 123 [(.t 6)],qB 8 .eql (.t 7) (.c (.p zE0))] none [1,8]) (.seq (.cond (.t 8) (.seq (.region [qV 2 (qi 1)] none [2]) .ret) .skip) (qR [1]))) (.seq (.seq (.region [qF 9 1 1,qL 10 1 9,qC 11 124 [(.t 10),(qi 12)],qM 3 11] none [1,3]) (.seq (.region [qM 12 3,qB 13 .neq (.t 12) (qi 0)] none [1,3,13]) (.seq (.cond (.t 13) (.seq (.region [qM 14 3,qM 2 14] none [2]) .ret) .skip) (qR [1])))) (.seq (.seq (.region [qF 15 2 1,qL 16 1 15,qC 17 124 [(.t 16),(qi 40)],qM 4 17] none [1,4]) (.seq (.region [qM 18 4,qB 19 .neq (.t 18) (qi 0)] none [1,4,19]) (.seq (.cond (.t 19) (.seq (.region [qM 20 4,qM 2 20] none [2]) .ret) .skip) (qR [1])))) (.seq (.block 0 (.seq (.seq (.region [qF 22 2 1,qL 23 1 22,qB 24 .eql (.t 23) (.c (.p zE0)),qM 21 24] none [1,21]) (.seq (.cond (.t 21) .skip (.seq (.regq true [qF 25 2 1,qL 26 1 25,qC 27 125 [(.t 26)],qF 28 2 1,qL 29 1 28,qB 30 .neq (.t 27) (.t 29),qM 21 30] [1,21]) (.seq (.cond (.t 21) .skip (.seq (.region [qF 31 0 1,qL 32 1 31,qB 33 .eql (.t 32) (qi 2),qM 34 33,qF 35 2 1 (qy 34),qL 36 1 35 (qy 34),qC 37 126 [(.t 36)] (qy 34),qX 38 (.un .not (.t 37)) (qy 34),qA 39 34 38,qM 21 39] none [1,21]) (.seq (.cond (.t 21) .skip (.region [qF 40 0 1,qL 41 1 40,qB 42 .eql (.t 41) (qi 3),qM 43 42,qF 44 2 1 (qy 43),qL 45 1 44 (qy 43),qC 46 127 [(.t 45)] (qy 43),qX 47 (.un .not (.t 46)) (qy 43),qA 48 43 47,qM 21 48] none [21])) (qR [21])))) (qR [21])))) (qR [21]))) (.seq (.cond (.t 21) (.seq (.region [qV 2 (qi 7)] none [2]) .ret) .skip) (qR [])))) (.seq (.region [qV 2 (qi 0)] none [2]) .ret)))))),[(2,none)],false⟩
def ir70:IRF:=⟨[0],(.seq (.region [qX 2 (.alloc false [zs])] none [0,2]) (.seq (.region [qM 3 0,qC 4 128 [(.t 3)],qM 0 4] none [0,2]) (.seq (.region [qM 5 0,qC 6 129 [(.t 5),(.c (.fn 130 [] []))]] none [0,2]) (.seq (.region [qM 7 0,qC 8 131 [(.t 7)],qX 9 (.build [zs] [(0,1,(.t 8))]),qS 1 2 9] none [2]) .ret)))),[(2,some (1,true))],false⟩
def ir71:IRF:=⟨[0],(.seq (.region [qX 1 (.box false (.t 0)),qV 2 (qi 0)] none [1]) (.seq (.region [qF 3 0 1,qL 4 1 3,qX 5 (.len false (.t 4)),qM 2 5] none [2]) .ret)),[(2,none)],false⟩
def ir72:IRF:=⟨[0],(.seq (.region [qX 1 (.box false (.t 0)),qV 2 ql] none [1]) (.seq (.region [qC 4 73 [],qM 3 4] none [1,3]) (.seq (.region [qM 5 3,qT 6 2 1,qC 7 132 [(.t 5),(.t 6)]] none [3]) (.seq (.region [qM 8 3,qC 9 75 [(.t 8)],qM 2 9] none [2]) .ret)))),[(2,none)],false⟩
def ir73:IRF:=⟨[],(.seq (.region [qV 0 qp] none []) (.seq (.region [qX 1 (.build [zs,zi] []),qX 2 (.box false (.t 1)),qM 0 2] none [0]) .ret)),[(0,none)],true⟩
def ir74_0:IRC:=(.seq (.region [qB 78 .lss (.t 77) (.t 76)] none [0,75,76,77,78]) (.seq (.cond (.t 78) .skip (.exit 1)) (.seq (.block 2 (.seq (.region [qX 79 (.idxASl 2 (.t 75) (.t 77)),qT 80 2 79,qX 7 (.alloc false [zu,zp]),qS 2 7 80] none [0,7,75,76,77]) (.seq (.region [qT 81 2 7,qC 82 139 [(.t 81)],qX 83 (.un .not (.t 82))] none [0,7,75,76,77,83]) (.cond (.t 83) (.region [qM 84 0,qT 85 2 7,qC 86 74 [(.t 84),(.t 85)]] none [0,75,76,77]) .skip)))) (.region [qB 87 .add (.t 77) (qi 1),qM 77 87] none [0,75,76,77]))))
def ir74:IRF:=⟨[0,1],(.seq (.region [qX 3 (.box false (.t 1))] none [0,3]) (.seq (.region [qT 8 2 3,qC 9 133 [(.t 8)],qT 10 2 3,qC 11 134 [(.t 10)],qX 4 (.alloc false [zu,zp]),qX 5 (.alloc false [zu,zp]),qS 2 4 9,qS 2 5 11] (some [0,1,0,7,0,0,63,127]) [0,3,4,5]) (.seq (.seq (.region [qT 12 2 3,qC 13 135 [(.t 12)]] none [0,3,4,5,13]) (.cond (.t 13) (.seq (.region [qM 14 0,qC 15 136 [(.t 14),(qu 1),(qi 1)]] none [0,3]) (.seq (.region [qM 16 0,qT 17 2 3,qC 18 138 [(.t 17)],qC 19 137 [(.t 16),(.t 18)]] none []) .ret)) .skip)) (.seq (.region [qM 20 0,qC 21 136 [(.t 20),(qu 0),(qi 1)]] none [0,3,4,5]) (.seq (.block 0 (.seq (.region [qT 27 2 3,qC 28 138 [(.t 27)],qB 29 .eql (.t 28) (qu 0),qM 30 29,qT 31 2 4 (qy 30),qC 32 139 [(.t 31)] (qy 30),qA 33 30 32,qM 26 33] none [0,3,4,5,26]) (.cond (.t 26) (.region [qM 34 0,qC 35 136 [(.t 34),(qu 0),(qi 2)]] none [0,3,4,5]) (.seq (.region [qT 37 2 3,qC 38 138 [(.t 37)],qB 39 .eql (.t 38) (qu 0),qM 40 39,qT 41 2 5 (qy 40),qC 42 139 [(.t 41)] (qy 40),qA 43 40 42,qM 36 43] none [0,3,4,5,36]) (.cond (.t 36) (.region [qM 44 0,qC 45 136 [(.t 44),(qu 1),(qi 2)]] none [0,3,4,5]) (.seq (.region [qT 47 2 3,qC 48 138 [(.t 47)],qB 49 .eql (.t 48) (qu 0),qM 46 49] none [0,3,4,5,46]) (.cond (.t 46) (.region [qM 50 0,qC 51 136 [(.t 50),(qu 2),(qi 2)]] none [0,3,4,5]) (.seq (.region [qT 53 2 4,qC 54 139 [(.t 53)],qM 52 54] none [0,3,4,5,52]) (.cond (.t 52) (.seq (.region [qM 55 0,qC 56 136 [(.t 55),(qu 3),(qi 2)]] none [0,3,4,5]) (.region [qM 57 0,qC 58 136 [(.t 57),(qu 0),(qi 2)]] none [0,3,4,5])) (.seq (.region [qT 60 2 5,qC 61 139 [(.t 60)],qM 59 61] none [0,3,4,5,59]) (.cond (.t 59) (.seq (.region [qM 62 0,qC 63 136 [(.t 62),(qu 3),(qi 2)]] none [0,3,4,5]) (.region [qM 64 0,qC 65 136 [(.t 64),(qu 1),(qi 2)]] none [0,3,4,5])) (.seq (.region [qM 22 0,qC 23 136 [(.t 22),(qu 3),(qi 2)]] none [0,3,4,5]) (.region [qM 24 0,qC 25 136 [(.t 24),(qu 1),(qi 1)]] none [0,3,4,5]))))))))))))) (.seq (.seq (.region [qT 66 2 3,qC 67 138 [(.t 66)],qB 68 .gtr (.t 67) (qu 0)] none [0,3,4,5,68]) (.cond (.t 68) (.region [qM 69 0,qT 70 2 3,qC 71 138 [(.t 70)],qC 72 137 [(.t 69),(.t 71)]] none [0,4,5]) .skip)) (.seq (.region [qT 73 2 4,qT 74 2 5,qX 75 (.mkSl false 2 2 [zu,zp,zu,zp] [(0,2,(.t 73)),(2,2,(.t 74))]),qX 76 (.len false (.t 75)),qV 77 (qi 0)] none [0,75,76,77]) (.block 1 (.loop ir74_0))))))))),[],false⟩
def ir75:IRF:=⟨[0],(.seq (.region [qV 2 ql] none [0]) (.seq (.seq (.region [qM 3 0,qX 4 (.eq false .ptr (.t 3) qp)] none [0,4]) (.cond (.t 4) (.seq (.region [qV 2 ql] none [2]) .ret) .skip)) (.seq (.region [qM 5 0,qN 6 5,qF 7 0 6,qL 8 1 7,qC 9 95 [(.t 8)],qM 2 9] none [2]) .ret))),[(2,none)],false⟩
def ir76:IRF:=⟨[0],(.seq (.region [qX 1 (.box false (.t 0)),qV 2 ql] none [1]) (.seq (.region [qF 4 0 1,qT 5 2 4,qC 6 29 [(.t 5)],qX 7 (.b2s (.t 6)),qC 8 28 [ql,(.t 7)],qM 3 8] none [1,3]) (.seq (.seq (.region [qF 9 3 1,qL 10 1 9] none [1,3,10]) (.cond (.t 10) (.seq (.region [qM 11 3,qX 12 (.mkSl false 1 1 [(.s (.int .u8 0))] [(0,1,(.c (.p (.s (.int .u8 1)))))]),qX 13 (.app 1 1 (.t 11) (.t 12)),qM 2 13] none [2]) .ret) .skip)) (.seq (.region [qM 14 3,qX 15 (.mkSl false 1 1 [(.s (.int .u8 0))] [(0,1,(.c (.p (.s (.int .u8 0)))))]),qX 16 (.app 1 1 (.t 14) (.t 15)),qF 17 2 1,qT 18 1 17,qC 19 140 [(.t 16),(.t 18)],qM 2 19] (some [0,0,3,0,8,31,63]) [2]) .ret)))),[(2,none)],false⟩
def ir77_0:IRC:=(.seq (.region [qB 7 .lss (.t 6) (qi 4)] none [0,1,6,7]) (.seq (.cond (.t 7) .skip (.exit 0)) (.seq (.block 1 (.seq (.region [qM 8 6,qM 5 8] none [0,1,5,6]) (.region [qM 9 0,qM 10 1,qM 11 5,qB 12 .mul (qi 8) (.t 11),qB 13 .shr (.t 10) (.t 12),qX 14 (.cvt .u8 (.t 13)),qX 15 (.mkSl false 1 1 [(.s (.int .u8 0))] [(0,1,(.t 14))]),qX 16 (.app 1 1 (.t 9) (.t 15)),qM 0 16] none [0,1,6]))) (.region [qB 17 .add (.t 6) (qi 1),qM 6 17] none [0,1,6]))))
def ir77:IRF:=⟨[0,1],(.seq (.region [qV 4 ql] none [0,1]) (.seq (.seq (.region [qV 6 (qi 0)] none [0,1,6]) (.block 0 (.loop ir77_0))) (.seq (.region [qM 18 0,qM 4 18] none [4]) .ret))),[(4,none)],true⟩
def ir78_0:IRC:=(.seq (.region [qB 17 .lss (.t 16) (qi 8)] none [3,6,7,8,16,17]) (.seq (.cond (.t 17) .skip (.exit 2)) (.seq (.block 3 (.seq (.region [qM 18 3,qB 19 .and (.t 18) (.c (.p (.s (.int .u32 1)))),qB 20 .eql (.t 19) (.c (.p (.s (.int .u32 1))))] none [3,6,7,8,16,20]) (.cond (.t 20) (.region [qM 21 3,qB 22 .shr (.t 21) (qu 1),qB 23 .xor (.t 22) (.c (.p (.s (.int .u32 3988292384)))),qM 3 23] none [3,6,7,8,16]) (.region [qM 24 3,qB 25 .shr (.t 24) (qu 1),qM 3 25] none [3,6,7,8,16])))) (.region [qB 26 .add (.t 16) (qi 1),qM 16 26] none [3,6,7,8,16]))))
def ir78_1:IRC:=(.seq (.region [qB 9 .lss (.t 8) (.t 7)] none [3,6,7,8,9]) (.seq (.cond (.t 9) .skip (.exit 0)) (.seq (.block 1 (.seq (.region [qX 10 (.idxASl 1 (.t 6) (.t 8)),qL 11 1 10,qM 5 11] none [3,5,6,7,8]) (.seq (.region [qM 12 3,qM 13 5,qX 14 (.cvt .u32 (.t 13)),qB 15 .xor (.t 12) (.t 14),qM 3 15] none [3,6,7,8]) (.seq (.region [qV 16 (qi 0)] none [3,6,7,8,16]) (.block 2 (.loop ir78_0)))))) (.region [qB 27 .add (.t 8) (qi 1),qM 8 27] none [3,6,7,8]))))
def ir78:IRF:=⟨[0],(.seq (.region [qV 2 (.c (.p (.s (.int .u32 0))))] none [0]) (.seq (.region [qV 3 (.c (.p (.s (.int .u32 4294967295))))] none [0,3]) (.seq (.seq (.region [qM 6 0,qX 7 (.len false (.t 6)),qV 8 (qi 0)] none [3,6,7,8]) (.block 0 (.loop ir78_1))) (.seq (.region [qM 28 3,qX 29 (.un .xor (.t 28)),qM 2 29] none [2]) .ret)))),[(2,none)],false⟩
def ir79_0:IRC:=(.seq (.seq (.region [qM 6 5,qB 7 .lss (.t 6) (qi 64),qM 8 7,qM 9 1 (qy 8),qM 10 5 (qy 8),qC 11 141 [(.t 10)] (qy 8),qB 12 .geq (.t 9) (.t 11) (qy 8),qA 13 8 12] none [0,1,5,13]) (.cond (.t 13) .skip (.exit 0))) (.block 1 (.seq (.region [qM 14 0,qC 15 80 [(.t 14),(qu 1),(qi 1)],qM 0 15] none [0,1,5]) (.seq (.region [qM 16 1,qM 17 5,qC 18 141 [(.t 17)],qB 19 .sub (.t 16) (.t 18),qM 1 19] none [0,1,5]) (.region [qM 20 5,qB 21 .add (.t 20) (qi 1),qM 5 21] none [0,1,5])))))
def ir79:IRF:=⟨[0,1],(.seq (.region [qV 4 ql] none [0,1]) (.seq (.region [qV 5 (qi 2)] none [0,1,5]) (.seq (.block 0 (.loop ir79_0)) (.seq (.region [qM 22 0,qC 23 80 [(.t 22),(qu 0),(qi 1)],qM 24 1,qM 25 5,qC 26 80 [(.t 23),(.t 24),(.t 25)],qM 4 26] none [4]) .ret)))),[(4,none)],false⟩
def ir80_0:IRC:=(.seq (.seq (.region [qM 9 8,qM 10 2,qC 11 142 [(.t 10)],qB 12 .lss (.t 9) (.t 11)] none [0,1,2,7,8,12]) (.cond (.t 12) .skip (.exit 0))) (.seq (.block 1 (.seq (.region [qM 15 1,qB 16 .rem (.t 15) (qu 2),qB 17 .eql (.t 16) (qu 1),qX 18 (.mkSl false 1 1 [zf] [(0,1,(.t 17))]),qM 19 7,qX 20 (.app 1 1 (.t 18) (.t 19)),qM 7 20] none [0,1,2,7,8]) (.region [qM 21 1,qB 22 .quo (.t 21) (qu 2),qM 1 22] none [0,1,2,7,8]))) (.region [qM 13 8,qB 14 .add (.t 13) (qi 1),qM 8 14] none [0,1,2,7,8])))
def ir80:IRF:=⟨[0,1,2],(.seq (.region [qV 6 ql] none [0,1,2]) (.seq (.region [qV 7 ql] none [0,1,2,7]) (.seq (.seq (.region [qV 8 (qi 0)] none [0,1,2,7,8]) (.block 0 (.loop ir80_0))) (.seq (.region [qX 23 (.mkSl false 0 1 [] []),qM 24 0,qX 25 (.app 1 1 (.t 23) (.t 24)),qM 26 7,qX 27 (.app 1 1 (.t 25) (.t 26)),qM 6 27] none [6]) .ret)))),[(6,none)],false⟩
def ir81:IRF:=⟨[0],(.seq (.region [qV 2 qf] none [0]) (.seq (.region [qM 3 0,qN 4 3,qF 5 1 4,qL 6 1 5,qX 7 (.eq false .ptr (.t 6) qp),qM 8 7,qM 9 0 (qy 8),qN 10 9 (qy 8),qF 11 0 10 (qy 8),qL 12 1 11 (qy 8),qB 13 .eql (.t 12) (qu 0) (qy 8),qA 14 8 13,qM 2 14] none [2]) .ret)),[(2,none)],false⟩
def ir82:IRF:=⟨[0],(.seq (.region [qX 1 (.box false (.t 0)),qV 2 ql] none [1]) (.seq (.region [qF 4 0 1,qL 5 1 4,qC 6 35 [ql,(.t 5)],qC 7 34 [(.t 6)],qX 8 (.b2s (.t 7)),qC 9 33 [(.t 8)],qM 3 9] none [1,3]) (.seq (.seq (.region [qF 10 2 1,qL 11 1 10] none [1,3,11]) (.cond (.t 11) (.seq (.region [qM 12 3,qX 13 (.mkSl false 1 1 [(.s (.int .u8 0))] [(0,1,(.c (.p (.s (.int .u8 1)))))]),qX 14 (.app 1 1 (.t 12) (.t 13)),qM 2 14] none [2]) .ret) .skip)) (.seq (.region [qM 15 3,qX 16 (.mkSl false 1 1 [(.s (.int .u8 0))] [(0,1,(.c (.p (.s (.int .u8 0)))))]),qF 17 1 1,qL 18 1 17,qC 19 143 [(.t 18)],qX 20 (.mkSl false 3 1 [zs,zs,zs] [(0,1,(.t 15)),(1,1,(.t 16)),(2,1,(.t 19))]),qC 21 36 [(.t 20)],qM 2 21] none [2]) .ret)))),[(2,none)],false⟩
def ir83:IRF:=⟨[0,1],(.seq (.region [qV 4 ql] none [0,1]) (.seq (.seq (.region [qM 5 1,qN 6 5,qF 7 0 6,qL 8 1 7,qB 9 .lss (.t 8) (qi 2)] none [0,1,9]) (.cond (.t 9) (.seq (.region [qM 10 0,qC 11 80 [(.t 10),(qu 0),(qi 2)],qM 12 1,qN 13 12,qF 14 0 13,qL 15 1 14,qX 16 (.cvt .u64 (.t 15)),qC 17 80 [(.t 11),(.t 16),(qi 1)],qM 4 17] (some [0,1,0,4,12,28,60,127,255]) [4]) .ret) .skip)) (.seq (.seq (.region [qM 18 1,qN 19 18,qF 20 1 19,qL 21 1 20,qN 22 21,qF 23 0 22,qL 24 1 23,qB 25 .eql (.t 24) (qi 0)] none [0,1,25]) (.cond (.t 25) (.seq (.region [qM 26 0,qC 27 80 [(.t 26),(qu 1),(qi 2)],qM 28 1,qN 29 28,qF 30 2 29,qL 31 1 30,qC 32 83 [(.t 27),(.t 31)],qM 4 32] (some [0,1,0,4,12,28,63,127]) [4]) .ret) .skip)) (.seq (.seq (.region [qM 33 1,qN 34 33,qF 35 2 34,qL 36 1 35,qN 37 36,qF 38 0 37,qL 39 1 38,qB 40 .eql (.t 39) (qi 0)] none [0,1,40]) (.cond (.t 40) (.seq (.region [qM 41 0,qC 42 80 [(.t 41),(qu 2),(qi 2)],qM 43 1,qN 44 43,qF 45 1 44,qL 46 1 45,qC 47 83 [(.t 42),(.t 46)],qM 4 47] (some [0,1,0,4,12,28,63,127]) [4]) .ret) .skip)) (.seq (.region [qM 48 0,qC 49 80 [(.t 48),(qu 3),(qi 2)],qM 50 1,qN 51 50,qF 52 1 51,qL 53 1 52,qC 54 83 [(.t 49),(.t 53)],qM 55 1,qN 56 55,qF 57 2 56,qL 58 1 57,qC 59 83 [(.t 54),(.t 58)],qM 4 59] (some [0,1,0,4,12,28,63,0,128,384,896,2047,4095]) [4]) .ret))))),[(4,none)],false⟩
def ir84:IRF:=⟨[0,1,2],(.seq (.region [qV 5 qf] none [0,1,2]) (.seq (.region [qL 6 1 2,qM 7 0,qB 8 .and (.t 6) (.t 7),qB 9 .gtr (.t 8) (qi 0),qM 10 9,qM 11 1 (qn 10),qO 12 10 11,qM 5 12] none [5]) .ret)),[(5,none)],false⟩
def ir85:IRF:=⟨[0,1],(.seq (.region [qX 2 (.box false (.t 0)),qX 3 (.box false (.t 1)),qV 4 qf] none [2,3]) (.seq (.region [qT 5 2 2,qT 6 2 3,qC 7 90 [(.t 5),(.t 6)],qM 8 7,qT 9 2 3 (qy 8),qT 10 2 2 (qy 8),qC 11 90 [(.t 9),(.t 10)] (qy 8),qA 12 8 11,qM 4 12] none [4]) .ret)),[(4,none)],false⟩
def ir86:IRF:=⟨[0],(.seq (.region [qX 1 (.box false (.t 0)),qV 2 qf] none [1]) (.seq (.region [qF 3 0 1,qL 4 1 3,qX 5 (.un .not (.t 4)),qM 6 5,qF 7 1 1 (qy 6),qL 8 1 7 (qy 6),qX 9 (.eq false .ptr (.t 8) qp) (qy 6),qA 10 6 9,qM 2 10] none [2]) .ret)),[(2,none)],false⟩
def ir87:IRF:=⟨[0,1],(.seq (.region [qV 4 qf] none [0,1]) (.seq (.region [qM 5 0,qM 6 1,qC 7 144 [(.t 5),(.t 6)],qB 8 .geq (.t 7) (qi 0),qM 4 8] none [4]) .ret)),[(4,none)],false⟩
def ir88:IRF:=⟨[0,1],(.seq (.region [qX 2 (.box false (.t 0)),qV 3 qf] none [1,2]) (.seq (.region [qF 4 1 2,qT 5 4 4,qC 6 89 [(.t 5)],qX 7 (.un .not (.t 6)),qM 8 7,qF 9 1 2 (qn 8),qF 10 0 9 (qn 8),qT 11 2 10 (qn 8),qF 12 6 1 (qn 8),qT 13 2 12 (qn 8),qC 14 90 [(.t 11),(.t 13)] (qn 8),qX 15 (.un .not (.t 14)) (qn 8),qO 16 8 15,qM 3 16] none [3]) .ret)),[(3,none)],false⟩
def ir89:IRF:=⟨[0],(.seq (.region [qX 1 (.box false (.t 0)),qV 2 qf] none [1]) (.seq (.region [qF 3 3 1,qL 4 1 3,qX 5 (.un .not (.t 4)),qM 6 5,qF 7 2 1 (qn 6),qT 8 1 7 (qn 6),qC 9 71 [(.t 8)] (qn 6),qB 10 .eql (.t 9) (qi 0) (qn 6),qO 11 6 10,qM 2 11] none [2]) .ret)),[(2,none)],false⟩
def ir90:IRF:=⟨[0,1],(.seq (.region [qX 2 (.box false (.t 0)),qX 3 (.box false (.t 1)),qV 4 qf] none [2,3]) (.seq (.seq (.region [qF 5 1 2,qL 6 1 5,qX 7 (.eq false .ptr (.t 6) qp)] none [2,3,7]) (.cond (.t 7) (.seq (.region [qF 8 0 2,qL 9 1 8,qF 10 0 3,qL 11 1 10,qB 12 .leq (.t 9) (.t 11),qM 4 12] none [4]) .ret) .skip)) (.seq (.seq (.region [qF 13 0 2,qL 14 1 13,qF 15 0 3,qL 16 1 15,qB 17 .gtr (.t 14) (.t 16),qM 18 17,qF 19 1 3 (qy 18),qL 20 1 19 (qy 18),qX 21 (.eq false .ptr (.t 20) qp) (qy 18),qA 22 18 21] none [2,3,22]) (.cond (.t 22) (.seq (.region [qV 4 qf] none [4]) .ret) .skip)) (.seq (.region [qF 23 1 2,qL 24 1 23,qN 25 24,qF 26 0 25,qT 27 2 26,qF 28 0 2,qL 29 1 28,qC 30 145 [(.t 27),(.t 29)],qT 31 2 3,qC 32 133 [(.t 31)],qF 33 0 3,qL 34 1 33,qC 35 145 [(.t 32),(.t 34)],qC 36 90 [(.t 30),(.t 35)],qM 37 36,qF 38 1 2 (qy 37),qL 39 1 38 (qy 37),qN 40 39 (qy 37),qF 41 2 40 (qy 37),qT 42 2 41 (qy 37),qF 43 0 2 (qy 37),qL 44 1 43 (qy 37),qC 45 145 [(.t 42),(.t 44)] (qy 37),qT 46 2 3 (qy 37),qC 47 134 [(.t 46)] (qy 37),qF 48 0 3 (qy 37),qL 49 1 48 (qy 37),qC 50 145 [(.t 47),(.t 49)] (qy 37),qC 51 90 [(.t 45),(.t 50)] (qy 37),qA 52 37 51,qM 4 52] (some [0,1,3,7,15,0,32,127,0,511,0,1024,4095,8191,16383,32767,65535,131071,262143,524287,32767,1081343,4194303,32767,16777215,32767,33587199,134217727,268435455,536870911,1073741823]) [4]) .ret)))),[(4,none)],false⟩
def ir91:IRF:=⟨[0],(.seq (.region [qV 2 qf] none [0]) (.seq (.region [qM 3 0,qB 4 .geq (.t 3) (qi 0),qM 5 4,qM 6 0 (qy 5),qB 7 .lss (.t 6) (qi 12) (qy 5),qA 8 5 7,qM 2 8] none [2]) .ret)),[(2,none)],false⟩
def ir92:IRF:=⟨[0],(.seq (.region [qV 2 qp] none [0]) (.seq (.seq (.region [qM 3 0,qN 4 3,qF 5 1 4,qL 6 1 5,qX 7 (.eq false .ptr (.t 6) qp)] none [0,7]) (.cond (.t 7) (.seq (.region [qM 8 0,qM 2 8] none [2]) .ret) .skip)) (.seq (.region [qM 9 0,qN 10 9,qF 11 1 10,qL 12 1 11,qM 13 0,qN 14 13,qF 15 0 14,qL 16 1 15,qC 17 146 [(.t 12),(.t 16)],qM 2 17] (some [0,1,3,7,0,16,48,112,255,511]) [2]) .ret))),[(2,none)],false⟩
def ir93:IRF:=⟨[0],(.seq (.region [qV 2 qp] none [0]) (.seq (.seq (.region [qM 3 0,qN 4 3,qF 5 1 4,qL 6 1 5,qX 7 (.eq false .ptr (.t 6) qp)] none [0,7]) (.cond (.t 7) (.seq (.region [qM 8 0,qM 2 8] none [2]) .ret) .skip)) (.seq (.region [qM 9 0,qN 10 9,qF 11 2 10,qL 12 1 11,qM 13 0,qN 14 13,qF 15 0 14,qL 16 1 15,qC 17 146 [(.t 12),(.t 16)],qM 2 17] (some [0,1,3,7,0,16,48,112,255,511]) [2]) .ret))),[(2,none)],false⟩
def ir94_0:IRC:=(.seq (.region [qB 6 .lss (.t 5) (qi 4)] none [0,3,5,6]) (.seq (.cond (.t 6) .skip (.exit 0)) (.seq (.block 1 (.seq (.region [qM 7 5,qM 4 7] none [0,3,4,5]) (.region [qM 8 3,qM 9 0,qM 10 4,qX 11 (.idxASl 1 (.t 9) (.t 10)),qL 12 1 11,qX 13 (.cvt .u32 (.t 12)),qM 14 4,qB 15 .mul (qi 8) (.t 14),qB 16 .shl (.t 13) (.t 15),qB 17 .or (.t 8) (.t 16),qM 3 17] none [0,3,5]))) (.region [qB 18 .add (.t 5) (qi 1),qM 5 18] none [0,3,5]))))
def ir94:IRF:=⟨[0],(.seq (.region [qV 2 (.c (.p (.s (.int .u32 0))))] none [0]) (.seq (.region [qV 3 (.c (.p (.s (.int .u32 0))))] none [0,3]) (.seq (.seq (.region [qV 5 (qi 0)] none [0,3,5]) (.block 0 (.loop ir94_0))) (.seq (.region [qM 19 3,qM 2 19] none [2]) .ret)))),[(2,none)],false⟩
def ir95:IRF:=⟨[0],(.seq (.region [qV 2 ql] none [0]) (.seq (.seq (.region [qM 3 0,qX 4 (.eq false .slice (.t 3) ql)] none [0,4]) (.seq (.cond (.t 4) (.seq (.region [qV 2 ql] none [2]) .ret) .skip) (qR [0]))) (.seq (.region [qX 5 (.mkSl false 0 1 [] []),qM 6 0,qX 7 (.app 1 1 (.t 5) (.t 6)),qM 2 7] none [2]) .ret))),[(2,none)],false⟩
def ir96:IRF:=⟨[0],(.seq (.region [qV 2 (.c (.p (.s (.int .u8 0))))] none [0]) (.seq (.seq (.region [qM 4 0,qC 5 104 [(.t 4)],qB 6 .neq (.t 5) (qi 0),qM 7 6,qM 8 0 (qn 7),qN 9 8 (qn 7),qF 10 0 9 (qn 7),qL 11 1 10 (qn 7),qX 12 (.len false (.t 11)) (qn 7),qB 13 .eql (.t 12) (qi 0) (qn 7),qO 14 7 13] none [0,14]) (.seq (.cond (.t 14) (.seq (.region [qM 15 0,qC 16 97 [(.t 15),(qi 6)]] none []) (.seq (.region [qV 2 (.c (.p (.s (.int .u8 0))))] none [2]) .ret)) .skip) (qR [0]))) (.seq (.region [qM 17 0,qN 18 17,qF 19 0 18,qL 20 1 19,qX 21 (.idxASl 1 (.t 20) (qi 0)),qL 22 1 21,qM 3 22] none [0,3]) (.seq (.region [qM 23 0,qM 24 0,qN 25 24,qF 26 0 25,qL 27 1 26,qX 28 (.slSl 1 (.t 27) (some (qi 1)) none none),qN 29 23,qF 30 0 29,qS 1 30 28] none [3]) (.seq (.region [qM 31 3,qM 2 31] none [2]) .ret))))),[(2,none)],false⟩
def ir97:IRF:=⟨[0,1],(.seq (.region [qM 4 0,qX 5 (.eq true .ptr (.t 4) qp),qM 6 5,qM 7 0 (qy 6),qN 8 7 (qy 6),qF 9 1 8 (qy 6),qL 10 1 9 (qy 6),qB 11 .eql (.t 10) (qi 0) (qy 6),qA 12 6 11] none [0,1,12]) (.seq (.cond (.t 12) (.region [qM 13 0,qM 14 1,qN 15 13,qF 16 1 15,qS 1 16 14] none []) .skip) (qR []))),[],false⟩
def ir98_0:IRC:=(.seq (.tidy [0,3,12,13,14] []) (.seq (.region [qB 15 .lss (.t 14) (.t 13)] none [0,3,12,13,14,15]) (.seq (.seq (.cond (.t 15) .skip (.seq (qR [0]) (.exit 0))) (qR [0,3,12,13,14])) (.seq (.block 1 (.seq (.region [qM 16 14,qX 17 (.idxASl 1 (.t 12) (.t 14)),qL 18 1 17,qM 4 16,qM 5 18] none [0,3,4,5,12,13,14]) (.seq (.seq (.region [qM 19 4,qB 20 .eql (.t 19) (qi 9),qM 21 20,qM 22 5 (qy 21),qB 23 .gtr (.t 22) (.c (.p (.s (.int .u8 1)))) (qy 21),qA 24 21 23,qM 25 24,qM 26 5 (qn 25),qB 27 .eql (.t 26) (.c (.p (.s (.int .u8 0)))) (qn 25),qM 28 27 (qn 25),qM 29 4 (qy 28),qB 30 .gtr (.t 29) (qi 0) (qy 28),qA 31 28 30 (qn 25),qO 32 25 31] none [0,3,4,5,12,13,14,32]) (.seq (.cond (.t 32) (.seq (qR [0]) (.exit 0)) .skip) (qR [0,3,4,5,12,13,14]))) (.seq (.region [qM 33 3,qM 34 5,qB 35 .andNot (.t 34) (.c (.p (.s (.int .u8 128)))),qX 36 (.cvt .u64 (.t 35)),qM 37 4,qB 38 .mul (qi 7) (.t 37),qB 39 .shl (.t 36) (.t 38),qB 40 .or (.t 33) (.t 39),qM 3 40] none [0,3,4,5,12,13,14]) (.seq (.region [qM 41 5,qB 42 .lss (.t 41) (.c (.p (.s (.int .u8 128))))] none [0,3,4,12,13,14,42]) (.seq (.cond (.t 42) (.seq (.region [qM 43 0,qM 44 0,qN 45 44,qF 46 0 45,qL 47 1 46,qM 48 4,qB 49 .add (.t 48) (qi 1),qX 50 (.slSl 1 (.t 47) (some (.t 49)) none none),qN 51 43,qF 52 0 51,qS 1 52 50] none [3]) (.seq (.region [qM 53 3,qM 2 53] none [2]) .ret)) .skip) (qR [0,3,12,13,14]))))))) (.region [qB 54 .add (.t 14) (qi 1),qM 14 54] none [0,3,12,13,14])))))
def ir98:IRF:=⟨[0],(.seq (.region [qV 2 (qu 0)] none [0]) (.seq (.seq (.region [qM 6 0,qC 7 104 [(.t 6)],qB 8 .neq (.t 7) (qi 0)] none [0,8]) (.seq (.cond (.t 8) (.seq (.region [qV 2 (qu 0)] none [2]) .ret) .skip) (qR [0]))) (.seq (.region [qV 3 (qu 0)] none [0,3]) (.seq (.seq (.region [qM 9 0,qN 10 9,qF 11 0 10,qL 12 1 11,qX 13 (.len false (.t 12)),qV 14 (qi 0)] none [0,3,12,13,14]) (.block 0 (.loop ir98_0))) (.seq (.region [qM 55 0,qC 56 97 [(.t 55),(qi 6)]] none []) (.seq (.region [qV 2 (qu 0)] none [2]) .ret)))))),[(2,none)],false⟩
def ir99:IRF:=⟨[0],(.seq (.region [qX 2 (.alloc false [zu,zi,zi,zf,zp])] none [0,2]) (.seq (.region [qM 7 0,qC 8 98 [(.t 7)],qM 9 0,qC 10 147 [(.t 9)],qM 11 0,qC 12 147 [(.t 11)],qX 13 (.build [zu,zi,zi,zf,zp] [(0,1,(.t 8)),(1,1,(.t 10)),(2,1,(.t 12))]),qX 3 (.alloc false [zu,zi,zi,zf,zp]),qS 5 3 13] none [0,2,3]) (.seq (.region [qM 14 0,qC 15 101 [(.t 14),(qi 4096)],qM 4 15] none [0,2,3,4]) (.seq (.seq (.region [qM 16 0,qC 17 104 [(.t 16)],qB 18 .neq (.t 17) (qi 0)] none [0,2,3,4,18]) (.seq (.cond (.t 18) (.seq (.region [qX 19 (.build [zu,zi,zi,zf,zp] []),qS 5 2 19] none [2]) .ret) .skip) (qR [0,2,3,4]))) (.seq (.seq (.region [qM 21 4,qX 22 (.s2b true (.t 21)),qC 23 148 [(.t 22)],qM 20 23,qE 24 20 0,qE 25 20 1,qX 5 (.alloc false [zf,zp]),qS 2 5 24,qM 6 25] none [0,2,3,5,6]) (.tidy [0,2,3,6] [5])) (.seq (.seq (.region [qM 26 6,qB 27 .neq (.t 26) (qi 0)] none [0,2,3,5,6,27]) (.seq (.cond (.t 27) (.seq (.region [qM 28 0,qM 29 6,qC 30 97 [(.t 28),(.t 29)]] none [2]) (.seq (.region [qX 31 (.build [zu,zi,zi,zf,zp] []),qS 5 2 31] none [2]) .ret)) .skip) (qR [2,3,5]))) (.seq (.region [qT 32 2 5,qF 33 3 3,qS 2 33 32] none [2,3]) (.seq (.region [qT 34 5 3,qS 5 2 34] none [2]) .ret)))))))),[(2,some (5,true))],false⟩
def ir100:IRF:=⟨[0],(.seq (.region [qX 2 (.alloc false [zu,zp]),qV 3 (qi 0)] none [0,2]) (.seq (.region [qM 7 0,qC 8 149 [(.t 7)],qM 4 8] none [2,4]) (.seq (.seq (.region [qM 10 4,qC 11 150 [(.t 10)],qM 9 11,qE 12 9 0,qE 13 9 1,qX 5 (.alloc false [zu,zp]),qS 2 5 12,qM 6 13] none [2,4,5,6]) (.tidy [2,4,6] [5])) (.seq (.region [qM 14 4,qT 15 2 5,qM 16 6,qC 17 151 [(.t 14),(.t 15),(.t 16)],qE 18 17 0,qE 19 17 1,qS 2 2 18,qM 3 19] none [2,3]) .ret)))),[(2,some (2,true)),(3,none)],false⟩
def ir101:IRF:=⟨[0,1],(.seq (.region [qV 4 (.c (.p zE0))] none [0,1]) (.seq (.seq (.region [qM 8 0,qC 9 104 [(.t 8)],qB 10 .neq (.t 9) (qi 0)] none [0,1,10]) (.seq (.cond (.t 10) (.seq (.region [qV 4 (.c (.p zE0))] none [4]) .ret) .skip) (qR [0,1]))) (.seq (.region [qM 11 0,qN 12 11,qF 13 0 12,qL 14 1 13,qM 5 14] none [0,1,5]) (.seq (.region [qM 15 0,qC 16 98 [(.t 15)],qM 6 16] none [0,1,5,6]) (.seq (.block 0 (.seq (.region [qM 18 0,qN 19 18,qF 20 1 19,qL 21 1 20,qB 22 .neq (.t 21) (qi 0),qM 17 22] none [0,1,5,6,17]) (.seq (.cond (.t 17) .skip (.seq (.region [qM 24 1,qB 25 .lss (.t 24) (qi 0),qM 26 25,qM 27 6 (qn 26),qM 28 1 (qn 26),qX 29 (.cvt .u64 (.t 28)) (qn 26),qB 30 .gtr (.t 27) (.t 29) (qn 26),qO 31 26 30,qM 23 31] none [0,5,6,23]) (.seq (.cond (.t 23) (.region [qM 32 0,qC 33 97 [(.t 32),(qi 9)]] none [0,5,6]) (.seq (.region [qM 35 6,qM 36 0,qN 37 36,qF 38 0 37,qL 39 1 38,qX 40 (.len false (.t 39)),qX 41 (.cvt .u64 (.t 40)),qB 42 .gtr (.t 35) (.t 41),qM 34 42] none [0,5,6,34]) (.seq (.cond (.t 34) (.region [qM 43 0,qC 44 97 [(.t 43),(qi 6)]] none [0,5,6]) .skip) (qR [0,5,6])))) (qR [0,5,6])))) (qR [0,5,6])))) (.seq (.seq (.region [qM 45 0,qN 46 45,qF 47 1 46,qL 48 1 47,qB 49 .neq (.t 48) (qi 0)] none [0,5,6,49]) (.seq (.cond (.t 49) (.seq (.region [qM 50 0,qM 51 5,qN 52 50,qF 53 0 52,qS 1 53 51] none []) (.seq (.region [qV 4 (.c (.p zE0))] none [4]) .ret)) .skip) (qR [0,6]))) (.seq (.region [qM 54 0,qN 55 54,qF 56 0 55,qL 57 1 56,qM 58 6,qX 59 (.slSl 1 (.t 57) none (some (.t 58)) none),qX 60 (.b2s (.t 59)),qM 7 60] none [0,6,7]) (.seq (.region [qM 61 0,qM 62 0,qN 63 62,qF 64 0 63,qL 65 1 64,qM 66 6,qX 67 (.slSl 1 (.t 65) (some (.t 66)) none none),qN 68 61,qF 69 0 68,qS 1 69 67] none [7]) (.seq (.region [qM 70 7,qM 4 70] none [4]) .ret))))))))),[(4,none)],false⟩
def ir102_0:IRC:=(.seq (.tidy [0,3,4] []) (.seq (.seq (.region [qM 11 4,qB 12 .gtr (.t 11) (qu 0),qM 13 12,qM 14 0 (qy 13),qC 15 104 [(.t 14)] (qy 13),qB 16 .eql (.t 15) (qi 0) (qy 13),qA 17 13 16] none [0,3,4,17]) (.seq (.cond (.t 17) .skip (.seq (qR [0,3]) (.exit 0))) (qR [0,3,4]))) (.seq (.block 1 (.seq (.region [qM 20 0,qC 21 98 [(.t 20)],qM 5 21] none [0,3,4,5]) (.seq (.seq (.region [qM 22 5,qB 23 .gtr (.t 22) (qu 4294967295)] none [0,3,4,5,23]) (.seq (.cond (.t 23) (.region [qM 24 0,qC 25 97 [(.t 24),(qi 6)]] none [0,3,4,5]) .skip) (qR [0,3,4,5]))) (.seq (.region [qM 26 0,qC 27 101 [(.t 26),(qi 8192)],qM 6 27] none [0,3,4,5,6]) (.seq (.seq (.region [qM 28 0,qC 29 104 [(.t 28)],qB 30 .neq (.t 29) (qi 0)] none [0,3,4,5,6,30]) (.seq (.cond (.t 30) (.seq (qR [0,3]) (.exit 0)) .skip) (qR [0,3,4,5,6]))) (.seq (.seq (.region [qM 32 6,qX 33 (.s2b true (.t 32)),qC 34 152 [(.t 33)],qM 31 34,qE 35 31 0,qE 36 31 1,qX 7 (.alloc false [zu,zp,zs,zf]),qS 4 7 35,qM 8 36] none [0,3,4,5,7,8]) (.tidy [0,3,4,5,8] [7])) (.seq (.region [qM 37 0,qM 38 8,qC 39 97 [(.t 37),(.t 38)]] none [0,3,4,5,7]) (.region [qM 40 3,qM 41 5,qX 42 (.cvt .u32 (.t 41)),qT 43 4 7,qX 44 (.build [(.s (.int .u32 0)),zu,zp,zs,zf] [(0,1,(.t 42)),(1,4,(.t 43))]),qX 45 (.mkSl true 1 5 [(.s (.int .u32 0)),zu,zp,zs,zf] [(0,5,(.t 44))]),qX 46 (.app 5 56 (.t 40) (.t 45)),qM 3 46] none [0,3,4])))))))) (.region [qM 18 4,qB 19 .sub (.t 18) (qu 1),qM 4 19] none [0,3,4]))))
def ir102:IRF:=⟨[0],(.seq (.region [qV 2 ql] none [0]) (.seq (.region [qV 3 ql] none [0,3]) (.seq (.seq (.region [qM 9 0,qC 10 98 [(.t 9)],qM 4 10] none [0,3,4]) (.seq (.block 0 (.loop ir102_0)) (.tidy [0] [3]))) (.seq (.seq (.region [qM 47 0,qC 48 104 [(.t 47)],qB 49 .neq (.t 48) (qi 0)] none [3,49]) (.seq (.cond (.t 49) (.seq (.region [qV 2 ql] none [2]) .ret) .skip) (qR [3]))) (.seq (.region [qM 50 3,qM 2 50] none [2]) .ret))))),[(2,none)],false⟩
def ir103:IRF:=⟨[0],(.seq (.region [qV 2 (qi 0)] none [0]) (.seq (.seq (.region [qM 3 0,qX 4 (.eq false .ptr (.t 3) qp)] none [0,4]) (.seq (.cond (.t 4) (.seq (.region [qV 2 (qi 0)] none [2]) .ret) .skip) (qR [0]))) (.seq (.region [qM 5 0,qN 6 5,qF 7 0 6,qL 8 1 7,qX 9 (.len false (.t 8)),qM 2 9] none [2]) .ret))),[(2,none)],false⟩
def ir104:IRF:=⟨[0],(.seq (.region [qV 2 (qi 0)] none [0]) (.seq (.seq (.region [qM 3 0,qX 4 (.eq false .ptr (.t 3) qp)] none [0,4]) (.seq (.cond (.t 4) (.seq (.region [qV 2 (qi 2)] none [2]) .ret) .skip) (qR [0]))) (.seq (.region [qM 5 0,qN 6 5,qF 7 1 6,qL 8 1 7,qM 2 8] none [2]) .ret))),[(2,none)],false⟩
def ir114:IRF:=⟨[0],(.seq (.region [qV 2 (qu 0)] none [0]) (.seq (.seq (.region [qM 5 0,qN 6 5,qF 7 1 6,qL 8 1 7,qX 9 (.eq false .ptr (.t 8) qp)] none [0,9]) (.cond (.t 9) (.seq (.region [qM 10 0,qN 11 10,qF 12 0 11,qL 13 1 12,qM 2 13] none [2]) .ret) .skip)) (.seq (.region [qM 14 0,qN 15 14,qF 16 1 15,qL 17 1 16,qC 18 114 [(.t 17)],qM 19 0,qN 20 19,qF 21 2 20,qL 22 1 21,qC 23 114 [(.t 22)],qM 3 18,qM 4 23] (some [0,1,3,7,15,0,32,96,224,511,1023,2047]) [0,3,4]) (.seq (.seq (.region [qM 24 3,qM 25 4,qB 26 .lss (.t 24) (.t 25)] none [0,3,4,26]) (.cond (.t 26) (.seq (.region [qM 27 0,qN 28 27,qF 29 0 28,qL 30 1 29,qM 31 3,qB 32 .add (.t 30) (.t 31),qM 2 32] none [2]) .ret) .skip)) (.seq (.region [qM 33 0,qN 34 33,qF 35 0 34,qL 36 1 35,qM 37 4,qB 38 .add (.t 36) (.t 37),qM 2 38] none [2]) .ret))))),[(2,none)],false⟩
end Go.Proofs.YtppeggedcaabkaaGreatDoor
end

section
namespace Go.Proofs.YtppeggedcaabkaaGreatDoor
open Go Go.Sx Go.ChangeShapes Go.WideShapes
end Go.Proofs.YtppeggedcaabkaaGreatDoor
end

section
namespace Go.Proofs.YtppeggedcaabkaaGreatDoor
open Go Go.Sx Go.ChangeShapes Go.WideShapes
inductive SK where
 | int (k:IntKind)
 | bool
 | str
def SK.of (P:Program) (t:TypeId):Option SK:=match P.underlying t with
 | some (.int k)=>some (.int k)
 | some .bool=>some .bool
 | some .string=>some .str
 | _=>none
def SK.fits:SK→Value→Prop
 | .int k,.int k' n=>k'=k∧(Lit.int k n).wf=true
 | .bool,.bool _=>True
 | .str,.string s=>s.size≤maxLen
 | _,_=>False
inductive Fits:List SK→List Value→Prop
 | nil:Fits [] []
 | cons {k:SK} {v:Value} {ks:List SK} {vs:List Value} : k.fits v→Fits ks vs→Fits (k::ks) (v::vs)
section
variable {H:Type} {enc:TypeId × Value→H} {P:Program} {W:World} {base:Nat} {spare:Nat→Bool} {held:Bool}
theorem vx {t:TypeId} {s:SK} {n:Nat} {v:Value} {x:DataW H × List MemPlace} (hs:SK.of P t=some s) (h:DataW.trod enc P W base spare held n t [v]=some x):s.fits v:=by
 unfold SK.of at hs
 cases n with
 | zero=>simp [DataW.trod] at h
 | succ n=>
  unfold DataW.trod at h
  split at hs
  ·rename_i k hk
   obtain rfl:=Option.some.inj hs
   rw [hk] at h
   cases v<;>simp at h
   exact ⟨h.1.1,h.1.2⟩
  ·rename_i hk
   obtain rfl:=Option.some.inj hs
   rw [hk] at h
   cases v<;>simp at h
   trivial
  ·rename_i hk
   obtain rfl:=Option.some.inj hs
   rw [hk] at h
   cases v<;>simp at h
   exact h.1
  ·cases hs
theorem mC {s:SK} {v:Value} (h:s.fits v):v.oneCell'=true:=by
 cases s<;>cases v<;>simp [SK.fits] at h<;>rfl
theorem Fits.len {ks:List SK} {vs:List Value} (h:Fits ks vs):vs.length=ks.length:=by
 induction h with
 | nil=>rfl
 | cons _ _ ih=>simp [ih]
theorem Fits.one {ks:List SK} {vs:List Value} (h:Fits ks vs) : ∀ v∈vs,v.oneCell'=true:=by
 induction h with
 | nil=>simp
 | cons hk _ ih=>
  intro v hv
  rcases List.mem_cons.1 hv with rfl|hv
  ·exact mC hk
  ·exact ih v hv
end
end Go.Proofs.YtppeggedcaabkaaGreatDoor
end

section
namespace Go.Proofs.YtppeggedcaabkaaGreatDoor
open Go Go.Sx Go.ChangeShapes Go.WideShapes
inductive CT where
 | k (s:SK)
 | sl (ks:List CT)
def flatFs (g:TypeId→Option (List CT)) (P:Program):Nat→List Field→Option (List CT)
 | _,[]=>some []
 | i,f::r=>match g f.type with
  | some a=>if f.offset=i∧P.cellsOf f.type=a.length then (match flatFs g P (i+a.length) r with
   | some b=>some (a++b)
   | none=>none) else none
  | none=>none
def flatT (P:Program):Nat→TypeId→Option (List CT)
 | 0,_=>none
 | m+1,t=>match P.underlying t with
  | some (.slice e)=>match flatT P m e with
   | some ks=>if P.cellsOf e=ks.length∧0<ks.length then some [.sl ks] else none
   | none=>none
  | some (.struct fs)=>match flatFs (flatT P m) P 0 fs.toList with
   | some ks=>if P.cellsOf t=ks.length then some ks else none
   | none=>none
  | _=>match SK.of P t with
   | some s=>some [.k s]
   | none=>none
inductive RV (W:World):CT→Value→PV→Prop
 | k {s:SK} {v:Value} : s.fits v→RV W (.k s) v (.s v)
 | nil (ks:List CT):RV W (.sl ks) (.slice none 0 0) (.s (.slice none 0 0))
 | sl0 (ks:List CT) (a:Addr) (cap:Nat):RV W (.sl ks) (.slice (some a) 0 cap) (.sl [] 0 ks.length false)
 | sl (ks:List CT) (b off len cap:Nat) (u:Nat→Value) (xs:List PV) (c:Nat→CT) (hx:xs.length=len*ks.length) (hk : ∀ j,j<len*ks.length→ks[j%ks.length]?=some (c j))
   (hu : ∀ j,j<len*ks.length→W.cell? ⟨b,off+j,none⟩=some (u j)) (h : ∀ (j:Nat) (x:PV),xs[j]?=some x→RV W (c j) (u j) x) (hcap:len≤cap) (hb:b<W.heap.size) (hm:len<2^63):
   RV W (.sl ks) (.slice (some ⟨b,off,none⟩) len cap) (.sl xs len ks.length false)
theorem RV.one {W:World} {c:CT} {v:Value} {x:PV} (h:RV W c v x):v.oneCell'=true:=by
 cases h with
 | k h=>exact mC h
 | _=>rfl
theorem RV.pr {W:World} {c:CT} {v:Value} {x:PV} (h:RV W c v x):PR (fun b=>b<W.heap.size) W x v:=by
 induction h with
 | k h=>exact .s _
 | nil ks=>exact .s _
 | sl0 ks a cap=>exact .sl0 _ _ _ _ (fun h=>by cases h)
 | sl ks b off len cap u xs c hx hk hu h hcap hb hm ih=>
  refine .sl _ len ks.length false b off cap u hb (fun j hj=>hu j (by omega)) ?_ ?_ hcap (fun h=>by cases h)
  ·intro j hj
   obtain ⟨x,hx'⟩ : ∃ x,xs[j]?=some x:=⟨xs[j],by simp [hj]⟩
   exact (h j x hx').one
  ·intro j l hj;exact ih j l hj
def AllR (W:World) (ks:List CT) (cs:List Value) (xs:List PV):Prop:=
 cs.length=ks.length∧xs.length=ks.length∧∀ (j:Nat) (c:CT) (v:Value) (x:PV),ks[j]?=some c→cs[j]?=some v→xs[j]?=some x→RV W c v x
theorem AllR.app {W:World} {ks ks':List CT} {cs cs':List Value} {xs xs':List PV} (h:AllR W ks cs xs) (h':AllR W ks' cs' xs'):AllR W (ks++ks') (cs++cs') (xs++xs'):=by
 obtain ⟨a1,a2,a3⟩:=h
 obtain ⟨b1,b2,b3⟩:=h'
 refine ⟨by simp [a1,b1],by simp [a2,b2],?_⟩
 intro j c v x h1 h2 h3
 by_cases hj:j<ks.length
 ·rw [List.getElem?_append_left hj] at h1
  rw [List.getElem?_append_left (by omega)] at h2 h3
  exact a3 j c v x h1 h2 h3
 ·rw [List.getElem?_append_right (by omega)] at h1 h2 h3
  rw [a1] at h2
  rw [a2] at h3
  exact b3 _ c v x h1 h2 h3
theorem dz {α:Type} (rows:Nat→List α) (m:Nat) : ∀ (n:Nat),(∀ i,i<n→(rows i).length=m)→(((List.range n).map rows).flatten).length=n*m∧∀ j,j<n*m→(((List.range n).map rows).flatten)[j]?=(rows (j/m))[j%m]?
 | 0,_=>⟨by simp,fun j hj=>by omega⟩
 | n+1,h=>by
  obtain ⟨l1,l2⟩:=dz rows m n (fun i hi=>h i (by omega))
  rw [List.range_succ,List.map_append,List.flatten_append]
  refine ⟨by rw [List.length_append,l1];simp [h n (by omega),Nat.add_mul],?_⟩
  intro j hj
  have hm:0<m:=by
   rcases Nat.eq_zero_or_pos m with rfl|h'
   ·simp at hj
   ·exact h'
  by_cases hlt:j<n*m
  ·rw [List.getElem?_append_left (by omega),l2 j hlt]
  ·rw [List.getElem?_append_right (by omega),l1]
   have e1:j/m=n:=Nat.div_eq_of_lt_le (by omega) (by rw [Nat.add_mul] at *;omega)
   have e2:j%m=j-n*m:=by
    have:=Nat.div_add_mod j m
    rw [e1,Nat.mul_comm] at this
    omega
   rw [e1,e2];simp
section
variable {H:Type} {enc:TypeId × Value→H} {P:Program} {W:World} {base:Nat} {spare:Nat→Bool} {held:Bool}
theorem tO {t:TypeId} {s:SK} {n:Nat} {cs:List Value} {x:DataW H × List MemPlace} (hs:SK.of P t=some s) (h:DataW.trod enc P W base spare held n t cs=some x) : ∃ v,cs=[v]∧s.fits v:=by
 obtain ⟨v,rfl⟩ : ∃ v,cs=[v]:=by
  unfold SK.of at hs
  cases n with
  | zero=>simp [DataW.trod] at h
  | succ n=>
   unfold DataW.trod at h
   split at hs
   ·rename_i k hk
    rw [hk] at h
    split at h<;>simp_all
   ·rename_i hk
    rw [hk] at h
    split at h<;>simp_all
   ·rename_i hk
    rw [hk] at h
    split at h<;>simp_all
   ·cases hs
 exact ⟨v,rfl,vx hs h⟩
theorem gG {g:TypeId→Option (List CT)} (ih : ∀ t ks n cs y,g t=some ks→DataW.trod enc P W base spare held n t cs=some y→∃ xs,AllR W ks cs xs) : ∀ (fs:List Field) (i:Nat) (ks:List CT) (cs:List Value),flatFs g P i fs=some ks →
  (∀ (j:Nat) (f:Field),fs[j]?=some f→∃ n y,DataW.trod enc P W base spare held n f.type ((cs.drop f.offset).take (P.cellsOf f.type))=some y)→cs.length=i+ks.length→∃ xs,AllR W ks (cs.drop i) xs
 | [],i,ks,cs,h,_,hl=>by
  simp only [flatFs,Option.some.injEq] at h
  subst h
  exact ⟨[],by simp at hl ⊢;omega,rfl,fun j c v x h=>by simp at h⟩
 | f::r,i,ks,cs,h,hf,hl=>by
  simp only [flatFs] at h
  split at h
  case h_2=>cases h
  rename_i a ha
  split at h
  case isFalse=>cases h
  rename_i hc
  obtain ⟨ho,hc⟩:=hc
  split at h
  case h_2=>cases h
  rename_i b hb
  obtain rfl:=Option.some.inj h
  obtain ⟨n,y,hy⟩:=hf 0 f rfl
  obtain ⟨xs,h1⟩:=ih _ _ _ _ _ ha hy
  rw [List.length_append] at hl
  obtain ⟨ys,h2⟩:=gG ih r (i+a.length) b cs hb (fun j g hg=>hf (j+1) g hg) (by omega)
  refine ⟨xs++ys,?_⟩
  have e:cs.drop i=(cs.drop f.offset).take (P.cellsOf f.type)++cs.drop (i+a.length):=by
   rw [ho,hc,←List.drop_drop,List.take_append_drop]
  rw [e]
  exact h1.app h2
theorem qj {W:World} {a:Addr} {v:Value} (h:W.cell? a=some v):a.spot=none∧a.block<W.heap.size:=by
 unfold World.cell? at h
 split at h
 ·rename_i c _ _ hh
  split at h
  ·cases h
  ·rename_i hs
   refine ⟨by cases hq:a.spot with
    | none=>rfl
    | some z=>rw [hq] at hs;simp at hs,(Array.getElem?_eq_some_iff.1 hh).1⟩
 ·cases h
theorem tE : ∀ (m:Nat) (t:TypeId) (ks:List CT) (n:Nat) (cs:List Value) (y:DataW H × List MemPlace),flatT P m t=some ks→DataW.trod enc P W base spare held n t cs=some y→∃ xs,AllR W ks cs xs
 | 0,t,ks,n,cs,y,h,_=>by cases h
 | m+1,t,ks,n,cs,y,h,ht=>by
  rw [flatT] at h
  split at h
  ·rename_i e he
   split at h
   case h_2=>cases h
   rename_i ks' hk
   split at h
   case isFalse=>cases h
   rename_i hc
   obtain ⟨hce,hpos⟩:=hc
   obtain rfl:=Option.some.inj h
   rcases Go.Deep.open_slice he ht with ⟨rfl,hx⟩|⟨a,len,cap,m',n',D,Pl,rfl,_,hl,hm,hmm,hx,hel⟩
   ·refine ⟨[.s (.slice none 0 0)],rfl,rfl,?_⟩
    intro j c v x h1 h2 h3
    match j with
    | 0=>
     obtain rfl:=Option.some.inj h1
     obtain rfl:=Option.some.inj h2
     obtain rfl:=Option.some.inj h3
     exact .nil _
    | j+1=>simp at h1
   ·have hlm:len≤m':=by rw [hmm];split<;>omega
    have fin : ∀ x,RV W (.sl ks') (.slice (some a) len cap) x→∃ xs,AllR W [.sl ks'] [.slice (some a) len cap] xs:=by
     intro x hx
     refine ⟨[x],rfl,rfl,?_⟩
     intro j c v x h1 h2 h3
     match j with
     | 0=>
      obtain rfl:=Option.some.inj h1
      obtain rfl:=Option.some.inj h2
      obtain rfl:=Option.some.inj h3
      exact hx
     | j+1=>simp at h1
    rcases Nat.eq_zero_or_pos len with rfl|hlen
    ·exact fin _ (.sl0 _ _ _)
    have each : ∀ i,∃ r:List Value × List PV,i<m'→W.cells? 0 (a.add (i*P.cellsOf e)) (P.cellsOf e)=some r.1∧AllR W ks' r.1 r.2:=by
     intro i
     by_cases hi:i<m'
     ·obtain ⟨cs',h1,h2⟩:=hel i hi
      obtain ⟨xs,h3⟩:=tE m e ks' n' cs' _ hk h2
      refine ⟨(cs',xs),fun _=>⟨?_,h3⟩⟩
      unfold World.cells? at h1 ⊢
      split at h1
      ·rw [if_pos (Nat.zero_le _)];exact h1
      ·cases h1
     ·exact ⟨([],[]),fun h=>absurd h hi⟩
    obtain ⟨rows,hrows⟩:=Classical.axiomOfChoice each
    have cellE : ∀ i,i<m'→∀ j,j<ks'.length→W.cell? ((a.add (i*ks'.length)).add j)=(rows i).1[j]?:=by
     intro i hi j hj
     obtain ⟨h1,h2⟩:=hrows i hi
     rw [hce] at h1
     exact (World.cells?_some h1).2.2 j hj
    obtain ⟨b,off,spot⟩:=a
    have h0:spot=none∧b<W.heap.size:=by
     have h1:=cellE 0 (by omega) 0 hpos
     have hl0:0<(rows 0).1.length:=by rw [(hrows 0 (by omega)).2.1];exact hpos
     rw [List.getElem?_eq_getElem hl0] at h1
     have:=qj h1
     simpa [Addr.add] using this
    obtain ⟨rfl,hb⟩:=h0
    have rl1 : ∀ i,i<len→(rows i).1.length=ks'.length:=fun i hi=>(hrows i (by omega)).2.1
    have rl2 : ∀ i,i<len→(rows i).2.length=ks'.length:=fun i hi=>(hrows i (by omega)).2.2.1
    obtain ⟨f1,f2⟩:=dz (fun i=>(rows i).1) ks'.length len rl1
    obtain ⟨g1,g2⟩:=dz (fun i=>(rows i).2) ks'.length len rl2
    have dv : ∀ j,j<len*ks'.length→j/ks'.length<len∧j%ks'.length<ks'.length:=fun j hj=>⟨Nat.div_lt_of_lt_mul (by rw [Nat.mul_comm];exact hj),Nat.mod_lt _ hpos⟩
    refine fin (.sl (((List.range len).map fun i=>(rows i).2).flatten) len ks'.length false) (.sl ks' b off len cap (fun j=>(((List.range len).map fun i=>(rows i).1).flatten).getD j default) _ (fun j=>ks'.getD (j%ks'.length) (.sl [])) g1 ?_ ?_ ?_ hl hb (by have hm':cap≤maxLen:=hm;unfold maxLen at hm';omega))
    ·intro j hj
     obtain ⟨d1,d2⟩:=dv j hj
     rw [List.getD_eq_getElem?_getD,List.getElem?_eq_getElem d2];rfl
    ·intro j hj
     obtain ⟨d1,d2⟩:=dv j hj
     have h1:=cellE (j/ks'.length) (by omega) (j%ks'.length) d2
     have hl1:j%ks'.length<(rows (j/ks'.length)).1.length:=by rw [rl1 _ d1];exact d2
     rw [List.getD_eq_getElem?_getD,f2 j hj,List.getElem?_eq_getElem hl1]
     rw [List.getElem?_eq_getElem hl1] at h1
     rw [Option.getD_some,←h1,add_plain,add_plain]
     have:=Nat.div_add_mod j ks'.length
     rw [Nat.mul_comm] at this
     congr 2
     omega
    ·intro j x hj
     have hj':j<len*ks'.length:=by rw [←g1];exact (List.getElem?_eq_some_iff.1 hj).1
     obtain ⟨d1,d2⟩:=dv j hj'
     obtain ⟨_,r1,r2,r3⟩:=hrows (j/ks'.length) (by omega)
     rw [g2 j hj'] at hj
     have hl1:j%ks'.length<(rows (j/ks'.length)).1.length:=by rw [r1];exact d2
     refine r3 (j%ks'.length) _ _ x ?_ ?_ hj
     ·rw [List.getD_eq_getElem?_getD,List.getElem?_eq_getElem d2];rfl
     ·rw [List.getD_eq_getElem?_getD,f2 j hj',List.getElem?_eq_getElem hl1];rfl
  ·rename_i fs he
   split at h
   case h_2=>cases h
   rename_i ks' hk
   split at h
   case isFalse=>cases h
   rename_i hc
   obtain rfl:=Option.some.inj h
   obtain ⟨xs,q,_,_,h3,h4,h5⟩:=DataW.trod_struct he ht
   have:=gG (fun t ks n cs y h1 h2=>tE m t ks n cs y h1 h2) fs.toList 0 ks' cs hk (fun j f hj=>by
    have hj':fs[j]?=some f:=by simpa using hj
    have hlt:j<xs.length:=by rw [h4];exact (Array.getElem?_eq_some_iff.1 hj').1
    exact ⟨q,xs[j],by rw [h5 j f hj',List.getElem?_eq_getElem hlt]⟩) (by rw [h3,hc];simp)
   simpa using this
  ·split at h
   case h_2=>cases h
   rename_i s hs
   obtain rfl:=Option.some.inj h
   obtain ⟨v,rfl,hv⟩:=tO hs ht
   refine ⟨[.s v],rfl,rfl,?_⟩
   intro j c v x h1 h2 h3
   match j with
   | 0=>
    obtain rfl:=Option.some.inj h1
    obtain rfl:=Option.some.inj h2
    obtain rfl:=Option.some.inj h3
    exact .k hv
   | j+1=>simp at h1
theorem kE {α:Type} {f:α→PV} {Q:α→Prop} {c:CT} (hf : ∀ v x,RV W c v x→∃ a,x=f a∧Q a) {v:Value} {x:PV} (h:RV W (.sl [c]) v x):x = .s (.slice none 0 0)∨∃ L:List α,x = .sl (L.map f) L.length 1 false∧(∀ a∈L,Q a)∧L.length<2^63:=by
 generalize hc:CT.sl [c]=t at h
 cases h with
 | k h=>cases hc
 | nil ks=>exact .inl rfl
 | sl0 ks a cap=>
  obtain rfl:=CT.sl.inj hc
  exact .inr ⟨[],rfl,by simp,by simp⟩
 | sl ks b off len cap u xs c' hx hk hu h hcap hb hm=>
  obtain rfl:=CT.sl.inj hc
  right
  have hx':xs.length=len:=by simpa using hx
  have each : ∀ j:Fin xs.length,∃ a,xs[j]=f a∧Q a:=by
   intro j
   have h1:=hk j.1 (by rw [←hx];exact j.2)
   have h2:=h j.1 xs[j] (by simp)
   have:c' j.1=c:=by
    have e:j.1 % [c].length=0:=by simp [Nat.mod_one]
    rw [e] at h1
    exact (Option.some.inj h1).symm
   rw [this] at h2
   exact hf _ _ h2
  obtain ⟨L,hL⟩:=Classical.axiomOfChoice each
  refine ⟨List.ofFn L,?_,?_,by simp [hx',hm]⟩
  ·have e:(List.ofFn L).map f=xs:=by
    apply List.ext_getElem
    ·simp
    ·intro j h1 h2
     simp only [List.getElem_map,List.getElem_ofFn]
     exact (hL ⟨j,h2⟩).1.symm
   rw [e,List.length_ofFn,hx'];rfl
  ·intro a ha
   obtain ⟨j,rfl⟩:=List.mem_ofFn.1 ha
   exact (hL j).2
end
end Go.Proofs.YtppeggedcaabkaaGreatDoor
end
