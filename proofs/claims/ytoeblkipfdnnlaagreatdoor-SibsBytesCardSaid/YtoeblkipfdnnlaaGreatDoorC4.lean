/- What the proof of the claim leans on, part 4 of 5: the value machine, the functions as it has them, their specifications. No condition. -/
import Derived.Test.YtoeblkipfdnnlaaGreatDoorC3
import Derived.WalkKit
set_option linter.all false
set_option linter.unnecessarySimpa false
set_option linter.unusedSimpArgs false
set_option linter.unusedVariables false
set_option linter.constructorNameAsVariable false
set_option maxHeartbeats 4000000
section
namespace Go.Proofs.YtoeblkipfdnnlaaGreatDoor
open Go Go.Sx
theorem lU (k:IntKind) (x y:Nat) (hy:0<y) (hk : ∀ z:Nat,z≤x→k.wrap (z:Int)=z):binI .quo k (x:Int) (y:Int)=some (.int k (x/y:Nat)):=by
 have:binI .quo k (x:Int) (y:Int)=some (.int k (k.wrap ((x:Int).tdiv y))):=by simp [binI];omega
 rw [this,Int.tdiv_eq_ediv_of_nonneg (by omega)]
 have h2:=hk (x/y) (Nat.div_le_self x y)
 rw [←h2]
 norm_cast
theorem ip (z:Nat) (h:z<2^64):IntKind.u64.wrap (z:Int)=z:=by
 simp [IntKind.wrap,IntKind.signed,IntKind.bits];omega
section sum
variable (c:Ctx) (h:Hp)
end sum
section sum
variable {c:Ctx}
end sum
inductive Grow (nx:Nat):LV→Hp→List UInt8→Prop
 | nil:Grow nx (.p (.s (.slice none 0 0))) ⟨[],[]⟩ []
 | arr (k:Nat) (F:List UInt8):F≠[]→Grow nx (.arr (nx+k) 0 F.length 1 F.length false) ⟨[],List.replicate k none++[some (.cells (byt F))]⟩ F
theorem Grow.look {H:Heap} {nx:Nat} {x:LV} {h:Hp} {F:List UInt8} (g:Grow nx x h F) (id:Nat) (hid:id<nx):Go.Sx.look H nx h id=H id:=by
 cases g<;>simp [Go.Sx.look,findU,hid]
theorem Grow.Bs {H:Heap} {nx:Nat} {x y:LV} {h:Hp} {F G:List UInt8} (g:Grow nx x h F) (b:Bs H nx y G):Bs (Go.Sx.look H nx h) (nx+h.new.length) y G:=
 b.mono (fun id hid=>g.look id hid) (by omega)
theorem xo (k:Nat) (a b:Ob):(List.replicate k none++[a]).set k b=List.replicate k none++[b]:=by
 rw [List.set_append_right _ _ (by simp)]
 simp
theorem Grow.app {c:Ctx} {x y:LV} {h:Hp} {F G:List UInt8} (g:Grow c.nx x h F) (b:YtoeblkipfdnnlaaGreatDoor.Bs c.H c.nx y G) (h30:F.length+G.length<2^31):
  ∃ x' h' t m,appO c h 1 1 x y=some ⟨x',h',t,m⟩∧Grow c.nx x' h' (F++G):=by
 have hy:=(g.Bs b).cells
 cases G with
 | nil=>
  rw [List.append_nil]
  cases g with
  | nil=>exact ⟨_,_,Go.Sx.ids y,false,by simp [appO,hy,dR],.nil⟩
  | arr k F hF=>exact ⟨_,_,Go.Sx.ids y,false,by simp [appO,hy,dR],.arr k F hF⟩
 | cons u G=>
  have hne : ¬(u::G).length=0:=by simp
  generalize hE:u::G=E at*
  have hE0:E≠[]:=by rw [←hE];simp
  have h41 : ¬2^40<E.length*1:=by omega
  have h41':E.length*1≤2^40:=by omega
  cases g with
  | nil=>
   refine ⟨_,_,Go.Sx.ids y,false,?_,.arr 0 E hE0⟩
   simp [appO,hy,ax,hne,push]
   omega
  | arr k F hF=>
   have hl:Go.Sx.look c.H c.nx ⟨[],List.replicate k none++[some (.cells (byt F))]⟩ (c.nx+k)=some (.cells (byt F)):=by
    simp [Go.Sx.look,ltF]
   have hF':F++E≠[]:=by simp [hF]
   refine ⟨_,_,(c.nx+k)::Go.Sx.ids y,true,?_,.arr (k+1) (F++E) hF'⟩
   have q : ¬2^40<(F.length+E.length)*1:=by omega
   have hln:(List.replicate k (none:Ob)++[some (Go.Sx.Obj.cells (byt F))]).length=k+1:=by simp
   have hset:=xo k (some (Go.Sx.Obj.cells (byt F))) none
   simp [appO,hy,ax,hne,hl,push,Go.Sx.setObj,ltF,bO,List.replicate_succ',hset]
   omega
inductive Bss (H:Heap) (nx:Nat):List LV→List (List UInt8)→Prop
 | nil:Bss H nx [] []
 | cons {x:LV} {F:List UInt8} {xs:List LV} {Fs:List (List UInt8)} : Bs H nx x F→Bss H nx xs Fs→Bss H nx (x::xs) (F::Fs)
theorem Bss.length_eq {H:Heap} {nx:Nat} {xs:List LV} {Fs:List (List UInt8)} (g:Bss H nx xs Fs):xs.length=Fs.length:=by
 induction g with
 | nil=>rfl
 | cons _ _ ih=>simp [ih]
theorem Bss.get {H:Heap} {nx:Nat} {xs:List LV} {Fs:List (List UInt8)} (g:Bss H nx xs Fs) : ∀ (j:Nat) (h1:j<xs.length) (h2:j<Fs.length),Bs H nx xs[j] Fs[j]:=by
 induction g with
 | nil=>intro j h1;simp at h1
 | cons b _ ih=>
  intro j h1 h2
  cases j with
  | zero=>exact b
  | succ j=>exact ih j (by simpa using h1) (by simpa using h2)
section join
variable {c:Ctx}
theorem sq {n:Nat} {h:Hp} {x y:LV} {xs:List LV} {F G:List UInt8} (g:Grow c.nx x h F) (b:Bs c.H c.nx y G) (h30:F.length+G.length<2^31) (aid cp:Nat) (ex:Bool) (ha:c.H aid=some (.cells xs)) (haid:aid<c.nx) (j:Nat) (hj:xs[j]?=some y) (hx:xs.length<2^31):
  ∃ x' h',runCS c n ir59_0 ⟨[(3,x),(6,.arr aid 0 xs.length 1 cp ex),(7,.int .i64 xs.length),(8,.int .i64 j)],h⟩=
   some (.normal,⟨[(3,x'),(6,.arr aid 0 xs.length 1 cp ex),(7,.int .i64 xs.length),(8,.int .i64 (j+1:Nat))],h'⟩)∧Grow c.nx x' h' (F++G):=by
 obtain ⟨x',h',t,m,e,g'⟩:=g.app b h30
 refine ⟨x',h',?_,g'⟩
 obtain ⟨hlt,hv⟩:=List.getElem?_eq_some_iff.1 hj
 have h8 : ¬(xs.length:Int)≤j:=by omega
 have hw:IntKind.i64.wrap ((j:Int)+1)=(j:Int)+1:=wrap_i64 _ (by omega) (by omega)
 have hl:Go.Sx.look c.H c.nx h aid=some (.cells xs):=by rw [g.look aid haid];exact ha
 simp [ir59_0,ssB,ssU,Go.Sx.LV.undef,Go.undef,Go.Sx.callO,Go.Sx.splice,Go.Sx.finish,Go.Sx.setAll,Go.Sx.leI_eq,ltF,h8,hw,hlt,hl,hj,hv,e]
theorem uo {n:Nat} {h:Hp} (len:Nat) (x y:LV):
  runCS c n ir59_0 ⟨[(3,x),(6,y),(7,.int .i64 len),(8,.int .i64 len)],h⟩=
   some (.exit 0,⟨[(3,x),(6,y),(7,.int .i64 len),(8,.int .i64 len),(9,.bool false)],h⟩):=by
 simp [ir59_0,ssB,ssU,Go.Sx.LV.undef,Go.undef,ssP,appO]
theorem um {n:Nat} {xs:List LV} {Fs:List (List UInt8)} (hb:Bss c.H c.nx xs Fs) (aid cp:Nat) (ex:Bool) (ha:c.H aid=some (.cells xs)) (haid:aid<c.nx) (hx:xs.length<2^31) (h30:Fs.flatten.length<2^31):
  ∀ (k m j:Nat) (x:LV) (h:Hp),Grow c.nx x h (Fs.take j).flatten→j+k=xs.length→k<m →
  ∃ x' h',iter (runCS c n ir59_0) m ⟨[(3,x),(6,.arr aid 0 xs.length 1 cp ex),(7,.int .i64 xs.length),(8,.int .i64 j)],h⟩=
   some (.exit 0,⟨[(3,x'),(6,.arr aid 0 xs.length 1 cp ex),(7,.int .i64 xs.length),(8,.int .i64 xs.length),(9,.bool false)],h'⟩)∧Grow c.nx x' h' Fs.flatten:=by
 have hlen:=hb.length_eq
 intro k
 induction k with
 | zero=>
  intro m j x h g hj hm
  obtain ⟨m,rfl⟩ : ∃ q,m=q+1:=⟨m-1,by omega⟩
  obtain rfl:j=xs.length:=by omega
  rw [hlen,List.take_length] at g
  exact ⟨x,h,bc (uo _ _ _) (by simp),g⟩
 | succ k ih=>
  intro m j x h g hj hm
  obtain ⟨m,rfl⟩ : ∃ q,m=q+1:=⟨m-1,by omega⟩
  have hlt:j<xs.length:=by omega
  have hlt2:j<Fs.length:=by omega
  have hbj:Bs c.H c.nx xs[j] Fs[j]:=hb.get j hlt hlt2
  have hsplit:Fs.flatten=((Fs.take j).flatten++Fs[j])++(Fs.drop (j+1)).flatten:=by
   conv=>lhs;rw [←List.take_append_drop j Fs,List.drop_eq_getElem_cons hlt2]
   rw [List.flatten_append,List.flatten_cons,List.append_assoc]
  have hl2:=congrArg List.length hsplit
  rw [List.length_append,List.length_append] at hl2
  obtain ⟨x',h',e,g'⟩:=sq (n:=n) g hbj (by omega) aid cp ex ha haid j (List.getElem?_eq_getElem hlt) hx
  rw [bg e]
  refine ih m (j+1) x' h' ?_ (by omega) (by omega)
  rw [List.take_succ_eq_append_getElem hlt2,List.flatten_append]
  simpa using g'
end join
def sum' (F:List UInt8):LV:=if F=[] then .p (.s (.slice none 0 0)) else .p (.sl (bytP F) F.length 1 false)
theorem Grow.done {H:Heap} {nx:Nat} {x:LV} {h:Hp} {F:List UInt8} (g:Grow nx x h F):finish false H nx x h=some (sum' F,[],[]):=by
 cases g with
 | nil=>rfl
 | arr k F hF=>
  have hl:(List.replicate k (none:Ob)++[some (.cells (byt F))])[k]?=some (some (.cells (byt F))):=by simp
  simp [finish,frz,frzL,ltF,hl,ax,aD,aB,Go.Sx.ids,updIds,reach,ren,renU,renN,sum',hF]
theorem vh (xs:List LV) (Fs:List (List UInt8)) (H:Heap) (nx aid cp:Nat) (ex:Bool) (ha:H aid=some (.cells xs)) (haid:aid<nx) (hb:Bss H nx xs Fs) (hx:xs.length<2^31) (h30:Fs.flatten.length<2^31):
  Ω 59 [.arr aid 0 xs.length 1 cp ex] H nx=some (sum' Fs.flatten,[],[]):=by
 refine av (ir:=ir59) (by kernel_rfl) (xs.length+1) ?_
 obtain ⟨x',h',e,g⟩:=um (c:=⟨Ω,gG,H,nx⟩) (n:=xs.length+1) hb aid cp ex ha haid hx h30 xs.length (xs.length+1) 0 _ _ .nil (by omega) (by omega)
 have d:=g.done (H:=H)
 simp only [Int.natCast_zero,Int.ofNat_zero] at e
 simp [ir59,ssB,ssU,Go.Sx.LV.undef,Go.undef,aq,ao,ae,Go.Sx.splice,appO,Go.Sx.leI_eq,ltF,e,d]
end Go.Proofs.YtoeblkipfdnnlaaGreatDoor
end

section
namespace Go.Proofs.YtoeblkipfdnnlaaGreatDoor
open Go Go.Sx
def pc (l:List PV):List LV:=l.map LV.p
theorem ze:pc []=[]:=rfl
theorem qI (x:PV) (l:List PV):pc (x::l) = .p x::pc l:=rfl
theorem zd (l m:List PV):pc (l++m)=pc l++pc m:=by simp [pc]
theorem fS (l:List PV):(pc l).length=l.length:=by simp [pc]
theorem vV (l:List PV):allP (pc l)=some l:=by
 induction l with
 | nil=>rfl
 | cons x l ih=>rw [qI,allP,ih]
theorem iX (l:List PV):List.take l.length (pc l)=pc l:=by rw [←fS,List.take_length]
theorem yU (l:List PV):List.map LV.p l=pc l:=rfl
def bolP (l:List Bool):List PV:=l.map fun b=>.s (.bool b)
theorem jh:bolP []=[]:=rfl
theorem rS (b:Bool) (l:List Bool):bolP (b::l) = .s (.bool b)::bolP l:=rfl
theorem tm (l m:List Bool):bolP (l++m)=bolP l++bolP m:=by simp [bolP]
theorem bF (l:List Bool):(bolP l).length=l.length:=by simp [bolP]
inductive Bl:LV→List Bool→Prop
 | nil:Bl (.p (.s (.slice none 0 0))) []
 | sl (l:List Bool) (fl:Bool):Bl (.p (.sl (bolP l) l.length 1 fl)) l
abbrev blV (l:List Bool):LV:=.p (.sl (bolP l) l.length 1 false)
theorem n6 (k:Nat) (hk:k≤64) (H:Heap) (nx:Nat):Ω 140 [.int .i64 k] H nx=some (.int .i64 k,[],[]):=by
 refine av (ir:=ir140) (by kernel_rfl) 0 ?_
 have h1:(0:Int)≤k:=by omega
 have h2:(k:Int)≤64:=by omega
 simp [ir140,ssB,ssU,Go.Sx.LV.undef,Go.undef,ssP,appO,h1,h2]
theorem uW (n:Nat) (h:n<2^64):binI .quo .u64 (n:Int) 2=some (.int .u64 (n/2:Nat)):=lU .u64 n 2 (by decide) (fun z hz=>ip z (by omega))
theorem vf (n:Nat):binI .rem .u64 (n:Int) 2=some (.int .u64 (n%2:Nat)):=by
 have:binI .rem .u64 (n:Int) 2=some (.int .u64 ((n:Int).tmod 2)):=by simp [binI]
 rw [this,Int.tmod_eq_emod_of_nonneg (by omega)]
 norm_cast
def Own (c:Ctx) (y:LV) (h:Hp) (l:List Bool):Prop:=h.upd=[]∧((y = .p (.s (.slice none 0 0))∧l=[])∨∃ i ex,l≠[]∧y = .arr i 0 l.length 1 l.length ex∧Go.Sx.look c.H c.nx h i=some (.cells (pc (bolP l)))∧i<c.nx+h.new.length)
theorem sO {c:Ctx} (hO:c.O=Ω) {N:Nat} {h:Hp} {y X:LV} {l:List Bool} (g:Own c y h l) (n k j:Nat) (hn:n<2^64) (hk:k≤64) (hj:j<k) (hl:l.length≤64):
  ∃ y' h',runCS c N ir100_0 ⟨[(0,X),(1,.int .u64 n),(2,.int .i64 k),(7,y),(8,.int .i64 j)],h⟩=some (.normal,⟨[(0,X),(1,.int .u64 (n/2:Nat)),(2,.int .i64 k),(7,y'),(8,.int .i64 (j+1:Nat))],h'⟩)∧Own c y' h' (decide (n%2=1)::l):=by
 have w:=n6 k hk
 rw [←hO] at w
 have q:=uW n hn
 have r:=vf n
 have hjk : ¬(k:Int)≤j:=by omega
 have hw:IntKind.i64.wrap ((j:Int)+1)=(j:Int)+1:=wrap_i64 _ (by omega) (by omega)
 have he:(((n%2:Nat):Int)==1)=decide (n%2=1):=by
  rcases Nat.mod_two_eq_zero_or_one n with h|h<;>simp [h]
 generalize n/2=n2 at*
 generalize n%2=t at*
 obtain ⟨hu,⟨rfl,rfl⟩|⟨i,ex,hne,rfl,hlk,hi⟩⟩:=g
 ·refine ⟨.arr (c.nx+h.new.length) 0 1 1 1 true,push h (.cells (pc (bolP [decide (t=1)]))),?_,hu,.inr ⟨_,true,by simp,rfl,by rw [am,if_pos rfl],by rw [aG];omega⟩⟩
  simp [ir100_0,ssB,ssU,Go.Sx.LV.undef,Go.undef,aq,ao,ae,Go.Sx.splice,Go.Sx.leI_eq,ltF,w,q,r,hjk,hw,he,appO,slCells,bolP,pc,hO]
 ·have hi' : ¬i=c.nx+h.new.length:=by omega
  refine ⟨.arr (c.nx+(h.new.length+1)) 0 (l.length+1) 1 (l.length+1) false,push (push h (.cells (pc (bolP [decide (t=1)])))) (.cells (pc (bolP (decide (t=1)::l)))),?_,hu,.inr ⟨_,false,by simp,rfl,by rw [am,if_pos (by rw [aG])],by rw [aG,aG];omega⟩⟩
  have hlk' : ∀ o,Go.Sx.look c.H c.nx (push h o) i=some (.cells (pc (bolP l))):=fun o=>by rw [am,if_neg hi'];exact hlk
  have hlk2 : ∀ o,Go.Sx.look c.H c.nx (push h o) (c.nx+h.new.length)=some o:=fun o=>by rw [am,if_pos rfl]
  have hl0 : ¬l.length=0:=by simpa using hne
  have h41 : ¬1099511627776<l.length+1:=by omega
  have tk:List.take l.length (pc (bolP l))=pc (bolP l):=by rw [←bF,iX]
  generalize decide (t=1)=b at*
  simp [ir100_0,ssB,ssU,Go.Sx.LV.undef,Go.undef,aq,ao,ae,Go.Sx.splice,Go.Sx.leI_eq,ltF,w,q,r,hjk,hw,he,appO,slCells,hlk',hlk2,hl0,h41,fS,bF,qI,rS,jh,ze,tk,aG,hO,Nat.add_comm 1]
theorem vj {c:Ctx} (hO:c.O=Ω) {N:Nat} {h:Hp} {y X n:LV} (k:Nat) (hk:k≤64):
  runCS c N ir100_0 ⟨[(0,X),(1,n),(2,.int .i64 k),(7,y),(8,.int .i64 k)],h⟩=some (.exit 0,⟨[(0,X),(1,n),(2,.int .i64 k),(7,y),(8,.int .i64 k),(12,.bool false)],h⟩):=by
 have w:=n6 k hk
 rw [←hO] at w
 simp [ir100_0,ssB,ssU,Go.Sx.LV.undef,Go.undef,aq,ao,ae,Go.Sx.splice,Go.Sx.leI_eq,ltF,w,hO]
theorem n9 (n j:Nat):n.testBit j=decide (n/2^j%2=1):=by
 rw [Nat.testBit_eq_decide_div_mod_eq]
theorem sN {c:Ctx} (hO:c.O=Ω) {N:Nat} {X:LV} (n k:Nat) (hn:n<2^64) (hk:k≤64) : ∀ (d j m:Nat) (y:LV) (h:Hp),j+d=k→d<m→Own c y h (bitsOf n j) →
  ∃ y' h' n',iter (runCS c N ir100_0) m ⟨[(0,X),(1,.int .u64 (n/2^j:Nat)),(2,.int .i64 k),(7,y),(8,.int .i64 j)],h⟩=some (.exit 0,⟨[(0,X),(1,n'),(2,.int .i64 k),(7,y'),(8,.int .i64 k),(12,.bool false)],h'⟩)∧Own c y' h' (bitsOf n k):=by
 intro d
 induction d with
 | zero=>
  intro j m y h hj hm g
  obtain ⟨m,rfl⟩ : ∃ r,m=r+1:=⟨m-1,by omega⟩
  obtain rfl:j=k:=by omega
  exact ⟨y,h,_,bc (vj hO j hk) (by simp),g⟩
 | succ d ih=>
  intro j m y h hj hm g
  obtain ⟨m,rfl⟩ : ∃ r,m=r+1:=⟨m-1,by omega⟩
  obtain ⟨y1,h1,e1,g1⟩:=sO hO (N:=N) (X:=X) g (n/2^j) k j (Nat.lt_of_le_of_lt (Nat.div_le_self _ _) hn) hk (by omega) (by rw [aj];omega)
  rw [bg e1]
  have hd:n/2^j/2=n/2^(j+1):=by rw [Nat.div_div_eq_div_mul,Nat.pow_succ]
  rw [hd]
  refine ih (j+1) m y1 h1 (by omega) (by omega) ?_
  rw [←n9] at g1
  exact g1
theorem dg {x:LV} {l:List Bool} (g:Bl x l) (n k:Nat) (hn:n<2^64) (hk0:0<k) (hk:k≤64) (h30:l.length<2^31) (H:Heap) (nx:Nat):
  Ω 100 [x,.int .u64 n,.int .i64 k] H nx=some (blV (l++bitsOf n k),[],[]):=by
 refine av (ir:=ir100) (by kernel_rfl) 65 ?_
 obtain ⟨y,h,n',e1,hu,hor⟩:=sN (c:=⟨Ω,gG,H,nx⟩) rfl (N:=65) (X:=x) n k hn hk k 0 65 (.p (.s (.slice none 0 0))) ⟨[],[]⟩ (by omega) (by omega) ⟨rfl,.inl ⟨rfl,rfl⟩⟩
 obtain ⟨i,ex,hne,rfl,hlk,hi⟩:=hor.resolve_left (by rintro ⟨_,h⟩;have:=aj n k;rw [h] at this;simp at this;omega)
 simp only [Nat.pow_zero,Nat.div_one] at e1
 have hB:=aj n k
 have c0:((0:Nat):Int)=0:=rfl
 rw [c0] at e1
 dsimp only at hlk hi
 generalize bitsOf n k=B at*
 have hi' : ¬i=nx+h.new.length:=by omega
 have hB0 : ¬k=0:=by omega
 have hBl:B.length=k:=hB
 have q41 : ¬1099511627776<k:=by omega
 have q42 : ¬1099511627776<l.length+k:=by omega
 have q43 : ¬1099511627776<l.length:=by omega
 have tk:List.take k (pc (bolP B))=pc (bolP B):=by rw [←hBl,←bF,iX]
 have tl:List.take l.length (pc (bolP l))=pc (bolP l):=by rw [←bF,iX]
 have e2:=e1
 rw [hBl] at e2
 have key : ∀ (h0:Hp) (j:Nat),h0.upd=[]→nx≤j→Go.Sx.look H nx h0 j=some (.cells (pc (bolP (l++B))))→finish false H nx (.arr j 0 (l.length+k) 1 (l.length+k) false) h0=some (blV (l++B),[],[]):=by
  intro h0 j hu0 hj hlk0
  have hjn : ¬j<nx:=by omega
  have hnew:h0.new[j-nx]?=some (some (.cells (pc (bolP (l++B))))):=by
   rw [Go.Sx.look,if_neg hjn] at hlk0
   cases hq:h0.new[j-nx]? with
   | none=>rw [hq] at hlk0;cases hlk0
   | some o=>rw [hq] at hlk0;exact congrArg some hlk0
  have tkk:List.take (l.length+k) (pc (bolP (l++B)))=pc (bolP (l++B)):=by
   have:=iX (bolP (l++B))
   rwa [bF,List.length_append,hBl] at this
  simp [finish,frz,frzL,hjn,hnew,fS,tkk,vV,hu0,updIds,reach,ren,renU,renN,Go.Sx.ids,bF,hBl]
 cases g with
 | nil=>
  obtain ⟨h2,t,m,a1,a2,a3,a4⟩ : ∃ h2 t m,appO ⟨Ω,gG,H,nx⟩ (push h (.cells [])) 1 1 (.arr (nx+h.new.length) 0 0 1 0 true) (.arr i 0 k 1 k ex)=some ⟨.arr (nx+(h.new.length+1)) 0 k 1 k false,h2,t,m⟩∧h2.upd=[]∧Go.Sx.look H nx h2 (nx+(h.new.length+1))=some (.cells (pc (bolP B)))∧True:=by
   have lk0 : ∀ o,Go.Sx.look H nx (push h o) (nx+h.new.length)=some o:=fun o=>by rw [am,if_pos rfl]
   have lk1 : ∀ o,Go.Sx.look H nx (push h o) i=some (.cells (pc (bolP B))):=fun o=>by rw [am,if_neg hi'];exact hlk
   refine ⟨push (push h (.cells [])) (.cells (pc (bolP B))),[nx+h.new.length,i],false,?_,hu,by rw [am,if_pos (by rw [aG])],trivial⟩
   simp [appO,slCells,lk0,lk1,fS,bF,hBl,tk,hB0,q41,aG,Go.Sx.ids]
  have b1:appO ⟨Ω,gG,H,nx⟩ (push h (.cells [])) 1 1 (.arr (nx+h.new.length) 0 0 1 0 true) (.p (.s (.slice none 0 0)))=some ⟨.arr (nx+h.new.length) 0 0 1 0 true,push h (.cells []),[],false⟩:=by simp [appO,slCells,Go.Sx.ids]
  have f:=key h2 _ a2 (by omega) a3
  simp only [List.length_nil,Nat.zero_add] at f
  simp [ir100,ssB,ssU,Go.Sx.LV.undef,Go.undef,aq,ao,ae,Go.Sx.splice,Go.Sx.leI_eq,ltF,e2,a1,b1,f]
 | sl _ fl=>
  by_cases hl0:l.length=0
  ·obtain rfl:l=[]:=List.eq_nil_of_length_eq_zero hl0
   obtain ⟨h2,t,m,a1,a2,a3,a4⟩ : ∃ h2 t m,appO ⟨Ω,gG,H,nx⟩ (push h (.cells [])) 1 1 (.arr (nx+h.new.length) 0 0 1 0 true) (.arr i 0 k 1 k ex)=some ⟨.arr (nx+(h.new.length+1)) 0 k 1 k false,h2,t,m⟩∧h2.upd=[]∧Go.Sx.look H nx h2 (nx+(h.new.length+1))=some (.cells (pc (bolP B)))∧True:=by
    have lk0 : ∀ o,Go.Sx.look H nx (push h o) (nx+h.new.length)=some o:=fun o=>by rw [am,if_pos rfl]
    have lk1 : ∀ o,Go.Sx.look H nx (push h o) i=some (.cells (pc (bolP B))):=fun o=>by rw [am,if_neg hi'];exact hlk
    refine ⟨push (push h (.cells [])) (.cells (pc (bolP B))),[nx+h.new.length,i],false,?_,hu,by rw [am,if_pos (by rw [aG])],trivial⟩
    simp [appO,slCells,lk0,lk1,fS,bF,hBl,tk,hB0,q41,aG,Go.Sx.ids]
   have b1:appO ⟨Ω,gG,H,nx⟩ (push h (.cells [])) 1 1 (.arr (nx+h.new.length) 0 0 1 0 true) (.p (.sl [] 0 1 fl))=some ⟨.arr (nx+h.new.length) 0 0 1 0 true,push h (.cells []),[],false⟩:=by simp [appO,slCells,Go.Sx.ids]
   have f:=key h2 _ a2 (by omega) a3
   simp only [List.length_nil,Nat.zero_add] at f
   simp only [jh,List.length_nil] at e2
   simp [ir100,ssB,ssU,Go.Sx.LV.undef,Go.undef,aq,ao,ae,Go.Sx.splice,Go.Sx.leI_eq,ltF,e2,a1,b1,f,jh]
  ·have lk0 : ∀ o,Go.Sx.look H nx (push h o) (nx+h.new.length)=some o:=fun o=>by rw [am,if_pos rfl]
   have lk1 : ∀ o,Go.Sx.look H nx (push h o) i=some (.cells (pc (bolP B))):=fun o=>by rw [am,if_neg hi'];exact hlk
   have b1:appO ⟨Ω,gG,H,nx⟩ (push h (.cells [])) 1 1 (.arr (nx+h.new.length) 0 0 1 0 true) (.p (.sl (bolP l) l.length 1 fl))=some ⟨.arr (nx+(h.new.length+1)) 0 l.length 1 l.length false,push (push h (.cells [])) (.cells (pc (bolP l))),[nx+h.new.length],false⟩:=by
    simp [appO,slCells,lk0,fS,bF,hl0,q43,aG,Go.Sx.ids,yU]
   have hi3 : ¬i=nx+(push h (.cells [])).new.length:=by rw [aG];omega
   have lk2 : ∀ o o',Go.Sx.look H nx (push (push h o) o') i=some (.cells (pc (bolP B))):=fun o o'=>by rw [am,if_neg (by rw [aG];omega)];exact lk1 o
   have lk3 : ∀ o o',Go.Sx.look H nx (push (push h o) o') (nx+(h.new.length+1))=some o':=fun o o'=>by rw [am,if_pos (by rw [aG])]
   obtain ⟨h2,t,m,a1,a2,a3,a4⟩ : ∃ h2 t m,appO ⟨Ω,gG,H,nx⟩ (push (push h (.cells [])) (.cells (pc (bolP l)))) 1 1 (.arr (nx+(h.new.length+1)) 0 l.length 1 l.length false) (.arr i 0 k 1 k ex)=some ⟨.arr (nx+(h.new.length+2)) 0 (l.length+k) 1 (l.length+k) false,h2,t,m⟩∧h2.upd=[]∧Go.Sx.look H nx h2 (nx+(h.new.length+2))=some (.cells (pc (bolP (l++B))))∧True:=by
    refine ⟨push (Go.Sx.setObj nx (push (push h (.cells [])) (.cells (pc (bolP l)))) (nx+(h.new.length+1)) none) (.cells (pc (bolP (l++B)))),[nx+(h.new.length+1),i],true,?_,by rw [nO,cB _ _ _ _ (by omega)];exact hu,by rw [am,if_pos (by rw [az,aG,aG])],trivial⟩
    simp [appO,slCells,lk2,lk3,fS,bF,hBl,tk,hB0,q42,aG,Go.Sx.ids,tm,zd]
   have f:=key h2 _ a2 (by omega) a3
   simp [ir100,ssB,ssU,Go.Sx.LV.undef,Go.undef,aq,ao,ae,Go.Sx.splice,Go.Sx.leI_eq,ltF,e2,a1,b1,f]
end Go.Proofs.YtoeblkipfdnnlaaGreatDoor
end

section
namespace Go.Proofs.YtoeblkipfdnnlaaGreatDoor
open Go Go.Sx
theorem xj (k:IntKind) (x y:Nat) (hy:0<y):binI .rem k (x:Int) (y:Int)=some (.int k (x%y:Nat)):=by
 have:binI .rem k (x:Int) (y:Int)=some (.int k ((x:Int).tmod y)):=by simp [binI];omega
 rw [this,Int.tmod_eq_emod_of_nonneg (by omega)]
 norm_cast
theorem oQ (n:Nat):binI .rem .u64 (n:Int) 128=some (.int .u64 (n%128:Nat)):=xj .u64 n 128 (by decide)
theorem oN (n:Nat) (h:n<2^64):binI .quo .u64 (n:Int) 128=some (.int .u64 (n/128:Nat)):=lU .u64 n 128 (by decide) (fun z hz=>ip z (by omega))
theorem yi : ∀ (n:Nat),n<2^64→∀ (H:Heap) (nx:Nat),Ω 98 [.int .u64 n] H nx=some (.arr nx 0 (vnum n).length 1 (vnum n).length (decide (n<128)),[],[some (.cells (byt (vnum n)))]):=by
 intro n
 induction n using Nat.strongRecOn with
 | ind n ih=>
  intro h64 H nx
  refine av (ir:=ir98) (by kernel_rfl) 0 ?_
  have w:=iZ n
  by_cases hn:n<128
  ·have h1 : ¬(128:Int)≤n:=by omega
   rw [bV hn]
   generalize UInt8.ofNat n=b at*
   simp [ir98,ssB,ssU,Go.Sx.LV.undef,Go.undef,ssP,appO,h1,hn,w,byt]
  ·have h1:(128:Int)≤n:=by omega
   have i:=ih (n/128) (by omega) (by omega)
   have r:=oQ n
   have q:=oN n h64
   have a:IntKind.u64.wrap (((n%128:Nat):Int)+128)=((n%128+128:Nat):Int):=by
    rw [show (((n%128:Nat):Int)+128)=((n%128+128:Nat):Int) by omega,ip _ (by omega)]
   have w:=iZ (n%128+128)
   have hv:=gO (n/128)
   have hv0 : ¬(vnum (n/128)).length=0:=by omega
   have hvl:=cK n h64
   rw [fy hn,List.length_cons] at hvl ⊢
   have h41 : ¬1099511627776<1+(vnum (n/128)).length:=by omega
   have h42 : ¬1099511627776<(vnum (n/128)).length+1:=by omega
   generalize UInt8.ofNat (n%128+128)=b at*
   generalize n/128=m at*
   generalize n%128+128=s at*
   generalize n%128=t at*
   generalize decide (m<128)=ex at*
   rw [cj]
   generalize vnum m=V at*
   simp [ir98,ssB,ssU,Go.Sx.LV.undef,Go.undef,ssP,appO,h1,hn,i,r,q,a,w,ax,ak,aD,aH,aK,aO,aR,aB,aF,hv0,h41,h42,Nat.add_comm 1]
section frame
theorem Ai {H:Heap} {nx:Nat} {x y z:LV} {F G K:List UInt8} (f:Bs H nx x F) (g:Bs H nx y G) (k:Bs H nx z K) (h30:F.length+G.length+K.length<2^31) (aid:Nat) (ha:H aid=some (.cells [x,y,z])) (haid:aid<nx):
  Ω 59 [.arr aid 0 3 1 3 true] H nx=some (sum' (F++G++K),[],[]):=by
 have:=vh [x,y,z] [F,G,K] H nx aid 3 true ha haid (.cons f (.cons g (.cons k .nil))) (by simp) (by simp;omega)
 simpa using this
theorem iW {F:List UInt8} (h:F≠[]):sum' F = .p (.sl (bytP F) F.length 1 false):=by simp [sum',h]
end frame
end Go.Proofs.YtoeblkipfdnnlaaGreatDoor
end

section
namespace Go.Proofs.YtoeblkipfdnnlaaGreatDoor
open Go Go.Sx
theorem uT {c:Ctx} {N:Nat} {h:Hp} (b j:Nat) (hj:j<b) (hb:b≤63):runCS c N ir139_0 ⟨[(0,.int .i64 b),(3,.int .u64 (2^j:Nat)),(4,.int .i64 j)],h⟩=some (.normal,⟨[(0,.int .i64 b),(3,.int .u64 (2^(j+1):Nat)),(4,.int .i64 (j+1:Nat))],h⟩):=by
 have h1 : ¬(b:Int)≤j:=by omega
 have hw:IntKind.i64.wrap ((j:Int)+1)=(j:Int)+1:=wrap_i64 _ (by omega) (by omega)
 have hp:2^(j+1)≤2^63:=Nat.pow_le_pow_right (by decide) (by omega)
 have he:2^(j+1)=2^j*2:=Nat.pow_succ _ _
 have hm:IntKind.u64.wrap (((2^j:Nat):Int)*2)=((2^(j+1):Nat):Int):=by
  rw [aQ _ (by omega) (by omega),he]
  omega
 generalize (2^(j+1):Nat)=y at*
 generalize (2^j:Nat)=x at*
 simp [ir139_0,ssB,ssU,Go.Sx.LV.undef,Go.undef,ssP,appO,h1,hw,hm]
theorem xe {c:Ctx} {N:Nat} {h:Hp} (b:Nat) (x:LV):runCS c N ir139_0 ⟨[(0,.int .i64 b),(3,x),(4,.int .i64 b)],h⟩=some (.exit 0,⟨[(0,.int .i64 b),(3,x),(4,.int .i64 b),(7,.bool false)],h⟩):=by
 simp [ir139_0,ssB,ssU,Go.Sx.LV.undef,Go.undef,ssP,appO]
theorem uS {c:Ctx} {N:Nat} {h:Hp} (b:Nat) (hb:b≤63) : ∀ (d j m:Nat),j+d=b→d<m→iter (runCS c N ir139_0) m ⟨[(0,.int .i64 b),(3,.int .u64 (2^j:Nat)),(4,.int .i64 j)],h⟩=some (.exit 0,⟨[(0,.int .i64 b),(3,.int .u64 (2^b:Nat)),(4,.int .i64 b),(7,.bool false)],h⟩):=by
 intro d
 induction d with
 | zero=>
  intro j m hj hm
  obtain ⟨m,rfl⟩ : ∃ r,m=r+1:=⟨m-1,by omega⟩
  obtain rfl:j=b:=by omega
  exact bc (xe j _) (by simp)
 | succ d ih=>
  intro j m hj hm
  obtain ⟨m,rfl⟩ : ∃ r,m=r+1:=⟨m-1,by omega⟩
  rw [bg (uT b j (by omega) hb)]
  exact ih (j+1) m (by omega) (by omega)
theorem re (b:Nat) (hb:b≤63) (H:Heap) (nx:Nat):Ω 139 [.int .i64 b] H nx=some (.int .u64 (2^b:Nat),[],[]):=by
 refine av (ir:=ir139) (by kernel_rfl) 64 ?_
 have e:=uS (c:=⟨Ω,gG,H,nx⟩) (N:=64) (h:=⟨[],[]⟩) b hb b 0 64 (by omega) (by omega)
 have e':iter (runCS ⟨Ω,gG,H,nx⟩ 64 ir139_0) 64 ⟨[(0,.int .i64 b),(3,.int .u64 1),(4,.int .i64 0)],⟨[],[]⟩⟩=some (.exit 0,⟨[(0,.int .i64 b),(3,.int .u64 (2^b:Nat)),(4,.int .i64 b),(7,.bool false)],⟨[],[]⟩⟩):=e
 generalize (2^b:Nat)=y at*
 simp [ir139,ssB,ssU,Go.Sx.LV.undef,Go.undef,ssP,appO,e']
section num
variable {c:Ctx} (hO:c.O=Ω)
include hO
theorem oS {N:Nat} {h:Hp} {x:LV} {l:List Bool} (g:Bl x l) (h30:l.length<2^31) (v b:Nat) (hv:v<2^64) (hb:b<64) (hvb:2^b≤v):
  runCS c N ir99_0 ⟨[(0,x),(1,.int .u64 v),(5,.int .i64 b)],h⟩=some (.normal,⟨[(0,blV (l++[true])),(1,.int .u64 (v-2^b:Nat)),(5,.int .i64 (b+1:Nat))],h⟩):=by
 have p:=re b (by omega)
 have q:=dg g 1 1 (by decide) (by decide) (by decide) h30
 have hB:bitsOf 1 1=[true]:=by decide
 rw [hB] at q
 have c1:((1:Nat):Int)=1:=rfl
 rw [c1] at q
 rw [←hO] at p q
 have h1 : ¬(64:Int)≤b:=by omega
 have hw:IntKind.i64.wrap ((b:Int)+1)=(b:Int)+1:=wrap_i64 _ (by omega) (by omega)
 generalize (2^b:Nat)=y at*
 have h2:(y:Int)≤v:=by omega
 have hs:IntKind.u64.wrap ((v:Int)-y)=((v-y:Nat):Int):=by rw [aQ _ (by omega) (by omega)];omega
 have h3:y≤v:=hvb
 generalize (v-y:Nat)=z at*
 simp [ir99_0,ssB,ssU,Go.Sx.LV.undef,Go.undef,aq,ao,ae,Go.Sx.splice,Go.Sx.leI_eq,ltF,p,q,h1,h2,h3,hw,hs,hO]
theorem kQ {N:Nat} {h:Hp} {x:LV} (v b:Nat) (hb:b≤64) (hvb:b=64∨v<2^b):
  runCS c N ir99_0 ⟨[(0,x),(1,.int .u64 v),(5,.int .i64 b)],h⟩=some (.exit 0,⟨[(0,x),(1,.int .u64 v),(5,.int .i64 b),(13,.bool false)],h⟩):=by
 by_cases h64:b=64
 ·subst h64
  simp [ir99_0,ssB,ssU,Go.Sx.LV.undef,Go.undef,aq,ao,ae,Go.Sx.splice,Go.Sx.leI_eq,ltF,hO]
 ·have p:=re b (by omega)
  rw [←hO] at p
  have h1 : ¬(64:Int)≤b:=by omega
  have h2:=hvb.resolve_left h64
  generalize (2^b:Nat)=y at*
  have h3 : ¬(y:Int)≤v:=by omega
  have h4 : ¬y≤v:=by omega
  simp [ir99_0,ssB,ssU,Go.Sx.LV.undef,Go.undef,aq,ao,ae,Go.Sx.splice,Go.Sx.leI_eq,ltF,p,h1,h3,h4,hO]
theorem oR {N:Nat} {h:Hp} : ∀ (f q v b:Nat) (x:LV) (l:List Bool),b+f=64→f<q→v<2^64→0<b→Bl x l→l.length+f<2^31 →
  ∃ x' v' b' k,iter (runCS c N ir99_0) q ⟨[(0,x),(1,.int .u64 v),(5,.int .i64 b)],h⟩=some (.exit 0,⟨[(0,x'),(1,.int .u64 (v':Nat)),(5,.int .i64 (b':Nat)),(13,.bool false)],h⟩) ∧
   Bl x' (l++List.replicate k true)∧numBits v b f=List.replicate k true++false::bitsOf v' b'∧b'≤64∧0<b'∧v'<2^64∧k≤f:=by
 intro f
 induction f with
 | zero=>
  intro q v b x l hb hq hv hb0 g hl
  obtain ⟨q,rfl⟩ : ∃ r,q=r+1:=⟨q-1,by omega⟩
  exact ⟨x,v,b,0,bc (kQ hO v b (by omega) (.inl (by omega))) (by simp),by simpa using g,rfl,by omega,hb0,hv,Nat.le_refl _⟩
 | succ f ih=>
  intro q v b x l hb hq hv hb0 g hl
  obtain ⟨q,rfl⟩ : ∃ r,q=r+1:=⟨q-1,by omega⟩
  have hpos:0<2^b:=Nat.two_pow_pos b
  have hsh:0<v >>> b↔2^b≤v:=by rw [Nat.shiftRight_eq_div_pow];exact Nat.div_pos_iff.trans ⟨fun h=>h.2,fun h=>⟨hpos,h⟩⟩
  by_cases hs:2^b≤v
  ·rw [bg (oS hO g (by omega) v b hv (by omega) hs)]
   obtain ⟨x',v',b',k,e1,e2,e3,e4,e5,e6,e7⟩:=ih q (v-2^b) (b+1) (blV (l++[true])) (l++[true]) (by omega) (by omega) (Nat.lt_of_le_of_lt (Nat.sub_le _ _) hv) (by omega) (.sl _ false) (by simp;omega)
   refine ⟨x',v',b',k+1,e1,?_,?_,e4,e5,e6,by omega⟩
   ·simpa [List.replicate_succ,List.append_assoc] using e2
   ·rw [numBits,if_pos (hsh.2 hs),e3];rfl
  ·exact ⟨x,v,b,0,bc (kQ hO v b (by omega) (.inr (by omega))) (by simp),by simpa using g,by rw [numBits,if_neg (fun h=>hs (hsh.1 h))];rfl,by omega,hb0,hv,Nat.zero_le _⟩
end num
theorem lW {x:LV} {l:List Bool} (g:Bl x l) (v:Nat) (hv:v<2^64) (h30:l.length+200<2^31) (H:Heap) (nx:Nat):
  Ω 99 [x,.int .u64 v] H nx=some (blV (l++numBits v 2 62),[],[]):=by
 refine av (ir:=ir99) (by kernel_rfl) 63 ?_
 obtain ⟨x',v',b',k,e1,e2,e3,e4,e5,e6,e7⟩:=oR (c:=⟨Ω,gG,H,nx⟩) rfl (N:=63) (h:=⟨[],[]⟩) 62 63 v 2 x l rfl (by decide) hv (by decide) g (by omega)
 have q1:=dg e2 0 1 (by decide) (by decide) (by decide) (by simp;omega)
 have hB:bitsOf 0 1=[false]:=by decide
 rw [hB] at q1
 have q2:=dg (.sl (l++List.replicate k true++[false]) false) v' b' e6 e5 e4 (by simp;omega)
 have hl:l++List.replicate k true++[false]++bitsOf v' b'=l++numBits v 2 62:=by rw [e3];simp
 rw [hl] at q2
 have c0:((0:Nat):Int)=0:=rfl
 have c1:((1:Nat):Int)=1:=rfl
 have c2:((2:Nat):Int)=2:=rfl
 rw [c0,c1] at q1
 rw [c2] at e1
 generalize l++List.replicate k true++[false]=L1 at*
 generalize l++numBits v 2 62=L2 at*
 have f:=fun h hu=>fE H nx (.sl (bolP L2) L2.length 1 false) h hu
 simp [ir99,ssB,ssU,Go.Sx.LV.undef,Go.undef,aq,ao,ae,Go.Sx.splice,Go.Sx.leI_eq,ltF,e1,q1,q2,f]
end Go.Proofs.YtoeblkipfdnnlaaGreatDoor
end

section
namespace Go.Proofs.YtoeblkipfdnnlaaGreatDoor
open Go Go.Sx
def valB (l:List Bool) (i:Nat):Nat→Nat
 | 0=>0
 | k+1=>2*valB l i k+(if l.getD (i+k) false then 1 else 0)
theorem mi (l:List Bool) (i:Nat) : ∀ k,valB l i k<2^k
 | 0=>by simp [valB]
 | k+1=>by
  have:=mi l i k
  rw [valB,Nat.pow_succ]
  split<;>omega
theorem v4 {l:List Bool} {j:Nat} (h:j<l.length):(bolP l)[j]?=some (.s (.bool (l.getD j false))):=by
 simp [bolP,h,List.getD]
section
variable {c:Ctx} {N:Nat} {h:Hp}
theorem sI {x:LV} {l:List Bool} (g:Bl x l) (h30:l.length<2^31) (out:LV) (i k b:Nat) (hi:i<2^31) (hk:k<8) (hb:b<128):
  runCS c N ir57_0 ⟨[(0,x),(3,out),(4,.int .i64 i),(5,.int .u8 b),(6,.int .i64 k)],h⟩=
   some (.normal,⟨[(0,x),(3,out),(4,.int .i64 i),(5,.int .u8 (2*b+(if l.getD (i+k) false then 1 else 0):Nat)),(6,.int .i64 (k+1:Nat))],h⟩):=by
 have h1 : ¬(8:Int)≤k:=by omega
 have w1:IntKind.i64.wrap ((i:Int)+k)=((i+k:Nat):Int):=by rw [wrap_i64 _ (by omega) (by omega)];omega
 have w2:IntKind.i64.wrap ((k:Int)+1)=(k:Int)+1:=wrap_i64 _ (by omega) (by omega)
 have w3:IntKind.u8.wrap ((b:Int)*2)=((2*b:Nat):Int):=by
  simp [IntKind.wrap,IntKind.signed,IntKind.bits];omega
 have w4:IntKind.u8.wrap (((2*b:Nat):Int)+1)=((2*b+1:Nat):Int):=by
  simp [IntKind.wrap,IntKind.signed,IntKind.bits];omega
 generalize hj:i+k=j at*
 by_cases hlt:j<l.length
 ·have gt : ¬(l.length:Int)≤j:=by omega
  have gt' : ¬l.length≤j:=by omega
  have hg : ∀ hh:j<(bolP l).length,(bolP l)[j] = .s (.bool (l.getD j false)):=fun hh=>by
   have:=v4 hlt
   rw [List.getElem?_eq_getElem hh] at this
   exact Option.some.inj this
  cases g with
  | nil=>simp at hlt
  | sl _ fl=>
   generalize l.getD j false=y at*
   generalize hb1:2*b+1=b1 at*
   cases y
   ·rw [if_neg (by simp),Nat.add_zero]
    generalize 2*b=b2 at*
    simp [ir57_0,ssB,ssU,Go.Sx.LV.undef,Go.undef,ssP,appO,h1,w1,w2,w3,w4,gt,gt',hg,hlt,bF]
   ·rw [if_pos rfl]
    generalize hb2:2*b=b2 at*
    simp [ir57_0,ssB,ssU,Go.Sx.LV.undef,Go.undef,ssP,appO,h1,w1,w2,w3,w4,gt,gt',hg,hlt,bF]
    omega
 ·have gt:(l.length:Int)≤j:=by omega
  have gt':l.length≤j:=by omega
  have hd:l.getD j false=false:=by simp [List.getD,List.getElem?_eq_none gt']
  rw [hd,if_neg (by simp),Nat.add_zero]
  generalize 2*b=b2 at*
  cases g with
  | nil=>
   have gt2:(0:Int)≤j:=by omega
   simp [ir57_0,ssB,ssU,Go.Sx.LV.undef,Go.undef,ssP,appO,h1,w1,w2,w3,gt2]
  | sl _ fl=>simp [ir57_0,ssB,ssU,Go.Sx.LV.undef,Go.undef,ssP,appO,h1,w1,w2,w3,gt,gt']
theorem u7 (x out i b:LV):runCS c N ir57_0 ⟨[(0,x),(3,out),(4,i),(5,b),(6,.int .i64 8)],h⟩=some (.exit 2,⟨[(0,x),(3,out),(4,i),(5,b),(6,.int .i64 8),(14,.bool false)],h⟩):=by
 simp [ir57_0,ssB,ssU,Go.Sx.LV.undef,Go.undef,ssP,appO]
theorem sH {x:LV} {l:List Bool} (g:Bl x l) (h30:l.length<2^31) (out:LV) (i:Nat) (hi:i<2^31) : ∀ (d k m:Nat),k+d=8→d<m →
  iter (runCS c N ir57_0) m ⟨[(0,x),(3,out),(4,.int .i64 i),(5,.int .u8 (valB l i k)),(6,.int .i64 k)],h⟩=
   some (.exit 2,⟨[(0,x),(3,out),(4,.int .i64 i),(5,.int .u8 (valB l i 8)),(6,.int .i64 8),(14,.bool false)],h⟩):=by
 intro d
 induction d with
 | zero=>
  intro k m hk hm
  obtain ⟨m,rfl⟩ : ∃ r,m=r+1:=⟨m-1,by omega⟩
  obtain rfl:k=8:=by omega
  exact bc (u7 _ _ _ _) (by simp)
 | succ d ih=>
  intro k m hk hm
  obtain ⟨m,rfl⟩ : ∃ r,m=r+1:=⟨m-1,by omega⟩
  have hv:=mi l i k
  have hp:2^k≤2^7:=Nat.pow_le_pow_right (by decide) (by omega)
  rw [bg (sI g h30 out i k (valB l i k) hi (by omega) (by omega))]
  exact ih (k+1) m (by omega) (by omega)
def Acc (c:Ctx) (x:LV) (h:Hp) (q:List UInt8):Prop:=h.upd=[]∧Rdy c x h q∧((q=[]∧x = .p (.s (.slice none 0 0)))∨∃ i,q≠[]∧c.nx≤i∧x = .arr i 0 q.length 1 q.length false∧Go.Sx.look c.H c.nx h i=some (.cells (byt q)))
theorem vd {x out:LV} {l:List Bool} {q:List UInt8} (g:Bl x l) (h30:l.length<2^30) (hN:9≤N) (a:Acc c out h q) (hq:q.length+1<2^31) (i:Nat) (hi:i<l.length):
  ∃ out' h',runCS c N ir57_1 ⟨[(0,x),(3,out),(4,.int .i64 i)],h⟩=some (.normal,⟨[(0,x),(3,out'),(4,.int .i64 (i+8:Nat))],h'⟩)∧Acc c out' h' (q++[UInt8.ofNat (valB l i 8)]):=by
 obtain ⟨hu,hr,_⟩:=a
 obtain ⟨h'',t,m,e1,e2,e3,e4⟩:=hr (UInt8.ofNat (valB l i 8))
 have hv:=mi l i 8
 have ht:((UInt8.ofNat (valB l i 8)).toNat:Int)=(valB l i 8:Nat):=by simp;omega
 have lp:=sH (c:=c) (N:=N) (h:=h) g (by omega) out i (by omega) 8 0 N (by omega) (by omega)
 have hw:IntKind.i64.wrap ((i:Int)+8)=(i:Int)+8:=wrap_i64 _ (by omega) (by omega)
 have gt : ¬(l.length:Int)≤i:=by omega
 have gt' : ¬l.length≤i:=by omega
 have lp':iter (runCS c N ir57_0) N ⟨[(0,x),(3,out),(4,.int .i64 i),(5,.int .u8 0),(6,.int .i64 0)],h⟩=
   some (.exit 2,⟨[(0,x),(3,out),(4,.int .i64 i),(5,.int .u8 (valB l i 8)),(6,.int .i64 8),(14,.bool false)],h⟩):=lp
 rw [ht] at e1
 have own:Rdy c (.arr (c.nx+(h.new.length+1)) 0 (q.length+1) 1 (q.length+1) false) h'' (q++[UInt8.ofNat (valB l i 8)]):=by
  have:=qx e2 (by rw [e4];omega) (by omega) e3 (by simp;omega)
  simpa using this
 refine ⟨.arr (c.nx+(h.new.length+1)) 0 (q.length+1) 1 (q.length+1) false,h'',?_,e3,own,.inr ⟨c.nx+(h.new.length+1),by simp,Nat.le_add_right _ _,by simp,e2⟩⟩
 clear own
 generalize valB l i 8=v at*
 cases g with
 | nil=>simp at hi
 | sl _ fl=>simp [ir57_1,ssB,ssU,Go.Sx.LV.undef,Go.undef,aq,ao,ae,Go.Sx.splice,Go.Sx.leI_eq,ltF,gt,gt',hi,lp',e1,hw]
theorem qY {x out:LV} {l:List Bool} (g:Bl x l) (i:Nat) (hi:l.length≤i):runCS c N ir57_1 ⟨[(0,x),(3,out),(4,.int .i64 i)],h⟩=some (.exit 0,⟨[(0,x),(3,out),(4,.int .i64 i),(10,.bool false)],h⟩):=by
 have gt:(l.length:Int)≤i:=by omega
 cases g with
 | nil=>
  have gt2:(0:Int)≤i:=by omega
  simp [ir57_1,ssB,ssU,Go.Sx.LV.undef,Go.undef,aq,ao,ae,Go.Sx.splice,Go.Sx.leI_eq,ltF,gt2]
 | sl _ fl=>simp [ir57_1,ssB,ssU,Go.Sx.LV.undef,Go.undef,aq,ao,ae,Go.Sx.splice,Go.Sx.leI_eq,ltF,gt,hi]
def packR (l:List Bool):Nat→Nat→List UInt8
 | 0,_=>[]
 | f+1,i=>if i<l.length then UInt8.ofNat (valB l i 8)::packR l f (i+8) else []
theorem u9 {x:LV} {l:List Bool} (g:Bl x l) (h30:l.length<2^30) (hN:9≤N) : ∀ (f m i:Nat) (out:LV) (h:Hp) (q:List UInt8),l.length<i+8*f→f<m→q.length≤i→Acc c out h q →
  ∃ out' h' i',iter (runCS c N ir57_1) m ⟨[(0,x),(3,out),(4,.int .i64 i)],h⟩=some (.exit 0,⟨[(0,x),(3,out'),(4,i'),(10,.bool false)],h'⟩)∧Acc c out' h' (q++packR l f i):=by
 intro f
 induction f with
 | zero=>
  intro m i out h q hl hm hq a
  obtain ⟨m,rfl⟩ : ∃ r,m=r+1:=⟨m-1,by omega⟩
  exact ⟨out,h,_,bc (qY g i (by omega)) (by simp),by simpa [packR] using a⟩
 | succ f ih=>
  intro m i out h q hl hm hq a
  obtain ⟨m,rfl⟩ : ∃ r,m=r+1:=⟨m-1,by omega⟩
  by_cases hi:i<l.length
  ·obtain ⟨out',h',e1,a'⟩:=vd (N:=N) g h30 hN a (by omega) i hi
   rw [bg e1]
   obtain ⟨out2,h2,i2,e2,a2⟩:=ih m (i+8) out' h' _ (by omega) (by omega) (by simp;omega) a'
   exact ⟨out2,h2,i2,e2,by rw [packR,if_pos hi];simpa using a2⟩
  ·exact ⟨out,h,_,bc (qY g i (by omega)) (by simp),by rw [packR,if_neg hi];simpa using a⟩
end
theorem xg {x:LV} {l:List Bool} (g:Bl x l) (h30:l.length<2^30) (H:Heap) (nx:Nat):Ω 57 [x] H nx=some (sum' (packR l (l.length+1) 0),[],[]):=by
 refine av (ir:=ir57) (by kernel_rfl) (l.length+10) ?_
 obtain ⟨out,h,i',e1,hu,hr,hor⟩:=u9 (c:=⟨Ω,gG,H,nx⟩) (N:=l.length+10) g h30 (by omega) (l.length+1) (l.length+10) 0 (.p (.s (.slice none 0 0))) ⟨[],[]⟩ [] (by omega) (by omega) (by simp)
  ⟨rfl,Ini.rdy .nil (by simp),.inl ⟨rfl,rfl⟩⟩
 have f:finish false H nx out h=some (sum' ([]++packR l (l.length+1) 0),[],[]):=by
  generalize []++packR l (l.length+1) 0=q at*
  rcases hor with ⟨rfl,rfl⟩|⟨i,hne,hi,rfl,hlk⟩
  ·exact fE _ _ _ _ hu
  ·have hjn : ¬i<nx:=by simp only [] at hi;omega
   have hnew:h.new[i-nx]?=some (some (.cells (byt q))):=by
    simp only [] at hlk
    rw [Go.Sx.look,if_neg hjn] at hlk
    cases hq:h.new[i-nx]? with
    | none=>rw [hq] at hlk;cases hlk
    | some o=>rw [hq] at hlk;exact congrArg some hlk
   rw [iW hne]
   simp [finish,frz,frzL,hjn,hnew,ax,aD,aB,hu,updIds,reach,ren,renU,renN,Go.Sx.ids]
 have c0:((0:Nat):Int)=0:=rfl
 rw [c0] at e1
 rw [List.nil_append] at f
 generalize packR l (l.length+1) 0=q at*
 simp [ir57,ssB,ssU,Go.Sx.LV.undef,Go.undef,aq,ao,ae,Go.Sx.splice,Go.Sx.leI_eq,ltF,e1,f]
end Go.Proofs.YtoeblkipfdnnlaaGreatDoor
end

section
namespace Go.Proofs.YtoeblkipfdnnlaaGreatDoor
open Go Go.Sx
def valL:Nat→List Bool→Nat
 | v,[]=>v
 | v,b::r=>valL (2*v+(if b then 1 else 0)) r
theorem vJ (v:Nat) (l m:List Bool):valL v (l++m)=valL (valL v l) m:=by
 induction l generalizing v with
 | nil=>rfl
 | cons b l ih=>rw [List.cons_append,valL,valL,ih]
def sb (x:UInt8) (k:Nat) (b:Bool):UInt8:=if b then x ||| UInt8.ofNat (128 >>> k) else x
theorem zF : ∀ k:Fin 8,∀ v:Fin 256,v.val<2^k.val→UInt8.ofNat (v.val*2^(8-k.val)) ||| UInt8.ofNat (128 >>> k.val)=UInt8.ofNat ((2*v.val+1)*2^(7-k.val)):=by decide +kernel
theorem vw (v k:Nat) (b:Bool) (hk:k<8) (hv:v<2^k):sb (UInt8.ofNat (v*2^(8-k))) k b=UInt8.ofNat ((2*v+(if b then 1 else 0))*2^(7-k)):=by
 have hp:2^k≤2^7:=Nat.pow_le_pow_right (by decide) (by omega)
 cases b
 ·have:8-k=(7-k)+1:=by omega
  rw [this,Nat.pow_succ]
  simp only [sb,Bool.false_eq_true,if_false,Nat.add_zero]
  congr 1
  rw [Nat.mul_comm 2 v,Nat.mul_assoc,Nat.mul_comm 2]
 ·exact zF ⟨k,hk⟩ ⟨v,by omega⟩ hv
theorem rM (p:List UInt8) (x:UInt8) (k:Nat) (b:Bool) (h0:0<k) (hk:k<8):addBit (p++[x]) (8*p.length+k) b=p++[sb x k b]:=by
 have h1 : ¬(8*p.length+k)%8=0:=by omega
 have h2:(8*p.length+k)/8=p.length:=by omega
 have h3:(8*p.length+k)%8=k:=by omega
 have hk0 : ¬k=0:=by omega
 unfold addBit sb
 simp only [h2,h3,hk0,if_false]
 cases b<;>simp
theorem oi (p:List UInt8) (b:Bool):addBit p (8*p.length) b=p++[sb 0 0 b]:=by
 have h1:(8*p.length)%8=0:=by omega
 have h2:(8*p.length)/8=p.length:=by omega
 unfold addBit sb
 simp only [h1,if_pos,h2]
 cases b<;>simp
theorem jc (p:List UInt8) : ∀ (l:List Bool) (v k:Nat),0<k→k+l.length≤8→v<2^k→addBits (p++[UInt8.ofNat (v*2^(8-k))]) (8*p.length+k) l=p++[UInt8.ofNat (valL v l*2^(8-(k+l.length)))]
 | [],v,k,h0,hk,hv=>rfl
 | b::r,v,k,h0,hk,hv=>by
  rw [List.length_cons] at hk
  rw [addBits,rM p _ k b h0 (by omega),vw v k b (by omega) hv,List.length_cons,valL,show k+(r.length+1)=(k+1)+r.length by omega,show 8*p.length+k+1=8*p.length+(k+1) by omega]
  have:7-k=8-(k+1):=by omega
  rw [this]
  refine jc p r _ (k+1) (by omega) (by omega) ?_
  rw [Nat.pow_succ]
  split<;>omega
theorem kZ (p:List UInt8) (l:List Bool) (h0:l≠[]) (h8:l.length≤8):addBits p (8*p.length) l=p++[UInt8.ofNat (valL 0 l*2^(8-l.length))]:=by
 cases l with
 | nil=>exact absurd rfl h0
 | cons b r=>
  rw [List.length_cons] at h8
  have e:=vw 0 0 b (by decide) (by decide)
  have e0:UInt8.ofNat (0*2^(8-0))=0:=by decide
  rw [e0] at e
  rw [addBits,oi,e,valL,List.length_cons,show r.length+1=1+r.length by omega]
  exact jc p r _ 1 (by decide) (by omega) (by split<;>decide)
def packL:Nat→List Bool→List UInt8
 | 0,_=>[]
 | f+1,l=>if l=[] then [] else UInt8.ofNat (valL 0 (l.take 8)*2^(8-(l.take 8).length))::packL f (l.drop 8)
theorem dN : ∀ (f:Nat) (p:List UInt8) (l:List Bool),l.length<8*f→addBits p (8*p.length) l=p++packL f l
 | 0,p,l,h=>by omega
 | f+1,p,l,h=>by
  by_cases h0:l=[]
  ·subst h0;simp [packL,addBits]
  ·rw [packL,if_neg h0]
   have hl:0<l.length:=List.length_pos_iff.2 h0
   conv=>lhs;rw [←List.take_append_drop 8 l,bZ]
   have ht:(l.take 8)≠[]:=by
    intro he
    have:=congrArg List.length he
    rw [List.length_take,List.length_nil] at this
    omega
   rw [kZ p _ ht (by simp;omega)]
   by_cases hd:l.drop 8=[]
   ·rw [hd]
    cases f<;>simp [addBits,packL]
   ·have h8:8<l.length:=by
     have:=List.length_pos_iff.2 hd
     simp at this
     omega
    have hlen:(l.take 8).length=8:=by simp;omega
    have e:8*p.length+(l.take 8).length=8*(p++[UInt8.ofNat (valL 0 (l.take 8)*2^(8-(l.take 8).length))]).length:=by rw [hlen];simp;omega
    rw [e,dN f _ _ (by simp;omega)]
    simp
theorem oe (l:List Bool) (i:Nat) : ∀ k,valB l i k=valL 0 ((l.drop i).take k)*2^(k-((l.drop i).take k).length)
 | 0=>by simp [valB,valL]
 | k+1=>by
  rw [valB,oe l i k]
  by_cases hlt:i+k<l.length
  ·have h1:((l.drop i).take k).length=k:=by simp;omega
   have h2:(l.drop i).take (k+1)=(l.drop i).take k++[l.getD (i+k) false]:=by
    rw [List.take_succ_eq_append_getElem (by simp;omega)]
    simp [List.getD,hlt]
   have h3:((l.drop i).take (k+1)).length=k+1:=by simp;omega
   rw [h3,h1,h2,vJ]
   simp [valL,Nat.mul_comm]
  ·have h1:(l.drop i).take (k+1)=l.drop i:=List.take_of_length_le (by simp;omega)
   have h2:(l.drop i).take k=l.drop i:=List.take_of_length_le (by simp;omega)
   have h3:l.getD (i+k) false=false:=by simp [List.getD,List.getElem?_eq_none (by omega:l.length≤i+k)]
   rw [h1,h2,h3]
   have h4:(l.drop i).length≤k:=by simp;omega
   rw [show k+1-(l.drop i).length=(k-(l.drop i).length)+1 by omega,Nat.pow_succ]
   simp only [Bool.false_eq_true,if_false,Nat.add_zero]
   rw [Nat.mul_comm 2,Nat.mul_assoc]
theorem qD (l:List Bool) : ∀ (f i:Nat),packR l f i=packL f (l.drop i)
 | 0,i=>rfl
 | f+1,i=>by
  rw [packR,packL,qD l f (i+8),oe,List.drop_drop]
  by_cases h:i<l.length
  ·rw [if_pos h,if_neg (by intro he;have:=congrArg List.length he;simp at this;omega)]
  ·rw [if_neg h,if_pos (List.drop_eq_nil_of_le (by omega))]
theorem jM (l:List Bool):packR l (l.length+1) 0=pack l:=by
 have h:=dN (l.length+1) [] l (by omega)
 rw [qD,List.drop_zero,pack]
 simpa using h.symm
end Go.Proofs.YtoeblkipfdnnlaaGreatDoor
end

section
namespace Go.Proofs.YtoeblkipfdnnlaaGreatDoor
open Go Go.Sx
def Id.rv:Id→PV
 | .zero=>.imm [.s (.int .i64 0),.s (.pointer none),.s (.pointer none)] 0
 | .one=>.imm [.s (.int .i64 1),.s (.pointer none),.s (.pointer none)] 0
 | .node l r=>.imm [.s (.int .i64 2),l.rv,r.rv] 0
theorem Id.rv_z:Id.zero.rv = .imm [.s (.int .i64 0),.s (.pointer none),.s (.pointer none)] 0:=rfl
theorem Id.rv_o:Id.one.rv = .imm [.s (.int .i64 1),.s (.pointer none),.s (.pointer none)] 0:=rfl
theorem Id.rv_n (l r:Id):(Id.node l r).rv = .imm [.s (.int .i64 2),l.rv,r.rv] 0:=rfl
def obP (fl:Bool):Option (List UInt8)→PV
 | none=>.s (.slice none 0 0)
 | some l=>.sl (bytP l) l.length 1 fl
theorem fI (b:UInt8) (l:List UInt8):bytP (b::l) = .s (.int .u8 b.toNat)::bytP l:=rfl
theorem io (l:List UInt8):List.take l.length (bytP l)=bytP l:=by rw [←ak,List.take_length]
theorem Aq (fl:Bool):obP fl none = .s (.slice none 0 0):=rfl
theorem kJ (fl:Bool) (l:List UInt8):obP fl (some l) = .sl (bytP l) l.length 1 fl:=rfl
theorem zA (b:UInt8) (k:Nat) (hk:0<k):binI .rem .u8 b.toNat (k:Int)=some (.int .u8 (b.toNat%k:Nat)):=by
 have:binI .rem .u8 (b.toNat:Int) (k:Int)=some (.int .u8 ((b.toNat:Int).tmod k)):=by simp [binI];omega
 rw [this,Int.tmod_eq_emod_of_nonneg (by omega)]
 norm_cast
theorem ra (b:UInt8):binI .rem .u8 b.toNat 4=some (.int .u8 (b.toNat%4:Nat)):=zA b 4 (by decide)
def short (x:Option (List UInt8)):Prop:=∀ l,x=some l→l.length<2^31
end Go.Proofs.YtoeblkipfdnnlaaGreatDoor
end

section
namespace Go.Proofs.YtoeblkipfdnnlaaGreatDoor
open Go Go.Sx
mutual
def Ev.kl:Ev→PV
 | .leaf _=>.s (.pointer none)
 | .node _ l _=>l.rv
def Ev.kr:Ev→PV
 | .leaf _=>.s (.pointer none)
 | .node _ _ r=>r.rv
def Ev.rv:Ev→PV
 | .leaf n=>.imm [.s (.int .u64 n),.s (.pointer none),.s (.pointer none)] 0
 | .node n l r=>.imm [.s (.int .u64 n),l.rv,r.rv] 0
end
theorem Ev.rv_l (n:Nat):(Ev.leaf n).rv = .imm [.s (.int .u64 n),.s (.pointer none),.s (.pointer none)] 0:=by rw [Ev.rv]
theorem Ev.rv_n (n:Nat) (l r:Ev):(Ev.node n l r).rv = .imm [.s (.int .u64 n),l.rv,r.rv] 0:=by rw [Ev.rv]
theorem Ev.rv_imm (e:Ev) : ∃ cs,e.rv = .imm cs 0:=by
 cases e
 ·exact ⟨_,Ev.rv_l _⟩
 ·exact ⟨_,Ev.rv_n _ _ _⟩
theorem lV (n:Nat) (H:Heap) (nx:Nat):Ω 52 [.int .u64 n] H nx=some (.p (Ev.leaf n).rv,[],[]):=by
 refine av (ir:=ir52) (by kernel_rfl) 0 ?_
 simp [ir52,Ev.rv_l,ssB,ssU,Go.Sx.LV.undef,Go.undef,ssP,appO]
def Ev.norm:Ev→Prop
 | .leaf _=>True
 | .node _ l r=>l.norm∧r.norm∧(l.n=0∨r.n=0)∧¬(l.isLeaf=true∧r.isLeaf=true∧l.n=r.n)
theorem Ev.norm_up (e:Ev) (k:Nat):(e.up k).norm↔e.norm:=by cases e<;>exact Iff.rfl
theorem Ev.norm_down (e:Ev) (k:Nat):(e.down k).norm↔e.norm:=by cases e<;>exact Iff.rfl
theorem Ev.leaf_down (e:Ev) (k:Nat):(e.down k).isLeaf=e.isLeaf:=by cases e<;>rfl
theorem Ev.down_0 (e:Ev):e.down 0=e:=by cases e<;>rfl
theorem Ev.down_depth (e:Ev) (k:Nat):(e.down k).depth=e.depth:=by cases e<;>rfl
theorem Ev.down_max (e:Ev) (k:Nat) (h:k≤e.n):(e.down k).max+k=e.max:=by
 cases e<;>simp [Ev.down,Ev.max,Ev.n] at h ⊢ <;> omega
theorem Ev.mk_norm {n:Nat} {l r:Ev} (hl:l.norm) (hr:r.norm):(Ev.mk n l r).norm:=by
 unfold Ev.mk
 split
 ·trivial
 ·rename_i hc
  refine ⟨(Ev.norm_down _ _).2 hl,(Ev.norm_down _ _).2 hr,?_,?_⟩
  ·rw [Ev.down_n,Ev.down_n]
   rcases Nat.le_total l.n r.n with h|h
   ·left;rw [Nat.min_eq_left h];omega
   ·right;rw [Nat.min_eq_right h];omega
  ·rw [Ev.leaf_down,Ev.leaf_down,Ev.down_n,Ev.down_n]
   rintro ⟨h1,h2,h3⟩
   exact hc ⟨h1,h2,by omega⟩
theorem Ev.mk_id {n:Nat} {l r:Ev} (h:(Ev.node n l r).norm):Ev.mk n l r = .node n l r:=by
 obtain ⟨_,_,h1,h2⟩:=h
 unfold Ev.mk
 rw [if_neg h2,show Min.min l.n r.n=0 by omega,Ev.down_0,Ev.down_0,Nat.add_zero]
theorem Ev.mk_depth (n:Nat) (l r:Ev):(Ev.mk n l r).depth≤1+Max.max l.depth r.depth:=by
 unfold Ev.mk
 split
 ·simp [Ev.depth]
 ·simp [Ev.depth,Ev.down_depth]
theorem Ev.mk_max (n:Nat) (l r:Ev):(Ev.mk n l r).max=n+Max.max l.max r.max:=by
 unfold Ev.mk
 split
 ·rename_i h
  obtain ⟨h1,h2,h3⟩:=h
  cases l with
  | node=>cases h1
  | leaf a=>
   cases r with
   | node=>cases h2
   | leaf b=>
    simp only [Ev.n] at h3
    subst h3
    simp [Ev.max,Ev.n]
 ·have h1:=Ev.down_max l (Min.min l.n r.n) (Nat.min_le_left _ _)
  have h2:=Ev.down_max r (Min.min l.n r.n) (Nat.min_le_right _ _)
  simp only [Ev.max]
  omega
theorem wz:IntKind.u64.wrap 0=0:=by decide
theorem qU : ∀ (e:Ev),e.norm→e.max<2^63→∀ (H:Heap) (nx:Nat),Ω 96 [.p e.rv] H nx=some (.int .u64 e.n,[],[])
 | .leaf n,_,_,H,nx=>by
  refine av (ir:=ir96) (by kernel_rfl) 0 ?_
  simp [ir96,Ev.rv_l,Ev.n_l,ssB,ssU,Go.Sx.LV.undef,Go.undef,ssP,appO]
 | .node n l r,hn,hm,H,nx=>by
  refine av (ir:=ir96) (by kernel_rfl) 0 ?_
  have d1:=Ev.max_l n l r
  have d2:=Ev.max_r n l r
  have m1:=Ev.n_max l
  have m2:=Ev.n_max r
  have e1:=qU l hn.1 (by omega)
  have e2:=qU r hn.2.1 (by omega)
  obtain ⟨cl,hcl⟩:=Ev.rv_imm l
  have w1:IntKind.u64.wrap ((n:Int)+l.n)=(n:Int)+l.n:=aQ _ (by omega) (by omega)
  have w2:IntKind.u64.wrap ((n:Int)+r.n)=(n:Int)+r.n:=aQ _ (by omega) (by omega)
  have w0:IntKind.u64.wrap (n:Int)=n:=aQ _ (by omega) (by omega)
  have h0:=hn.2.2.1
  rw [hcl] at e1
  generalize l.n=a at*
  generalize r.n=b at*
  rcases h0 with rfl|rfl
  ·by_cases hb:b=0
   ·subst hb
    simp [ir96,Ev.rv_n,Ev.n_n,hcl,e1,e2,w0,w1,w2,ssB,ssU,Go.Sx.LV.undef,Go.undef,ssP,appO]
   ·have hb':(0:Int)<b:=by omega
    have hb2:0<b:=by omega
    simp [ir96,Ev.rv_n,Ev.n_n,hcl,e1,e2,w0,w1,w2,hb',hb2,hb,ssB,ssU,Go.Sx.LV.undef,Go.undef,ssP,appO]
  ·have hb' : ¬(a:Int)<0:=by omega
   simp [ir96,Ev.rv_n,Ev.n_n,hcl,e1,e2,w0,w1,w2,hb',ssB,ssU,Go.Sx.LV.undef,Go.undef,ssP,appO]
theorem uZ (n a b:Nat) (l r:Ev) (hl:l = .leaf a) (hr:r = .leaf a) (h1:n+a<2^64) (H:Heap) (nx:Nat):Ω 53 [.int .u64 n,.p l.rv,.p r.rv] H nx=some (.p (Ev.leaf (n+a)).rv,[],[]):=by
 refine av (ir:=ir53) (by kernel_rfl) 0 ?_
 have hw:IntKind.u64.wrap ((n:Int)+a)=((n+a:Nat):Int):=by rw [aQ _ (by omega) (by omega)];omega
 have e:=lV (n+a)
 subst hl hr
 generalize n+a=m at*
 simp [ir53,Ev.rv_l,ssB,ssU,Go.Sx.LV.undef,Go.undef,ssP,appO,hw,e]
theorem u5 (n:Nat) (l r:Ev) (hl:l.norm) (hr:r.norm) (hc : ¬(l.isLeaf=true∧r.isLeaf=true∧l.n=r.n)) (h1:n+l.max<2^63) (h2:r.max<2^63) (H:Heap) (nx:Nat):
  Ω 53 [.int .u64 n,.p l.rv,.p r.rv] H nx=some (.p (Ev.node (n+Min.min l.n r.n) (l.down (Min.min l.n r.n)) (r.down (Min.min l.n r.n))).rv,[],[]):=by
 refine av (ir:=ir53) (by kernel_rfl) 0 ?_
 have m1:=Ev.n_max l
 have m2:=Ev.n_max r
 have e1:=qU l hl (by omega)
 have e2:=qU r hr h2
 have hw1 : ∀ m:Nat,m≤l.n→IntKind.u64.wrap ((n:Int)+m)=((n+m:Nat):Int):=fun m hm=>by rw [aQ _ (by omega) (by omega)];omega
 have hw2 : ∀ m:Nat,m≤l.n→IntKind.u64.wrap ((l.n:Int)-m)=((l.n-m:Nat):Int):=fun m hm=>by rw [aQ _ (by omega) (by omega)];omega
 have hw3 : ∀ m:Nat,m≤r.n→IntKind.u64.wrap ((r.n:Int)-m)=((r.n-m:Nat):Int):=fun m hm=>by rw [aQ _ (by omega) (by omega)];omega
 by_cases hlt:r.n<l.n
 ·rw [show Min.min l.n r.n=r.n by omega]
  have a1:=hw1 r.n (by omega)
  have a2:=hw2 r.n (by omega)
  have a3:=hw3 r.n (by omega)
  have hlt':(r.n:Int)<l.n:=by omega
  generalize n+r.n=t at*
  cases l with
  | leaf a=>
   cases r with
   | leaf b=>
    simp only [Ev.n_l] at*
    have hne:((a:Int)==b)=false:=by simp;omega
    have hne' : ¬a=b:=by omega
    rw [Ev.rv_l] at e1 e2
    simp [ir53,Ev.rv_l,Ev.rv_n,Ev.down,ssB,ssU,Go.Sx.LV.undef,Go.undef,ssP,appO,e1,e2,wz,a1,a2,a3,hlt,hlt',hne,hne']
   | node b b1 b2=>
    simp only [Ev.n_l,Ev.n_n] at*
    obtain ⟨cb,hcb⟩:=Ev.rv_imm b1
    obtain ⟨cb2,hcb2⟩:=Ev.rv_imm b2
    rw [Ev.rv_l] at e1
    rw [Ev.rv_n,hcb,hcb2] at e2
    simp [ir53,Ev.rv_l,Ev.rv_n,Ev.down,ssB,ssU,Go.Sx.LV.undef,Go.undef,ssP,appO,e1,e2,wz,a1,a2,a3,hlt,hlt',hcb,hcb2]
  | node a x y=>
   obtain ⟨ca,hca⟩:=Ev.rv_imm x
   obtain ⟨ca2,hca2⟩:=Ev.rv_imm y
   cases r with
   | leaf b=>
    simp only [Ev.n_l,Ev.n_n] at*
    rw [Ev.rv_l] at e2
    rw [Ev.rv_n,hca,hca2] at e1
    simp [ir53,Ev.rv_l,Ev.rv_n,Ev.down,ssB,ssU,Go.Sx.LV.undef,Go.undef,ssP,appO,e1,e2,wz,a1,a2,a3,hlt,hlt',hca,hca2]
   | node b b1 b2=>
    obtain ⟨cb,hcb⟩:=Ev.rv_imm b1
    obtain ⟨cb2,hcb2⟩:=Ev.rv_imm b2
    simp only [Ev.n_n] at*
    rw [Ev.rv_n,hcb,hcb2] at e2
    rw [Ev.rv_n,hca,hca2] at e1
    simp [ir53,Ev.rv_l,Ev.rv_n,Ev.down,ssB,ssU,Go.Sx.LV.undef,Go.undef,ssP,appO,e1,e2,wz,a1,a2,a3,hlt,hlt',hca,hca2,hcb,hcb2]
 ·rw [show Min.min l.n r.n=l.n by omega]
  have a1:=hw1 l.n (by omega)
  have a2:=hw2 l.n (by omega)
  have a3:=hw3 l.n (by omega)
  have hlt' : ¬(r.n:Int)<l.n:=by omega
  generalize n+l.n=t at*
  cases l with
  | leaf a=>
   cases r with
   | leaf b=>
    simp only [Ev.n_l] at*
    have hne' : ¬a=b:=fun h=>hc ⟨rfl,rfl,h⟩
    have hne:((a:Int)==b)=false:=by simp;omega
    rw [Ev.rv_l] at e1 e2
    simp [ir53,Ev.rv_l,Ev.rv_n,Ev.down,ssB,ssU,Go.Sx.LV.undef,Go.undef,ssP,appO,e1,e2,wz,a1,a2,a3,hlt,hlt',hne,hne']
   | node b b1 b2=>
    simp only [Ev.n_l,Ev.n_n] at*
    obtain ⟨cb,hcb⟩:=Ev.rv_imm b1
    obtain ⟨cb2,hcb2⟩:=Ev.rv_imm b2
    rw [Ev.rv_l] at e1
    rw [Ev.rv_n,hcb,hcb2] at e2
    simp [ir53,Ev.rv_l,Ev.rv_n,Ev.down,ssB,ssU,Go.Sx.LV.undef,Go.undef,ssP,appO,e1,e2,wz,a1,a2,a3,hlt,hlt',hcb,hcb2]
  | node a x y=>
   obtain ⟨ca,hca⟩:=Ev.rv_imm x
   obtain ⟨ca2,hca2⟩:=Ev.rv_imm y
   cases r with
   | leaf b=>
    simp only [Ev.n_l,Ev.n_n] at*
    rw [Ev.rv_l] at e2
    rw [Ev.rv_n,hca,hca2] at e1
    simp [ir53,Ev.rv_l,Ev.rv_n,Ev.down,ssB,ssU,Go.Sx.LV.undef,Go.undef,ssP,appO,e1,e2,wz,a1,a2,a3,hlt,hlt',hca,hca2]
   | node b b1 b2=>
    obtain ⟨cb,hcb⟩:=Ev.rv_imm b1
    obtain ⟨cb2,hcb2⟩:=Ev.rv_imm b2
    simp only [Ev.n_n] at*
    rw [Ev.rv_n,hcb,hcb2] at e2
    rw [Ev.rv_n,hca,hca2] at e1
    simp [ir53,Ev.rv_l,Ev.rv_n,Ev.down,ssB,ssU,Go.Sx.LV.undef,Go.undef,ssP,appO,e1,e2,wz,a1,a2,a3,hlt,hlt',hca,hca2,hcb,hcb2]
theorem zn (n:Nat) (l r:Ev) (hl:l.norm) (hr:r.norm) (h1:n+l.max<2^63) (h2:r.max<2^63) (H:Heap) (nx:Nat):
  Ω 53 [.int .u64 n,.p l.rv,.p r.rv] H nx=some (.p (Ev.mk n l r).rv,[],[]):=by
 unfold Ev.mk
 by_cases hc:l.isLeaf=true∧r.isLeaf=true∧l.n=r.n
 ·rw [if_pos hc]
  cases l with
  | leaf a=>
   cases r with
   | leaf b=>
    obtain rfl:a=b:=hc.2.2
    exact uZ n a a _ _ rfl rfl (by simp [Ev.max] at h1;omega) H nx
   | node b b1 b2=>cases hc.2.1
  | node a a1 a2=>cases hc.1
 ·rw [if_neg hc]
  exact u5 n l r hl hr hc h1 h2 H nx
end Go.Proofs.YtoeblkipfdnnlaaGreatDoor
end

section
namespace Go.Proofs.YtoeblkipfdnnlaaGreatDoor
open Go Go.Sx
theorem yg (e:Ev) (n:Nat) (h:e.n+n<2^64) (H:Heap) (nx:Nat):Ω 97 [.p e.rv,.int .u64 n] H nx=some (.p (e.up n).rv,[],[]):=by
 refine av (ir:=ir97) (by kernel_rfl) 0 ?_
 have hw:IntKind.u64.wrap ((e.n:Int)+n)=((e.n+n:Nat):Int):=by rw [aQ _ (by omega) (by omega)];omega
 cases e with
 | leaf a=>
  simp only [Ev.n_l] at hw
  simp [ir97,Ev.rv_l,Ev.up,hw,ssB,ssU,Go.Sx.LV.undef,Go.undef,ssP,appO]
 | node a l r=>
  simp only [Ev.n_n] at hw
  obtain ⟨cl,hcl⟩:=Ev.rv_imm l
  obtain ⟨cr,hcr⟩:=Ev.rv_imm r
  simp [ir97,Ev.rv_n,Ev.up,hw,hcl,hcr,ssB,ssU,Go.Sx.LV.undef,Go.undef,ssP,appO]
def Ev.lf:Ev→Ev
 | .leaf n=>.leaf n
 | .node n l _=>l.up n
def Ev.rt:Ev→Ev
 | .leaf n=>.leaf n
 | .node n _ r=>r.up n
theorem Ev.lf_max (e:Ev):e.lf.max≤e.max:=by
 cases e with
 | leaf=>exact Nat.le_refl _
 | node n l r=>have:=Ev.max_l n l r;simp only [Ev.lf,Ev.up_max];omega
theorem Ev.rt_max (e:Ev):e.rt.max≤e.max:=by
 cases e with
 | leaf=>exact Nat.le_refl _
 | node n l r=>have:=Ev.max_r n l r;simp only [Ev.rt,Ev.up_max];omega
theorem Ev.lf_norm {e:Ev} (h:e.norm):e.lf.norm:=by
 cases e with
 | leaf=>trivial
 | node n l r=>exact (Ev.norm_up _ _).2 h.1
theorem Ev.rt_norm {e:Ev} (h:e.norm):e.rt.norm:=by
 cases e with
 | leaf=>trivial
 | node n l r=>exact (Ev.norm_up _ _).2 h.2.1
theorem Ev.lf_depth (e:Ev) (d:Nat) (h:e.depth≤d+1):e.lf.depth≤d:=by
 cases e with
 | leaf=>exact Nat.zero_le _
 | node n l r=>simp only [Ev.lf,Ev.up_depth];simp only [Ev.depth] at h;omega
theorem Ev.rt_depth (e:Ev) (d:Nat) (h:e.depth≤d+1):e.rt.depth≤d:=by
 cases e with
 | leaf=>exact Nat.zero_le _
 | node n l r=>simp only [Ev.rt,Ev.up_depth];simp only [Ev.depth] at h;omega
theorem uY (e:Ev) (h:e.max<2^64) (H:Heap) (nx:Nat):Ω 54 [.p e.rv] H nx=some (.p e.lf.rv,[],[]):=by
 refine av (ir:=ir54) (by kernel_rfl) 0 ?_
 cases e with
 | leaf a=>simp [ir54,Ev.rv_l,Ev.lf,ssB,ssU,Go.Sx.LV.undef,Go.undef,ssP,appO]
 | node a l r=>
  have m1:=Ev.max_l a l r
  have m2:=l.n_max
  have e1:=yg l a (by omega)
  obtain ⟨cl,hcl⟩:=Ev.rv_imm l
  rw [hcl] at e1
  simp [ir54,Ev.rv_n,Ev.lf,ssB,ssU,Go.Sx.LV.undef,Go.undef,ssP,appO,hcl,e1]
theorem qW (e:Ev) (h:e.max<2^64) (H:Heap) (nx:Nat):Ω 55 [.p e.rv] H nx=some (.p e.rt.rv,[],[]):=by
 refine av (ir:=ir55) (by kernel_rfl) 0 ?_
 cases e with
 | leaf a=>simp [ir55,Ev.rv_l,Ev.rt,ssB,ssU,Go.Sx.LV.undef,Go.undef,ssP,appO]
 | node a l r=>
  have m1:=Ev.max_r a l r
  have m2:=r.n_max
  have e1:=yg r a (by omega)
  obtain ⟨cl,hcl⟩:=Ev.rv_imm l
  obtain ⟨cr,hcr⟩:=Ev.rv_imm r
  rw [hcr] at e1
  simp [ir55,Ev.rv_n,Ev.rt,ssB,ssU,Go.Sx.LV.undef,Go.undef,ssP,appO,hcl,hcr,e1]
def Ev.rleq:Nat→Ev→Ev→Bool
 | 0,a,b=>decide (a.n≤b.n)
 | d+1,a,b=>if a.isLeaf&&b.isLeaf then decide (a.n≤b.n) else Ev.rleq d a.lf b.lf&&Ev.rleq d a.rt b.rt
theorem kP (n m:Nat) (H:Heap) (nx:Nat):Ω 19 [.p (Ev.leaf n).rv,.p (Ev.leaf m).rv] H nx=some (.bool (decide (n≤m)),[],[]):=by
 refine av (ir:=ir19) (by kernel_rfl) 0 ?_
 simp [ir19,Ev.rv_l,ssB,ssU,Go.Sx.LV.undef,Go.undef,ssP,appO]
 try exact decide_eq_decide.2 Iff.rfl
theorem AF : ∀ (d:Nat) (a b:Ev),a.depth≤d→b.depth≤d→a.max<2^63→b.max<2^63→∀ (H:Heap) (nx:Nat),Ω 19 [.p a.rv,.p b.rv] H nx=some (.bool (Ev.rleq d a b),[],[]):=by
 intro d
 induction d with
 | zero=>
  intro a b ha hb _ _ H nx
  cases a with
  | node n l r=>simp [Ev.depth] at ha
  | leaf n=>
   cases b with
   | node n l r=>simp [Ev.depth] at hb
   | leaf m=>exact kP n m H nx
 | succ d ih=>
  intro a b ha hb hma hmb H nx
  have e1:=ih a.lf b.lf (a.lf_depth d ha) (b.lf_depth d hb) (Nat.lt_of_le_of_lt a.lf_max hma) (Nat.lt_of_le_of_lt b.lf_max hmb)
  have e2:=ih a.rt b.rt (a.rt_depth d ha) (b.rt_depth d hb) (Nat.lt_of_le_of_lt a.rt_max hma) (Nat.lt_of_le_of_lt b.rt_max hmb)
  have l1:=uY a (by omega)
  have l2:=uY b (by omega)
  have r1:=qW a (by omega)
  have r2:=qW b (by omega)
  have hu:Ev.rleq (d+1) a b=if a.isLeaf&&b.isLeaf then decide (a.n≤b.n) else Ev.rleq d a.lf b.lf&&Ev.rleq d a.rt b.rt:=rfl
  generalize Ev.rleq d a.lf b.lf=x at*
  generalize Ev.rleq d a.rt b.rt=y at*
  generalize a.lf=al at*
  generalize a.rt=ar at*
  generalize b.lf=bl at*
  generalize b.rt=br at*
  cases a with
  | leaf n=>
   cases b with
   | leaf m=>rw [hu];exact kP n m H nx
   | node m u v=>
    rw [hu]
    refine av (ir:=ir19) (by kernel_rfl) 0 ?_
    obtain ⟨cu,hcu⟩:=Ev.rv_imm u
    rw [Ev.rv_l] at l1 r1
    rw [Ev.rv_n,hcu] at l2 r2
    cases x<;>simp [ir19,Ev.rv_l,Ev.rv_n,hcu,Ev.isLeaf,ssB,ssU,Go.Sx.LV.undef,Go.undef,ssP,appO,e1,e2,l1,l2,r1,r2]
  | node n s t=>
   rw [hu]
   refine av (ir:=ir19) (by kernel_rfl) 0 ?_
   obtain ⟨cs,hcs⟩:=Ev.rv_imm s
   rw [Ev.rv_n,hcs] at l1 r1
   obtain ⟨cb,hcb⟩:=Ev.rv_imm b
   rw [hcb] at l2 r2
   cases x<;>simp [ir19,Ev.rv_n,hcs,hcb,Ev.isLeaf,ssB,ssU,Go.Sx.LV.undef,Go.undef,ssP,appO,e1,e2,l1,l2,r1,r2]
theorem nU : ∀ (d:Nat) (a:Ev) (m:Nat),Ev.rleq d a (.leaf m)=true→a.n≤m
 | 0,a,m,h=>of_decide_eq_true h
 | d+1,a,m,h=>by
  cases a with
  | leaf n=>exact of_decide_eq_true h
  | node n l r=>
   simp only [Ev.rleq,Ev.isLeaf,Bool.false_and,Bool.false_eq_true,if_false,Bool.and_eq_true] at h
   have:=nU d _ m h.1
   simp only [Ev.lf,Ev.up_n] at this
   simp only [Ev.n]
   omega
theorem ig : ∀ (d n:Nat) (b:Ev),b.norm→b.depth≤d→Ev.rleq d (.leaf n) b=decide (n≤b.n)
 | 0,n,b,_,_=>rfl
 | d+1,n,b,hb,hd=>by
  cases b with
  | leaf m=>rfl
  | node m l r=>
   have e1:=ig d n _ (Ev.lf_norm hb) (Ev.lf_depth _ d hd)
   have e2:=ig d n _ (Ev.rt_norm hb) (Ev.rt_depth _ d hd)
   have h0:=hb.2.2.1
   have hu:Ev.rleq (d+1) (.leaf n) (.node m l r)=(Ev.rleq d (.leaf n) (Ev.node m l r).lf&&Ev.rleq d (.leaf n) (Ev.node m l r).rt):=rfl
   rw [hu,e1,e2]
   have q1:(Ev.node m l r).lf.n=l.n+m:=Ev.up_n _ _
   have q2:(Ev.node m l r).rt.n=r.n+m:=Ev.up_n _ _
   have q3:(Ev.node m l r).n=m:=rfl
   generalize (Ev.node m l r).lf.n=x at*
   generalize (Ev.node m l r).rt.n=y at*
   generalize (Ev.node m l r).n=z at*
   rw [←Bool.decide_and]
   exact decide_eq_decide.2 (by omega)
theorem jT : ∀ (d:Nat) (a b:Ev),a.depth≤d→b.depth≤d→b.norm→Ev.rleq d a b=Ev.leq d a b
 | 0,a,b,_,_,_=>rfl
 | d+1,a,b,ha,hb,hn=>by
  cases a with
  | leaf n=>rw [ig _ _ _ hn hb];rfl
  | node n l r=>
   have e1:=jT d _ _ (Ev.lf_depth _ d ha) (Ev.lf_depth _ d hb) (Ev.lf_norm hn)
   have e2:=jT d _ _ (Ev.rt_depth _ d ha) (Ev.rt_depth _ d hb) (Ev.rt_norm hn)
   have hl:b.left.up b.n=b.lf:=by cases b<;>simp [Ev.left,Ev.up,Ev.lf,Ev.n]
   have hr:b.right.up b.n=b.rt:=by cases b<;>simp [Ev.right,Ev.up,Ev.rt,Ev.n]
   have hlq:Ev.leq (d+1) (.node n l r) b=if b.n<n∧b.isLeaf then false else Ev.leq d (l.up n) (b.left.up b.n)&&Ev.leq d (r.up n) (b.right.up b.n):=rfl
   have hrq:Ev.rleq (d+1) (.node n l r) b=(Ev.rleq d (Ev.node n l r).lf b.lf&&Ev.rleq d (Ev.node n l r).rt b.rt):=by simp [Ev.rleq,Ev.isLeaf]
   rw [hlq,hrq,hl,hr,←show Ev.lf (.node n l r)=l.up n from rfl,←show Ev.rt (.node n l r)=r.up n from rfl,←e1,←e2]
   split
   ·rename_i hc
    obtain ⟨h1,h2⟩:=hc
    cases b with
    | node=>cases h2
    | leaf m=>
     cases hq:Ev.rleq d (Ev.node n l r).lf (Ev.leaf m).lf with
     | false=>rfl
     | true=>
      have:=nU d _ m hq
      simp only [Ev.lf,Ev.up_n] at this
      simp only [Ev.n] at h1
      omega
   ·rfl
theorem jG : ∀ (d d':Nat) (a b:Ev),a.depth≤d→a.depth≤d'→Ev.leq d a b=Ev.leq d' a b
 | d,d',.leaf n,b,_,_=>by cases d<;>cases d'<;>rfl
 | 0,_,.node n l r,b,h,_=>by simp [Ev.depth] at h
 | _,0,.node n l r,b,_,h=>by simp [Ev.depth] at h
 | d+1,d'+1,.node n l r,b,h,h'=>by
  have q:=Nat.le_max_left l.depth r.depth
  have q':=Nat.le_max_right l.depth r.depth
  simp only [Ev.depth] at h h'
  simp only [Ev.leq]
  rw [jG d d' (l.up n) _ (by rw [Ev.up_depth];omega) (by rw [Ev.up_depth];omega),jG d d' (r.up n) _ (by rw [Ev.up_depth];omega) (by rw [Ev.up_depth];omega)]
theorem yh (a b:Ev) (hb:b.norm) (ha':a.max<2^63) (hb':b.max<2^63) (H:Heap) (nx:Nat):Ω 19 [.p a.rv,.p b.rv] H nx=some (.bool (Ev.leqb a b),[],[]):=by
 rw [AF (Max.max a.depth b.depth) a b (Nat.le_max_left _ _) (Nat.le_max_right _ _) ha' hb' H nx,jT _ a b (Nat.le_max_left _ _) (Nat.le_max_right _ _) hb,jG _ a.depth a b (Nat.le_max_left _ _) (Nat.le_refl _)]
 rfl
def mkEv:Nat→Option (List UInt8)→Ev × Option (List UInt8)
 | _,none=>(.leaf 0,none)
 | _,some []=>(.leaf 0,none)
 | 0,some (b::p)=>(.leaf (b.toNat/4%8),some p)
 | m+1,some (b::p)=>
  if b.toNat%4<2 then (.leaf (b.toNat/4%8),some p)
  else (Ev.mk (b.toNat/4%4) (mkEv m (some p)).1 (mkEv m (mkEv m (some p)).2).1,(mkEv m (mkEv m (some p)).2).2)
theorem fQ : ∀ (m:Nat) (x:Option (List UInt8)),short x→short (mkEv m x).2
 | _,none,h=>by unfold mkEv;exact h
 | _,some [],h=>by unfold mkEv;intro l hl;cases hl
 | 0,some (b::p),h=>by
  unfold mkEv
  intro l hl
  obtain rfl:=Option.some.inj hl
  have:=h _ rfl
  simp at this;omega
 | m+1,some (b::p),h=>by
  have hp:short (some p):=fun l hl=>by
   obtain rfl:=Option.some.inj hl
   have:=h _ rfl
   simp at this;omega
  unfold mkEv
  split
  ·exact hp
  ·exact fQ m _ (fQ m _ hp)
theorem fe : ∀ (m:Nat) (x:Option (List UInt8)),(mkEv m x).1.norm∧(mkEv m x).1.depth≤m∧(mkEv m x).1.max≤7+3*m
 | _,none=>by unfold mkEv;exact ⟨trivial,Nat.zero_le _,Nat.zero_le _⟩
 | _,some []=>by unfold mkEv;exact ⟨trivial,Nat.zero_le _,Nat.zero_le _⟩
 | 0,some (b::p)=>by unfold mkEv;exact ⟨trivial,Nat.zero_le _,by simp only [Ev.max];omega⟩
 | m+1,some (b::p)=>by
  unfold mkEv
  split
  ·exact ⟨trivial,Nat.zero_le _,by simp only [Ev.max];omega⟩
  ·obtain ⟨a1,a2,a3⟩:=fe m (some p)
   obtain ⟨b1,b2,b3⟩:=fe m (mkEv m (some p)).2
   refine ⟨Ev.mk_norm a1 b1,Nat.le_trans (Ev.mk_depth _ _ _) (by omega),?_⟩
   rw [Ev.mk_max]
   omega
theorem qP (b:UInt8):binI .quo .u8 b.toNat 4=some (.int .u8 (b.toNat/4:Nat)):=by
 have hb:=b.toNat_lt
 have:binI .quo .u8 (b.toNat:Int) 4=some (.int .u8 (IntKind.u8.wrap ((b.toNat:Int).tdiv 4))):=by simp [binI]
 rw [this,Int.tdiv_eq_ediv_of_nonneg (by omega)]
 have:IntKind.u8.wrap ((b.toNat:Int)/4)=((b.toNat/4:Nat):Int):=by
  simp [IntKind.wrap,IntKind.signed,IntKind.bits]
  omega
 rw [this]
theorem xi (n:Nat):binI .rem .u8 (n:Int) 8=some (.int .u8 (n%8:Nat)):=by
 have:binI .rem .u8 (n:Int) 8=some (.int .u8 ((n:Int).tmod 8)):=by simp [binI]
 rw [this,Int.tmod_eq_emod_of_nonneg (by omega)]
 norm_cast
theorem vg (n:Nat):binI .rem .u8 (n:Int) 4=some (.int .u8 (n%4:Nat)):=by
 have:binI .rem .u8 (n:Int) 4=some (.int .u8 ((n:Int).tmod 4)):=by simp [binI]
 rw [this,Int.tmod_eq_emod_of_nonneg (by omega)]
 norm_cast
theorem nR (m:Nat) (H:Heap) (nx:Nat):Ω 18 [.p (.s (.slice none 0 0)),.int .i64 m] H nx=some (.tuple [.p (Ev.leaf 0).rv,.p (.s (.slice none 0 0))],[],[]):=by
 refine av (ir:=ir18) (by kernel_rfl) 0 ?_
 have e:=lV 0
 simp only [Int.natCast_zero,Int.ofNat_zero] at e
 simp [ir18,ssB,ssU,Go.Sx.LV.undef,Go.undef,ssP,appO,e,Ev.rv_l]
theorem oO (m:Nat) (fl:Bool) (H:Heap) (nx:Nat):Ω 18 [.p (.sl [] 0 1 fl),.int .i64 m] H nx=some (.tuple [.p (Ev.leaf 0).rv,.p (.s (.slice none 0 0))],[],[]):=by
 refine av (ir:=ir18) (by kernel_rfl) 0 ?_
 have e:=lV 0
 simp only [Int.natCast_zero,Int.ofNat_zero] at e
 simp [ir18,ssB,ssU,Go.Sx.LV.undef,Go.undef,ssP,appO,e,Ev.rv_l]
theorem iJ (m:Nat) (b:UInt8) (p:List UInt8) (fl:Bool) (h30:p.length<2^31) (hm:m=0∨b.toNat%4<2) (H:Heap) (nx:Nat):
  Ω 18 [.p (obP fl (some (b::p))),.int .i64 m] H nx=some (.tuple [.p (Ev.leaf (b.toNat/4%8)).rv,.p (obP fl (some p))],[],[]):=by
 refine av (ir:=ir18) (by kernel_rfl) 0 ?_
 have r4:=ra b
 have hp1 : ¬((p.length:Int)+1=0):=by omega
 have hp2:bytP []=[]:=rfl
 have q4:=qP b
 have r8:=xi (b.toNat/4)
 have hw:IntKind.u64.wrap ((b.toNat/4%8:Nat):Int)=((b.toNat/4%8:Nat):Int):=aQ _ (by omega) (by omega)
 have e:=lV (b.toNat/4%8)
 generalize b.toNat/4%8=x at*
 generalize b.toNat/4=x4 at*
 by_cases h0:m=0
 ·subst h0
  simp [ir18,ssB,ssU,Go.Sx.LV.undef,Go.undef,ssP,appO,kJ,fI,ak,io,hp1,hp2,r4,q4,r8,hw,e]
 ·have h4:=hm.resolve_left h0
  have h4':((b.toNat%4:Nat):Int)<2:=by omega
  have h0':((m:Int)==0)=false:=by simp;omega
  have h5 : ¬(2:Int)≤((b.toNat%4:Nat):Int):=by omega
  generalize b.toNat%4=y at*
  simp [ir18,ssB,ssU,Go.Sx.LV.undef,Go.undef,ssP,appO,kJ,fI,ak,io,hp1,hp2,r4,q4,r8,hw,h5,h0',e]
theorem lY : ∀ (m:Nat) (x:Option (List UInt8)) (fl:Bool),m<100→short x→∀ (H:Heap) (nx:Nat),
  Ω 18 [.p (obP fl x),.int .i64 m] H nx=some (.tuple [.p (mkEv m x).1.rv,.p (obP fl (mkEv m x).2)],[],[])
 | m,none,fl,hm,hx,H,nx=>by
  unfold mkEv;exact nR m H nx
 | m,some [],fl,hm,hx,H,nx=>by
  unfold mkEv;exact oO m fl H nx
 | 0,some (b::p),fl,hm,hx,H,nx=>by
  have:=hx _ rfl
  unfold mkEv;exact iJ 0 b p fl (by simp at this;omega) (.inl rfl) H nx
 | m+1,some (b::p),fl,hm,hx,H,nx=>by
  have hl:=hx _ rfl
  have hp:short (some p):=fun l hl'=>by
   obtain rfl:=Option.some.inj hl'
   simp at hl;omega
  unfold mkEv
  split
  ·rename_i h4
   exact iJ (m+1) b p fl (by simp at hl;omega) (.inr h4) H nx
  ·rename_i h4
   refine av (ir:=ir18) (by kernel_rfl) 0 ?_
   have r4:=ra b
   have hp1 : ¬((p.length:Int)+1=0):=by omega
   have hp2:bytP []=[]:=rfl
   have q4:=qP b
   have r4':=vg (b.toNat/4)
   have h4' : ¬((b.toNat%4:Nat):Int)<2:=by omega
   have h0':(((m+1:Nat):Int)==0)=false:=by simp;omega
   have h5:(2:Int)≤((b.toNat%4:Nat):Int):=by omega
   have hw:IntKind.i64.wrap (((m+1:Nat):Int)-1)=(m:Int):=by rw [wrap_i64 _ (by omega) (by omega)];omega
   have hw2:IntKind.u64.wrap ((b.toNat/4%4:Nat):Int)=((b.toNat/4%4:Nat):Int):=aQ _ (by omega) (by omega)
   obtain ⟨a1,a2,a3⟩:=fe m (some p)
   obtain ⟨b1,b2,b3⟩:=fe m (mkEv m (some p)).2
   have e1:=lY m (some p) fl (by omega) hp
   have e2:=lY m (mkEv m (some p)).2 fl (by omega) (fQ _ _ hp)
   have e3:=zn (b.toNat/4%4) (mkEv m (some p)).1 (mkEv m (mkEv m (some p)).2).1 a1 b1 (by omega) (by omega)
   generalize mkEv m (some p)=y at*
   generalize mkEv m y.2=z at*
   generalize (m+1:Nat)=M at*
   generalize b.toNat%4=t at*
   generalize b.toNat/4%4=u at*
   generalize b.toNat/4=u4 at*
   rw [kJ] at e1
   simp [ir18,ssB,ssU,Go.Sx.LV.undef,Go.undef,ssP,appO,kJ,fI,ak,io,hp1,hp2,r4,q4,r4',hw,hw2,h5,h0',e1,e2,e3]
end Go.Proofs.YtoeblkipfdnnlaaGreatDoor
end

section
namespace Go.Proofs.YtoeblkipfdnnlaaGreatDoor
open Go Go.Sx
def Id.kind:Id→Nat
 | .zero=>0
 | .one=>1
 | .node _ _=>2
theorem Id.rv_imm (i:Id) : ∃ a b,i.rv = .imm [.s (.int .i64 i.kind),a,b] 0:=by
 cases i
 ·exact ⟨_,_,Id.rv_z⟩
 ·exact ⟨_,_,Id.rv_o⟩
 ·exact ⟨_,_,Id.rv_n _ _⟩
theorem Bl.ids {x:LV} {l:List Bool} (g:Bl x l):Go.Sx.ids x=[]:=by cases g<;>rfl
end Go.Proofs.YtoeblkipfdnnlaaGreatDoor
end

section
namespace Go.Proofs.YtoeblkipfdnnlaaGreatDoor
open Go Go.Sx
theorem vq (e:Ev) (H:Heap) (nx:Nat):Ω 101 [.p e.rv] H nx=some (.bool (decide (e = .leaf 0)),[],[]):=by
 refine av (ir:=ir101) (by kernel_rfl) 0 ?_
 cases e with
 | leaf n=>
  by_cases h0:n=0
  ·subst h0
   simp [ir101,Ev.rv_l,ssB,ssU,Go.Sx.LV.undef,Go.undef,ssP,appO]
  ·have:((n:Int)==0)=false:=by simp;omega
   simp [ir101,Ev.rv_l,this,h0,ssB,ssU,Go.Sx.LV.undef,Go.undef,ssP,appO]
 | node n l r=>
  obtain ⟨cl,hcl⟩:=Ev.rv_imm l
  simp [ir101,Ev.rv_n,hcl,ssB,ssU,Go.Sx.LV.undef,Go.undef,ssP,appO]
theorem nP (v:Nat) (hv:v<2^64) {x:LV} {l:List Bool} (g:Bl x l) (hl:l.length+201<2^31) (H:Heap) (nx:Nat):Ω 58 [x,.p (Ev.leaf v).rv] H nx=some (blV (l++evBits (.leaf v)),[],[]):=by
 have hB:evBits (.leaf v)=bitsOf 1 1++numBits v 2 62:=rfl
 rw [hB]
 have q1:=dg g 1 1 (by decide) (by decide) (by decide) (by omega)
 have q2:=lW (.sl (l++bitsOf 1 1) false) v hv (by rw [List.length_append,aj];omega)
 have c1:((1:Nat):Int)=1:=rfl
 rw [c1] at q1
 rw [List.append_assoc] at q2
 have gi:=g.ids
 refine av (ir:=ir58) (by kernel_rfl) 0 ?_
 generalize l++bitsOf 1 1=L1 at*
 generalize l++(bitsOf 1 1++numBits v 2 62)=L2 at*
 have f:=fun h hu=>fE H nx (.sl (bolP L2) L2.length 1 false) h hu
 simp [ir58,ssB,ssU,Go.Sx.LV.undef,Go.undef,aq,ao,ae,Go.Sx.splice,Go.Sx.leI_eq,ltF,Ev.rv_l,q1,q2,gi,f]
theorem cM : ∀ (e:Ev),e.norm→e.max<2^64→∀ (x:LV) (l:List Bool),Bl x l→l.length+(evBits e).length+201<2^31→∀ (H:Heap) (nx:Nat),Ω 58 [x,.p e.rv] H nx=some (blV (l++evBits e),[],[])
 | .leaf v,_,hm,x,l,g,hl,H,nx=>nP v hm g (by omega) H nx
 | .node v s t,hn,hm,x,l,g,hl,H,nx=>by
  have d1:=Ev.max_l v s t
  have d2:=Ev.max_r v s t
  obtain ⟨a1,hs⟩:=Ev.rv_imm s
  obtain ⟨a2,ht⟩:=Ev.rv_imm t
  have ks:=vq s
  have kt:=vq t
  have hnz : ¬(s = .leaf 0∧t = .leaf 0):=by
   rintro ⟨rfl,rfl⟩
   exact hn.2.2.2 ⟨rfl,rfl,rfl⟩
  have c0:((0:Nat):Int)=0:=rfl
  have c1:((1:Nat):Int)=1:=rfl
  have c2:((2:Nat):Int)=2:=rfl
  have c3:((3:Nat):Int)=3:=rfl
  have gi:=g.ids
  have hB:evBits (.node v s t)=bitsOf 0 1++evKind v (decide (s = .leaf 0)) (decide (t = .leaf 0))++(if v=0 then [] else numBits v 2 62)++(if s = .leaf 0 then [] else evBits s)++(if t = .leaf 0 then [] else evBits t):=by rw [evBits]
  rw [hB] at hl ⊢
  have q0:=dg g 0 1 (by decide) (by decide) (by decide) (by omega)
  rw [c0,c1] at q0
  have L0:(l++bitsOf 0 1).length=l.length+1:=by rw [List.length_append,aj]
  refine av (ir:=ir58) (by kernel_rfl) 0 ?_
  simp only [List.length_append,aj] at hl
  have g0:Bl (blV (l++bitsOf 0 1)) (l++bitsOf 0 1):=.sl _ false
  simp only [←List.append_assoc]
  generalize l++bitsOf 0 1=M at*
  by_cases hv0:v=0
  ·have hb:((v:Int)==0)=true:=by simp [hv0]
   have hvT:(v=0)=True:=by simp [hv0]
   by_cases hs0:s = .leaf 0
   ·have ht0 : ¬t = .leaf 0:=fun h=>hnz ⟨hs0,h⟩
    have hsT:(s = .leaf 0)=True:=by simp [hs0]
    have hk:evKind v true false=bitsOf 0 2:=by simp [evKind,hv0]
    simp only [hsT,ht0,decide_true,decide_false,hk,if_true,if_false,hvT] at hl ks kt ⊢
    simp only [List.length_append,List.length_nil,aj] at hl
    simp only [←List.append_assoc,List.append_nil]
    have q1:=dg (.sl M false) 0 2 (by decide) (by decide) (by decide) (by omega)
    rw [c0,c2] at q1
    have L1:(M++bitsOf 0 2).length=M.length+2:=by rw [List.length_append,aj]
    generalize M++bitsOf 0 2=M1 at*
    have q2:=cM t hn.2.1 (by omega) _ _ (.sl M1 false) (by omega)
    rw [ht] at q2
    have L2:(M1++evBits t).length=M1.length+(evBits t).length:=List.length_append
    generalize M1++evBits t=M2 at*
    have f:=fun h hu=>fE H nx (.sl (bolP M2) M2.length 1 false) h hu
    rw [hs] at ks
    rw [ht] at kt
    simp [ir58,ssB,ssU,Go.Sx.LV.undef,Go.undef,aq,ao,ae,Go.Sx.splice,Go.Sx.leI_eq,ltF,Ev.rv_n,hs,ht,ks,kt,hb,q0,q1,q2,gi,f]
   ·by_cases ht0:t = .leaf 0
    ·have htT:(t = .leaf 0)=True:=by simp [ht0]
     have hk:evKind v false true=bitsOf 1 2:=by simp [evKind,hv0]
     simp only [hs0,htT,decide_true,decide_false,hk,if_true,if_false,hvT] at hl ks kt ⊢
     simp only [List.length_append,List.length_nil,aj] at hl
     simp only [←List.append_assoc,List.append_nil]
     have q1:=dg (.sl M false) 1 2 (by decide) (by decide) (by decide) (by omega)
     rw [c1,c2] at q1
     have L1:(M++bitsOf 1 2).length=M.length+2:=by rw [List.length_append,aj]
     generalize M++bitsOf 1 2=M1 at*
     have q2:=cM s hn.1 (by omega) _ _ (.sl M1 false) (by omega)
     rw [hs] at q2
     have L2:(M1++evBits s).length=M1.length+(evBits s).length:=List.length_append
     generalize M1++evBits s=M2 at*
     have f:=fun h hu=>fE H nx (.sl (bolP M2) M2.length 1 false) h hu
     rw [hs] at ks
     rw [ht] at kt
     simp [ir58,ssB,ssU,Go.Sx.LV.undef,Go.undef,aq,ao,ae,Go.Sx.splice,Go.Sx.leI_eq,ltF,Ev.rv_n,hs,ht,ks,kt,hb,q0,q1,q2,gi,f]
    ·skip
     have hk:evKind v false false=bitsOf 2 2:=by simp [evKind,hv0]
     simp only [hs0,ht0,decide_true,decide_false,hk,if_true,if_false,hvT] at hl ks kt ⊢
     simp only [List.length_append,List.length_nil,aj] at hl
     simp only [←List.append_assoc,List.append_nil]
     have q1:=dg (.sl M false) 2 2 (by decide) (by decide) (by decide) (by omega)
     rw [c2] at q1
     have L1:(M++bitsOf 2 2).length=M.length+2:=by rw [List.length_append,aj]
     generalize M++bitsOf 2 2=M1 at*
     have q2:=cM s hn.1 (by omega) _ _ (.sl M1 false) (by omega)
     rw [hs] at q2
     have L2:(M1++evBits s).length=M1.length+(evBits s).length:=List.length_append
     generalize M1++evBits s=M2 at*
     have q3:=cM t hn.2.1 (by omega) _ _ (.sl M2 false) (by omega)
     rw [ht] at q3
     have L3:(M2++evBits t).length=M2.length+(evBits t).length:=List.length_append
     generalize M2++evBits t=M3 at*
     have f:=fun h hu=>fE H nx (.sl (bolP M3) M3.length 1 false) h hu
     rw [hs] at ks
     rw [ht] at kt
     simp [ir58,ssB,ssU,Go.Sx.LV.undef,Go.undef,aq,ao,ae,Go.Sx.splice,Go.Sx.leI_eq,ltF,Ev.rv_n,hs,ht,ks,kt,hb,q0,q1,q2,q3,gi,f]
  ·have hb:((v:Int)==0)=false:=by simp;omega
   by_cases hs0:s = .leaf 0
   ·have ht0 : ¬t = .leaf 0:=fun h=>hnz ⟨hs0,h⟩
    have hsT:(s = .leaf 0)=True:=by simp [hs0]
    have hk:evKind v true false=bitsOf 3 2++bitsOf 0 2:=by simp [evKind,hv0]
    simp only [hsT,ht0,decide_true,decide_false,hk,if_true,if_false,hv0] at hl ks kt ⊢
    simp only [List.length_append,List.length_nil,aj] at hl
    simp only [←List.append_assoc,List.append_nil]
    have q1:=dg (.sl M false) 3 2 (by decide) (by decide) (by decide) (by omega)
    rw [c3,c2] at q1
    have L1:(M++bitsOf 3 2).length=M.length+2:=by rw [List.length_append,aj]
    generalize M++bitsOf 3 2=M1 at*
    have q2:=dg (.sl M1 false) 0 2 (by decide) (by decide) (by decide) (by omega)
    rw [c0,c2] at q2
    have L2:(M1++bitsOf 0 2).length=M1.length+2:=by rw [List.length_append,aj]
    generalize M1++bitsOf 0 2=M2 at*
    have q3:=lW (.sl M2 false) v (by omega) (by omega)
    have L3:(M2++numBits v 2 62).length=M2.length+(numBits v 2 62).length:=List.length_append
    generalize M2++numBits v 2 62=M3 at*
    have q4:=cM t hn.2.1 (by omega) _ _ (.sl M3 false) (by omega)
    rw [ht] at q4
    have L4:(M3++evBits t).length=M3.length+(evBits t).length:=List.length_append
    generalize M3++evBits t=M4 at*
    have f:=fun h hu=>fE H nx (.sl (bolP M4) M4.length 1 false) h hu
    rw [hs] at ks
    rw [ht] at kt
    simp [ir58,ssB,ssU,Go.Sx.LV.undef,Go.undef,aq,ao,ae,Go.Sx.splice,Go.Sx.leI_eq,ltF,Ev.rv_n,hs,ht,ks,kt,hb,q0,q1,q2,q3,q4,gi,f]
   ·by_cases ht0:t = .leaf 0
    ·have htT:(t = .leaf 0)=True:=by simp [ht0]
     have hk:evKind v false true=bitsOf 3 2++bitsOf 1 2:=by simp [evKind,hv0]
     simp only [hs0,htT,decide_true,decide_false,hk,if_true,if_false,hv0] at hl ks kt ⊢
     simp only [List.length_append,List.length_nil,aj] at hl
     simp only [←List.append_assoc,List.append_nil]
     have q1:=dg (.sl M false) 3 2 (by decide) (by decide) (by decide) (by omega)
     rw [c3,c2] at q1
     have L1:(M++bitsOf 3 2).length=M.length+2:=by rw [List.length_append,aj]
     generalize M++bitsOf 3 2=M1 at*
     have q2:=dg (.sl M1 false) 1 2 (by decide) (by decide) (by decide) (by omega)
     rw [c1,c2] at q2
     have L2:(M1++bitsOf 1 2).length=M1.length+2:=by rw [List.length_append,aj]
     generalize M1++bitsOf 1 2=M2 at*
     have q3:=lW (.sl M2 false) v (by omega) (by omega)
     have L3:(M2++numBits v 2 62).length=M2.length+(numBits v 2 62).length:=List.length_append
     generalize M2++numBits v 2 62=M3 at*
     have q4:=cM s hn.1 (by omega) _ _ (.sl M3 false) (by omega)
     rw [hs] at q4
     have L4:(M3++evBits s).length=M3.length+(evBits s).length:=List.length_append
     generalize M3++evBits s=M4 at*
     have f:=fun h hu=>fE H nx (.sl (bolP M4) M4.length 1 false) h hu
     rw [hs] at ks
     rw [ht] at kt
     simp [ir58,ssB,ssU,Go.Sx.LV.undef,Go.undef,aq,ao,ae,Go.Sx.splice,Go.Sx.leI_eq,ltF,Ev.rv_n,hs,ht,ks,kt,hb,q0,q1,q2,q3,q4,gi,f]
    ·skip
     have hk:evKind v false false=bitsOf 3 2++bitsOf 1 1:=by simp [evKind,hv0]
     simp only [hs0,ht0,decide_true,decide_false,hk,if_true,if_false,hv0] at hl ks kt ⊢
     simp only [List.length_append,List.length_nil,aj] at hl
     simp only [←List.append_assoc,List.append_nil]
     have q1:=dg (.sl M false) 3 2 (by decide) (by decide) (by decide) (by omega)
     rw [c3,c2] at q1
     have L1:(M++bitsOf 3 2).length=M.length+2:=by rw [List.length_append,aj]
     generalize M++bitsOf 3 2=M1 at*
     have q2:=dg (.sl M1 false) 1 1 (by decide) (by decide) (by decide) (by omega)
     rw [c1] at q2
     have L2:(M1++bitsOf 1 1).length=M1.length+1:=by rw [List.length_append,aj]
     generalize M1++bitsOf 1 1=M2 at*
     have q3:=lW (.sl M2 false) v (by omega) (by omega)
     have L3:(M2++numBits v 2 62).length=M2.length+(numBits v 2 62).length:=List.length_append
     generalize M2++numBits v 2 62=M3 at*
     have q4:=cM s hn.1 (by omega) _ _ (.sl M3 false) (by omega)
     rw [hs] at q4
     have L4:(M3++evBits s).length=M3.length+(evBits s).length:=List.length_append
     generalize M3++evBits s=M4 at*
     have q5:=cM t hn.2.1 (by omega) _ _ (.sl M4 false) (by omega)
     rw [ht] at q5
     have L5:(M4++evBits t).length=M4.length+(evBits t).length:=List.length_append
     generalize M4++evBits t=M5 at*
     have f:=fun h hu=>fE H nx (.sl (bolP M5) M5.length 1 false) h hu
     rw [hs] at ks
     rw [ht] at kt
     simp [ir58,ssB,ssU,Go.Sx.LV.undef,Go.undef,aq,ao,ae,Go.Sx.splice,Go.Sx.leI_eq,ltF,Ev.rv_n,hs,ht,ks,kt,hb,q0,q1,q2,q3,q4,q5,gi,f]
end Go.Proofs.YtoeblkipfdnnlaaGreatDoor
end

section
namespace Go.Proofs.YtoeblkipfdnnlaaGreatDoor
open Go Go.Sx
abbrev bstr (s:List UInt8):LV:=.str ⟨s.toArray⟩
def txt (s:List UInt8):List UInt8:=vnum s.length++s
theorem sR (s:List UInt8):(List.map (fun (x:UInt8)=>LV.int .u8 x.toNat) s)=byt s:=rfl
theorem aS (s:List UInt8):(⟨s.toArray⟩:ByteArray).size=s.length:=by simp [ByteArray.size]
theorem o8 {H:Heap} {nx:Nat} {x:LV} {q:List UInt8} (g:Bs H nx x q) (s:List UInt8) (hq:q.length<2^30) (hs:s.length<2^30):
  Ω 83 [x,bstr s] H nx=some (.arr nx 0 (q++txt s).length 1 (q++txt s).length false,[],[some (.cells (byt (q++txt s)))]):=by
 refine av (ir:=ir83) (by kernel_rfl) 0 ?_
 have hw:IntKind.u64.wrap (s.length:Int)=s.length:=aQ _ (by omega) (by omega)
 have hv:=cK s.length (by omega)
 have hv0:=gO s.length
 have hQ:q++txt s=(q++vnum s.length)++s:=by rw [txt,List.append_assoc]
 have hQl:(q++vnum s.length).length<2^31:=by simp;omega
 have n:=fun H nx (g':Bs H nx x q)=>uE g' s.length (by omega) hq
 rw [hQ]
 generalize q++vnum s.length=Q at*
 have q1 : ¬1099511627776<Q.length+s.length:=by omega
 have fin:(∀ h:Hp,(∀ id,id<nx→Go.Sx.look H nx h id=H id)→Ω 116 [x,.int .u64 s.length] (Go.Sx.look H nx h) nx=some (.arr nx 0 Q.length 1 Q.length false,[],[some (.cells (byt Q))])):=fun h hh=>n _ _ (g.mono hh (Nat.le_refl _))
 have f0:=fin ⟨[],[]⟩ (fun id hi=>by simp [Go.Sx.look,findU,hi])
 have sz:=aS s
 have lk:Go.Sx.look H nx (push ⟨[],[]⟩ (.cells (byt Q))) nx=some (.cells (byt Q)):=by simp [Go.Sx.look,push,ltF]
 have z : ∀ y:Nat,y+([]:List (Ob)).length=y:=fun y=>rfl
 cases hs0:s with
 | nil=>
  subst hs0
  have a:=fL (H:=H) (nx:=nx) (i:=nx) (L:=Q.length) (h:=push ⟨[],[]⟩ (.cells (byt Q))) (q:=Q) (ex:=false) rfl (Nat.le_refl _) lk
  have ap:appO ⟨Ω,gG,H,nx⟩ (push ⟨[],[]⟩ (.cells (byt Q))) 1 1 (.arr nx 0 Q.length 1 Q.length false) (bstr [])=some ⟨.arr nx 0 Q.length 1 Q.length false,push ⟨[],[]⟩ (.cells (byt Q)),[],false⟩:=by simp [appO,slCells,Go.Sx.ids,ByteArray.size]
  rw [List.append_nil]
  simp only [List.length_nil,Int.natCast_zero,Int.ofNat_zero] at f0 hw sz
  simp [ir83,ssB,ssU,Go.Sx.LV.undef,Go.undef,aq,ao,ae,Go.Sx.splice,Go.Sx.leI_eq,ltF,f0,hw,sz,a,ap,cL]
 | cons b r=>
  rw [←hs0]
  have hs1 : ¬s.length=0:=by rw [hs0];simp
  have ap:appO ⟨Ω,gG,H,nx⟩ (push ⟨[],[]⟩ (.cells (byt Q))) 1 1 (.arr nx 0 Q.length 1 Q.length false) (bstr s)=some ⟨.arr (nx+1) 0 (Q.length+s.length) 1 (Q.length+s.length) false,push (Go.Sx.setObj nx (push ⟨[],[]⟩ (.cells (byt Q))) nx none) (.cells (byt (Q++s))),[nx],true⟩:=by
   simp [appO,slCells,Go.Sx.ids,sz,ax,hs1,lk,q1,aG,sR,bO]
  have lk2:Go.Sx.look H nx (push (Go.Sx.setObj nx (push ⟨[],[]⟩ (.cells (byt Q))) nx none) (.cells (byt (Q++s)))) (nx+1)=some (.cells (byt (Q++s))):=by
   rw [am,if_pos (by rw [az,aG];rfl)]
  have a:=fL (H:=H) (nx:=nx) (i:=nx+1) (L:=Q.length+s.length) (h:=push (Go.Sx.setObj nx (push ⟨[],[]⟩ (.cells (byt Q))) nx none) (.cells (byt (Q++s)))) (q:=Q++s) (ex:=false) (by rw [nO,cB _ _ _ _ (by omega)];rfl) (by omega) lk2
  simp [ir83,ssB,ssU,Go.Sx.LV.undef,Go.undef,aq,ao,ae,Go.Sx.splice,Go.Sx.leI_eq,ltF,f0,hw,sz,a,ap,cL]
theorem lX (s:List UInt8) (hs:s.length<2^30) (H:Heap) (nx:Nat):
  Ω 56 [bstr s] H nx=some (.arr nx 0 (txt s).length 1 (txt s).length s.isEmpty,[],[some (.cells (byt (txt s)))]):=by
 refine av (ir:=ir56) (by kernel_rfl) 0 ?_
 have hw:IntKind.u64.wrap (s.length:Int)=s.length:=aQ _ (by omega) (by omega)
 have hv:=cK s.length (by omega)
 have hQl:(vnum s.length).length<2^31:=by omega
 have n:=yi s.length (by omega)
 have hd:s.isEmpty=true→decide (s.length<128)=true:=by cases s<;>simp
 rw [txt]
 have hex:=hd
 generalize decide (s.length<128)=ex at*
 generalize vnum s.length=Q at*
 have q1 : ¬1099511627776<Q.length+s.length:=by omega
 have sz:=aS s
 have dp:List.map (fun x=>PV.s (.int .u8 (UInt8.toNat x:Int))) s=bytP s:=rfl
 cases hs0:s with
 | nil=>
  have he:ex=true:=hd (by rw [hs0];rfl)
  subst hs0 he
  rw [List.append_nil]
  simp only [List.length_nil,Int.natCast_zero,Int.ofNat_zero] at n hw sz
  simp [ir56,ssB,ssU,Go.Sx.LV.undef,Go.undef,ssP,appO,n,hw,sz,ax,ak,aD,aH,aK,aO,aR,aB,aF]
 | cons b r=>
  rw [←hs0]
  have hs1 : ¬s.length=0:=by rw [hs0];simp
  have hs2 : ¬s=[]:=by rw [hs0];simp
  have hse:s.isEmpty=false:=by rw [hs0];rfl
  rw [hse]
  have q2:Q.length+s.length≤1099511627776:=by omega
  have tk:List.map LV.p (bytP s)=byt s:=aJ s
  cases ex
  all_goals
   simp [ir56,ssB,ssU,Go.Sx.LV.undef,Go.undef,ssP,appO,n,hw,sz,ax,ak,aD,aH,aK,aO,aR,aB,aF,dp,tk,hs1,hs2,q1,q2,bO]
end Go.Proofs.YtoeblkipfdnnlaaGreatDoor
end

section
namespace Go.Proofs.YtoeblkipfdnnlaaGreatDoor
open Go Go.Sx
def Ev.h:Ev→(Nat→Bool)→Nat
 | .leaf n,_=>n
 | .node n l r,s=>n+(if s 0 then r.h fun k=>s (k+1) else l.h fun k=>s (k+1))
end Go.Proofs.YtoeblkipfdnnlaaGreatDoor
end

section
namespace Go.Proofs.YtoeblkipfdnnlaaGreatDoor
open Go Go.Sx
set_option maxHeartbeats 1000000
structure Wv where
 ev:Ev
 nm:Option (List UInt8)
 gone:Bool
abbrev strP (s:List UInt8):PV:=.s (.string ⟨s.toArray⟩)
abbrev fldP (s:List UInt8):List PV:=[.s (.int .i64 1),.s (.string ⟨#[]⟩),strP s]
def crdP (fl:Bool):Option (List UInt8)→PV
 | none=>.s (.slice none 0 0)
 | some s=>.sl (fldP s) 1 3 fl
theorem bv (fl:Bool):crdP fl none = .s (.slice none 0 0):=rfl
theorem bX (fl:Bool) (s:List UInt8):crdP fl (some s) = .sl (fldP s) 1 3 fl:=rfl
abbrev Wv.cells (fl:Bool) (v:Wv):List PV:=[.s (.int .u64 v.ev.n),v.ev.ptr,crdP fl v.nm,.s (.bool v.gone)]
abbrev Wv.pv (fl:Bool) (v:Wv):PV:=.agg (v.cells fl)
def crdW:Option (List UInt8)→List UInt8
 | none=>vnum 0
 | some s=>vnum 1++[1]++txt []++txt s
def Wv.bytes (v:Wv):List UInt8:=txt (pack (evBits v.ev))++(if v.gone then [1] else 0::crdW v.nm)
theorem ou (fl:Bool) (nm:Option (List UInt8)) (H:Heap) (nx:Nat):Ω 65 [.p (crdP fl nm)] H nx=some (.p (crdP false nm),[],[]):=by
 refine av (ir:=ir65) (by kernel_rfl) 0 ?_
 cases nm<;>simp +contextual (maxSteps:=1000000) [ir65,ssI,↓ssJ,ssU,Go.Sx.LV.undef,Go.undef,ssP,appO,bv,bX]
theorem mG (fl:Bool) (nm:Option (List UInt8)) (H:Heap) (nx:Nat):Ω 27 [.p (.agg [crdP fl nm])] H nx=some (.p (crdP false nm),[],[]):=by
 refine av (ir:=ir27) (by kernel_rfl) 0 ?_
 have c:=fun H nx=>ou fl nm H nx
 cases nm<;>simp only [bv,bX] at c ⊢ <;> simp +contextual (maxSteps:=1000000) [ir27,ssI,↓ssJ,ssU,Go.Sx.LV.undef,Go.undef,ssP,appO,c]
theorem mH (fl:Bool) (nm:Option (List UInt8)) (H:Heap) (nx:Nat):Ω 86 [.p (.agg [crdP fl nm])] H nx=some (.int .i64 (if nm=none then 0 else 1),[],[]):=by
 refine av (ir:=ir86) (by kernel_rfl) 0 ?_
 cases nm<;>simp +contextual (maxSteps:=1000000) [ir86,ssI,↓ssJ,ssU,Go.Sx.LV.undef,Go.undef,ssP,appO,bv,bX]
theorem wv {H:Heap} {nx:Nat} {x:LV} {q:List UInt8} (b:Bs H nx x q) (hq:q.length<2^20):
  Ω 120 [x,.p (.s (.slice none 0 0))] H nx=some (.p (.sl (bytP (q++vnum 0)) (q++vnum 0).length 1 false),[],[]):=by
 refine av (ir:=ir120) (by kernel_rfl) 2 ?_
 have n:=fun H nx (g':Bs H nx x q)=>uE g' 0 (by decide) (by omega)
 generalize q++vnum 0=Q at*
 have w0:IntKind.u64.wrap 0=0:=by decide
 simp only [Int.natCast_zero,Int.ofNat_zero] at n
 cases b with
 | nil=>
  have m1 : ∀ (H:Heap) (nx:Nat),Ω 116 [.p (.s (.slice none 0 0)),.int .u64 0] H nx=_:=fun H nx=>n H nx .nil
  simp +contextual (maxSteps:=1000000) [ir120,ir120_0,iter,ssI,↓ssJ,ssU,Go.Sx.LV.undef,Go.undef,ssP,appO,m1,w0,ax,ak,aD,aH,aK,aO,aR,aB,aF]
 | sl _ fl=>
  have m1 : ∀ (H:Heap) (nx:Nat),Ω 116 [.p (.sl (bytP q) q.length 1 fl),.int .u64 0] H nx=_:=fun H nx=>n H nx (.sl q fl)
  simp +contextual (maxSteps:=1000000) [ir120,ir120_0,iter,ssI,↓ssJ,ssU,Go.Sx.LV.undef,Go.undef,ssP,appO,m1,w0,ax,ak,aD,aH,aK,aO,aR,aB,aF]
 | arr _ G id off cp ex h1 h2 h3 h4=>
  have m1 : ∀ (H:Heap) (nx:Nat),H id=some (.cells (byt G))→id<nx→Ω 116 [.arr id off q.length 1 cp ex,.int .u64 0] H nx=_:=fun H nx e1 e2=>n H nx (.arr q G id off cp ex e1 e2 h3 h4)
  have hk : ∀ k,id<nx+k:=fun k=>by omega
  have hne : ¬id=nx:=by omega
  have hne2 : ∀ k,¬id=nx+k:=fun k=>by omega
  simp +contextual (maxSteps:=1000000) [ir120,ir120_0,iter,ssI,↓ssJ,ssU,Go.Sx.LV.undef,Go.undef,ssP,appO,m1,w0,ax,ak,aD,aH,aK,aO,aR,aB,aF,h1,h2,hk,hne,hne2]
theorem wx {H:Heap} {nx:Nat} {x:LV} {q:List UInt8} (s:List UInt8) (b:Bs H nx x q) (hq:q.length<2^20) (hs:s.length<2^20):
  Ω 120 [x,.p (.sl (fldP s) 1 3 false)] H nx=some (.p (.sl (bytP (q++crdW (some s))) (q++crdW (some s)).length 1 false),[],[]):=by
 refine av (ir:=ir120) (by kernel_rfl) 3 ?_
 have n:=fun H nx (g':Bs H nx x q)=>uE g' 1 (by decide) (by omega)
 have v1:=cK 1 (by decide)
 have l1:(q++vnum 1).length<2^21:=by simp;omega
 have ec:q++crdW (some s)=q++vnum 1++[1]++txt []++txt s:=by simp [crdW]
 rw [ec]
 generalize q++vnum 1=Q at*
 have l2:(Q++[1]).length<2^22:=by simp;omega
 have l2':(Q++[1]).length=Q.length+1:=by simp
 have t1:=fun H nx y (g':Bs H nx y (Q++[1]))=>o8 g' [] (by omega) (by decide)
 have b2:byt (Q++[1])=byt Q++[.int .u8 1]:=by rw [bO];rfl
 have ht0:(txt []).length<20:=by have:=cK 0 (by decide);simpa [txt] using (by omega:(vnum 0).length<20)
 have l3:(Q++[1]++txt []).length<2^23:=by rw [List.length_append];omega
 have t1' : ∀ (H:Heap) (nx id:Nat),H id=some (.cells (byt Q++[.int .u8 1]))→id<nx→Ω 83 [.arr id 0 (Q.length+1) 1 (Q.length+1) false,.str ⟨#[]⟩] H nx=_:=fun H nx id h1 h2=>t1 H nx _ (.whole' (l2'.symm) (by rw [b2];exact h1) h2)
 generalize Q++[1]++txt []=Q2 at*
 have t2:=fun H nx y (g':Bs H nx y Q2)=>o8 g' s (by omega) (by omega)
 have t2' : ∀ (H:Heap) (nx id:Nat),H id=some (.cells (byt Q2))→id<nx→Ω 83 [.arr id 0 Q2.length 1 Q2.length false,.str ⟨s.toArray⟩] H nx=_:=fun H nx id h1 h2=>t2 H nx _ (.whole h1 h2)
 generalize Q2++txt s=Q3 at*
 have q41 : ¬1099511627776<Q.length+1:=by omega
 have q40:Q.length+1≤1099511627776:=by omega
 have w1:IntKind.u64.wrap 1=1:=by decide
 have w2:IntKind.i64.wrap 1=1:=by decide
 have w3:IntKind.u8.wrap 1=1:=by decide
 clear l2' l2 l3 ht0 b2 t1 t2 ec
 cases b with
 | nil=>
  have m1 : ∀ (H:Heap) (nx:Nat),Ω 116 [.p (.s (.slice none 0 0)),.int .u64 1] H nx=_:=fun H nx=>n H nx .nil
  clear n
  simp +contextual (maxSteps:=1000000) [ir120,ir120_0,iter,ssI,↓ssJ,ssU,Go.Sx.LV.undef,Go.undef,ssP,appO,m1,t1',t2',w1,w2,w3,q41,q40,ax,ak,aD,aH,aK,aO,aR,aB,aF]
 | sl _ fl=>
  have m1 : ∀ (H:Heap) (nx:Nat),Ω 116 [.p (.sl (bytP q) q.length 1 fl),.int .u64 1] H nx=_:=fun H nx=>n H nx (.sl q fl)
  clear n
  simp +contextual (maxSteps:=1000000) [ir120,ir120_0,iter,ssI,↓ssJ,ssU,Go.Sx.LV.undef,Go.undef,ssP,appO,m1,t1',t2',w1,w2,w3,q41,q40,ax,ak,aD,aH,aK,aO,aR,aB,aF]
 | arr _ G id off cp ex h1 h2 h3 h4=>
  have m1 : ∀ (H:Heap) (nx:Nat),H id=some (.cells (byt G))→id<nx→Ω 116 [.arr id off q.length 1 cp ex,.int .u64 1] H nx=_:=fun H nx e1 e2=>n H nx (.arr q G id off cp ex e1 e2 h3 h4)
  have hk : ∀ k,id<nx+k:=fun k=>by omega
  have hne : ¬id=nx:=by omega
  have hne2 : ∀ k,¬id=nx+k:=fun k=>by omega
  clear n
  simp +contextual (maxSteps:=1000000) [ir120,ir120_0,iter,ssI,↓ssJ,ssU,Go.Sx.LV.undef,Go.undef,ssP,appO,m1,t1',t2',w1,w2,w3,q41,q40,ax,ak,aD,aH,aK,aO,aR,aB,aF,h1,h2,hk,hne,hne2]
end Go.Proofs.YtoeblkipfdnnlaaGreatDoor
end

section
namespace Go.Proofs.YtoeblkipfdnnlaaGreatDoor
open Go Go.Sx
def nodeB (n:Int):Bool:=decide (0≤n)&&decide (n<12)
structure Gft where
 no:Nat
 fr:Int
 to:Int
 sh:Id
abbrev Gft.pv (g:Gft):PV:=.agg [.s (.int .u64 g.no),.s (.int .i64 g.fr),.s (.int .i64 g.to),.s (.bool g.sh.all),g.sh.ptr]
abbrev Gft.rv (g:Gft):PV:=.agg [.s (.int .u64 g.no),.s (.int .i64 g.fr),.s (.int .i64 g.to),g.sh.rv]
def Gft.right (g:Gft):Bool:=decide (1≤g.no)&&(decide (g.no<2^62)&&(nodeB g.fr&&(nodeB g.to&&(decide (g.fr≠g.to)&&decide (g.sh ≠ .zero)))))
def Gft.bytes (g:Gft):List UInt8:=vnum g.no++vnum g.fr.toNat++vnum g.to.toNat++txt (pack (idBits g.sh))
theorem jN (l:List Bool):(pack l).length≤l.length:=by
 have : ∀ (l:List Bool) (p:List UInt8) (n:Nat),p.length=(n+7)/8→(addBits p n l).length=(n+l.length+7)/8:=by
  intro l
  induction l with
  | nil=>intro p n h;simpa [addBits] using h
  | cons b l ih=>
   intro p n h
   rw [addBits,ih _ (n+1) (jb p n b h),List.length_cons]
   congr 1
   omega
 have h:=this l [] 0 rfl
 rw [pack,h]
 omega
theorem qG {l:List Bool} (h:0<l.length):pack l≠[]:=by
 rw [←jM,packR,if_pos h]
 simp
theorem zo (l:List Bool) (h0:0<l.length) (h30:l.length<2^30) (H:Heap) (nx:Nat):Ω 57 [blV l] H nx=some (.p (.sl (bytP (pack l)) (pack l).length 1 false),[],[]):=by
 rw [xg (.sl l false) h30,jM,iW (qG h0)]
theorem Aj {H:Heap} {nx:Nat} {x y z w:LV} {F G K M:List UInt8} (f:Bs H nx x F) (g:Bs H nx y G) (k:Bs H nx z K) (m:Bs H nx w M) (h30:F.length+G.length+K.length+M.length<2^31) (aid:Nat) (ha:H aid=some (.cells [x,y,z,w])) (haid:aid<nx):
  Ω 59 [.arr aid 0 4 1 4 true] H nx=some (sum' (F++G++K++M),[],[]):=by
 have:=vh [x,y,z,w] [F,G,K,M] H nx aid 4 true ha haid (.cons f (.cons g (.cons k (.cons m .nil)))) (by simp) (by simp;omega)
 simpa using this
end Go.Proofs.YtoeblkipfdnnlaaGreatDoor
end

section
namespace Go.Proofs.YtoeblkipfdnnlaaGreatDoor
open Go Go.Sx
set_option maxHeartbeats 1000000
theorem wy {H:Heap} {nx:Nat} {x:LV} {q:List UInt8} (nm:Option (List UInt8)) (b:Bs H nx x q) (hq:q.length<2^20) (hs : ∀ s,nm=some s→s.length<2^20):
  Ω 120 [x,.p (crdP false nm)] H nx=some (.p (.sl (bytP (q++crdW nm)) (q++crdW nm).length 1 false),[],[]):=by
 cases nm with
 | none=>exact wv b hq
 | some s=>exact wx s b hq (hs s rfl)
theorem uU {H:Heap} {nx:Nat} {x:LV} {q:List UInt8} (nm:Option (List UInt8)) (fl:Bool) (b:Bs H nx x q) (hq:q.length<2^20) (hs : ∀ s,nm=some s→s.length<2^20):
  Ω 85 [x,.p (.agg [crdP fl nm])] H nx=some (.p (.sl (bytP (q++crdW nm)) (q++crdW nm).length 1 false),[],[]):=by
 refine av (ir:=ir85) (by kernel_rfl) 1 ?_
 have c:=fun H nx=>mG fl nm H nx
 have f : ∀ H nx x,Bs H nx x q→Ω 120 [x,.p (crdP false nm)] H nx=some (.p (.sl (bytP (q++crdW nm)) (q++crdW nm).length 1 false),[],[]):=fun H nx x b=>wy nm b hq hs
 generalize q++crdW nm=Q at*
 cases nm<;>simp only [bv,bX] at c f ⊢
 all_goals
  cases b with
  | nil=>
   have m1:=fun H nx=>f H nx _ .nil
   simp +contextual (maxSteps:=1000000) [ir85,ssI,↓ssJ,ssU,Go.Sx.LV.undef,Go.undef,ssP,appO,m1,c,ax,ak,aD,aH,aK,aO,aR,aB,aF]
  | sl _ fl'=>
   have m1:=fun H nx=>f H nx _ (.sl q fl')
   simp +contextual (maxSteps:=1000000) [ir85,ssI,↓ssJ,ssU,Go.Sx.LV.undef,Go.undef,ssP,appO,m1,c,ax,ak,aD,aH,aK,aO,aR,aB,aF]
  | arr _ G id off cp ex h1 h2 h3 h4=>
   have m1:=fun H nx e1 e2=>f H nx _ (.arr q G id off cp ex e1 e2 h3 h4)
   have hk : ∀ k,id<nx+k:=fun k=>by omega
   have hne : ¬id=nx:=by omega
   have hne2 : ∀ k,¬id=nx+k:=fun k=>by omega
   simp +contextual (maxSteps:=1000000) [ir85,ssI,↓ssJ,ssU,Go.Sx.LV.undef,Go.undef,ssP,appO,m1,c,ax,ak,aD,aH,aK,aO,aR,aB,aF,h1,h2,hk,hne,hne2]
theorem gN (s:List UInt8) (h:s.length<2^19):(txt s).length<2^19+20:=by
 have:=cK s.length (by omega)
 rw [txt,List.length_append];omega
structure Wv.Ok (v:Wv):Prop where
 n:v.ev.norm
 m:v.ev.max<2^63
 b:(evBits v.ev).length<2^18
 s : ∀ s,v.nm=some s→s.length<2^19
theorem j5 (v:Wv) (fl:Bool) (hv:v.Ok) (H:Heap) (nx:Nat):Ω 32 [.p (v.pv fl)] H nx=some (.p (.sl (bytP v.bytes) v.bytes.length 1 false),[],[]):=by
 refine av (ir:=ir32) (by kernel_rfl) 0 ?_
 obtain ⟨ev,nm,gone⟩:=v
 obtain ⟨hn,hm,hb,hs⟩:=hv
 unfold Wv.bytes
 simp only at hn hm hb hs ⊢
 have hp:=jN (evBits ev)
 have c:=ov ev (by omega) (by omega)
 have bb:=bW (pack (evBits ev))
 have t1:=fun H nx=>o8 (.nil:Bs H nx (.p (.s (.slice none 0 0))) []) (pack (evBits ev)) (by decide) (by omega)
 have tl:=gN (pack (evBits ev)) (by omega)
 simp only [List.nil_append] at t1
 generalize txt (pack (evBits ev))=T at*
 generalize pack (evBits ev)=B at*
 have q41 : ¬1099511627776<T.length+1:=by omega
 have q40:T.length+1≤1099511627776:=by omega
 have b1:byt (T++[1])=byt T++[.int .u8 1]:=by rw [bO];rfl
 cases gone with
 | true=>
  have tk1:List.take (T.length+1) (byt T++[.int .u8 1])=byt T++[.int .u8 1]:=List.take_of_length_le (by simp [ax])
  have ap1:allP (byt T++[.int .u8 1])=some (bytP (T++[1])):=by rw [←b1,aB]
  cases nm<;>simp only [Wv.pv,Wv.cells,bv,bX]<;>simp +contextual (maxSteps:=1000000) [ir32,ssI,↓ssJ,ssU,Go.Sx.LV.undef,Go.undef,ssP,appO,c,bb,t1,aJ,ak,ax,aH,aK,aD,aB,q41,q40,tk1,ap1]
 | false=>
  have b0:byt (T++[0])=byt T++[.int .u8 0]:=by rw [bO];rfl
  have l0:T.length+1=(T++[(0:UInt8)]).length:=by simp
  have pc:=fun H nx y (g:Bs H nx y (T++[0]))=>uU nm fl g (by simp;omega) fun s h=>by have:=hs s h;omega
  have hE:T++0::crdW nm=T++[0]++crdW nm:=by simp
  simp only [Bool.false_eq_true,if_false]
  rw [hE]
  generalize T++[0]++crdW nm=Q at*
  have pc' : ∀ (H:Heap) (nx id:Nat),H id=some (.cells (byt T++[.int .u8 0]))→id<nx→Ω 85 [.arr id 0 (T.length+1) 1 (T.length+1) false,.p (.agg [crdP fl nm])] H nx=_:=fun H nx id h1 h2=>pc H nx _ (.whole' l0 (by rw [b0];exact h1) h2)
  cases nm<;>simp only [Wv.pv,Wv.cells,bv,bX] at pc' ⊢ <;> simp +contextual (maxSteps:=1000000) [ir32,ssI,↓ssJ,ssU,Go.Sx.LV.undef,Go.undef,ssP,appO,c,bb,t1,aJ,ak,ax,ak,aD,aH,aK,aO,aR,aB,aF,q41,q40,pc']
end Go.Proofs.YtoeblkipfdnnlaaGreatDoor
end

section
namespace Go.Proofs.YtoeblkipfdnnlaaGreatDoor
open Go Go.Sx
set_option maxHeartbeats 1000000
theorem yj (k:Nat) (hk:k<128) (H:Heap) (nx:Nat):Ω 98 [.int .u64 k] H nx=some (.arr nx 0 1 1 1 true,[],[some (.cells (byt [UInt8.ofNat k]))]):=by
 have n:=yi k (by omega) H nx
 rw [bV hk] at n
 simpa [hk] using n
theorem zq (H:Heap) (nx:Nat):Ω 60 [.p (.s (.slice none 0 0))] H nx=some (.p (.sl (bytP (crdW none)) (crdW none).length 1 true),[],[]):=by
 rw [show crdW none=[0] by rw [crdW];exact bV (by decide)]
 refine av (ir:=ir60) (by kernel_rfl) 2 ?_
 have n : ∀ (H:Heap) (nx:Nat),Ω 98 [.int .u64 0] H nx=some (.arr nx 0 1 1 1 true,[],[some (.cells [.int .u8 0])]):=fun H nx=>yj 0 (by decide) H nx
 have w0:IntKind.u64.wrap 0=0:=by decide
 simp +contextual (maxSteps:=1000000) [ir60,ir60_0,iter,ssB,ssU,Go.Sx.LV.undef,Go.undef,ssP,appO,n,w0,bytP,ax,ak,aD,aH,aK,aO,aR,aB,aF]
theorem zt (s:List UInt8) (hs:s.length<2^20) (fl:Bool) (H:Heap) (nx:Nat):Ω 60 [.p (.sl (fldP s) 1 3 fl)] H nx=some (.p (.sl (bytP (crdW (some s))) (crdW (some s)).length 1 false),[],[]):=by
 refine av (ir:=ir60) (by kernel_rfl) 3 ?_
 have n : ∀ (H:Heap) (nx:Nat),Ω 98 [.int .u64 1] H nx=some (.arr nx 0 1 1 1 true,[],[some (.cells [.int .u8 1])]):=fun H nx=>yj 1 (by decide) H nx
 have h0:=bV (show 0<128 by decide)
 have t0 : ∀ (H:Heap) (nx:Nat),Ω 56 [.str ⟨#[]⟩] H nx=some (.arr nx 0 1 1 1 true,[],[some (.cells (byt [0]))]):=fun H nx=>by
  have:=lX [] (by decide) H nx
  rw [show txt []=[0] by simp [txt,h0]] at this
  exact this
 have t1 : ∀ (H:Heap) (nx:Nat),Ω 56 [.str ⟨s.toArray⟩] H nx=_:=fun H nx=>lX s (by omega) H nx
 have ec:crdW (some s)=[1]++[1]++[0]++txt s:=by simp [crdW,txt,h0,bV (show 1<128 by decide)]
 have hv:=cK s.length (by omega)
 have tl:(txt s).length<2^21:=by rw [txt,List.length_append];omega
 have hne:[1]++[1]++[0]++txt s≠[]:=by simp
 rw [ec]
 generalize s.isEmpty=em at*
 generalize txt s=T at*
 have w1:IntKind.u64.wrap 1=1:=by decide
 have w2:IntKind.i64.wrap 1=1:=by decide
 have w3:IntKind.u8.wrap 1=1:=by decide
 have j : ∀ (H:Heap) (nx aid i3 i4:Nat),H aid=some (.cells [.p (.sl [.s (.int .u8 1)] 1 1 true),.p (.sl [.s (.int .u8 1)] 1 1 true),.arr i3 0 1 1 1 true,.arr i4 0 T.length 1 T.length em])→aid<nx →
   H i3=some (.cells (byt [0]))→i3<nx→H i4=some (.cells (byt T))→i4<nx →
   Ω 59 [.arr aid 0 4 1 4 true] H nx=some (.p (.sl (bytP ([1]++[1]++[0]++T)) ([1]++[1]++[0]++T).length 1 false),[],[]):=
  fun H nx aid i3 i4 h0 h0' a3 b3 a4 b4=>by
   have q1:Bs H nx (.p (.sl [.s (.int .u8 1)] 1 1 true)) [1]:=.sl [1] true
   have q3:Bs H nx (.arr i3 0 1 1 1 true) [0]:=.whole' (by rfl) a3 b3
   have q4:Bs H nx (.arr i4 0 T.length 1 T.length em) T:=.whole a4 b4
   rw [Aj q1 q1 q3 q4 (by simp;omega) aid h0 h0',iW hne]
 have jj:=fun (H:Heap) (nx:Nat)=>j H (nx+3) (nx+2) nx (nx+1)
 generalize [1]++[1]++[0]++T=Q at*
 generalize hA:byt T=A at*
 generalize hB:byt [0]=B at*
 have rA : ∀ n' m',ren.go n' m' A=some A:=fun n' m'=>by rw [←hA];exact aK _ _ _
 have iA:ids.idsL A=[]:=by rw [←hA];exact aH _
 have iB:ids.idsL B=[]:=by rw [←hB];exact aH _
 have e:=Eq.refl (runCS ⟨Ω,gG,H,nx⟩ 3 ir60_0 ⟨[(3,.p (.sl [.s (.int .u8 1)] 1 1 true)),(10,.p (.sl (fldP s) 1 3 fl)),(11,.int .i64 1),(12,.int .i64 0)],⟨[],[]⟩⟩)
 conv at e=>rhs;simp [ir60_0,ssB,ssU,Go.Sx.LV.undef,Go.undef,ssP,appO,t0,t1,w2,w3,jj,iA,iB,rA]
 have lo:runCS ⟨Ω,gG,H,nx⟩ 3 ir60_0 ⟨[(3,.p (.sl (bytP Q) Q.length 1 false)),(10,.p (.sl (fldP s) 1 3 fl)),(11,.int .i64 1),(12,.int .i64 1)],⟨[],[]⟩⟩=some (.exit 0,⟨[(3,.p (.sl (bytP Q) Q.length 1 false)),(10,.p (.sl (fldP s) 1 3 fl)),(11,.int .i64 1),(12,.int .i64 1),(13,.bool false)],⟨[],[]⟩⟩):=by
  simp +contextual (maxSteps:=1000000) [ir60_0,ssB,ssU,Go.Sx.LV.undef,Go.undef,ssP,appO]
 have lp:=(bg (n:=2) e).trans (bc (n:=1) lo (by simp))
 simp +contextual (maxSteps:=1000000) [ir60,ssB,ssU,Go.Sx.LV.undef,Go.undef,ssP,appO,n,w1,lp]
def Wv.rv (fl:Bool) (v:Wv):PV:=.agg [v.ev.rv,crdP fl v.nm,.s (.bool v.gone)]
theorem jo (nm:Option (List UInt8)) (h : ∀ s,nm=some s→s.length<2^19):(crdW nm).length<2^20:=by
 have h0:=bV (show 0<128 by decide)
 have h1:=bV (show 1<128 by decide)
 cases nm with
 | none=>rw [crdW,h0];decide
 | some s=>
  have:=gN s (h s rfl)
  simp [crdW,txt,h0,h1] at this ⊢
  omega
theorem sQ (v:Wv) (fl:Bool) (hv:v.Ok) (H:Heap) (nx:Nat):
  Ω 21 [.p (v.rv fl)] H nx=some (.p (.sl (bytP v.bytes) v.bytes.length 1 false),[],[]):=by
 refine av (ir:=ir21) (by kernel_rfl) 0 ?_
 obtain ⟨ev,nm,gone⟩:=v
 obtain ⟨hn,hm,hb,hs⟩:=hv
 unfold Wv.bytes
 simp only at hm hb hn hs ⊢
 have hp:=jN (evBits ev)
 have c:=cM ev hn (by omega) _ _ .nil (by simp;omega)
 rw [List.nil_append] at c
 have r:=zo (evBits ev) (fJ ev) (by omega)
 have bb:=bW (pack (evBits ev))
 have t1:=lX (pack (evBits ev)) (by omega)
 have he:(pack (evBits ev)).isEmpty=false:=by
  have:=qG (fJ ev)
  cases h:pack (evBits ev) with
  | nil=>exact absurd h this
  | cons=>rfl
 rw [he] at t1
 have tl:=gN (pack (evBits ev)) (by omega)
 obtain ⟨cs,hcs⟩:=Ev.rv_imm ev
 simp only [Wv.rv,hcs]
 rw [hcs] at c
 generalize evBits ev=I at*
 generalize txt (pack I)=T at*
 generalize pack I=B at*
 have q41 : ¬1099511627776<T.length+1:=by omega
 have b1:byt (T++[1])=byt T++[.int .u8 1]:=by rw [bO];rfl
 cases gone with
 | true=>
  have tk1:List.take (T.length+1) (byt T++[.int .u8 1])=byt T++[.int .u8 1]:=List.take_of_length_le (by simp [ax])
  have ap1:allP (byt T++[.int .u8 1])=some (bytP (T++[1])):=by rw [←b1,aB]
  cases nm<;>simp only [bv,bX]<;>simp [ir21,ssB,ssU,Go.Sx.LV.undef,Go.undef,ssP,appO,c,r,bb,t1,aJ,ak,ax,aH,aK,aD,aB,q41,tk1,ap1]
 | false=>
  have cl:=jo nm hs
  have hE:T++0::crdW nm=T++[0]++crdW nm:=by simp
  simp only [Bool.false_eq_true,if_false]
  have hne:T++[0]++crdW nm≠[]:=by simp
  rw [hE]
  have j : ∀ (H:Heap) (nx aid i1:Nat) (y:LV),Bs H nx y (crdW nm)→H aid=some (.cells [.arr i1 0 T.length 1 T.length false,.p (.sl [.s (.int .u8 0)] 1 1 true),y])→aid<nx→H i1=some (.cells (byt T))→i1<nx →
    Ω 59 [.arr aid 0 3 1 3 true] H nx=some (sum' (T++[0]++crdW nm),[],[]):=fun H nx aid i1 y g h0 h0' a1 b1=>
   Ai (.whole a1 b1) (.sl [0] true:Bs H nx (.p (.sl [.s (.int .u8 0)] 1 1 true)) [0]) g (by simp;omega) aid h0 h0'
  rw [iW hne] at j
  cases nm with
  | none=>
   have cc:=zq
   have j':=fun (H:Heap) (nx:Nat)=>j H (nx+2) (nx+1) nx (.p (.sl (bytP (crdW none)) (crdW none).length 1 true)) (.sl (crdW none) true)
   generalize T++[0]++crdW none=Q at*
   generalize (crdW none).length=zl at*
   generalize bytP (crdW none)=Z at*
   simp [ir21,ssB,ssU,Go.Sx.LV.undef,Go.undef,ssP,appO,bv,c,r,bb,t1,cc,aJ,ak,ax,ak,aD,aH,aK,aO,aR,aB,aF,j']
  | some s=>
   have cc:=zt s (by have:=hs s rfl;omega)
   have j':=fun (H:Heap) (nx:Nat)=>j H (nx+2) (nx+1) nx (.p (.sl (bytP (crdW (some s))) (crdW (some s)).length 1 false)) (.sl (crdW (some s)) false)
   generalize T++[0]++crdW (some s)=Q at*
   generalize (crdW (some s)).length=zl at*
   generalize bytP (crdW (some s))=Z at*
   simp [ir21,ssB,ssU,Go.Sx.LV.undef,Go.undef,ssP,appO,bX,c,r,bb,t1,cc,aJ,ak,ax,ak,aD,aH,aK,aO,aR,aB,aF,j']
end Go.Proofs.YtoeblkipfdnnlaaGreatDoor
end

section
namespace Go.Proofs.YtoeblkipfdnnlaaGreatDoor
open Go Go.Sx
section same
variable {H:Heap} {nx:Nat} {F G:List UInt8} {x y:LV}
theorem xx {n:Nat} (g1:Bs H nx x F) (g2:Bs H nx y G) (h62:F.length<2^62) {j:Nat} {a b:UInt8} (ha:F[j]?=some a) (hb:G[j]?=some b) (e:a=b):
  runCS ⟨Ω,gG,H,nx⟩ n ir20_0 ⟨[(0,x),(1,y),(12,.int .i64 F.length),(13,.int .i64 j)],⟨[],[]⟩⟩=
   some (.normal,⟨[(0,x),(1,y),(12,.int .i64 F.length),(13,.int .i64 (j+1:Nat))],⟨[],[]⟩⟩):=by
 obtain ⟨hlt,_⟩:=List.getElem?_eq_some_iff.1 ha
 obtain ⟨hlt2,_⟩:=List.getElem?_eq_some_iff.1 hb
 have h8 : ¬(F.length:Int)≤j:=by omega
 have hw:IntKind.i64.wrap ((j:Int)+1)=(j:Int)+1:=wrap_i64 _ (by omega) (by omega)
 have hba:=bA ha
 have hbb:=bA hb
 subst e
 cases g1 with
 | nil=>simp at ha
 | sl _ fl=>
  cases g2 with
  | nil=>simp at hb
  | sl _ fl=>simp [ir20_0,ssB,ssU,Go.Sx.LV.undef,Go.undef,ssP,appO,h8,hw,hlt,hlt2,hba,hbb,aJ]
  | arr _ G' id off cp ex h1 h2 h3 h4=>
   have hb2:=bA (fv h4 hb)
   simp [ir20_0,ssB,ssU,Go.Sx.LV.undef,Go.undef,ssP,appO,h8,hw,hlt,hlt2,hba,hb2,aJ,h1,h2]
 | arr _ F' id' off' cp' ex' k1 k2 k3 k4=>
  have ha2:=bA (fv k4 ha)
  cases g2 with
  | nil=>simp at hb
  | sl _ fl=>simp [ir20_0,ssB,ssU,Go.Sx.LV.undef,Go.undef,ssP,appO,h8,hw,hlt,hlt2,ha2,hbb,aJ,k1,k2]
  | arr _ G' id off cp ex h1 h2 h3 h4=>
   have hb2:=bA (fv h4 hb)
   simp [ir20_0,ssB,ssU,Go.Sx.LV.undef,Go.undef,ssP,appO,h8,hw,hlt,hlt2,ha2,hb2,aJ,h1,h2,k1,k2]
theorem xy {n:Nat} (g1:Bs H nx x F) (g2:Bs H nx y G) {j:Nat} {a b:UInt8} (ha:F[j]?=some a) (hb:G[j]?=some b) (e:a≠b):
  runCS ⟨Ω,gG,H,nx⟩ n ir20_0 ⟨[(0,x),(1,y),(12,.int .i64 F.length),(13,.int .i64 j)],⟨[],[]⟩⟩=
   some (.ret,⟨[(4,.bool false)],⟨[],[]⟩⟩):=by
 obtain ⟨hlt,_⟩:=List.getElem?_eq_some_iff.1 ha
 obtain ⟨hlt2,_⟩:=List.getElem?_eq_some_iff.1 hb
 have h8 : ¬(F.length:Int)≤j:=by omega
 have hba:=bA ha
 have hbb:=bA hb
 have e' : ¬a.toNat=b.toNat:=fun h=>e (UInt8.toNat_inj.1 h)
 have e2 : ¬(a.toNat:Int)=b.toNat:=fun h=>e' (by omega)
 cases g1 with
 | nil=>simp at ha
 | sl _ fl=>
  cases g2 with
  | nil=>simp at hb
  | sl _ fl=>simp [ir20_0,ssB,ssU,Go.Sx.LV.undef,Go.undef,ssP,appO,h8,hlt,hlt2,hba,hbb,aJ,e',e2]
  | arr _ G' id off cp ex h1 h2 h3 h4=>
   have hb2:=bA (fv h4 hb)
   simp [ir20_0,ssB,ssU,Go.Sx.LV.undef,Go.undef,ssP,appO,h8,hlt,hlt2,hba,hb2,aJ,h1,h2,e',e2]
 | arr _ F' id' off' cp' ex' k1 k2 k3 k4=>
  have ha2:=bA (fv k4 ha)
  cases g2 with
  | nil=>simp at hb
  | sl _ fl=>simp [ir20_0,ssB,ssU,Go.Sx.LV.undef,Go.undef,ssP,appO,h8,hlt,hlt2,ha2,hbb,aJ,k1,k2,e',e2]
  | arr _ G' id off cp ex h1 h2 h3 h4=>
   have hb2:=bA (fv h4 hb)
   simp [ir20_0,ssB,ssU,Go.Sx.LV.undef,Go.undef,ssP,appO,h8,hlt,hlt2,ha2,hb2,aJ,h1,h2,k1,k2,e',e2]
theorem vu {n len:Nat} : runCS ⟨Ω,gG,H,nx⟩ n ir20_0 ⟨[(0,x),(1,y),(12,.int .i64 len),(13,.int .i64 len)],⟨[],[]⟩⟩=
  some (.exit 0,⟨[(0,x),(1,y),(12,.int .i64 len),(13,.int .i64 len),(14,.bool false)],⟨[],[]⟩⟩):=by
 simp [ir20_0,ssB,ssU,Go.Sx.LV.undef,Go.undef,ssP,appO]
theorem vt {n:Nat} (g1:Bs H nx x F) (g2:Bs H nx y G) (hl:F.length=G.length) (h62:F.length<2^62) : ∀ (k q j:Nat),j+k=F.length→k<q →
  iter (runCS ⟨Ω,gG,H,nx⟩ n ir20_0) q ⟨[(0,x),(1,y),(12,.int .i64 F.length),(13,.int .i64 j)],⟨[],[]⟩⟩=
   if F.drop j=G.drop j then some (.exit 0,⟨[(0,x),(1,y),(12,.int .i64 F.length),(13,.int .i64 F.length),(14,.bool false)],⟨[],[]⟩⟩) else some (.ret,⟨[(4,.bool false)],⟨[],[]⟩⟩):=by
 intro k
 induction k with
 | zero=>
  intro q j hj hq
  obtain ⟨q,rfl⟩ : ∃ r,q=r+1:=⟨q-1,by omega⟩
  obtain rfl:j=F.length:=by omega
  rw [bc vu (by simp),if_pos (by rw [List.drop_length,hl,List.drop_length])]
 | succ k ih=>
  intro q j hj hq
  obtain ⟨q,rfl⟩ : ∃ r,q=r+1:=⟨q-1,by omega⟩
  have h1:j<F.length:=by omega
  have h2:j<G.length:=by omega
  have hiff:(F.drop j=G.drop j)↔(F[j]=G[j]∧F.drop (j+1)=G.drop (j+1)):=by rw [List.drop_eq_getElem_cons h1,List.drop_eq_getElem_cons h2,List.cons.injEq]
  by_cases e:F[j]=G[j]
  ·rw [bg (xx g1 g2 h62 (List.getElem?_eq_getElem h1) (List.getElem?_eq_getElem h2) e),ih q (j+1) (by omega) (by omega)]
   simp only [hiff,e,true_and]
  ·rw [bc (xy g1 g2 (List.getElem?_eq_getElem h1) (List.getElem?_eq_getElem h2) e) (by simp),if_neg (fun h=>e (hiff.1 h).1)]
theorem vk (g1:Bs H nx x F) (g2:Bs H nx y G) (h62:F.length<2^62):Ω 20 [x,y] H nx=some (.bool (decide (F=G)),[],[]):=by
 refine av (ir:=ir20) (by kernel_rfl) (F.length+1) ?_
 by_cases hl:F.length=G.length
 ·have hs:=vt (n:=F.length+1) g1 g2 hl h62 F.length (F.length+1) 0 (by omega) (by omega)
  simp only [Int.natCast_zero,Int.ofNat_zero,List.drop_zero] at hs
  have hb:((F.length:Int) != (G.length:Int))=false:=by simp [hl]
  have hb0:F=[]→(G.length:Int)=0:=fun e=>by subst e;simp at hl;omega
  obtain ⟨D,hD⟩ : ∃ D,decide (F=G)=D:=⟨_,rfl⟩
  have hs2:iter (runCS ⟨Ω,gG,H,nx⟩ (F.length+1) ir20_0) (F.length+1) ⟨[(0,x),(1,y),(12,.int .i64 F.length),(13,.int .i64 0)],⟨[],[]⟩⟩=
    if D=true then some (.exit 0,⟨[(0,x),(1,y),(12,.int .i64 F.length),(13,.int .i64 F.length),(14,.bool false)],⟨[],[]⟩⟩) else some (.ret,⟨[(4,.bool false)],⟨[],[]⟩⟩):=by
   rw [hs,←hD]
   by_cases e:F=G
   ·rw [if_pos e];simp [e]
   ·rw [if_neg e];simp [e]
  rw [hD]
  clear hs hD
  cases g1 with
  | nil=>
   have hb1:=hb0 rfl
   clear hb hb0
   simp only [List.length_nil,Int.natCast_zero,Int.ofNat_zero] at hs2
   cases g2<;>cases D<;>simp [ir20,ssB,ssU,Go.Sx.LV.undef,Go.undef,ssP,appO,hs2,hb1]
  | sl _ fl=>
   clear hb0
   cases g2 with
   | nil=>
    obtain rfl:F=[]:=List.eq_nil_of_length_eq_zero hl
    simp only [List.length_nil,Int.natCast_zero,Int.ofNat_zero] at hs2
    cases D<;>simp [ir20,ssB,ssU,Go.Sx.LV.undef,Go.undef,ssP,appO,hs2]
   | _=>cases D<;>simp [ir20,ssB,ssU,Go.Sx.LV.undef,Go.undef,ssP,appO,hs2,hb]
  | arr _ F' id' off' cp' ex' k1 k2 k3 k4=>
   clear hb0
   cases g2 with
   | nil=>
    obtain rfl:F=[]:=List.eq_nil_of_length_eq_zero hl
    simp only [List.length_nil,Int.natCast_zero,Int.ofNat_zero] at hs2
    cases D<;>simp [ir20,ssB,ssU,Go.Sx.LV.undef,Go.undef,ssP,appO,hs2]
   | _=>cases D<;>simp [ir20,ssB,ssU,Go.Sx.LV.undef,Go.undef,ssP,appO,hs2,hb]
 ·have e : ¬F=G:=fun e=>hl (by rw [e])
  have hb:((F.length:Int) != (G.length:Int))=true:=by simp;omega
  have e':decide (F=G)=false:=by simpa using e
  rw [e']
  have hl' : ¬(F.length:Int)=G.length:=by omega
  cases g1 with
  | nil=>
   simp only [List.length_nil,Int.natCast_zero,Int.ofNat_zero] at hl'
   cases g2<;>simp [ir20,ssB,ssU,Go.Sx.LV.undef,Go.undef,ssP,appO,hl']<;>simp at hl
  | sl _ fl=>
   cases g2 with
   | nil=>
    have hF : ¬F=[]:=fun e=>hl (by rw [e])
    simp [ir20,ssB,ssU,Go.Sx.LV.undef,Go.undef,ssP,appO,hF]
   | _=>simp [ir20,ssB,ssU,Go.Sx.LV.undef,Go.undef,ssP,appO,hb,hl',hl]
  | arr _ F' id' off' cp' ex' k1 k2 k3 k4=>
   cases g2 with
   | nil=>
    have hF : ¬F=[]:=fun e=>hl (by rw [e])
    simp [ir20,ssB,ssU,Go.Sx.LV.undef,Go.undef,ssP,appO,hF]
   | _=>simp [ir20,ssB,ssU,Go.Sx.LV.undef,Go.undef,ssP,appO,hb,hl',hl]
end same
end Go.Proofs.YtoeblkipfdnnlaaGreatDoor
end

section
namespace Go.Sx
open Go
def blt (x y:List UInt8):Bool:=decide (cmpL x y<0)
theorem dE : ∀ x:List UInt8,cmpL x x=0
 | []=>rfl
 | a::x=>by rw [cmpL,if_pos rfl,dE x]
theorem iR : ∀ {x y:List UInt8},cmpL x y=0→x=y
 | [],[],_=>rfl
 | [],_::_,h=>by cases h
 | _::_,[],h=>by cases h
 | a::x,b::y,h=>by
  rw [cmpL] at h
  split at h
  ·rename_i e;rw [e,iR h]
  ·split at h<;>cases h
theorem kf : ∀ (x y:List UInt8),cmpL x y=0∨cmpL x y = -1∨cmpL x y=1
 | [],[]=>.inl rfl
 | [],_::_=>.inr (.inl rfl)
 | _::_,[]=>.inr (.inr rfl)
 | a::x,b::y=>by
  rw [cmpL]
  split
  ·exact kf x y
  ·split
   ·exact .inr (.inl rfl)
   ·exact .inr (.inr rfl)
theorem mI : ∀ (x y:List UInt8),cmpL y x = - cmpL x y
 | [],[]=>rfl
 | [],_::_=>rfl
 | _::_,[]=>rfl
 | a::x,b::y=>by
  rw [cmpL,cmpL]
  by_cases h:a=b
  ·rw [if_pos h,if_pos h.symm];exact mI x y
  ·rw [if_neg h,if_neg (fun e=>h e.symm)]
   by_cases h1:a<b
   ·rw [if_pos h1,if_neg (UInt8.not_lt.2 (UInt8.le_of_lt h1))];rfl
   ·rw [if_neg h1,if_pos]
    rcases UInt8.lt_or_eq_of_le (UInt8.not_lt.1 h1) with h2|h2
    ·exact h2
    ·exact absurd h2.symm h
theorem jn : ∀ {x y z:List UInt8},cmpL x y<0→cmpL y z<0→cmpL x z<0
 | [],[],_,h,_=>by simp [cmpL] at h
 | _::_,[],_,h,_=>by simp [cmpL] at h
 | _,_::_,[],_,h=>by simp [cmpL] at h
 | [],_::_,_::_,_,_=>by simp [cmpL]
 | a::x,b::y,c::z,h1,h2=>by
  rw [cmpL] at h1 h2 ⊢
  by_cases e1:a=b
  ·subst e1
   rw [if_pos rfl] at h1
   by_cases e2:a=c
   ·subst e2
    rw [if_pos rfl] at h2 ⊢
    exact jn h1 h2
   ·rw [if_neg e2] at h2 ⊢;exact h2
  ·rw [if_neg e1] at h1
   have l1:a<b:=by
    by_cases q:a<b
    ·exact q
    ·rw [if_neg q] at h1;exact absurd h1 (by decide)
   by_cases e2:b=c
   ·subst e2;rw [if_neg e1,if_pos l1];decide
   ·rw [if_neg e2] at h2
    have l2:b<c:=by
     by_cases q:b<c
     ·exact q
     ·rw [if_neg q] at h2;exact absurd h2 (by decide)
    have l3:a<c:=UInt8.lt_trans l1 l2
    rw [if_neg (UInt8.ne_of_lt l3),if_pos l3];decide
theorem lh (x:List UInt8):blt x x=false:=by simp [blt,dE]
theorem gY {x y z:List UInt8} (h1:blt x y=true) (h2:blt y z=true):blt x z=true:=by
 simp only [blt,decide_eq_true_eq] at h1 h2 ⊢;exact jn h1 h2
theorem vZ (x y:List UInt8):blt x y=true∨x=y∨blt y x=true:=by
 simp only [blt,decide_eq_true_eq,mI x y]
 rcases kf x y with h|h|h
 ·exact .inr (.inl (iR h))
 ·exact .inl (by omega)
 ·exact .inr (.inr (by omega))
section
variable {α:Type} (key:α→List UInt8) (und:α→α→Bool)
def Srt:List α→Prop
 | []=>True
 | x::l=>(∀ y∈l,blt (key x) (key y)=true)∧Srt l
def insK (v:α):List α→List α
 | []=>[v]
 | x::l=>if blt (key x) (key v) then x::insK v l else v::x::l
def addK (L:List α) (v:α):List α:=
 if L.any (fun w=>key w==key v)||L.any (fun w=>und v w) then L else insK key v (L.filter fun w => !und w v)
def okK (l:List α) (v:α):Bool:=l.all fun w => !und v w
variable {key und}
theorem insK_mem {v u:α} : ∀ {L:List α},u∈insK key v L↔u=v∨u∈L
 | []=>by simp [insK]
 | x::l=>by
  rw [insK]
  split
  ·simp only [List.mem_cons,insK_mem (L:=l)]
   constructor
   ·rintro (h|h|h)
    ·exact .inr (.inl h)
    ·exact .inl h
    ·exact .inr (.inr h)
   ·rintro (h|h|h)
    ·exact .inr (.inl h)
    ·exact .inl h
    ·exact .inr (.inr h)
  ·simp
theorem jE {v:α} : ∀ {L:List α},Srt key L→(∀ w∈L,key w≠key v)→Srt key (insK key v L)
 | [],_,_=>⟨by simp,trivial⟩
 | x::l,⟨h1,h2⟩,hn=>by
  rw [insK]
  split
  ·rename_i h
   refine ⟨fun y hy => ?_,jE h2 fun w hw=>hn w (List.mem_cons_of_mem _ hw)⟩
   rcases insK_mem.1 hy with rfl|hy
   ·exact h
   ·exact h1 y hy
  ·rename_i h
   have hv:blt (key v) (key x)=true:=by
    rcases vZ (key x) (key v) with q|q|q
    ·exact absurd q h
    ·exact absurd q (hn x List.mem_cons_self)
    ·exact q
   refine ⟨fun y hy => ?_,h1,h2⟩
   rcases List.mem_cons.1 hy with rfl|hy
   ·exact hv
   ·exact gY hv (h1 y hy)
theorem Srt.filter {p:α→Bool} : ∀ {L:List α},Srt key L→Srt key (L.filter p)
 | [],_=>trivial
 | x::l,⟨h1,h2⟩=>by
  rw [List.filter_cons]
  split
  ·exact ⟨fun y hy=>h1 y ((List.mem_filter.1 hy).1),h2.filter⟩
  ·exact h2.filter
theorem Srt.ext : ∀ {L M:List α},Srt key L→Srt key M→(∀ k,k∈L.map key↔k∈M.map key)→L.map key=M.map key
 | [],[],_,_,_=>rfl
 | [],y::m,_,_,h=>by have:=(h (key y)).2 (by simp);simp at this
 | x::l,[],_,_,h=>by have:=(h (key x)).1 (by simp);simp at this
 | x::l,y::m,⟨h1,h2⟩,⟨g1,g2⟩,h=>by
  have hne : ∀ {a:α} {q:List α},(∀ z∈q,blt (key a) (key z)=true)→key a∉q.map key:=fun hz hm=>by
   obtain ⟨z,hz1,hz2⟩:=List.mem_map.1 hm
   have:=hz z hz1
   rw [hz2,lh] at this;cases this
  have e:key x=key y:=by
   rcases List.mem_cons.1 ((h (key x)).1 (by simp)) with q|q
   ·exact q
   ·obtain ⟨z,z1,z2⟩:=List.mem_map.1 q
    rcases List.mem_cons.1 ((h (key y)).2 (by simp)) with q' | q'
    ·exact q'.symm
    ·obtain ⟨u,u1,u2⟩:=List.mem_map.1 q'
     have a:=g1 z z1
     have b:=h1 u u1
     rw [z2] at a
     rw [u2] at b
     have:=gY a b
     rw [lh] at this;cases this
  simp only [List.map_cons]
  rw [e,Srt.ext h2 g2]
  intro k
  have hk:=h k
  simp only [List.map_cons,List.mem_cons] at hk
  constructor
  ·intro hm
   rcases hk.1 (.inr hm) with q|q
   ·exact absurd (by rw [e,←q];exact hm:key x∈l.map key) (hne h1)
   ·exact q
  ·intro hm
   rcases hk.2 (.inr hm) with q|q
   ·exact absurd (by rw [←e,←q];exact hm:key y∈m.map key) (hne g1)
   ·exact q
structure Ord (key:α→List UInt8) (und:α→α→Bool) (p:α→Prop):Prop where
 irr : ∀ v,p v→und v v=false
 trans : ∀ u v w,p u→p v→p w→und u v=true→und v w=true→und u w=true
 inj : ∀ u v,p u→p v→key u=key v→u=v
def Top (und:α→α→Bool) (l:List α) (v:α):Prop:=v∈l∧okK und l v=true
theorem okK_iff {l:List α} {v:α} : okK und l v=true ↔ ∀ w∈l,und v w=false:=by simp [okK]
theorem od {p:α→Prop} (o:Ord key und p) {l:List α} (hl : ∀ v∈l,p v) : ∀ (n:Nat) (w:α),w∈l→(l.filter (und w)).length≤n→∃ u,Top und l u∧(u=w∨und w u=true)
 | n,w,hw,hn=>by
  by_cases h:okK und l w=true
  ·exact ⟨w,⟨hw,h⟩,.inl rfl⟩
  ·have : ∃ x∈l,und w x=true:=by
    rw [okK_iff] at h
    exact Classical.byContradiction fun hc=>h fun x hx=>by
     cases q:und w x with
     | false=>rfl
     | true=>exact absurd ⟨x,hx,q⟩ hc
   obtain ⟨x,hx,hwx⟩:=this
   have hlt:(l.filter (und x)).length<(l.filter (und w)).length:=by
    have e:l.filter (und x)=(l.filter (und w)).filter (und x):=by
     rw [List.filter_filter]
     refine List.filter_congr fun z hz => ?_
     cases q:und x z with
     | false=>rfl
     | true=>rw [o.trans w x z (hl w hw) (hl x hx) (hl z hz) hwx q];rfl
    rw [e]
    have hmem:x∈l.filter (und w):=List.mem_filter.2 ⟨hx,hwx⟩
    refine Nat.lt_of_le_of_ne (List.length_filter_le _ _) fun he => ?_
    have:=List.length_filter_eq_length_iff.1 he x hmem
    rw [o.irr x (hl x hx)] at this;cases this
   cases n with
   | zero=>omega
   | succ n=>
    obtain ⟨u,hu,h2⟩:=od o hl n x hx (by omega)
    refine ⟨u,hu,.inr ?_⟩
    rcases h2 with rfl|h2
    ·exact hwx
    ·exact o.trans w x u (hl w hw) (hl x hx) (hl u hu.1) hwx h2
structure Is (key:α→List UInt8) (und:α→α→Bool) (L l:List α):Prop where
 srt:Srt key L
 mem : ∀ v,v∈L↔Top und l v
theorem Is.nil:Is key und ([]:List α) []:=⟨trivial,fun v=>by simp [Top]⟩
theorem Is.add {p:α→Prop} (o:Ord key und p) {L l:List α} (h:Is key und L l) (hl : ∀ v∈l,p v) {v:α} (hv:p v):Is key und (addK key und L v) (l++[v]):=by
 have ok1 : ∀ u,okK und (l++[v]) u=true↔okK und l u=true∧und u v=false:=fun u=>by
  simp [okK]
 unfold addK
 by_cases h1:L.any (fun w=>key w==key v)=true
 ·rw [h1,Bool.true_or,if_pos rfl]
  obtain ⟨w,hw,hk⟩:=List.any_eq_true.1 h1
  have hwt:=(h.mem w).1 hw
  obtain rfl:w=v:=o.inj w v (hl w hwt.1) hv (by simpa using hk)
  refine ⟨h.srt,fun u=>(h.mem u).trans ?_⟩
  unfold Top
  rw [ok1]
  constructor
  ·rintro ⟨a,b⟩
   exact ⟨List.mem_append_left _ a,b,okK_iff.1 b w hwt.1⟩
  ·rintro ⟨a,b,c⟩
   rcases List.mem_append.1 a with a|a
   ·exact ⟨a,b⟩
   ·rw [List.mem_singleton] at a;subst a;exact hwt
 ·have h1:L.any (fun w=>key w==key v)=false:=by simpa using h1
  rw [h1,Bool.false_or]
  by_cases h2:L.any (fun w=>und v w)=true
  ·rw [if_pos h2]
   obtain ⟨w,hw,hu⟩:=List.any_eq_true.1 h2
   have hwt:=(h.mem w).1 hw
   refine ⟨h.srt,fun u=>(h.mem u).trans ?_⟩
   unfold Top
   rw [ok1]
   constructor
   ·rintro ⟨a,b⟩
    refine ⟨List.mem_append_left _ a,b,?_⟩
    cases q:und u v with
    | false=>rfl
    | true=>
     have:=o.trans u v w (hl u a) hv (hl w hwt.1) q hu
     rw [okK_iff.1 b w hwt.1] at this;cases this
   ·rintro ⟨a,b,c⟩
    rcases List.mem_append.1 a with a|a
    ·exact ⟨a,b⟩
    ·rw [List.mem_singleton] at a;subst a
     rw [okK_iff.1 b w hwt.1] at hu;cases hu
  ·rw [if_neg h2]
   have h2 : ∀ w∈L,und v w=false:=by simpa using h2
   have hvt:okK und l v=true:=okK_iff.2 fun w hw=>by
    cases q:und v w with
    | false=>rfl
    | true=>
     obtain ⟨u,hu,h3⟩:=od o hl _ w hw (Nat.le_refl _)
     have hul:=(h.mem u).2 hu
     rcases h3 with rfl|h3
     ·rw [h2 u hul] at q;cases q
     ·have:=o.trans v w u hv (hl w hw) (hl u hu.1) q h3
      rw [h2 u hul] at this;cases this
   refine ⟨jE h.srt.filter fun w hw hk => ?_,fun u => ?_⟩
   ·have:=List.any_eq_false.1 h1 w ((List.mem_filter.1 hw).1)
    simp [hk] at this
   ·rw [insK_mem,List.mem_filter,h.mem]
    unfold Top
    rw [ok1]
    constructor
    ·rintro (rfl|⟨⟨a,b⟩,c⟩)
     ·exact ⟨by simp,hvt,o.irr u hv⟩
     ·exact ⟨List.mem_append_left _ a,b,by simpa using c⟩
    ·rintro ⟨a,b,c⟩
     rcases List.mem_append.1 a with a|a
     ·exact .inr ⟨⟨a,b⟩,by simp [c]⟩
     ·exact .inl (by simpa using a)
theorem Is.same {L M l m:List α} (h:Is key und L l) (g:Is key und M m) (e : ∀ v,Top und l v↔Top und m v):L.map key=M.map key:=by
 refine Srt.ext h.srt g.srt fun k => ?_
 simp only [List.mem_map]
 constructor
 ·rintro ⟨v,hv,rfl⟩
  exact ⟨v,(g.mem v).2 ((e v).1 ((h.mem v).1 hv)),rfl⟩
 ·rintro ⟨v,hv,rfl⟩
  exact ⟨v,(h.mem v).2 ((e v).2 ((g.mem v).1 hv)),rfl⟩
end
end Go.Sx
end

section
namespace Go.Sx
open Go
section
variable {α:Type} (key:α→List UInt8)
def lo (t:List UInt8):List α→Nat
 | []=>0
 | x::l=>if blt (key x) t then lo t l+1 else 0
variable {key}
theorem uu (t:List UInt8) : ∀ L:List α,lo key t L≤L.length
 | []=>Nat.le_refl _
 | x::l=>by
  rw [lo]
  split
  ·have:=uu t l;rw [List.length_cons];omega
  ·exact Nat.zero_le _
theorem p8 (v:α) : ∀ L:List α,insK key v L=L.take (lo key (key v) L)++v::L.drop (lo key (key v) L)
 | []=>rfl
 | x::l=>by
  rw [insK,lo]
  split
  ·rw [p8 v l];rfl
  ·rfl
theorem x9 {t:List UInt8} : ∀ {L:List α},Srt key L→∀ {h:Nat} {x:α},L[h]?=some x→(blt (key x) t=decide (h<lo key t L))
 | [],_,h,x,hx=>by cases hx
 | y::l,⟨h1,h2⟩,0,x,hx=>by
  obtain rfl:y=x:=by simpa using hx
  rw [lo]
  cases q:blt (key y) t with
  | true=>simp
  | false=>simp
 | y::l,⟨h1,h2⟩,h+1,x,hx=>by
  have hx':l[h]?=some x:=by simpa using hx
  have ih:=x9 (t:=t) h2 hx'
  rw [lo]
  cases q:blt (key y) t with
  | true=>rw [ih];simp
  | false=>
   have hm:x∈l:=List.mem_of_getElem? hx'
   cases q2:blt (key x) t with
   | false=>simp
   | true=>rw [gY (h1 x hm) q2] at q;cases q
theorem sZ {t:List UInt8} : ∀ {L:List α},Srt key L→(L.any fun w=>key w==t)=match L[lo key t L]? with
  | some x=>decide (key x=t)
  | none=>false
 | [],_=>rfl
 | y::l,⟨h1,h2⟩=>by
  rw [lo,List.any_cons]
  cases q:blt (key y) t with
  | true=>
   have hne:(key y==t)=false:=by
    cases h:key y==t with
    | false=>rfl
    | true=>rw [eq_of_beq h,lh] at q;cases q
   rw [hne,Bool.false_or,sZ h2]
   rfl
  | false=>
   simp only [Bool.false_eq_true,if_false,List.getElem?_cons_zero]
   by_cases h:key y=t
   ·simp [h]
   ·have hb:(key y==t)=false:=by simpa using h
    have:(l.any fun w=>key w==t)=false:=by
     rw [List.any_eq_false]
     intro w hw he
     have:=h1 w hw
     rw [eq_of_beq he] at this
     rw [this] at q;cases q
    rw [hb,this];simp [h]
end
section
variable {α:Type} (keep:α→Bool)
def dlp:Nat→List α→Nat→Nat→List α × Nat
 | 0,A,i,_=>(A,i)
 | m+1,A,i,j=>match A[j]? with
  | some v=>if keep v then dlp m (A.set i v) (i+1) (j+1) else dlp m A i (j+1)
  | none=>(A,i)
variable {keep}
theorem lq : ∀ (m:Nat) (A:List α) (i j:Nat),(dlp keep m A i j).1.length=A.length
 | 0,A,i,j=>rfl
 | m+1,A,i,j=>by
  rw [dlp]
  split
  ·split
   ·rw [lq m,List.length_set]
   ·exact lq m _ _ _
  ·rfl
theorem pB : ∀ (m:Nat) (A:List α) (i j:Nat),A.length=j+m→i≤j→(dlp keep m A i j).2=i+((A.drop j).filter keep).length∧(dlp keep m A i j).2≤A.length ∧
  (dlp keep m A i j).1.take (dlp keep m A i j).2=A.take i++(A.drop j).filter keep
 | 0,A,i,j,h,hi=>by
  rw [List.drop_of_length_le (by omega)]
  refine ⟨by simp [dlp],by simp only [dlp];omega,by simp [dlp]⟩
 | m+1,A,i,j,h,hi=>by
  have hj:j<A.length:=by omega
  rw [dlp,List.getElem?_eq_getElem hj,List.drop_eq_getElem_cons hj,List.filter_cons]
  simp only
  split
  ·obtain ⟨h1,h2,h3⟩:=pB m (A.set i A[j]) (i+1) (j+1) (by rw [List.length_set];omega) (by omega)
   have hd:(A.set i A[j]).drop (j+1)=A.drop (j+1):=List.drop_set_of_lt (by omega)
   rw [hd] at h1 h3
   rw [List.length_set] at h2
   refine ⟨by rw [h1,List.length_cons];omega,h2,h3.trans ?_⟩
   have ht:(A.set i A[j]).take (i+1)=A.take i++[A[j]]:=by
    rw [List.take_set,List.take_succ,List.getElem?_eq_getElem (show i<A.length by omega),List.set_append_right _ _ (by rw [List.length_take];omega)]
    simp [Nat.min_eq_left (show i≤A.length by omega)]
   rw [ht,List.append_assoc];rfl
  ·exact pB m A i (j+1) (by omega) (by omega)
end
end Go.Sx
end

section
namespace Go.Sx
open Go
section
variable {α β:Type} {f:α→List β} {n:Nat}
theorem rc (hf : ∀ x,(f x).length=n) (L:List α):(L.flatMap f).length=L.length*n:=by
 induction L with
 | nil=>simp
 | cons x L ih=>rw [List.flatMap_cons,List.length_append,ih,hf,List.length_cons,Nat.succ_mul,Nat.add_comm]
theorem dK (hf : ∀ x,(f x).length=n) : ∀ (i:Nat) (L:List α),(L.flatMap f).drop (i*n)=(L.drop i).flatMap f
 | 0,L=>by simp
 | i+1,[]=>by simp
 | i+1,x::L=>by
  rw [List.flatMap_cons,List.drop_succ_cons,←dK hf i L,Nat.succ_mul,Nat.add_comm,←List.drop_drop,←hf x,List.drop_left]
theorem cU (hf : ∀ x,(f x).length=n) : ∀ (i:Nat) (L:List α),(L.flatMap f).take (i*n)=(L.take i).flatMap f
 | 0,L=>by simp
 | i+1,[]=>by simp
 | i+1,x::L=>by
  rw [List.flatMap_cons,List.take_succ_cons,List.flatMap_cons,←cU hf i L,Nat.succ_mul,Nat.add_comm,←hf x,List.take_length_add_append]
theorem xr (hf : ∀ x,(f x).length=n) {i:Nat} {L:List α} {x:α} (h:L[i]?=some x):((L.flatMap f).drop (i*n)).take n=f x:=by
 rw [dK hf]
 obtain ⟨hi,rfl⟩:=List.getElem?_eq_some_iff.1 h
 rw [List.drop_eq_getElem_cons hi,List.flatMap_cons,←hf L[i],List.take_left']
 rfl
theorem xt (hf : ∀ x,(f x).length=n) {i:Nat} {L:List α} (x:α) (h:i<L.length):
  (L.flatMap f).take (i*n)++f x++(L.flatMap f).drop (i*n+n)=(L.set i x).flatMap f:=by
 rw [cU hf,show i*n+n=(i+1)*n by rw [Nat.succ_mul],dK hf,List.set_eq_take_append_cons_drop,if_pos h,List.flatMap_append,List.flatMap_cons,List.append_assoc]
end
theorem oY {α:Type} {f:α→List LV} {n:Nat} (hf : ∀ x,(f x).length=n) {i:Nat} {L:List α} (x:α) (h:i<L.length):
  splice (L.flatMap f) (i*n) (f x)=(L.set i x).flatMap f:=by
 unfold splice
 rw [hf]
 exact xt hf x h
end Go.Sx
end

section
namespace Go.Proofs.YtoeblkipfdnnlaaGreatDoor
open Go Go.Sx
set_option maxHeartbeats 1000000
theorem AP (F G:List UInt8) (f g:Bool) (H:Heap) (nx:Nat):Ω 90 [.p (.sl (bytP F) F.length 1 f),.p (.sl (bytP G) G.length 1 g)] H nx=some (.int .i64 (cmpL F G),[],[]):=by
 have b1:=bW F
 have b2:=bW G
 refine av (ir:=ir90) (by kernel_rfl) 0 ?_
 simp [ir90,ssB,ssU,Go.Sx.LV.undef,Go.undef,ssP,appO,aJ,ax,b1,b2]
theorem lS (v w:Wv) (hv:v.Ok) (hw:w.Ok) (H:Heap) (nx:Nat):Ω 46 [.p (v.pv false),.p (w.pv false)] H nx=some (.int .i64 (cmpL v.bytes w.bytes),[],[]):=by
 have b1:=j5 v false hv
 have b2:=j5 w false hw
 have c:=AP v.bytes w.bytes false false
 simp only [Wv.pv,Wv.cells] at b1 b2 ⊢
 generalize cmpL v.bytes w.bytes=x at*
 generalize v.bytes.length=n at*
 generalize bytP v.bytes=N at*
 generalize w.bytes.length=m at*
 generalize bytP w.bytes=M at*
 refine au (ir:=ir46) (by kernel_rfl) ?_;simp +contextual (maxSteps:=1000000) [ir46,ssL,↓ssM,aa,ssU,Go.Sx.LV.undef,Go.undef,ssR,b1,b2,c]
theorem yk (v w:Wv) (hv:v.Ok) (hw:w.Ok) (H:Heap) (nx:Nat):Ω 33 [.p (v.pv false),.p (w.pv false)] H nx=some (.bool (decide (cmpL v.bytes w.bytes=0)),[],[]):=by
 have b1:=lS v w hv hw
 simp only [Wv.pv,Wv.cells] at b1 ⊢
 generalize cmpL v.bytes w.bytes=x at*
 refine au (ir:=ir33) (by kernel_rfl) ?_;simp +contextual (maxSteps:=1000000) [ir33,ssL,↓ssM,aa,ssU,Go.Sx.LV.undef,Go.undef,ssR,b1]
theorem Al (v w:Wv) (hv:v.Ok) (hw:w.Ok) (H:Heap) (nx:Nat):Ω 35 [.p (v.pv false),.p (w.pv false)] H nx=some (.bool (blt v.bytes w.bytes),[],[]):=by
 have b1:=lS v w hv hw
 have e:blt v.bytes w.bytes=!decide (0≤cmpL v.bytes w.bytes):=by unfold blt;rw [←decide_not];congr 1;simp
 rw [e]
 simp only [Wv.pv,Wv.cells] at b1 ⊢
 generalize cmpL v.bytes w.bytes=x at*
 refine au (ir:=ir35) (by kernel_rfl) ?_;simp +contextual (maxSteps:=1000000) [ir35,ssL,↓ssM,aa,ssU,Go.Sx.LV.undef,Go.undef,ssR,b1]
def Wv.und (v w:Wv):Bool:=Ev.leqb v.ev w.ev&&!Ev.leqb w.ev v.ev
theorem o9 (v w:Wv) (hv:v.Ok) (hw:w.Ok) (H:Heap) (nx:Nat):Ω 37 [.p (v.pv false),.p (w.pv false)] H nx=some (.bool (v.und w),[],[]):=by
 have b1:=tL v.ev w.ev hv.m hw.m
 have b2:=tL w.ev v.ev hw.m hv.m
 unfold Wv.und
 simp only [Wv.pv,Wv.cells,Ev.pv] at b1 b2 ⊢
 generalize Ev.leqb v.ev w.ev=x at*
 generalize Ev.leqb w.ev v.ev=y at*
 cases x<;>cases y
 all_goals (refine au (ir:=ir37) (by kernel_rfl) ?_;simp +contextual (maxSteps:=1000000) [ir37,ssL,↓ssM,aa,ssU,Go.Sx.LV.undef,Go.undef,ssR,b1,b2])
theorem xh (v w:Wv) (f g:Bool) (hv:v.Ok) (hw:w.Ok) (H:Heap) (nx:Nat):Ω 38 [.p (v.rv f),.p (w.rv g)] H nx=some (.bool (v.und w),[],[]):=by
 have b1:=yh v.ev w.ev hw.n hv.m hw.m
 have b2:=yh w.ev v.ev hv.n hw.m hv.m
 unfold Wv.und
 obtain ⟨c1,e1⟩:=Ev.rv_imm v.ev
 obtain ⟨c2,e2⟩:=Ev.rv_imm w.ev
 simp only [Wv.rv,e1,e2] at b1 b2 ⊢
 generalize Ev.leqb v.ev w.ev=x at*
 generalize Ev.leqb w.ev v.ev=y at*
 cases x<;>cases y
 all_goals (refine au (ir:=ir38) (by kernel_rfl) ?_;simp +contextual (maxSteps:=1000000) [ir38,ssL,↓ssM,aa,ssU,Go.Sx.LV.undef,Go.undef,ssR,b1,b2])
def Wv.right (v:Wv):Bool := !v.gone||decide (v.nm=none)
theorem jS (v:Wv) (H:Heap) (nx:Nat):Ω 34 [.p (v.pv false)] H nx=some (.bool v.right,[],[]):=by
 obtain ⟨ev,nm,gone⟩:=v
 have l:=mH false nm
 unfold Wv.right
 simp only [Wv.pv,Wv.cells] at l ⊢
 cases gone<;>cases nm<;>simp only [bv,bX] at l ⊢
 all_goals (refine au (ir:=ir34) (by kernel_rfl) ?_;simp +contextual (maxSteps:=1000000) [ir34,ssL,↓ssM,aa,ssU,Go.Sx.LV.undef,Go.undef,ssR,l])
end Go.Proofs.YtoeblkipfdnnlaaGreatDoor
end

section
namespace Go.Proofs.YtoeblkipfdnnlaaGreatDoor
open Go Go.Sx
set_option maxHeartbeats 1000000
abbrev Wv.lv (v:Wv):List LV:=[.p (.s (.int .u64 v.ev.n)),.p v.ev.ptr,.p (crdP false v.nm),.p (.s (.bool v.gone))]
def rowP (L:List Wv):List PV:=L.flatMap (Wv.cells false)
def rowL (L:List Wv):List LV:=L.flatMap Wv.lv
theorem cS (v:Wv):v.lv.length=4:=rfl
theorem rZ (v:Wv):(v.cells false).length=4:=rfl
theorem cH (L:List Wv):(rowP L).map .p=rowL L:=by
 unfold rowP rowL
 rw [List.map_flatMap]
 rfl
theorem aN (L:List Wv):(rowL L).length=L.length*4:=rc cS L
theorem vi (L:List Wv):(rowP L).length=L.length*4:=rc rZ L
theorem cT:rowL []=[]:=rfl
theorem bh (L M:List Wv):rowL (L++M)=rowL L++rowL M:=List.flatMap_append
theorem eH (v:Wv):rowL [v]=v.lv:=rfl
theorem bP (v:Wv) (L:List Wv):rowL (v::L)=v.lv++rowL L:=rfl
theorem bL {L:List Wv} {i:Nat} {v:Wv} (h:L[i]?=some v) (R:List LV):((rowL L++R).drop (i*4)).take 4=v.lv:=by
 obtain ⟨hi,rfl⟩:=List.getElem?_eq_some_iff.1 h
 have l:=aN L
 rw [List.drop_append_of_le_length (by omega),List.take_append_of_le_length (by rw [List.length_drop];omega)]
 exact xr cS (List.getElem?_eq_getElem hi)
inductive Rw (H:Heap) (nx:Nat):LV→List Wv→Prop
 | nil:Rw H nx (.p (.s (.slice none 0 0))) []
 | sl (L:List Wv) (fl:Bool):Rw H nx (.p (.sl (rowP L) L.length 4 fl)) L
 | arr (L:List Wv) (R:List LV) (id cp:Nat) (ex:Bool):H id=some (.cells (rowL L++R))→id<nx→Rw H nx (.arr id 0 L.length 4 cp ex) L
theorem Rw.mono {H H':Heap} {nx nx':Nat} {x:LV} {L:List Wv} (g:Rw H nx x L) (h : ∀ id,id<nx→H' id=H id) (hn:nx≤nx':=by exact Nat.le_refl _):Rw H' nx' x L:=by
 cases g with
 | nil=>exact .nil
 | sl _ fl=>exact .sl L fl
 | arr _ R id cp ex h1 h2=>exact .arr L R id cp ex (by rw [h id h2];exact h1) (by omega)
theorem bn (L:List Wv):ids.idsL (rowL L)=[]:=by
 induction L with
 | nil=>rfl
 | cons v L ih=>rw [bP,aO,ih];rfl
theorem bo (n:Nat) (s:List Nat) (L:List Wv):ren.go n s (rowL L)=some (rowL L):=by
 induction L with
 | nil=>rfl
 | cons v L ih=>
  rw [bP]
  simp [ren.go,ren,ih]
theorem gU (L:List Wv):allP (rowL L)=some (rowP L):=by
 induction L with
 | nil=>rfl
 | cons v L ih=>
  rw [bP]
  show allP (.p _ :: .p _ :: .p _ :: .p _::rowL L)=_
  simp [allP,ih]
  rfl
def fix {α:Type} (q:α→Bool):List α→Nat→Option Nat
 | [],_=>none
 | x::l,i=>if q x then some i else fix q l (i+1)
theorem na {α:Type} {q:α→Bool} : ∀ {l:List α} {i:Nat},(fix q l i).isSome=l.any q
 | [],_=>rfl
 | x::l,i=>by
  rw [fix,List.any_cons]
  cases q x<;>simp [na]
section
variable {g:Nat} {c:PV} {q:Wv→Bool} {L:List Wv} {H:Heap} {nx:Nat} {x:LV}
theorem wK (hx:Rw H nx x L) {i:Nat} {v:Wv} (hi:L[i]?=some v) (h30:L.length<2^30) (hg : ∀ H nx,Ω g [.p (v.pv false),.p c] H nx=some (.bool true,[],[])):
  run ⟨Ω,gG,H,nx⟩ ir89_0 ⟨[(0,x),(1,.fn g [] [.p c]),(7,.int .i64 L.length),(8,.int .i64 i)],⟨[],[]⟩⟩=some (.ret,⟨[(4,.int .i64 i)],⟨[],[]⟩⟩):=by
 have hl:=aN L
 obtain ⟨h1,_⟩:=List.getElem?_eq_some_iff.1 hi
 have k1 : ¬(L.length:Int)≤i:=by omega
 have k2:i<L.length:=h1
 have w1:IntKind.i64.wrap ((i:Int)+1)=((i+1:Nat):Int):=wrap_i64 _ (by omega) (by omega)
 have le:i*4+4≤(rowL L).length:=by omega
 have mp:=cH L
 simp only [Wv.pv,Wv.cells] at hg
 cases hx with
 | nil=>cases hi
 | sl _ fl=>
  have g4:=bL hi []
  rw [List.append_nil] at g4
  clear hl
  generalize rowP L=P at*
  generalize rowL L=C at*
  simp +contextual (maxSteps:=100000) [ir89_0,ssL,↓ssM,aa,ssU,Go.Sx.LV.undef,Go.undef,ssR,k1,k2,mp,g4,le,hg]
 | arr _ R id cp ex a1 a2=>
  have g4:=bL hi R
  have le2:i*4+4≤(rowL L++R).length:=by rw [List.length_append];omega
  clear hl
  generalize rowL L++R=C at*
  simp +contextual (maxSteps:=100000) [ir89_0,ssL,↓ssM,aa,ssU,Go.Sx.LV.undef,Go.undef,ssR,k1,k2,g4,le2,hg,a1,a2]
theorem ul (hx:Rw H nx x L) {i:Nat} {v:Wv} (hi:L[i]?=some v) (h30:L.length<2^30) (hg : ∀ H nx,Ω g [.p (v.pv false),.p c] H nx=some (.bool false,[],[])):
  run ⟨Ω,gG,H,nx⟩ ir89_0 ⟨[(0,x),(1,.fn g [] [.p c]),(7,.int .i64 L.length),(8,.int .i64 i)],⟨[],[]⟩⟩=
   some (.normal,⟨[(0,x),(1,.fn g [] [.p c]),(7,.int .i64 L.length),(8,.int .i64 (i+1:Nat))],⟨[],[]⟩⟩):=by
 have hl:=aN L
 obtain ⟨h1,_⟩:=List.getElem?_eq_some_iff.1 hi
 have k1 : ¬(L.length:Int)≤i:=by omega
 have k2:i<L.length:=h1
 have w1:IntKind.i64.wrap ((i:Int)+1)=(i:Int)+1:=wrap_i64 _ (by omega) (by omega)
 have le:i*4+4≤(rowL L).length:=by omega
 have mp:=cH L
 simp only [Wv.pv,Wv.cells] at hg
 cases hx with
 | nil=>cases hi
 | sl _ fl=>
  have g4:=bL hi []
  rw [List.append_nil] at g4
  clear hl
  generalize rowP L=P at*
  generalize rowL L=C at*
  simp +contextual (maxSteps:=100000) [ir89_0,ssL,↓ssM,aa,ssU,Go.Sx.LV.undef,Go.undef,ssR,k1,k2,w1,mp,g4,le,hg]
 | arr _ R id cp ex a1 a2=>
  have g4:=bL hi R
  have le2:i*4+4≤(rowL L++R).length:=by rw [List.length_append];omega
  clear hl
  generalize rowL L++R=C at*
  simp +contextual (maxSteps:=100000) [ir89_0,ssL,↓ssM,aa,ssU,Go.Sx.LV.undef,Go.undef,ssR,k1,k2,w1,g4,le2,hg,a1,a2]
theorem wL (hx:Rw H nx x L):
  run ⟨Ω,gG,H,nx⟩ ir89_0 ⟨[(0,x),(1,.fn g [] [.p c]),(7,.int .i64 L.length),(8,.int .i64 L.length)],⟨[],[]⟩⟩=
   some (.exit 0,⟨[(0,x),(1,.fn g [] [.p c]),(7,.int .i64 L.length),(8,.int .i64 L.length),(9,.bool false)],⟨[],[]⟩⟩):=by
 cases hx with
 | nil=>simp +contextual (maxSteps:=100000) [ir89_0,ssL,↓ssM,aa,ssU,Go.Sx.LV.undef,Go.undef,ssR]
 | sl _ fl=>simp +contextual (maxSteps:=100000) [ir89_0,ssL,↓ssM,aa,ssU,Go.Sx.LV.undef,Go.undef,ssR]
 | arr _ R id cp ex a1 a2=>simp +contextual (maxSteps:=100000) [ir89_0,ssL,↓ssM,aa,ssU,Go.Sx.LV.undef,Go.undef,ssR,a2]
end
end Go.Proofs.YtoeblkipfdnnlaaGreatDoor
end

section
namespace Go.Proofs.YtoeblkipfdnnlaaGreatDoor
open Go Go.Sx
set_option maxHeartbeats 1000000
section
variable {g:Nat} {c:PV} {q:Wv→Bool} {L:List Wv} {H:Heap} {nx:Nat} {x:LV}
abbrev ixS (x:LV) (g:Nat) (c:PV) (n i:Nat):St:=⟨[(0,x),(1,.fn g [] [.p c]),(7,.int .i64 n),(8,.int .i64 i)],⟨[],[]⟩⟩
def ixR (x:LV) (g:Nat) (c:PV) (n:Nat):Option Nat→Ex × St
 | none=>(.exit 0,⟨[(0,x),(1,.fn g [] [.p c]),(7,.int .i64 n),(8,.int .i64 n),(9,.bool false)],⟨[],[]⟩⟩)
 | some i=>(.ret,⟨[(4,.int .i64 i)],⟨[],[]⟩⟩)
theorem nr (hx:Rw H nx x L) (h30:L.length<2^30) (hg : ∀ v∈L,∀ H nx,Ω g [.p (v.pv false),.p c] H nx=some (.bool (q v),[],[])) : ∀ (m i:Nat),i+m=L.length →
  run ⟨Ω,gG,H,nx⟩ (.loop ir89_0) (ixS x g c L.length i)=some (ixR x g c L.length (fix q (L.drop i) i))
 | 0,i,hi=>by
  obtain rfl:i=L.length:=by omega
  rw [ay,wL hx,List.drop_length];rfl
 | m+1,i,hi=>by
  have h1:i<L.length:=by omega
  have hv:=List.getElem?_eq_getElem h1
  have g1:=hg L[i] (List.getElem_mem h1)
  rw [List.drop_eq_getElem_cons h1,fix,ay]
  cases hq:q L[i] with
  | true=>
   rw [hq] at g1
   rw [wK hx hv h30 g1];rfl
  | false=>
   rw [hq] at g1
   rw [ul hx hv h30 g1,aE,aA,nr hx h30 hg m (i+1) (by omega)];rfl
def ixI:Option Nat→Int
 | none => -1
 | some i=>i
theorem wJ (hx:Rw H nx x L) (h30:L.length<2^30) (hg : ∀ v∈L,∀ H nx,Ω g [.p (v.pv false),.p c] H nx=some (.bool (q v),[],[])):
  Ω 89 [x,.fn g [] [.p c]] H nx=some (.int .i64 (ixI (fix q L 0)),[],[]):=by
 have lp:=nr hx h30 hg L.length 0 (by omega)
 simp only [List.drop_zero,ixS,Int.natCast_zero] at lp
 cases hf:fix q L 0 with
 | none=>
  rw [hf] at lp
  simp only [ixR,ixI] at lp ⊢
  cases hx with
  | nil=>
   simp only [List.length_nil,Int.natCast_zero] at lp
   refine au (ir:=ir89) (by kernel_rfl) ?_;simp +contextual (maxSteps:=1000000) [ir89,ssL,↓ssM,aa,ssU,Go.Sx.LV.undef,Go.undef,ssR,lp]
  | sl _ fl=>refine au (ir:=ir89) (by kernel_rfl) ?_;simp +contextual (maxSteps:=1000000) [ir89,ssL,↓ssM,aa,ssU,Go.Sx.LV.undef,Go.undef,ssR,lp]
  | arr _ R id cp ex a1 a2=>refine au (ir:=ir89) (by kernel_rfl) ?_;simp +contextual (maxSteps:=1000000) [ir89,ssL,↓ssM,aa,ssU,Go.Sx.LV.undef,Go.undef,ssR,lp]
 | some i=>
  rw [hf] at lp
  simp only [ixR,ixI] at lp ⊢
  cases hx with
  | nil=>cases hf
  | sl _ fl=>refine au (ir:=ir89) (by kernel_rfl) ?_;simp +contextual (maxSteps:=1000000) [ir89,ssL,↓ssM,aa,ssU,Go.Sx.LV.undef,Go.undef,ssR,lp]
  | arr _ R id cp ex a1 a2=>refine au (ir:=ir89) (by kernel_rfl) ?_;simp +contextual (maxSteps:=1000000) [ir89,ssL,↓ssM,aa,ssU,Go.Sx.LV.undef,Go.undef,ssR,lp]
theorem ox (hx:Rw H nx x L) (h30:L.length<2^30) (hg : ∀ v∈L,∀ H nx,Ω g [.p (v.pv false),.p c] H nx=some (.bool (q v),[],[])):
  Ω 41 [x,.fn g [] [.p c]] H nx=some (.bool (L.any q),[],[]):=by
 rw [←na (i:=0)]
 have l : ∀ H',(∀ id,id<nx→H' id=H id)→Ω 89 [x,.fn g [] [.p c]] H' nx=some (.int .i64 (ixI (fix q L 0)),[],[]):=fun H' h=>wJ (hx.mono h) h30 hg
 have l':=l _ fun id h=>show Go.Sx.look H nx ⟨[],[]⟩ id=H id by simp [Go.Sx.look,findU,h]
 cases hf:fix q L 0 with
 | none=>
  rw [hf] at l'
  simp only [ixI] at l'
  cases hx
  all_goals (refine au (ir:=ir41) (by kernel_rfl) ?_;simp +contextual (maxSteps:=1000000) [ir41,ssL,↓ssM,aa,ssU,Go.Sx.LV.undef,Go.undef,ssR,l'])
 | some i=>
  rw [hf] at l'
  simp only [ixI] at l'
  have hi:(0:Int)≤i:=by omega
  cases hx
  all_goals (refine au (ir:=ir41) (by kernel_rfl) ?_;simp +contextual (maxSteps:=1000000) [ir41,ssL,↓ssM,aa,ssU,Go.Sx.LV.undef,Go.undef,ssR,l',hi])
end
end Go.Proofs.YtoeblkipfdnnlaaGreatDoor
end

section
namespace Go.Proofs.YtoeblkipfdnnlaaGreatDoor
open Go Go.Sx
set_option maxHeartbeats 1000000
def RwU (H:Heap) (id:Nat) (U:Upd) (A:List Wv):Prop:=(U=[]∧H id=some (.cells (rowL A)))∨U=[(id,some (.cells (rowL A)))]
section
variable {g:Nat} {c:PV} {H:Heap} {nx id n cp:Nat} {ex:Bool} {U:Upd} {A:List Wv}
abbrev dfS (id n cp:Nat) (ex:Bool) (g:Nat) (c:PV) (i j:Nat) (U:Upd):St:=⟨[(0,.arr id 0 n 4 cp ex),(1,.fn g [] [.p c]),(5,.int .i64 i),(6,.int .i64 j)],⟨U,[]⟩⟩
theorem wh (hA:RwU H id U A) (hid:id<nx) (hn:A.length=n) (h30:n<2^30) {i j:Nat} (hij:i≤j) {v:Wv} (hj:A[j]?=some v) (hg : ∀ H nx,Ω g [.p (v.pv false),.p c] H nx=some (.bool false,[],[])):
  run ⟨Ω,gG,H,nx⟩ ir43_0 (dfS id n cp ex g c i j U)=some (.normal,dfS id n cp ex g c (i+1) (j+1) [(id,some (.cells (rowL (A.set i v))))]):=by
 have hl:=aN A
 obtain ⟨h1,_⟩:=List.getElem?_eq_some_iff.1 hj
 have k1 : ¬(n:Int)≤j:=by omega
 have k2:j<n:=by omega
 have k3:i<n:=by omega
 have w1:IntKind.i64.wrap ((i:Int)+1)=(i:Int)+1:=wrap_i64 _ (by omega) (by omega)
 have w2:IntKind.i64.wrap ((j:Int)+1)=(j:Int)+1:=wrap_i64 _ (by omega) (by omega)
 have le:j*4+4≤(rowL A).length:=by omega
 have le2:i*4+4≤(rowL A).length:=by omega
 have g4:=bL hj []
 rw [List.append_nil] at g4
 have sr:=oY cS v (show i<A.length by omega)
 have iC:=bn A
 have rC:=fun n s=>bo n s A
 have e:rowL (A.set i v)=splice (rowL A) (i*4) v.lv:=sr.symm
 rw [e]
 unfold RwU at hA
 simp only [Wv.pv,Wv.cells] at hg
 clear hl sr e
 generalize rowL A=C at*
 rcases hA with ⟨rfl,a1⟩|rfl
 ·simp +contextual (maxSteps:=100000) [ir43_0,ssL,↓ssM,aa,ssU,Go.Sx.LV.undef,Go.undef,ssR,k1,k2,k3,w1,w2,g4,le,le2,hg,a1,hid,iC,rC]
 ·simp +contextual (maxSteps:=100000) [ir43_0,ssL,↓ssM,aa,ssU,Go.Sx.LV.undef,Go.undef,ssR,k1,k2,k3,w1,w2,g4,le,le2,hg,hid,iC,rC]
theorem wg (hA:RwU H id U A) (hid:id<nx) (hn:A.length=n) (h30:n<2^30) {i j:Nat} (hij:i≤j) {v:Wv} (hj:A[j]?=some v) (hg : ∀ H nx,Ω g [.p (v.pv false),.p c] H nx=some (.bool true,[],[])):
  run ⟨Ω,gG,H,nx⟩ ir43_0 (dfS id n cp ex g c i j U)=some (.normal,dfS id n cp ex g c i (j+1) U):=by
 have hl:=aN A
 obtain ⟨h1,_⟩:=List.getElem?_eq_some_iff.1 hj
 have k1 : ¬(n:Int)≤j:=by omega
 have k2:j<n:=by omega
 have w2:IntKind.i64.wrap ((j:Int)+1)=(j:Int)+1:=wrap_i64 _ (by omega) (by omega)
 have le:j*4+4≤(rowL A).length:=by omega
 have g4:=bL hj []
 rw [List.append_nil] at g4
 have iC:=bn A
 have rC:=fun n s=>bo n s A
 unfold RwU at hA
 simp only [Wv.pv,Wv.cells] at hg
 clear hl
 generalize rowL A=C at*
 rcases hA with ⟨rfl,a1⟩|rfl
 ·simp +contextual (maxSteps:=100000) [ir43_0,ssL,↓ssM,aa,ssU,Go.Sx.LV.undef,Go.undef,ssR,k1,k2,w2,g4,le,hg,a1,hid,iC,rC]
 ·simp +contextual (maxSteps:=100000) [ir43_0,ssL,↓ssM,aa,ssU,Go.Sx.LV.undef,Go.undef,ssR,k1,k2,w2,g4,le,hg,hid,iC,rC]
theorem yC (hA:RwU H id U A) (hid:id<nx) {i:Nat} :
  run ⟨Ω,gG,H,nx⟩ ir43_0 (dfS id n cp ex g c i n U)=some (.exit 0,⟨[(0,.arr id 0 n 4 cp ex),(1,.fn g [] [.p c]),(5,.int .i64 i),(6,.int .i64 n),(19,.bool false)],⟨U,[]⟩⟩):=by
 have iC:=bn A
 have rC:=fun n s=>bo n s A
 unfold RwU at hA
 generalize rowL A=C at*
 rcases hA with ⟨rfl,a1⟩|rfl
 ·simp +contextual (maxSteps:=100000) [ir43_0,ssL,↓ssM,aa,ssU,Go.Sx.LV.undef,Go.undef,ssR,hid,iC,rC]
 ·simp +contextual (maxSteps:=100000) [ir43_0,ssL,↓ssM,aa,ssU,Go.Sx.LV.undef,Go.undef,ssR,hid,iC,rC]
end
end Go.Proofs.YtoeblkipfdnnlaaGreatDoor
end

section
namespace Go.Sx
open Go
section
variable (c:Ctx) (dr:Bool) (env:Env) (h:Hp)
def clK (sz:Nat) (z:List PV):LV→Option Res
 | .p (.s (.slice none 0 0))=>some ⟨.tuple [],h,[],false⟩
 | .arr id off len sz' _ _=>if len=0 then some ⟨.tuple [],h,[],false⟩ else cellsK (look c.H c.nx h id) fun cs=>
   if sz'=sz∧z.length=sz∧off+len*sz≤cs.length then some ⟨.tuple [],setObj c.nx h id (some (.cells (splice cs off ((List.replicate len z).flatten.map .p)))),[id],true⟩ else none
 | _=>none
theorem clK_nil (sz:Nat) (z:List PV):clK c h sz z (.p (.s (.slice none 0 0)))=some ⟨.tuple [],h,[],false⟩:=rfl
theorem clK_arr (sz:Nat) (z:List PV) (id off len sz' cp:Nat) (ex:Bool):clK c h sz z (.arr id off len sz' cp ex)=if len=0 then some ⟨.tuple [],h,[],false⟩ else cellsK (look c.H c.nx h id) fun cs=>
   if sz'=sz∧z.length=sz∧off+len*sz≤cs.length then some ⟨.tuple [],setObj c.nx h id (some (.cells (splice cs off ((List.replicate len z).flatten.map .p)))),[id],true⟩ else none:=rfl
theorem ev_clr (sz:Nat) (z:List PV) (x:Opd):evOp c dr env h (.clr sz z x)=clK c h sz z (opd c env x):=by
 simp only [evOp];unfold clK cellsK
 cases opd c env x with
 | arr id off len sz' cp ex=>
  simp only []
  split
  ·rfl
  ·cases look c.H c.nx h id with
   | none=>rfl
   | some o=>cases o<;>rfl
 | p x=>
  cases x with
  | s v=>rfl
  | _=>rfl
 | _=>rfl
def caK:LV→Option Res
 | .arr _ _ _ _ cp true=>some ⟨.int .i64 cp,h,[],false⟩
 | .p (.s (.slice none 0 0))=>some ⟨.int .i64 0,h,[],false⟩
 | _=>none
theorem caK_nil:caK h (.p (.s (.slice none 0 0)))=some ⟨.int .i64 0,h,[],false⟩:=rfl
theorem caK_arr (id off len sz cp:Nat):caK h (.arr id off len sz cp true)=some ⟨.int .i64 cp,h,[],false⟩:=rfl
theorem ev_cap (x:Opd):evOp c dr env h (.cap x)=caK h (opd c env x):=by
 simp only [evOp];unfold caK;rfl
theorem slPart_arr (H:Heap) (nx m sz id off len sz' cp:Nat) (ex:Bool):slPart H nx h m sz (.arr id off len sz' cp ex)=cellsK (look H nx h id) fun cs=>if sz'=sz∧off+min len m*sz≤cs.length then some ((cs.drop off).take (min len m*sz),len) else none:=by
 unfold slPart cellsK
 simp only []
 cases look H nx h id with
 | none=>rfl
 | some o=>cases o<;>rfl
theorem slPart_sl (H:Heap) (nx m sz n sz':Nat) (cs:List PV) (fl:Bool):slPart H nx h m sz (.p (.sl cs n sz' fl))=if (cs.map LV.p).length=n*sz then some ((cs.map LV.p).take (min n m*sz),n) else none:=rfl
def cxK (sz:Nat) (y:LV):LV→Option Res
 | .arr id off len sz' _ _=>cellsK (look c.H c.nx h id) fun cs=>bindK (slPart c.H c.nx h len sz y) fun q=>
   if sz'=sz∧q.1.length=min q.2 len*sz∧off≤cs.length then some ⟨.int .i64 (min q.2 len:Nat),setObj c.nx h id (some (.cells (splice cs off q.1))),id::ids y,true⟩ else none
 | _=>none
theorem cxK_arr (sz:Nat) (y:LV) (id off len sz' cp:Nat) (ex:Bool):cxK c h sz y (.arr id off len sz' cp ex)=cellsK (look c.H c.nx h id) fun cs=>bindK (slPart c.H c.nx h len sz y) fun q=>
   if sz'=sz∧q.1.length=min q.2 len*sz∧off≤cs.length then some ⟨.int .i64 (min q.2 len:Nat),setObj c.nx h id (some (.cells (splice cs off q.1))),id::ids y,true⟩ else none:=rfl
theorem ev_copyX (sz:Nat) (x y:Opd):evOp c dr env h (.copyX sz x y)=cxK c h sz (opd c env y) (opd c env x):=by
 simp only [evOp];unfold cxK bindK cellsK
 cases opd c env x with
 | arr id off len sz' cp ex=>
  simp only []
  cases look c.H c.nx h id with
  | none=>rfl
  | some o=>
   cases o with
   | cells cs=>cases slPart c.H c.nx h len sz (opd c env y)<;>rfl
   | iter=>rfl
 | _=>rfl
def azK (sz bytes:Nat) (z:List PV) (k:Option Nat):LV→Option Res
 | .arr id off len sz' cp true=>bindK k fun m=>cellsK (look c.H c.nx h id) fun cs=>if sz'=sz∧0<m∧cp<len+m∧(len+m)*bytes≤2^40∧off+len*sz≤cs.length then
     some ⟨.arr (c.nx+h.new.length) 0 (len+m) sz (len+m) false,push h (.cells ((cs.drop off).take (len*sz)++((List.replicate m z).flatten.map .p))),[id],false⟩
    else none
 | _=>none
theorem azK_arr (sz bytes:Nat) (z:List PV) (k:Option Nat) (id off len sz' cp:Nat):azK c h sz bytes z k (.arr id off len sz' cp true)=bindK k fun m=>cellsK (look c.H c.nx h id) fun cs=>if sz'=sz∧0<m∧cp<len+m∧(len+m)*bytes≤2^40∧off+len*sz≤cs.length then
     some ⟨.arr (c.nx+h.new.length) 0 (len+m) sz (len+m) false,push h (.cells ((cs.drop off).take (len*sz)++((List.replicate m z).flatten.map .p))),[id],false⟩
    else none:=rfl
theorem ev_appZ (sz bytes:Nat) (z:List PV) (x k:Opd):evOp c dr env h (.appZ sz bytes z x k)=azK c h sz bytes z (natL (opd c env k)) (opd c env x):=by
 simp only [evOp];unfold azK bindK cellsK
 cases opd c env x with
 | arr id off len sz' cp ex=>
  cases ex with
  | false=>rfl
  | true=>
   cases natL (opd c env k) with
   | none=>rfl
   | some m=>
    simp only []
    cases look c.H c.nx h id with
    | none=>rfl
    | some o=>cases o<;>rfl
 | _=>rfl
def ovK (x y:LV):Option Res:=match x,y with
 | .arr i _ _ _ _ _,.arr j _ _ _ _ _=>if i=j then none else match look c.H c.nx h i,look c.H c.nx h j with
   | some (.cells _),some (.cells _)=>some ⟨.bool false,h,[i,j],false⟩
   | _,_=>none
 | _,_=>none
theorem ev_ovl (x y:Opd):evOp c dr env h (.ovl x y)=ovK c h (opd c env x) (opd c env y):=by
 simp only [evOp];unfold ovK;rfl
theorem ovK_arr (i o1 l1 s1 c1 j o2 l2 s2 c2:Nat) (e1 e2:Bool):ovK c h (.arr i o1 l1 s1 c1 e1) (.arr j o2 l2 s2 c2 e2)=if i=j then none else cellsK (look c.H c.nx h i) fun _=>cellsK (look c.H c.nx h j) fun _=>some ⟨.bool false,h,[i,j],false⟩:=by
 unfold ovK cellsK
 simp only []
 split
 ·rfl
 ·cases look c.H c.nx h i with
  | none=>rfl
  | some a=>
   cases a with
   | cells _=>cases look c.H c.nx h j with
    | none=>rfl
    | some b=>cases b<;>rfl
   | iter _ _=>cases look c.H c.nx h j with
    | none=>rfl
    | some b=>cases b<;>rfl
end
end Go.Sx
end

section
namespace Go.Proofs.YtoeblkipfdnnlaaGreatDoor
open Go Go.Sx
set_option maxHeartbeats 1000000
theorem pQ {α:Type} {q:α→Bool} : ∀ {l:List α} {k r:Nat},fix q l k=some r→∃ i,r=k+i∧i<l.length∧l.filter (fun x => !q x)=l.take i++(l.drop (i+1)).filter fun x => !q x
 | [],_,_,h=>by cases h
 | x::l,k,r,h=>by
  rw [fix] at h
  cases hq:q x with
  | true=>
   rw [hq,if_pos rfl] at h
   obtain rfl:=Option.some.inj h
   exact ⟨0,rfl,by simp,by simp [hq]⟩
  | false=>
   rw [hq] at h
   simp only [Bool.false_eq_true,if_false] at h
   obtain ⟨i,h1,h2,h3⟩:=pQ h
   refine ⟨i+1,by omega,by simpa using h2,?_⟩
   rw [List.filter_cons,hq]
   simp [h3]
theorem m9 {α:Type} {q:α→Bool} : ∀ {l:List α} {k:Nat},fix q l k=none→l.filter (fun x => !q x)=l
 | [],_,_=>rfl
 | x::l,k,h=>by
  rw [fix] at h
  cases hq:q x with
  | true=>rw [hq,if_pos rfl] at h;cases h
  | false=>
   rw [hq] at h
   simp only [Bool.false_eq_true,if_false] at h
   rw [List.filter_cons,hq]
   simpa using m9 h
section
variable {g:Nat} {c:PV} {q:Wv→Bool} {H:Heap} {nx id n cp:Nat} {ex:Bool}
theorem RwU.set {U:Upd} {A:List Wv} (A':List Wv):RwU H id [(id,some (.cells (rowL A')))] A':=.inr rfl
theorem ll (hid:id<nx) (h30:n<2^30) : ∀ (m:Nat) (A:List Wv) (i j:Nat) (U:Upd),RwU H id U A→A.length=n→i≤j→j+m=n→(∀ v∈A,∀ H nx,Ω g [.p (v.pv false),.p c] H nx=some (.bool (q v),[],[])) →
  ∃ U',RwU H id U' (dlp (fun v => !q v) m A i j).1∧run ⟨Ω,gG,H,nx⟩ (.loop ir43_0) (dfS id n cp ex g c i j U)=
   some (.exit 0,⟨[(0,.arr id 0 n 4 cp ex),(1,.fn g [] [.p c]),(5,.int .i64 (dlp (fun v => !q v) m A i j).2),(6,.int .i64 n),(19,.bool false)],⟨U',[]⟩⟩)
 | 0,A,i,j,U,hA,hn,hij,hm,hg=>by
  obtain rfl:j=n:=by omega
  exact ⟨U,hA,by rw [ay,yC hA hid];rfl⟩
 | m+1,A,i,j,U,hA,hn,hij,hm,hg=>by
  have h1:j<A.length:=by omega
  have hv:=List.getElem?_eq_getElem h1
  have g1:=hg A[j] (List.getElem_mem h1)
  rw [ay,dlp,hv]
  simp only
  cases hq:q A[j] with
  | true=>
   rw [hq] at g1
   rw [wg hA hid hn h30 hij hv g1,aE,aA]
   exact ll hid h30 m A i (j+1) U hA hn (by omega) (by omega) hg
  | false=>
   rw [hq] at g1
   rw [wh hA hid hn h30 hij hv g1,aE,aA]
   have hm' : ∀ v∈A.set i A[j],v∈A:=fun v hv=>by
    rcases List.mem_or_eq_of_mem_set hv with h|h
    ·exact h
    ·rw [h];exact List.getElem_mem h1
   exact ll hid h30 m (A.set i A[j]) (i+1) (j+1) _ (.inr rfl) (by rw [List.length_set];exact hn) (by omega) (by omega) fun v hv=>hg v (hm' v hv)
def zv:Wv:=⟨.leaf 0,none,false⟩
theorem vR (m:Nat):List.map LV.p (List.replicate m [PV.s (.int .u64 0),.s (.pointer none),.s (.slice none 0 0),.s (.bool false)]).flatten=rowL (List.replicate m zv):=by
 induction m with
 | zero=>rfl
 | succ m ih=>rw [List.replicate_succ,List.replicate_succ,List.flatten_cons,List.map_append,ih,bP];rfl
theorem n7 {A Z:List Wv} {k:Nat} (h:k+Z.length=A.length):splice (rowL A) (k*4) (rowL Z)=rowL (A.take k++Z):=by
 unfold splice
 rw [bh,List.drop_of_length_le (by rw [aN,aN];omega),List.append_nil]
 congr 1
 exact cU cS k A
theorem r9 {L:List Wv} (hL:H id=some (.cells (rowL L))) (hid:id<nx) (hn:L.length=n) (h30:n<2^30) (hg : ∀ v∈L,∀ H nx,Ω g [.p (v.pv false),.p c] H nx=some (.bool (q v),[],[])) {i:Nat} (hf:fix q L 0=some i) (hi:i<n):
  Ω 43 [.arr id 0 n 4 cp ex,.fn g [] [.p c]] H nx=
   some (.arr id 0 (dlp (fun v => !q v) (n-(i+1)) L i (i+1)).2 4 cp ex,[(id,some (.cells (rowL ((dlp (fun v => !q v) (n-(i+1)) L i (i+1)).1.take (dlp (fun v => !q v) (n-(i+1)) L i (i+1)).2++List.replicate (n-(dlp (fun v => !q v) (n-(i+1)) L i (i+1)).2) zv))))],[]):=by
 have lx:=fun (H':Heap) (h : ∀ id,id<nx→H' id=H id)=>wJ (Rw.mono (hn▸Rw.arr L [] id cp ex (by rw [List.append_nil];exact hL) hid:Rw H nx (.arr id 0 n 4 cp ex) L) h) (show L.length<2^30 by omega) hg
 have lx:=lx _ fun id h=>show Go.Sx.look H nx ⟨[],[]⟩ id=H id by simp [Go.Sx.look,findU,h]
 rw [hf] at lx
 obtain ⟨d1,d2,d3⟩:=pB (keep:=fun v => !q v) (n-(i+1)) L i (i+1) (by omega) (by omega)
 have dl:=lq (keep:=fun v => !q v) (n-(i+1)) L i (i+1)
 obtain ⟨U',hU,lp⟩:=ll (cp:=cp) (ex:=ex) hid h30 (n-(i+1)) L i (i+1) [] (.inl ⟨rfl,hL⟩) hn (by omega) (by omega) hg
 have d4:(dlp (fun v => !q v) (n-(i+1)) L i (i+1)).2<n:=by
  have:=List.length_filter_le (fun v => !q v) (L.drop (i+1))
  rw [List.length_drop] at this
  omega
 generalize dlp (fun v => !q v) (n-(i+1)) L i (i+1)=D at*
 obtain ⟨A,k⟩:=D
 simp only at*
 have hl:=aN A
 have sp:=n7 (A:=A) (Z:=List.replicate (n-k) zv) (k:=k) (by rw [List.length_replicate];omega)
 have k1 : ¬(i:Int) = -1:=by omega
 have k2:k≤n:=by omega
 have k3 : ¬n-k=0:=by omega
 have k4:k*4+(n-k)*4≤(rowL A).length:=by omega
 have w1:IntKind.i64.wrap ((i:Int)+1)=(i:Int)+1:=wrap_i64 _ (by omega) (by omega)
 have w2:((i+1:Nat):Int)=(i:Int)+1:=by omega
 have z:=vR (n-k)
 have iC:=bn (A.take k++List.replicate (n-k) zv)
 have rC:=fun a s=>bo a s (A.take k++List.replicate (n-k) zv)
 simp only [ixI,dfS,w2] at*
 unfold RwU at hU
 clear hl
 generalize rowL (A.take k++List.replicate (n-k) zv)=E at*
 generalize rowL (List.replicate (n-k) zv)=Z at*
 generalize rowL A=C at*
 clear d1 d2 d3 dl
 refine au (ir:=ir43) (by kernel_rfl) ?_
 rcases hU with ⟨rfl,a1⟩|rfl
 ·simp +contextual (maxSteps:=100000) [ir43,ssL,↓ssM,aa,ssU,Go.Sx.LV.undef,Go.undef,Go.Sx.push,Go.Sx.setObj,Go.Sx.setU,Go.Sx.setAll,Go.Sx.leI_eq,ltF,Go.Sx.ev_clr,Go.Sx.clK_arr,lx,lp,k1,k2,k3,k4,w1,hid,a1,↓z,sp,iC,rC]
 ·simp +contextual (maxSteps:=100000) [ir43,ssL,↓ssM,aa,ssU,Go.Sx.LV.undef,Go.undef,Go.Sx.push,Go.Sx.setObj,Go.Sx.setU,Go.Sx.setAll,Go.Sx.leI_eq,ltF,Go.Sx.ev_clr,Go.Sx.clK_arr,lx,lp,k1,k2,k3,k4,w1,hid,↓z,sp,iC,rC]
theorem r7 {L:List Wv} (hL:H id=some (.cells (rowL L))) (hid:id<nx) (h30:L.length<2^30) (hg : ∀ v∈L,∀ H nx,Ω g [.p (v.pv false),.p c] H nx=some (.bool (q v),[],[])) (hf:fix q L 0=none):
  Ω 43 [.arr id 0 L.length 4 cp ex,.fn g [] [.p c]] H nx=some (.arr id 0 L.length 4 cp ex,[],[]):=by
 have lx:=fun (H':Heap) (h : ∀ id,id<nx→H' id=H id)=>wJ (Rw.mono (Rw.arr L [] id cp ex (by rw [List.append_nil];exact hL) hid:Rw H nx (.arr id 0 L.length 4 cp ex) L) h) h30 hg
 have lx:=lx _ fun id h=>show Go.Sx.look H nx ⟨[],[]⟩ id=H id by simp [Go.Sx.look,findU,h]
 rw [hf] at lx
 simp only [ixI] at lx
 refine au (ir:=ir43) (by kernel_rfl) ?_;simp +contextual (maxSteps:=1000000) [ir43,ssL,↓ssM,aa,ssU,Go.Sx.LV.undef,Go.undef,ssR,lx,hid]
theorem tG:Ω 43 [.p (.s (.slice none 0 0)),.fn g [] [.p c]] H nx=some (.p (.s (.slice none 0 0)),[],[]):=by
 have lx:=fun H=>wJ (H:=H) (nx:=nx) (g:=g) (c:=c) (q:=fun _=>true) Rw.nil (by decide) (fun v hv=>by cases hv)
 simp only [fix,ixI] at lx
 refine au (ir:=ir43) (by kernel_rfl) ?_;simp +contextual (maxSteps:=1000000) [ir43,ssL,↓ssM,aa,ssU,Go.Sx.LV.undef,Go.undef,ssR,lx]
end
end Go.Proofs.YtoeblkipfdnnlaaGreatDoor
end

section
namespace Go.Proofs.YtoeblkipfdnnlaaGreatDoor
open Go Go.Sx
set_option maxHeartbeats 1000000
section
variable {L:List Wv} {H:Heap} {nx:Nat} {x:LV} {w:Wv}
abbrev bsS (x:LV) (w:Wv) (n i j:Nat):St:=⟨[(0,x),(2,.fn 46 [] []),(4,.p (.imm (w.cells false) 0)),(8,.int .i64 n),(9,.int .i64 i),(10,.int .i64 j)],⟨[],[]⟩⟩
theorem xT (i j:Nat) (h:i+j<2^40):IntKind.i64.wrap (((i:Int)+j))=(i:Int)+j∧IntKind.u64.wrap ((i:Int)+j)=(i:Int)+j∧shI .shr .u64 ((i:Int)+j) 1=some (.int .u64 ((i+j)/2:Nat))∧IntKind.i64.wrap (((i+j)/2:Nat):Int)=((i+j)/2:Nat):=by
 refine ⟨wrap_i64 _ (by omega) (by omega),?_,?_,wrap_i64 _ (by omega) (by omega)⟩
 ·simp [IntKind.wrap,IntKind.signed,IntKind.bits];omega
 ·have:=iV (i+j) 1 (by decide)
  rw [Nat.shiftRight_eq_div_pow] at this
  simpa using this
theorem zZ (hx:Rw H nx x L) {i j:Nat} (hij:i<j) (hj:j≤L.length) (h30:L.length<2^30) {v:Wv} (hv:L[(i+j)/2]?=some v) {k:Int} (hk : ¬0≤k) (hg : ∀ H nx,Ω 46 [.p (v.pv false),.p (w.pv false)] H nx=some (.int .i64 k,[],[])):
  run ⟨Ω,gG,H,nx⟩ ir45_0 (bsS x w L.length i j)=some (.normal,bsS x w L.length ((i+j)/2+1) j):=by
 have hl:=aN L
 have k1 : ¬(j:Int)≤i:=by omega
 have k2:(i+j)/2<L.length:=by omega
 obtain ⟨w1,w2,w3,w4⟩:=xT i j (by omega)
 have w5:IntKind.i64.wrap ((((i+j)/2:Nat):Int)+1)=(((i+j)/2:Nat):Int)+1:=wrap_i64 _ (by omega) (by omega)
 have le:(i+j)/2*4+4≤(rowL L).length:=by omega
 have mp:=cH L
 have mq:=cH [w]
 simp only [Wv.pv,Wv.cells] at hg
 generalize (i+j)/2=d at*
 cases hx with
 | nil=>cases hv
 | sl _ fl=>
  have g4:=bL hv []
  rw [List.append_nil] at g4
  clear hl
  generalize rowP L=P at*
  generalize rowL L=C at*
  simp +contextual (maxSteps:=100000) [ir45_0,ssL,↓ssM,aa,ssU,Go.Sx.LV.undef,Go.undef,ssR,hk,k1,k2,w1,w2,w3,w4,w5,mp,g4,le,hg]
 | arr _ R id cp ex a1 a2=>
  have g4:=bL hv R
  have le2:d*4+4≤(rowL L++R).length:=by rw [List.length_append];omega
  clear hl
  generalize rowL L++R=C at*
  simp +contextual (maxSteps:=100000) [ir45_0,ssL,↓ssM,aa,ssU,Go.Sx.LV.undef,Go.undef,ssR,hk,k1,k2,w1,w2,w3,w4,w5,g4,le2,hg,a1,a2]
theorem zY (hx:Rw H nx x L) {i j:Nat} (hij:i<j) (hj:j≤L.length) (h30:L.length<2^30) {v:Wv} (hv:L[(i+j)/2]?=some v) {k:Int} (hk:0≤k) (hg : ∀ H nx,Ω 46 [.p (v.pv false),.p (w.pv false)] H nx=some (.int .i64 k,[],[])):
  run ⟨Ω,gG,H,nx⟩ ir45_0 (bsS x w L.length i j)=some (.normal,bsS x w L.length i ((i+j)/2)):=by
 have hl:=aN L
 have k1 : ¬(j:Int)≤i:=by omega
 have k2:(i+j)/2<L.length:=by omega
 obtain ⟨w1,w2,w3,w4⟩:=xT i j (by omega)
 have w5:IntKind.i64.wrap ((((i+j)/2:Nat):Int)+1)=(((i+j)/2:Nat):Int)+1:=wrap_i64 _ (by omega) (by omega)
 have le:(i+j)/2*4+4≤(rowL L).length:=by omega
 have mp:=cH L
 have mq:=cH [w]
 simp only [Wv.pv,Wv.cells] at hg
 generalize (i+j)/2=d at*
 cases hx with
 | nil=>cases hv
 | sl _ fl=>
  have g4:=bL hv []
  rw [List.append_nil] at g4
  clear hl
  generalize rowP L=P at*
  generalize rowL L=C at*
  simp +contextual (maxSteps:=100000) [ir45_0,ssL,↓ssM,aa,ssU,Go.Sx.LV.undef,Go.undef,ssR,hk,k1,k2,w1,w2,w3,w4,w5,mp,g4,le,hg]
 | arr _ R id cp ex a1 a2=>
  have g4:=bL hv R
  have le2:d*4+4≤(rowL L++R).length:=by rw [List.length_append];omega
  clear hl
  generalize rowL L++R=C at*
  simp +contextual (maxSteps:=100000) [ir45_0,ssL,↓ssM,aa,ssU,Go.Sx.LV.undef,Go.undef,ssR,hk,k1,k2,w1,w2,w3,w4,w5,g4,le2,hg,a1,a2]
theorem yy (hx:Rw H nx x L) {i:Nat} :
  run ⟨Ω,gG,H,nx⟩ ir45_0 (bsS x w L.length i i)=some (.exit 0,⟨[(0,x),(2,.fn 46 [] []),(4,.p (.imm (w.cells false) 0)),(8,.int .i64 L.length),(9,.int .i64 i),(10,.int .i64 i),(17,.bool false)],⟨[],[]⟩⟩):=by
 cases hx with
 | nil=>simp +contextual (maxSteps:=100000) [ir45_0,ssL,↓ssM,aa,ssU,Go.Sx.LV.undef,Go.undef,ssR]
 | sl _ fl=>simp +contextual (maxSteps:=100000) [ir45_0,ssL,↓ssM,aa,ssU,Go.Sx.LV.undef,Go.undef,ssR]
 | arr _ R id cp ex a1 a2=>simp +contextual (maxSteps:=100000) [ir45_0,ssL,↓ssM,aa,ssU,Go.Sx.LV.undef,Go.undef,ssR,a2]
theorem li (hx:Rw H nx x L) (h30:L.length<2^30) (hs:Srt Wv.bytes L) (hL : ∀ v∈L,v.Ok) (hw:w.Ok) : ∀ (m i j:Nat),j-i≤m→i≤lo Wv.bytes w.bytes L→lo Wv.bytes w.bytes L≤j→j≤L.length →
  run ⟨Ω,gG,H,nx⟩ (.loop ir45_0) (bsS x w L.length i j)=
   some (.exit 0,⟨[(0,x),(2,.fn 46 [] []),(4,.p (.imm (w.cells false) 0)),(8,.int .i64 L.length),(9,.int .i64 (lo Wv.bytes w.bytes L:Nat)),(10,.int .i64 (lo Wv.bytes w.bytes L:Nat)),(17,.bool false)],⟨[],[]⟩⟩):=fun m i j hm h1 h2 h3=>by
 by_cases hij:i<j
 ·obtain ⟨m,rfl⟩ : ∃ q,m=q+1:=⟨m-1,by omega⟩
  have hd:(i+j)/2<L.length:=by omega
  have hv:=List.getElem?_eq_getElem hd
  have ho:=lS L[(i+j)/2] w (hL _ (List.getElem_mem hd)) hw
  have hlt:=x9 (t:=w.bytes) hs hv
  rw [blt] at hlt
  rw [ay]
  by_cases hk:0≤cmpL (L[(i+j)/2]).bytes w.bytes
  ·rw [zY hx hij h3 h30 hv hk ho,aE,aA]
   have : ¬(i+j)/2<lo Wv.bytes w.bytes L:=by
    intro h
    rw [decide_eq_true h,decide_eq_true_eq] at hlt;omega
   exact li hx h30 hs hL hw m i ((i+j)/2) (by omega) h1 (by omega) (by omega)
  ·rw [zZ hx hij h3 h30 hv hk ho,aE,aA]
   have:(i+j)/2<lo Wv.bytes w.bytes L:=by
    rw [decide_eq_true (show cmpL (L[(i+j)/2]).bytes w.bytes<0 by omega)] at hlt
    exact of_decide_eq_true hlt.symm
   exact li hx h30 hs hL hw m ((i+j)/2+1) j (by omega) (by omega) h2 h3
 ·obtain rfl:i=lo Wv.bytes w.bytes L:=by omega
  obtain rfl:j=lo Wv.bytes w.bytes L:=by omega
  rw [ay,yy hx];rfl
termination_by m=>m
end
end Go.Proofs.YtoeblkipfdnnlaaGreatDoor
end

section
namespace Go.Proofs.YtoeblkipfdnnlaaGreatDoor
open Go Go.Sx
set_option maxHeartbeats 1000000
theorem wM (L:List Wv) (w:Wv) (hs:Srt Wv.bytes L):(L.any fun v=>v.bytes==w.bytes)=match L[lo Wv.bytes w.bytes L]? with
  | some v=>decide (cmpL v.bytes w.bytes=0)
  | none=>false:=by
 rw [sZ hs]
 cases L[lo Wv.bytes w.bytes L]? with
 | none=>rfl
 | some v=>
  simp only [decide_eq_decide]
  exact ⟨fun h=>by rw [h,dE],iR⟩
section
variable {L:List Wv} {H:Heap} {nx:Nat} {x:LV} {w:Wv}
theorem v5 (hx:Rw H nx x L) (h30:L.length<2^30) (hs:Srt Wv.bytes L) (hL : ∀ v∈L,v.Ok) (hw:w.Ok):
  Ω 45 [x,.p (w.pv false),.fn 46 [] []] H nx=some (.tuple [.int .i64 (lo Wv.bytes w.bytes L:Nat),.bool (L.any fun v=>v.bytes==w.bytes)],[],[]):=by
 have le:=uu (key:=Wv.bytes) w.bytes L
 have lp:=li hx h30 hs hL hw L.length 0 L.length (by omega) (Nat.zero_le _) le (Nat.le_refl _)
 have ka:=wM L w hs
 have hl:=aN L
 have mp:=cH L
 rw [ka]
 clear ka
 simp only [bsS,Int.natCast_zero] at lp
 by_cases h1:lo Wv.bytes w.bytes L<L.length
 ·have hv:=List.getElem?_eq_getElem h1
  have ho:=lS L[lo Wv.bytes w.bytes L] w (hL _ (List.getElem_mem h1)) hw
  have g4:=fun R=>bL hv R
  rw [hv]
  simp only
  generalize L[lo Wv.bytes w.bytes L]=v at*
  generalize lo Wv.bytes w.bytes L=d at*
  have le1:d*4+4≤(rowL L).length:=by omega
  have k1 : ¬(L.length:Int)≤d:=by omega
  simp only [Wv.pv,Wv.cells] at ho lp ⊢
  generalize cmpL v.bytes w.bytes=k at*
  cases hx with
  | nil=>cases hv
  | sl _ fl=>
   have g4:=g4 []
   rw [List.append_nil] at g4
   clear hl
   generalize rowP L=P at*
   generalize rowL L=C at*
   refine au (ir:=ir45) (by kernel_rfl) ?_;simp +contextual (maxSteps:=1000000) [ir45,ssL,↓ssM,aa,ssU,Go.Sx.LV.undef,Go.undef,ssR,lp,ho,k1,h1,g4,le1,mp]
  | arr _ R id cp ex a1 a2=>
   have g4:=g4 R
   have le2:d*4+4≤(rowL L++R).length:=by rw [List.length_append];omega
   clear hl
   generalize rowL L++R=C at*
   refine au (ir:=ir45) (by kernel_rfl) ?_;simp +contextual (maxSteps:=1000000) [ir45,ssL,↓ssM,aa,ssU,Go.Sx.LV.undef,Go.undef,ssR,lp,ho,k1,h1,g4,le2,a1,a2]
 ·have e:lo Wv.bytes w.bytes L=L.length:=by omega
  rw [List.getElem?_eq_none (by omega)]
  simp only
  have k1:(L.length:Int)≤lo Wv.bytes w.bytes L:=by omega
  generalize lo Wv.bytes w.bytes L=d at*
  simp only [Wv.pv,Wv.cells] at lp ⊢
  cases hx with
  | nil=>
   simp only [List.length_nil,Int.natCast_zero] at lp k1
   refine au (ir:=ir45) (by kernel_rfl) ?_;simp +contextual (maxSteps:=1000000) [ir45,ssL,↓ssM,aa,ssU,Go.Sx.LV.undef,Go.undef,ssR,lp,k1]
  | sl _ fl=>refine au (ir:=ir45) (by kernel_rfl) ?_;simp +contextual (maxSteps:=1000000) [ir45,ssL,↓ssM,aa,ssU,Go.Sx.LV.undef,Go.undef,ssR,lp,k1]
  | arr _ R id cp ex a1 a2=>refine au (ir:=ir45) (by kernel_rfl) ?_;simp +contextual (maxSteps:=1000000) [ir45,ssL,↓ssM,aa,ssU,Go.Sx.LV.undef,Go.undef,ssR,lp,k1]
end
end Go.Proofs.YtoeblkipfdnnlaaGreatDoor
end

section
namespace Go.Proofs.YtoeblkipfdnnlaaGreatDoor
open Go Go.Sx
set_option maxHeartbeats 1000000
def slP (L:List Wv):PV:=if L=[] then .s (.slice none 0 0) else .sl (rowP L) L.length 4 false
theorem ed:slP [] = .s (.slice none 0 0):=rfl
theorem jX {L:List Wv} (h:L≠[]):slP L = .sl (rowP L) L.length 4 false:=if_neg h
theorem Rw.slP (H:Heap) (nx:Nat) (L:List Wv):Rw H nx (.p (slP L)) L:=by
 by_cases h:L=[]
 ·subst h;exact .nil
 ·rw [jX h];exact .sl L false
abbrev setP (L:List Wv):PV:=.agg [slP L]
theorem yJ (L:List Wv) (w:Wv) (h30:L.length<2^30) (hs:Srt Wv.bytes L) (hL : ∀ v∈L,v.Ok) (hw:w.Ok) (H:Heap) (nx:Nat):
  Ω 23 [.p (setP L),.p (w.pv false)] H nx=some (.bool (L.any (fun v=>v.bytes==w.bytes)&&w.right),[],[]):=by
 have b:=fun H nx=>v5 (Rw.slP H nx L) h30 hs hL hw
 have r:=jS w
 generalize (L.any fun v=>v.bytes==w.bytes)=any at*
 generalize w.right=rt at*
 generalize lo Wv.bytes w.bytes L=d at*
 simp only [Wv.pv,Wv.cells] at b r ⊢
 simp only [setP]
 generalize slP L=S at*
 cases any
 all_goals (refine au (ir:=ir23) (by kernel_rfl) ?_;simp +contextual (maxSteps:=1000000) [ir23,ssL,↓ssM,aa,ssU,Go.Sx.LV.undef,Go.undef,ssR,b,r])
theorem len_ (L:List Wv) (H:Heap) (nx:Nat):Ω 14 [.p (setP L)] H nx=some (.int .i64 L.length,[],[]):=by
 by_cases h:L=[]
 ·subst h
  rw [setP,ed]
  refine au (ir:=ir14) (by kernel_rfl) ?_;simp +contextual (maxSteps:=1000000) [ir14,ssL,↓ssM,aa,ssU,Go.Sx.LV.undef,Go.undef,ssR,ed]
 ·rw [setP,jX h]
  refine au (ir:=ir14) (by kernel_rfl) ?_;simp +contextual (maxSteps:=1000000) [ir14,ssL,↓ssM,aa,ssU,Go.Sx.LV.undef,Go.undef,ssR,ed]
theorem pd (H:Heap) (nx:Nat):Ω 48 [.p (.s (.slice none 0 0))] H nx=some (.p (.s (.slice none 0 0)),[],[]):=by
 refine au (ir:=ir48) (by kernel_rfl) ?_;simp +contextual (maxSteps:=1000000) [ir48,ssL,↓ssM,aa,ssU,Go.Sx.LV.undef,Go.undef,ssR,ed]
theorem sV (L:List Wv) (h:L≠[]) (h30:L.length<2^30) (H:Heap) (nx:Nat):Ω 48 [.p (.sl (rowP L) L.length 4 false)] H nx=some (.arr nx 0 L.length 4 L.length false,[],[some (.cells (rowL L))]):=by
 have hl:=vi L
 have mp:=cH L
 have h0:L.length≠0:=fun e=>h (List.eq_nil_of_length_eq_zero e)
 have k1:L.length*48≤2^40:=by omega
 have iC:=bn L
 have rC:=fun n s=>bo n s L
 generalize rowP L=P at*
 generalize rowL L=C at*
 generalize L.length=n at*
 have mp2:C.length=n*4:=by rw [←mp,List.length_map,hl]
 simp only [Nat.reducePow] at k1
 refine au (ir:=ir48) (by kernel_rfl) ?_;simp +contextual (maxSteps:=1000000) [ir48,ssL,↓ssM,aa,ssU,Go.Sx.LV.undef,Go.undef,ssR,mp,hl,mp2,h0,k1,iC,rC]
theorem ut (H:Heap) (nx:Nat):Ω 13 [.p (setP [])] H nx=some (.p (.s (.slice none 0 0)),[],[]):=by
 have c:=pd
 refine au (ir:=ir13) (by kernel_rfl) ?_;simp +contextual (maxSteps:=1000000) [ir13,ssL,↓ssM,aa,ssU,Go.Sx.LV.undef,Go.undef,ssR,c,ed]
theorem Am (L:List Wv) (h:L≠[]) (h30:L.length<2^30) (H:Heap) (nx:Nat):Ω 13 [.p (setP L)] H nx=some (.arr nx 0 L.length 4 L.length false,[],[some (.cells (rowL L))]):=by
 have c:=sV L h h30
 have iC:=bn L
 have rC:=fun n s=>bo n s L
 rw [setP,jX h]
 generalize rowP L=P at*
 generalize rowL L=C at*
 refine au (ir:=ir13) (by kernel_rfl) ?_;simp +contextual (maxSteps:=1000000) [ir13,ssL,↓ssM,aa,ssU,Go.Sx.LV.undef,Go.undef,ssR,c,iC,rC]
end Go.Proofs.YtoeblkipfdnnlaaGreatDoor
end

section
namespace Go.Proofs.YtoeblkipfdnnlaaGreatDoor
open Go Go.Sx
set_option maxHeartbeats 1000000
section
variable {L M:List Wv} {H:Heap} {nx:Nat}
end
end Go.Proofs.YtoeblkipfdnnlaaGreatDoor
end

section
namespace Go.Proofs.YtoeblkipfdnnlaaGreatDoor
open Go Go.Sx
set_option maxHeartbeats 1000000
noncomputable abbrev Ωi:Oracle:=om cls (findF irsX) gG noX
theorem cY {L M R:List Wv} {k:Nat} (hk:k≤L.length):splice (rowL L) (k*4) (rowL M)=rowL (L.take k++M++L.drop (k+M.length)):=by
 unfold splice
 rw [bh,bh,aN,←Nat.add_mul]
 congr 1
 ·congr 1
  exact cU cS k L
 ·exact dK cS _ L
theorem j8 (L:List Wv) (i k:Nat):((rowL L).drop (i*4)).take (k*4)=rowL ((L.drop i).take k):=by
 rw [show (rowL L).drop (i*4)=rowL (L.drop i) from dK cS i L]
 exact cU cS k _
section
variable {T:List Wv} {w:Wv} {H:Heap} {nx id id2 n i c c2:Nat} {e2:Bool}
theorem yN (hT:H id=some (.cells (rowL T))) (hid:id<nx) (h2:H id2=some (.cells w.lv)) (hid2:id2<nx) (hne:id≠id2) (hn:n≤T.length) (h30:n<2^30):
  Ωi 47 [.arr id 0 n 4 n true,.int .i64 n,.arr id2 0 1 4 c2 e2] H nx=some (.arr nx 0 (n+1) 4 (n+1) false,[],[some (.cells (rowL (T.take n)++w.lv))]):=by
 have e1:(rowL T).take (n*4)=rowL (T.take n):=cU cS n T
 have l1:n*4≤(rowL T).length:=by rw [aN];omega
 have l2 : ¬1099511627776<(n+1)*48:=by omega
 have k1 : ¬(rowL T).length<n*4:=by omega
 have iC:=bn (T.take n++[w])
 have rC:=fun a s=>bo a s (T.take n++[w])
 simp only [bh,eH,Wv.lv] at iC rC
 generalize rowL (T.take n)=D at*
 generalize rowL T=C at*
 refine au (ir:=ir47) (by kernel_rfl) ?_
 simp +contextual (maxSteps:=1000000) [ir47,ssL,↓ssM,aa,ssU,Go.Sx.LV.undef,Go.undef,Go.Sx.push,Go.Sx.setObj,Go.Sx.setU,Go.Sx.setAll,Go.Sx.leI_eq,ltF,Go.Sx.ev_clr,Go.Sx.clK_nil,Go.Sx.clK_arr,Go.Sx.ev_cap,Go.Sx.caK_nil,Go.Sx.caK_arr,Go.Sx.ev_copyX,Go.Sx.cxK_arr,Go.Sx.slPart_arr,Go.Sx.slPart_sl,Go.Sx.ev_appZ,Go.Sx.azK_arr,Go.Sx.ev_ovl,Go.Sx.ovK_arr,hT,hid,h2,hid2,hne,e1,l1,l2,k1,iC,rC]
theorem yO (hT:H id=some (.cells (rowL T))) (hid:id<nx) (h2:H id2=some (.cells w.lv)) (hid2:id2<nx) (hne:id≠id2) (hn:T.length=n) (hc:n<c) (h30:n<2^30):
  Ωi 47 [.arr id 0 n 4 c true,.int .i64 n,.arr id2 0 1 4 c2 e2] H nx=some (.arr nx 0 (n+1) 4 (n+1) false,[(id,none)],[some (.cells (rowL T++w.lv))]):=by
 have l1:(rowL T).length=n*4:=by rw [aN];omega
 have l2 : ¬1099511627776<(n+1)*48:=by omega
 have k1 : ¬c=n:=by omega
 have iC:=bn (T++[w])
 have rC:=fun a s=>bo a s (T++[w])
 simp only [bh,eH,Wv.lv] at iC rC
 generalize rowL T=C at*
 refine au (ir:=ir47) (by kernel_rfl) ?_
 simp +contextual (maxSteps:=1000000) [ir47,ssL,↓ssM,aa,ssU,Go.Sx.LV.undef,Go.undef,Go.Sx.push,Go.Sx.setObj,Go.Sx.setU,Go.Sx.setAll,Go.Sx.leI_eq,ltF,Go.Sx.ev_clr,Go.Sx.clK_nil,Go.Sx.clK_arr,Go.Sx.ev_cap,Go.Sx.caK_nil,Go.Sx.caK_arr,Go.Sx.ev_copyX,Go.Sx.cxK_arr,Go.Sx.slPart_arr,Go.Sx.slPart_sl,Go.Sx.ev_appZ,Go.Sx.azK_arr,Go.Sx.ev_ovl,Go.Sx.ovK_arr,hT,hid,h2,hid2,hne,l1,l2,k1,iC,rC]
theorem yP (hT:H id=some (.cells (rowL T))) (hid:id<nx) (h2:H id2=some (.cells w.lv)) (hid2:id2<nx) (hne:id≠id2) (hn:n<T.length) (hc:n<c) (h30:n<2^30):
  Ωi 47 [.arr id 0 n 4 c true,.int .i64 n,.arr id2 0 1 4 c2 e2] H nx=some (.arr id 0 (n+1) 4 c true,[(id,some (.cells (rowL (T.take n++[w]++T.drop (n+1)))))],[]):=by
 have l1:(n+1)*4≤(rowL T).length:=by rw [aN];omega
 have l0 : ¬(rowL T).length<n*4:=by omega
 have l2 : ¬1099511627776<(n+1)*48:=by omega
 have l3 : ¬n*4=(rowL T).length:=by omega
 have k1 : ¬c=n:=by omega
 have hc':n+1≤c:=hc
 have sp:=cY (L:=T) (M:=[w]) (R:=[]) (k:=n) (by omega)
 rw [eH] at sp
 simp only [List.length_cons,List.length_nil,Nat.zero_add] at sp
 have iC:=bn (T.take n++[w]++T.drop (n+1))
 have rC:=fun a s=>bo a s (T.take n++[w]++T.drop (n+1))
 generalize rowL (T.take n++[w]++T.drop (n+1))=D at*
 generalize rowL T=C at*
 refine au (ir:=ir47) (by kernel_rfl) ?_
 simp +contextual (maxSteps:=1000000) [ir47,ssL,↓ssM,aa,ssU,Go.Sx.LV.undef,Go.undef,Go.Sx.push,Go.Sx.setObj,Go.Sx.setU,Go.Sx.setAll,Go.Sx.leI_eq,ltF,Go.Sx.ev_clr,Go.Sx.clK_nil,Go.Sx.clK_arr,Go.Sx.ev_cap,Go.Sx.caK_nil,Go.Sx.caK_arr,Go.Sx.ev_copyX,Go.Sx.cxK_arr,Go.Sx.slPart_arr,Go.Sx.slPart_sl,Go.Sx.ev_appZ,Go.Sx.azK_arr,Go.Sx.ev_ovl,Go.Sx.ovK_arr,hT,hid,h2,hid2,hne,l0,l1,l2,l3,k1,hc,hc',iC,rC,sp]
theorem yQ {m:Nat} (hT:H id=some (.cells (rowL T))) (hid:id<nx) (h2:H id2=some (.cells w.lv)) (hid2:id2<nx) (hne:id≠id2) (hn:T.length=n) (hi:i<n) (hm:i+m=n+1) (h30:n<2^30):
  Ωi 47 [.arr id 0 n 4 n true,.int .i64 i,.arr id2 0 1 4 c2 e2] H nx=some (.arr nx 0 (n+1) 4 (n+1) false,[],[some (.cells (rowL (T.take i++[w]++T.drop i)))]):=by
 have hl:=aN T
 have k1 : ¬i=n:=by omega
 have k1' : ¬(i:Int)=n:=by omega
 have k2:i≤n:=by omega
 have k2':i≤n+1:=by omega
 have k3:i+1≤n+1:=by omega
 have k4:0<m:=by omega
 have k5:n<i+m:=by omega
 have k6:(n+1)*48≤1099511627776:=by omega
 have k7:i*4≤(rowL T).length:=by omega
 have k8:n+1-i=m:=by omega
 have k9:min 1 m=1:=by omega
 have k10 : ¬(n:Int)+1≤n:=by omega
 have w1:IntKind.i64.wrap ((n:Int)+1)=(n:Int)+1:=wrap_i64 _ (by omega) (by omega)
 have w2:IntKind.i64.wrap ((i:Int)+1)=(i:Int)+1:=wrap_i64 _ (by omega) (by omega)
 have w3:IntKind.i64.wrap ((n:Int)+1-i)=m:=by rw [show (n:Int)+1-i=m by omega];exact wrap_i64 _ (by omega) (by omega)
 have n1:(0:Int)≤(i:Int)+1:=by omega
 have n2:((i:Int)+1).toNat=i+1:=by omega
 have z:=vR m
 have t1:(rowL T).take (i*4)=rowL (T.take i):=cU cS i T
 have t2:rowL (T.take i)++rowL (List.replicate m zv)=rowL (T.take i++List.replicate m zv):=(bh _ _).symm
 have q1:(T.take i++List.replicate m zv).take i=T.take i:=by rw [List.take_append_of_le_length (by rw [List.length_take];omega),List.take_take,Nat.min_self]
 have q2:(T.take i++List.replicate m zv).drop (i+1)=List.replicate (n-i) zv:=by
  rw [List.drop_append,List.drop_of_length_le (by rw [List.length_take];omega),List.length_take,List.nil_append,List.drop_replicate]
  congr 1;omega
 have s1:=cY (L:=T.take i++List.replicate m zv) (M:=[w]) (R:=[]) (k:=i) (by rw [List.length_append,List.length_take];omega)
 rw [eH] at s1
 simp only [List.length_cons,List.length_nil,Nat.zero_add] at s1
 rw [q1,q2] at s1
 have y1:((rowL T).drop (i*4)).take ((n-i)*4)=rowL (T.drop i):=by
  rw [List.take_of_length_le (by rw [List.length_drop];omega)];exact dK cS i T
 have y2:(rowL (T.drop i)).length=(n-i)*4:=by rw [aN,List.length_drop,hn]
 have s2:=cY (L:=T.take i++[w]++List.replicate (n-i) zv) (M:=T.drop i) (R:=[]) (k:=i+1) (by simp;omega)
 have q3:(T.take i++[w]++List.replicate (n-i) zv).take (i+1)=T.take i++[w]:=by
  rw [List.take_append_of_le_length (by simp;omega),List.take_of_length_le (by simp;omega)]
 have q4:(T.take i++[w]++List.replicate (n-i) zv).drop (i+1+(T.drop i).length)=[]:=List.drop_of_length_le (by simp;omega)
 rw [q3,q4,List.append_nil] at s2
 have l1:i*4≤(rowL (T.take i++List.replicate m zv)).length:=by rw [aN];simp;omega
 have l2:(i+1)*4≤(rowL (T.take i++[w]++List.replicate (n-i) zv)).length:=by rw [aN];simp;omega
 have l3:i*4+(n-i)*4≤(rowL T).length:=by omega
 have iC:=bn (T.take i++[w]++T.drop i)
 have rC:=fun a s=>bo a s (T.take i++[w]++T.drop i)
 clear hl q1 q2 q3 q4
 generalize rowL (T.take i++[w]++T.drop i)=Z2 at*
 generalize rowL (T.take i++[w]++List.replicate (n-i) zv)=Z1 at*
 generalize rowL (T.take i++List.replicate m zv)=Z0 at*
 generalize rowL (T.take i)=D0 at*
 generalize rowL (List.replicate m zv)=D1 at*
 generalize rowL (T.drop i)=Y at*
 generalize rowL T=C at*
 refine au (ir:=ir47) (by kernel_rfl) ?_
 simp +contextual (maxSteps:=1000000) [ir47,ssL,↓ssM,aa,ssU,Go.Sx.LV.undef,Go.undef,Go.Sx.push,Go.Sx.setObj,Go.Sx.setU,Go.Sx.setAll,Go.Sx.leI_eq,ltF,Go.Sx.ev_clr,Go.Sx.clK_nil,Go.Sx.clK_arr,Go.Sx.ev_cap,Go.Sx.caK_nil,Go.Sx.caK_arr,Go.Sx.ev_copyX,Go.Sx.cxK_arr,Go.Sx.slPart_arr,Go.Sx.slPart_sl,Go.Sx.ev_appZ,Go.Sx.azK_arr,Go.Sx.ev_ovl,Go.Sx.ovK_arr,hT,hid,h2,hid2,hne,k1,k1',k2,k2',k3,k4,k5,k6,k7,k8,k9,k10,w1,w2,w3,n1,n2,↓z,t1,t2,s1,y1,y2,s2,l1,l2,l3,iC,rC,hm]
theorem yR {m:Nat} (hT:H id=some (.cells (rowL T))) (hid:id<nx) (h2:H id2=some (.cells w.lv)) (hid2:id2<nx) (hne:id≠id2) (hn:n≤T.length) (hi:i<n) (hm:i+m=n+1) (hc:n<c) (h30:n<2^30):
  Ωi 47 [.arr id 0 n 4 c true,.int .i64 i,.arr id2 0 1 4 c2 e2] H nx=some (.arr id 0 (n+1) 4 c true,[(id,some (.cells (rowL (T.take i++[w]++((T.drop i).take (n-i)++T.drop (n+1))))))],[]):=by
 have hl:=aN T
 have k1 : ¬i=n:=by omega
 have k1' : ¬(i:Int)=n:=by omega
 have k2:i≤n:=by omega
 have k2':i≤n+1:=by omega
 have k3:i+1≤n+1:=by omega
 have k4:n+1≤c:=by omega
 have k5:(n:Int)+1≤c:=by omega
 have k6 : ¬n+1≤n:=by omega
 have k7:min m (n-i)=n-i:=by omega
 have k8:n+1-i=m:=by omega
 have k9:min 1 m=1:=by omega
 have hne' : ¬id2=id:=fun e=>hne e.symm
 have w1:IntKind.i64.wrap ((n:Int)+1)=(n:Int)+1:=wrap_i64 _ (by omega) (by omega)
 have w2:IntKind.i64.wrap ((i:Int)+1)=(i:Int)+1:=wrap_i64 _ (by omega) (by omega)
 have n1:(0:Int)≤(i:Int)+1:=by omega
 have n2:((i:Int)+1).toNat=i+1:=by omega
 have n3:(0:Int)≤(n:Int)+1:=by omega
 have n4:((n:Int)+1).toNat=n+1:=by omega
 have y1:((rowL T).drop (i*4)).take ((n-i)*4)=rowL ((T.drop i).take (n-i)):=by
  rw [j8]
 have y2:(rowL ((T.drop i).take (n-i))).length=(n-i)*4:=by rw [aN,List.length_take,List.length_drop];congr 1;omega
 have s1:=cY (L:=T) (M:=(T.drop i).take (n-i)) (R:=[]) (k:=i+1) (by omega)
 have yl:((T.drop i).take (n-i)).length=n-i:=by rw [List.length_take,List.length_drop];omega
 rw [yl,show i+1+(n-i)=n+1 by omega] at s1
 have s2:=cY (L:=T.take (i+1)++(T.drop i).take (n-i)++T.drop (n+1)) (M:=[w]) (R:=[]) (k:=i) (by simp;omega)
 rw [eH] at s2
 have q3:(T.take (i+1)++(T.drop i).take (n-i)++T.drop (n+1)).take i=T.take i:=by
  rw [List.append_assoc,List.take_append_of_le_length (by simp;omega),List.take_take,Nat.min_eq_left (by omega)]
 have q4:(T.take (i+1)++(T.drop i).take (n-i)++T.drop (n+1)).drop (i+[w].length)=(T.drop i).take (n-i)++T.drop (n+1):=by
  rw [List.append_assoc]
  exact List.drop_left' (by simp;omega)
 rw [q3,q4] at s2
 have l1:(i+1)*4≤(rowL T).length:=by omega
 have l2:i*4≤(rowL (T.take (i+1)++(T.drop i).take (n-i)++T.drop (n+1))).length:=by rw [aN];simp;omega
 have l3:i*4+(n-i)*4≤(rowL T).length:=by omega
 have iC:=bn (T.take i++[w]++((T.drop i).take (n-i)++T.drop (n+1)))
 have rC:=fun a s=>bo a s (T.take i++[w]++((T.drop i).take (n-i)++T.drop (n+1)))
 clear hl q3 q4 yl
 generalize rowL (T.take i++[w]++((T.drop i).take (n-i)++T.drop (n+1)))=Z2 at*
 generalize rowL (T.take (i+1)++(T.drop i).take (n-i)++T.drop (n+1))=Z1 at*
 generalize rowL ((T.drop i).take (n-i))=Y at*
 generalize rowL T=C at*
 refine au (ir:=ir47) (by kernel_rfl) ?_
 simp +contextual (maxSteps:=1000000) [ir47,ssL,↓ssM,aa,ssU,Go.Sx.LV.undef,Go.undef,Go.Sx.push,Go.Sx.setObj,Go.Sx.setU,Go.Sx.setAll,Go.Sx.leI_eq,ltF,Go.Sx.ev_clr,Go.Sx.clK_nil,Go.Sx.clK_arr,Go.Sx.ev_cap,Go.Sx.caK_nil,Go.Sx.caK_arr,Go.Sx.ev_copyX,Go.Sx.cxK_arr,Go.Sx.slPart_arr,Go.Sx.slPart_sl,Go.Sx.ev_appZ,Go.Sx.azK_arr,Go.Sx.ev_ovl,Go.Sx.ovK_arr,hT,hid,h2,hid2,hne,hne',k1,k1',k2,k2',k3,k4,k5,k6,k7,k8,k9,w1,w2,n1,n2,n3,n4,s1,y1,y2,s2,l1,l2,l3,iC,rC]
end
end Go.Proofs.YtoeblkipfdnnlaaGreatDoor
end

section
namespace Go.Proofs.YtoeblkipfdnnlaaGreatDoor
open Go Go.Sx
set_option maxHeartbeats 1000000
section
variable {L R:List Wv} {w:Wv} {H:Heap} {nx id id2 i cp c2:Nat} {e2:Bool}
theorem kI (C:List LV) (n c:Nat) (e:Bool):normA id nx (some (.arr nx 0 n 4 c e,[],[some (.cells C)]))=some (.arr nx 0 n 4 n false,[(id,none)],[some (.cells C)]):=by simp [normA]
theorem uD (C:List LV) (n c:Nat) (e:Bool):normA id nx (some (.arr nx 0 n 4 c e,[(id,none)],[some (.cells C)]))=some (.arr nx 0 n 4 n false,[(id,none)],[some (.cells C)]):=by simp [normA]
theorem nB (C:List LV) (n c:Nat) (e:Bool):normA id nx (some (.arr id 0 n 4 c e,[(id,some (.cells C))],[]))=some (.arr nx 0 n 4 n false,[(id,none)],[some (.cells C)]):=by simp [normA]
theorem p9 (hT:H id=some (.cells (rowL L++rowL R))) (hid:id<nx) (h2:H id2=some (.cells w.lv)) (hid2:id2<nx) (hne:id≠id2) (hi:i≤L.length) (hcp:L.length+R.length≤cp) (h30:L.length<2^30):
  Ω 47 [.arr id 0 L.length 4 cp false,.int .i64 i,.arr id2 0 1 4 c2 e2] H nx=
   some (.arr nx 0 (L.length+1) 4 (L.length+1) false,[(id,none)],[some (.cells (rowL (L.take i++w::L.drop i)++rowL (R.drop 1)))]):=by
 refine (sD rfl).trans ?_
 refine lM (by kernel_rfl) ?_
 show (if (47:Nat)=47 then _ else _)=_
 rw [if_pos rfl]
 refine v7 (by rw [hT];rfl) fun c hc => ?_
 show normA id nx (Ωi 47 _ H nx)=_
 rw [←bh] at hT
 have tl:(L++R).length=L.length+R.length:=List.length_append
 by_cases hin:i=L.length
 ·subst hin
  by_cases hcn:c=L.length
  ·subst hcn
   obtain rfl:R=[]:=List.eq_nil_of_length_eq_zero (by omega)
   rw [yN hT hid h2 hid2 hne (by omega) h30,kI]
   simp [bh,bP,cT]
  ·by_cases hR:R=[]
   ·subst hR
    rw [yO hT hid h2 hid2 hne (by simp) (by omega) h30,uD]
    simp [bh,bP,cT]
   ·have hRl:0<R.length:=List.length_pos_iff.2 hR
    rw [yP hT hid h2 hid2 hne (by omega) (by omega) h30,nB]
    have e:(L++R).drop (L.length+1)=R.drop 1:=by rw [List.drop_append,List.drop_of_length_le (by omega)];simp
    rw [e]
    simp [bh,bP,cT]
 ·have hi':i<L.length:=by omega
  by_cases hcn:c=L.length
  ·subst hcn
   obtain rfl:R=[]:=List.eq_nil_of_length_eq_zero (by omega)
   rw [yQ (m:=L.length+1-i) hT hid h2 hid2 hne (by simp) hi' (by omega) h30,kI]
   simp [bh,bP,cT]
  ·rw [yR (m:=L.length+1-i) hT hid h2 hid2 hne (by omega) hi' (by omega) (by omega) h30,nB]
   have e:(L++R).drop (L.length+1)=R.drop 1:=by rw [List.drop_append,List.drop_of_length_le (by omega)];simp
   have e2:(L++R).take i=L.take i:=List.take_append_of_le_length hi
   have e3:((L++R).drop i).take (L.length-i)=L.drop i:=by
    rw [List.drop_append_of_le_length hi,List.take_append_of_le_length (by simp),List.take_of_length_le (by simp)]
   rw [e,e2,e3]
   simp [bh,bP,cT]
end
end Go.Proofs.YtoeblkipfdnnlaaGreatDoor
end

section
namespace Go.Proofs.YtoeblkipfdnnlaaGreatDoor
open Go Go.Sx
set_option maxHeartbeats 1000000
theorem xL (v x:Wv) (hv:v.Ok) (hx:x.Ok) (H:Heap) (nx:Nat):Ω 42 [.p (x.pv false),.p (.imm (v.cells false) 0)] H nx=some (.bool (v.und x),[],[]):=by
 have u:=o9 v x hv hx
 generalize v.und x=b at*
 simp only [Wv.pv,Wv.cells] at u ⊢
 refine au (ir:=ir42) (by kernel_rfl) ?_;simp +contextual (maxSteps:=1000000) [ir42,ssL,↓ssM,aa,ssU,Go.Sx.LV.undef,Go.undef,ssR,u]
theorem zS (v x:Wv) (hv:v.Ok) (hx:x.Ok) (H:Heap) (nx:Nat):Ω 44 [.p (x.pv false),.p (.imm (v.cells false) 0)] H nx=some (.bool (x.und v),[],[]):=by
 have u:=o9 x v hx hv
 generalize x.und v=b at*
 simp only [Wv.pv,Wv.cells] at u ⊢
 refine au (ir:=ir44) (by kernel_rfl) ?_;simp +contextual (maxSteps:=1000000) [ir44,ssL,↓ssM,aa,ssU,Go.Sx.LV.undef,Go.undef,ssR,u]
theorem Ab {g:Nat} {c:PV} {q:Wv→Bool} {L:List Wv} (h30:L.length<2^30) (hg : ∀ v∈L,∀ H nx,Ω g [.p (v.pv false),.p c] H nx=some (.bool (q v),[],[])):
  (L.filter (fun v => !q v)=L∧∀ (H:Heap) (nx id cp:Nat) (ex:Bool),H id=some (.cells (rowL L))→id<nx→Ω 43 [.arr id 0 L.length 4 cp ex,.fn g [] [.p c]] H nx=some (.arr id 0 L.length 4 cp ex,[],[])) ∨
  ∃ R,(L.filter fun v => !q v).length+R.length=L.length∧∀ (H:Heap) (nx id cp:Nat) (ex:Bool),H id=some (.cells (rowL L))→id<nx→Ω 43 [.arr id 0 L.length 4 cp ex,.fn g [] [.p c]] H nx=
   some (.arr id 0 (L.filter fun v => !q v).length 4 cp ex,[(id,some (.cells (rowL (L.filter fun v => !q v)++rowL R)))],[]):=by
 cases hf:fix q L 0 with
 | none=>exact .inl ⟨m9 hf,fun H nx id cp ex hL hid=>r7 hL hid h30 hg hf⟩
 | some r=>
  right
  obtain ⟨i,rfl,h2,h3⟩:=pQ hf
  rw [Nat.zero_add] at hf
  obtain ⟨d1,d2,d3⟩:=pB (keep:=fun v => !q v) (L.length-(i+1)) L i (i+1) (by omega) (by omega)
  have hk:(dlp (fun v => !q v) (L.length-(i+1)) L i (i+1)).2=(L.filter fun v => !q v).length:=by
   rw [h3,d1,List.length_append,List.length_take];omega
  refine ⟨List.replicate (L.length-(L.filter fun v => !q v).length) zv,?_,fun H nx id cp ex hL hid => ?_⟩
  ·have:=List.length_filter_le (fun v => !q v) L
   rw [List.length_replicate];omega
  ·have h:=r9 (cp:=cp) (ex:=ex) hL hid rfl h30 hg hf h2
   rw [d3,←h3,bh,hk] at h
   exact h
theorem sY (L:List Wv) (w:Wv) (h30:L.length<2^30) (hs:Srt Wv.bytes L) (hL : ∀ v∈L,v.Ok) (hw:w.Ok) (hr:w.right=true) (h:(L.any (fun v=>v.bytes==w.bytes)||L.any fun v=>w.und v)=true) (H:Heap) (nx:Nat):
  Ω 11 [.p (setP L),.p (w.pv false)] H nx=some (.p (setP L),[],[]):=by
 have r:=jS w
 have a:=yJ L w h30 hs hL hw
 have cf:=fun H nx=>ox (Rw.slP H nx L) h30 (fun x hx H nx=>xL w x hw (hL x hx) H nx)
 rw [hr] at r a
 generalize (L.any fun v=>v.bytes==w.bytes)=A at*
 generalize (L.any fun v=>w.und v)=B at*
 simp only [setP,Wv.pv,Wv.cells] at r a cf ⊢
 generalize slP L=S at*
 cases A with
 | true=>refine au (ir:=ir11) (by kernel_rfl) ?_;simp +contextual (maxSteps:=1000000) [ir11,ssL,↓ssM,aa,ssU,Go.Sx.LV.undef,Go.undef,ssR,r,a,cf]
 | false=>
  obtain rfl:B=true:=by simpa using h
  refine au (ir:=ir11) (by kernel_rfl) ?_;simp +contextual (maxSteps:=1000000) [ir11,ssL,↓ssM,aa,ssU,Go.Sx.LV.undef,Go.undef,ssR,r,a,cf]
theorem oC {w:Wv} {H:Heap} {nx id2 c2:Nat} {e2:Bool} (h2:H id2=some (.cells w.lv)) (hid2:id2<nx):
  Ω 47 [.p (.s (.slice none 0 0)),.int .i64 0,.arr id2 0 1 4 c2 e2] H nx=some (.arr nx 0 1 4 1 false,[],[some (.cells w.lv)]):=by
 refine (sD rfl).trans ?_
 refine lM (by kernel_rfl) ?_
 show (if (47:Nat)=47 then _ else _)=_
 rw [if_pos rfl]
 show Ωi 47 _ H nx=_
 refine au (ir:=ir47) (by kernel_rfl) ?_
 simp +contextual (maxSteps:=1000000) [ir47,ssL,↓ssM,aa,ssU,Go.Sx.LV.undef,Go.undef,Go.Sx.push,Go.Sx.setObj,Go.Sx.setU,Go.Sx.setAll,Go.Sx.leI_eq,ltF,Go.Sx.ev_clr,Go.Sx.clK_nil,Go.Sx.clK_arr,Go.Sx.ev_cap,Go.Sx.caK_nil,Go.Sx.caK_arr,Go.Sx.ev_copyX,Go.Sx.cxK_arr,Go.Sx.slPart_arr,Go.Sx.slPart_sl,Go.Sx.ev_appZ,Go.Sx.azK_arr,Go.Sx.ev_ovl,Go.Sx.ovK_arr,h2,hid2]
theorem vU (w:Wv) (hw:w.Ok) (hr:w.right=true) (H:Heap) (nx:Nat):Ω 11 [.p (setP []),.p (w.pv false)] H nx=some (.p (setP [w]),[],[]):=by
 have r:=jS w
 have a:=yJ [] w (by decide) trivial (by simp) hw
 have cf:=fun H nx=>ox (g:=42) (c:=.imm (w.cells false) 0) (q:=fun _=>true) (Rw.nil (H:=H) (nx:=nx)) (by decide) (fun x hx H nx=>by cases hx)
 have df:=fun H nx=>tG (g:=44) (c:=.imm (w.cells false) 0) (H:=H) (nx:=nx)
 have bs:=fun H nx=>v5 (w:=w) (Rw.nil (H:=H) (nx:=nx)) (by decide) trivial (by simp) hw
 have ls:=ut
 have ins:=fun (H:Heap) nx id2 h1 h2=>oC (w:=w) (H:=H) (nx:=nx) (id2:=id2) (c2:=1) (e2:=true) h1 h2
 have al:=gU [w]
 rw [hr] at r a
 simp only [lo,Int.natCast_zero,List.any_nil,Bool.false_and] at a cf bs
 rw [show setP [w] = .agg [.sl (w.cells false) 1 4 false] from rfl]
 simp only [setP,ed,Wv.pv,Wv.cells] at r a cf ls df bs ⊢
 refine au (ir:=ir11) (by kernel_rfl) ?_;simp +contextual (maxSteps:=1000000) [ir11,ssL,↓ssM,aa,ssU,Go.Sx.LV.undef,Go.undef,ssR,r,a,cf,ls,df,bs,ins]
theorem vT (L:List Wv) (w:Wv) (h0:L≠[]) (h30:L.length<2^29) (hs:Srt Wv.bytes L) (hL : ∀ v∈L,v.Ok) (hw:w.Ok) (hr:w.right=true) (hA:(L.any fun v=>v.bytes==w.bytes)=false) (hB:(L.any fun v=>w.und v)=false) (H:Heap) (nx:Nat):
  Ω 11 [.p (setP L),.p (w.pv false)] H nx=some (.p (setP (insK Wv.bytes w (L.filter fun x => !x.und w))),[],[]):=by
 have r:=jS w
 have a:=yJ L w (by omega) hs hL hw
 have cf:=fun H nx=>ox (Rw.slP H nx L) (by omega) (fun x hx H nx=>xL w x hw (hL x hx) H nx)
 have ls:=Am L h0 (by omega)
 have df:=Ab (L:=L) (by omega) (fun x hx H nx=>zS w x hw (hL x hx) H nx)
 rw [hA] at a
 rw [hB] at cf
 rw [hr] at r
 have iL:=bn L
 have rL:=fun a s=>bo a s L
 rw [p8]
 have hK : ∀ v∈L.filter (fun x => !x.und w),v.Ok:=fun v hv=>hL v (List.mem_filter.1 hv).1
 have sK:Srt Wv.bytes (L.filter fun x => !x.und w):=hs.filter
 have lK:(L.filter fun x => !x.und w).length≤L.length:=List.length_filter_le _ L
 have hne:(List.take (lo Wv.bytes w.bytes (L.filter fun x => !x.und w)) (L.filter fun x => !x.und w)++w::List.drop (lo Wv.bytes w.bytes (L.filter fun x => !x.und w)) (L.filter fun x => !x.und w))≠[]:=by simp
 have le:=uu (key:=Wv.bytes) w.bytes (L.filter fun x => !x.und w)
 rcases df with ⟨e,df⟩|⟨R,hR,df⟩
 ·rw [e] at le hne ⊢
  generalize hI:L.take (lo Wv.bytes w.bytes L)++w::L.drop (lo Wv.bytes w.bytes L)=I at*
  have lI:I.length=L.length+1:=by rw [←hI];simp;omega
  have bs:=fun (H:Heap) nx id cp ex (h1:H id=some (.cells (rowL L))) (h2:id<nx)=>v5 (w:=w) (Rw.arr (H:=H) (nx:=nx) L [] id cp ex (by rw [List.append_nil];exact h1) h2) (by omega) hs hL hw
  have ins:=fun (H:Heap) nx id id2 h1 h2 h3 h4 h5=>p9 (L:=L) (R:=[]) (w:=w) (H:=H) (nx:=nx) (id:=id) (id2:=id2) (i:=lo Wv.bytes w.bytes L) (cp:=L.length) (c2:=1) (e2:=true) (by rw [cT,List.append_nil];exact h1) h2 h3 h4 h5 le (by simp) (by omega)
  rw [hI] at ins
  simp only [List.drop_nil,cT,List.append_nil] at ins
  have rI:(rowL I).length=(L.length+1)*4:=by rw [aN,lI]
  have tI:List.take ((L.length+1)*4) (rowL I)=rowL I:=List.take_of_length_le (by omega)
  have aI:=gU I
  have hI0:I≠[]:=by rw [←hI];simp
  rw [show setP I = .agg [.sl (rowP I) (L.length+1) 4 false] by rw [setP,jX hI0,lI]]
  simp only [setP,Wv.pv,Wv.cells] at r a cf ls df bs ins ⊢
  generalize lo Wv.bytes w.bytes L=d at*
  generalize slP L=S at*
  generalize rowL L=C at*
  generalize rowL I=D at*
  generalize rowP I=E at*
  refine au (ir:=ir11) (by kernel_rfl) ?_;simp +contextual (maxSteps:=1000000) [ir11,ssL,↓ssM,aa,ssU,Go.Sx.LV.undef,Go.undef,ssR,r,a,cf,ls,df,bs,ins,iL,rL,rI,tI,aI]
 ·generalize hKK:(L.filter fun x => !x.und w)=K at*
  generalize hI:K.take (lo Wv.bytes w.bytes K)++w::K.drop (lo Wv.bytes w.bytes K)=I at*
  have lI:I.length=K.length+1:=by rw [←hI];simp;omega
  have bs:=fun (H:Heap) nx id cp ex (h1:H id=some (.cells (rowL K++rowL R))) (h2:id<nx)=>v5 (w:=w) (Rw.arr (H:=H) (nx:=nx) K (rowL R) id cp ex h1 h2) (by omega) sK hK hw
  have ins:=fun (H:Heap) nx id id2 h1 h2 h3 h4 h5=>p9 (L:=K) (R:=R) (w:=w) (H:=H) (nx:=nx) (id:=id) (id2:=id2) (i:=lo Wv.bytes w.bytes K) (cp:=L.length) (c2:=1) (e2:=true) h1 h2 h3 h4 h5 le (by omega) (by omega)
  rw [hI] at ins
  have rI:(rowL I++rowL (R.drop 1)).length=(K.length+1)*4+(R.drop 1).length*4:=by rw [List.length_append,aN,aN,lI]
  have rI':(K.length+1)*4≤(rowL I++rowL (R.drop 1)).length:=by omega
  have tI:List.take ((K.length+1)*4) (rowL I++rowL (R.drop 1))=rowL I:=by
   rw [List.take_append_of_le_length (by rw [aN,lI];omega),List.take_of_length_le (by rw [aN,lI];omega)]
  have iD:=bn (I++R.drop 1)
  have rD:=fun a s=>bo a s (I++R.drop 1)
  have iK:=bn (K++R)
  have rK:=fun a s=>bo a s (K++R)
  rw [bh] at iD iK
  simp only [bh] at rD rK
  have aI:=gU I
  have hI0:I≠[]:=by rw [←hI];simp
  rw [show setP I = .agg [.sl (rowP I) (K.length+1) 4 false] by rw [setP,jX hI0,lI]]
  clear rI
  simp only [setP,Wv.pv,Wv.cells] at r a cf ls df bs ins ⊢
  generalize lo Wv.bytes w.bytes K=d at*
  generalize slP L=S at*
  generalize rowL L=C at*
  generalize rowL K++rowL R=C2 at*
  generalize rowL I++rowL (R.drop 1)=D2 at*
  generalize rowL I=D at*
  generalize rowP I=E at*
  refine au (ir:=ir11) (by kernel_rfl) ?_;simp +contextual (maxSteps:=1000000) [ir11,ssL,↓ssM,aa,ssU,Go.Sx.LV.undef,Go.undef,ssR,r,a,cf,ls,df,bs,ins,iL,rL,iK,rK,iD,rD,rI',tI,aI]
end Go.Proofs.YtoeblkipfdnnlaaGreatDoor
end

section
namespace Go.Proofs.YtoeblkipfdnnlaaGreatDoor
open Go Go.Sx
set_option maxHeartbeats 1000000
structure Ws (L:List Wv):Prop where
 s:Srt Wv.bytes L
 o : ∀ v∈L,v.Ok
 r : ∀ v∈L,v.right=true
abbrev addW:List Wv→Wv→List Wv:=addK Wv.bytes Wv.und
theorem Ws.nil:Ws []:=⟨trivial,by simp,by simp⟩
theorem nj {α:Type} (key:α→List UInt8) (v:α) : ∀ L:List α,(insK key v L).length=L.length+1
 | []=>rfl
 | x::l=>by rw [insK];split<;>simp [nj key v l]
theorem sX (L:List Wv) (w:Wv):(addW L w).length≤L.length+1:=by
 unfold addW addK
 split
 ·omega
 ·rw [nj];have:=List.length_filter_le (fun x => !Wv.und x w) L;omega
theorem Ws.add {L:List Wv} (h:Ws L) {w:Wv} (hw:w.Ok) (hr:w.right=true):Ws (addW L w):=by
 unfold addW addK
 split
 ·exact h
 ·rename_i hc
  simp only [Bool.or_eq_true,not_or,Bool.not_eq_true] at hc
  refine ⟨jE h.s.filter fun x hx e => ?_,fun v hv => ?_,fun v hv => ?_⟩
  ·have:=List.any_eq_false.1 hc.1 x (List.mem_filter.1 hx).1
   simp [e] at this
  ·rcases insK_mem.1 hv with rfl|hv
   ·exact hw
   ·exact h.o v (List.mem_filter.1 hv).1
  ·rcases insK_mem.1 hv with rfl|hv
   ·exact hr
   ·exact h.r v (List.mem_filter.1 hv).1
theorem yu (L:List Wv) (w:Wv) (h30:L.length<2^29) (h:Ws L) (hw:w.Ok) (hr:w.right=true) (H:Heap) (nx:Nat):
  Ω 11 [.p (setP L),.p (w.pv false)] H nx=some (.p (setP (addW L w)),[],[]):=by
 unfold addW addK
 by_cases hc:(L.any (fun v=>v.bytes==w.bytes)||L.any fun v=>w.und v)=true
 ·rw [if_pos hc]
  exact sY L w (by omega) h.s h.o hw hr hc H nx
 ·rw [if_neg hc]
  simp only [Bool.or_eq_true,not_or,Bool.not_eq_true] at hc
  by_cases h0:L=[]
  ·subst h0
   exact vU w hw hr H nx
  ·exact vT L w h0 h30 h.s h.o hw hr hc.1 hc.2 H nx
section
variable {H:Heap} {nx:Nat} {M:List Wv}
end
end Go.Proofs.YtoeblkipfdnnlaaGreatDoor
end

section
namespace Go.Proofs.YtoeblkipfdnnlaaGreatDoor
open Go Go.Sx
set_option maxHeartbeats 1000000
section
variable {F G:List UInt8} {H:Heap} {nx:Nat}
abbrev ltS (F G:List UInt8) (i:Nat):St:=⟨[(0,.p (.sl (bytP F) F.length 1 false)),(1,.p (.sl (bytP G) G.length 1 false)),(5,.int .i64 i)],⟨[],[]⟩⟩
theorem wR {i:Nat} {a:UInt8} (ha:F[i]?=some a) (hb:G[i]?=some a) (h62:F.length<2^62):
  run ⟨Ω,gG,H,nx⟩ ir36_0 (ltS F G i)=some (.normal,ltS F G (i+1)):=by
 obtain ⟨h1,_⟩:=List.getElem?_eq_some_iff.1 ha
 obtain ⟨h2,_⟩:=List.getElem?_eq_some_iff.1 hb
 have a1:=bA ha
 have b1:=bA hb
 have k1 : ¬(F.length:Int)≤i:=by omega
 have k2 : ¬(G.length:Int)≤i:=by omega
 have w1:IntKind.i64.wrap ((i:Int)+1)=(i:Int)+1:=wrap_i64 _ (by omega) (by omega)
 have mp:=aJ F
 have mq:=aJ G
 simp only [ltS]
 generalize bytP F=P at*
 generalize bytP G=Q at*
 generalize byt F=C at*
 generalize byt G=D at*
 simp +contextual (maxSteps:=1000000) [ir36_0,ssL,↓ssM,aa,ssU,Go.Sx.LV.undef,Go.undef,ssR,k1,k2,h1,h2,w1,mp,mq,a1,b1]
theorem wQ {i:Nat} {a b:UInt8} (ha:F[i]?=some a) (hb:G[i]?=some b) (hab:a≠b):
  run ⟨Ω,gG,H,nx⟩ ir36_0 (ltS F G i)=some (.ret,⟨[(4,.bool (decide (a<b)))],⟨[],[]⟩⟩):=by
 obtain ⟨h1,_⟩:=List.getElem?_eq_some_iff.1 ha
 obtain ⟨h2,_⟩:=List.getElem?_eq_some_iff.1 hb
 have a1:=bA ha
 have b1:=bA hb
 have k1 : ¬(F.length:Int)≤i:=by omega
 have k2 : ¬(G.length:Int)≤i:=by omega
 have hne : ¬(a.toNat:Int)=b.toNat:=fun e=>hab (UInt8.toNat_inj.1 (by omega))
 have e:decide (a<b)=!decide ((b.toNat:Int)≤a.toNat):=by
  rw [←decide_not,decide_eq_decide,UInt8.lt_iff_toNat_lt];omega
 have mp:=aJ F
 have mq:=aJ G
 rw [e]
 simp only [ltS]
 generalize bytP F=P at*
 generalize bytP G=Q at*
 generalize byt F=C at*
 generalize byt G=D at*
 simp +contextual (maxSteps:=1000000) [ir36_0,ssL,↓ssM,aa,ssU,Go.Sx.LV.undef,Go.undef,ssR,k1,k2,h1,h2,mp,mq,a1,b1,hne]
theorem uw {i:Nat} (h:F.length≤i∨G.length≤i):
  run ⟨Ω,gG,H,nx⟩ ir36_0 (ltS F G i)=some (.exit 0,⟨[(0,.p (.sl (bytP F) F.length 1 false)),(1,.p (.sl (bytP G) G.length 1 false)),(5,.int .i64 i),(15,.bool false)],⟨[],[]⟩⟩):=by
 simp only [ltS]
 generalize bytP F=P at*
 generalize bytP G=Q at*
 by_cases h1:F.length≤i
 ·have k1:(F.length:Int)≤i:=by omega
  simp +contextual (maxSteps:=1000000) [ir36_0,ssL,↓ssM,aa,ssU,Go.Sx.LV.undef,Go.undef,ssR,k1]
 ·have k1 : ¬(F.length:Int)≤i:=by omega
  have k2:(G.length:Int)≤i:=by omega
  simp +contextual (maxSteps:=1000000) [ir36_0,ssL,↓ssM,aa,ssU,Go.Sx.LV.undef,Go.undef,ssR,k1,k2]
theorem pq (F:List UInt8):blt F []=false:=by cases F<;>simp [blt,cmpL]
theorem ti (b:UInt8) (G:List UInt8):blt [] (b::G)=true:=by simp [blt,cmpL]
theorem tj (a:UInt8) (F G:List UInt8):blt (a::F) (a::G)=blt F G:=by simp [blt,cmpL]
theorem th {a b:UInt8} (h:a≠b) (F G:List UInt8):blt (a::F) (b::G)=decide (a<b):=by
 unfold blt
 rw [cmpL,if_neg h]
 split
 ·rename_i h2;simp [h2]
 ·rename_i h2;simp [h2]
theorem qj (h62:F.length<2^62) : ∀ (m i:Nat),i+m=F.length→i≤G.length →
  run ⟨Ω,gG,H,nx⟩ (.loop ir36_0) (ltS F G i)=some (.ret,⟨[(4,.bool (blt (F.drop i) (G.drop i)))],⟨[],[]⟩⟩) ∨
  ∃ j:Nat,run ⟨Ω,gG,H,nx⟩ (.loop ir36_0) (ltS F G i)=some (.exit 0,⟨[(0,.p (.sl (bytP F) F.length 1 false)),(1,.p (.sl (bytP G) G.length 1 false)),(5,.int .i64 j),(15,.bool false)],⟨[],[]⟩⟩)∧blt (F.drop i) (G.drop i)=!decide ((G.length:Int)≤F.length)
 | 0,i,hi,hg=>by
  obtain rfl:i=F.length:=by omega
  refine .inr ⟨F.length,?_,?_⟩
  ·rw [ay,uw (.inl (Nat.le_refl _))];rfl
  ·rw [List.drop_length]
   by_cases h:G.length≤F.length
   ·rw [List.drop_of_length_le h,pq];simp;omega
   ·rw [List.drop_eq_getElem_cons (show F.length<G.length by omega),ti];simp;omega
 | m+1,i,hi,hg=>by
  have h1:i<F.length:=by omega
  have ha:=List.getElem?_eq_getElem h1
  by_cases h2:i<G.length
  ·have hb:=List.getElem?_eq_getElem h2
   rw [List.drop_eq_getElem_cons h1,List.drop_eq_getElem_cons h2]
   by_cases e:F[i]=G[i]
   ·have hb':G[i]?=some F[i]:=by rw [e];exact hb
    rw [ay,wR ha hb' h62,aE,aA,e,tj]
    exact qj h62 m (i+1) (by omega) (by omega)
   ·left
    rw [ay,wQ ha hb e,th e];rfl
  ·refine .inr ⟨i,?_,?_⟩
   ·rw [ay,uw (.inr (by omega))];rfl
   ·rw [List.drop_of_length_le (show G.length≤i by omega),pq];simp;omega
theorem zm (h62:F.length<2^62):Ω 36 [.p (.sl (bytP F) F.length 1 false),.p (.sl (bytP G) G.length 1 false)] H nx=some (.bool (blt F G),[],[]):=by
 have lp:=qj (H:=H) (nx:=nx) (G:=G) h62 F.length 0 (by omega) (Nat.zero_le _)
 simp only [List.drop_zero,ltS,Int.natCast_zero] at lp
 generalize blt F G=b at*
 generalize bytP F=P at*
 generalize bytP G=Q at*
 rcases lp with lp|⟨j,lp,rfl⟩
 ·refine au (ir:=ir36) (by kernel_rfl) ?_;simp +contextual (maxSteps:=1000000) [ir36,ssL,↓ssM,aa,ssU,Go.Sx.LV.undef,Go.undef,ssR,lp]
 ·refine au (ir:=ir36) (by kernel_rfl) ?_;simp +contextual (maxSteps:=1000000) [ir36,ssL,↓ssM,aa,ssU,Go.Sx.LV.undef,Go.undef,ssR,lp]
end
end Go.Proofs.YtoeblkipfdnnlaaGreatDoor
end

section
namespace Go.Proofs.YtoeblkipfdnnlaaGreatDoor
open Go Go.Sx
set_option maxHeartbeats 1000000
abbrev Wv.rlv (v:Wv):List LV:=[.p v.ev.rv,.p (crdP true v.nm),.p (.s (.bool v.gone))]
abbrev Wv.rcs (v:Wv):List PV:=[v.ev.rv,crdP true v.nm,.s (.bool v.gone)]
def rrP (L:List Wv):List PV:=L.flatMap Wv.rcs
def rrL (L:List Wv):List LV:=L.flatMap Wv.rlv
inductive Rr (H:Heap) (nx:Nat):LV→List Wv→Prop
 | nil:Rr H nx (.p (.s (.slice none 0 0))) []
 | sl (L:List Wv) (fl:Bool):Rr H nx (.p (.sl (rrP L) L.length 3 fl)) L
 | arr (L:List Wv) (R:List LV) (id cp:Nat) (ex:Bool):H id=some (.cells (rrL L++R))→id<nx→Rr H nx (.arr id 0 L.length 3 cp ex) L
theorem qZ (v:Wv) (hv:v.Ok) (H:Heap) (nx:Nat):Ω 21 [.p (.agg v.rcs)] H nx=some (.p (.sl (bytP v.bytes) v.bytes.length 1 false),[],[]):=sQ v true hv H nx
theorem Wv.Ok.len {v:Wv} (h:v.Ok):v.bytes.length<2^30:=by
 unfold Wv.bytes
 have h1:=h.b
 have h2:=jN (evBits v.ev)
 have h3:=gN (pack (evBits v.ev)) (by omega)
 have h4:=jo v.nm h.s
 rw [List.length_append]
 split
 ·simp;omega
 ·rw [List.length_cons];omega
section
variable {L:List Wv} {H:Heap} {nx:Nat} {w:Wv}
end
end Go.Proofs.YtoeblkipfdnnlaaGreatDoor
end

section
namespace Go.Proofs.YtoeblkipfdnnlaaGreatDoor
open Go Go.Sx
set_option maxHeartbeats 1000000
section
variable {L:List Wv} {H:Heap} {nx:Nat} {w:Wv}
end
end Go.Proofs.YtoeblkipfdnnlaaGreatDoor
end

section
namespace Go.Proofs.YtoeblkipfdnnlaaGreatDoor
open Go Go.Sx
set_option maxHeartbeats 2000000
section
variable {L:List Wv} {H:Heap} {nx:Nat} {x:LV} {o:PV} {v w:Wv}
end
end Go.Proofs.YtoeblkipfdnnlaaGreatDoor
end

section
namespace Go.Proofs.YtoeblkipfdnnlaaGreatDoor
open Go Go.Sx
set_option maxHeartbeats 1000000
theorem xa (H:Heap):Ω 39 [.str ⟨#[40,48,44,49,44,48,41]⟩] H 0=some (.tuple [.p (Ev.node 0 (.leaf 1) (.leaf 0)).pv,.int .i64 0],[],[]):=fR (n:=60) (by kernel_rfl)
theorem xb (H:Heap):Ω 39 [.str ⟨#[40,48,44,48,44,49,41]⟩] H 0=some (.tuple [.p (Ev.node 0 (.leaf 0) (.leaf 1)).pv,.int .i64 0],[],[]):=fR (n:=60) (by kernel_rfl)
theorem xd (H:Heap):Ω 39 [.str ⟨#[49]⟩] H 0=some (.tuple [.p (Ev.leaf 1).pv,.int .i64 0],[],[]):=fR (n:=60) (by kernel_rfl)
def va:Wv:=⟨.node 0 (.leaf 1) (.leaf 0),none,false⟩
def vb:Wv:=⟨.node 0 (.leaf 0) (.leaf 1),none,false⟩
def vc:Wv:=⟨.leaf 1,none,false⟩
theorem yr:va.Ok:=⟨by simp [va,Ev.norm,Ev.n],by decide,by decide,by intro s h;cases h⟩
theorem yt:vb.Ok:=⟨by simp [vb,Ev.norm,Ev.n],by decide,by decide,by intro s h;cases h⟩
theorem AK:vc.Ok:=⟨by simp [vc,Ev.norm],by decide,by decide,by intro s h;cases h⟩
theorem sW:(addW (addW [] va) vb).length=2:=by kernel_rfl
theorem vS:(addW (addW (addW [] va) vb) vc).length=1:=by kernel_rfl
theorem yw (H:Heap):Ω 8 [] H 0=some (.bool true,[],[]):=by
 have pa:=xa
 have pb:=xb
 have pc:=xd
 have w1:Ws (addW [] va):=Ws.nil.add yr rfl
 have w2:Ws (addW (addW [] va) vb):=w1.add yt rfl
 have a1:=yu [] va (by decide) Ws.nil yr rfl
 have a2:=yu (addW [] va) vb (by have:=sX [] va;simp at this;omega) w1 yt rfl
 have a3:=yu (addW (addW [] va) vb) vc (by rw [sW];decide) w2 AK rfl
 have l2:=len_ (addW (addW [] va) vb)
 have l3:=len_ (addW (addW (addW [] va) vb) vc)
 rw [sW] at l2
 rw [vS] at l3
 rw [show va.pv false = .agg [.s (.int .u64 0),(Ev.node 0 (.leaf 1) (.leaf 0)).ptr,.s (.slice none 0 0),.s (.bool false)] from rfl] at a1
 rw [show vb.pv false = .agg [.s (.int .u64 0),(Ev.node 0 (.leaf 0) (.leaf 1)).ptr,.s (.slice none 0 0),.s (.bool false)] from rfl] at a2
 rw [show vc.pv false = .agg [.s (.int .u64 1),.s (.pointer none),.s (.slice none 0 0),.s (.bool false)] from rfl] at a3
 simp only [show (Ev.node 0 (.leaf 1) (.leaf 0)).pv = .agg [.s (.int .u64 0),(Ev.node 0 (.leaf 1) (.leaf 0)).ptr] from rfl] at pa
 simp only [show (Ev.node 0 (.leaf 0) (.leaf 1)).pv = .agg [.s (.int .u64 0),(Ev.node 0 (.leaf 0) (.leaf 1)).ptr] from rfl] at pb
 simp only [show (Ev.leaf 1).pv = .agg [.s (.int .u64 1),.s (.pointer none)] from rfl] at pc
 simp only [setP,ed] at a1 a2 a3 l2 l3
 generalize slP (addW (addW (addW [] va) vb) vc)=S3 at*
 generalize slP (addW (addW [] va) vb)=S2 at*
 generalize slP (addW [] va)=S1 at*
 generalize (Ev.node 0 (.leaf 1) (.leaf 0)).ptr=A at*
 generalize (Ev.node 0 (.leaf 0) (.leaf 1)).ptr=B at*
 refine au (ir:=ir8) (by kernel_rfl) ?_;simp +contextual (maxSteps:=1000000) [ir8,ssL,↓ssM,aa,ssU,Go.Sx.LV.undef,Go.undef,ssR,pa,pb,pc,a1,a2,a3,l2,l3]
end Go.Proofs.YtoeblkipfdnnlaaGreatDoor
end

section
namespace Go.Sx
open Go
def cont (b:UInt8):Bool:=decide (128≤b.toNat)&&decide (b.toNat≤191)
def gud (least x n:Nat):Option (Nat × Nat):=if x<least∨1114111<x∨(55296≤x∧x<57344) then none else some (x,n)
def sgn:List UInt8→Option (Nat × Nat)
 | []=>none
 | a::r=>
  if a.toNat<128 then some (a.toNat,1)
  else if 192≤a.toNat∧a.toNat<224 then (match r with
   | b::_=>if cont b then gud 128 ((a.toNat-192)*64+(b.toNat-128)) 2 else none
   | _=>none)
  else if 224≤a.toNat∧a.toNat<240 then (match r with
   | b::c::_=>if cont b&&cont c then gud 2048 (((a.toNat-224)*64+(b.toNat-128))*64+(c.toNat-128)) 3 else none
   | _=>none)
  else if 240≤a.toNat∧a.toNat<248 then (match r with
   | b::c::d::_=>if cont b&&cont c&&cont d then gud 65536 ((((a.toNat-240)*64+(b.toNat-128))*64+(c.toNat-128))*64+(d.toNat-128)) 4 else none
   | _=>none)
  else none
theorem uc (l:List UInt8) (j:Nat):(⟨l.toArray⟩:ByteArray).get! j=(l[j]?).getD 0:=by
 simp only [ByteArray.get!]
 rw [Array.getElem!_eq_getD,Array.getD_eq_getD_getElem?]
 simp only [List.getElem?_toArray]
 cases l[j]?<;>rfl
theorem v9 (b:UInt8):(b.toNat/64==2)=cont b:=by
 have:=b.toNat_lt
 rw [Bool.eq_iff_iff]
 simp only [cont,beq_iff_eq,Bool.and_eq_true,decide_eq_true_eq]
 omega
theorem vK (c:Nat):Utf8.valid c=!(decide (1114111<c)||(decide (55296≤c)&&decide (c<57344))):=by
 rw [Bool.eq_iff_iff]
 simp [Utf8.valid]
 omega
theorem og (c:Nat):(Utf8.valid c=true) = ¬(1114111<c∨(55296≤c∧c<57344)):=by
 rw [vK]
 apply propext
 simp
 omega
def decR (r:List UInt8):Nat × Nat:=
 let at' (k:Nat):Nat:=((r[k]?).getD 0).toNat
 let cn (k:Nat):Bool:=decide (k<r.length)&&cont ((r[k]?).getD 0)
 if at' 0<128 then (at' 0,1)
 else if at' 0/32==6&&cn 1 then
  (if (at' 0%32)*64+at' 1%64≥128 then ((at' 0%32)*64+at' 1%64,2) else (65533,1))
 else if at' 0/16==14&&cn 1&&cn 2 then
  (if (at' 0%16)*4096+(at' 1%64)*64+at' 2%64≥2048&&Utf8.valid ((at' 0%16)*4096+(at' 1%64)*64+at' 2%64:Nat) then ((at' 0%16)*4096+(at' 1%64)*64+at' 2%64,3) else (65533,1))
 else if at' 0/8==30&&cn 1&&cn 2&&cn 3 then
  (if (at' 0%8)*262144+(at' 1%64)*4096+(at' 2%64)*64+at' 3%64≥65536&&Utf8.valid ((at' 0%8)*262144+(at' 1%64)*4096+(at' 2%64)*64+at' 3%64:Nat) then ((at' 0%8)*262144+(at' 1%64)*4096+(at' 2%64)*64+at' 3%64,4) else (65533,1))
 else (65533,1)
theorem tF (l:List UInt8) (i:Nat):Utf8.decode ⟨l.toArray⟩ i=decR (l.drop i):=by
 have e : ∀ k,((⟨l.toArray⟩:ByteArray).get! (i+k)).toNat=(((l.drop i)[k]?).getD 0).toNat:=fun k=>by rw [uc,List.getElem?_drop]
 have c : ∀ k,(decide (i+k<(⟨l.toArray⟩:ByteArray).size)&&(((l.drop i)[k]?).getD 0).toNat/64==2)=(decide (k<(l.drop i).length)&&cont (((l.drop i)[k]?).getD 0)):=fun k=>by
  rw [←v9]
  congr 1
  rw [List.length_drop]
  show decide (i+k<l.length)=_
  rw [decide_eq_decide];omega
 unfold Utf8.decode decR
 simp only [e,c]
 rfl
theorem oB {least x n:Nat} : (match gud least x n with
  | some y=>y
  | none=>(65533,1))=if (decide (x≥least)&&Utf8.valid (x:Nat))=true then (x,n) else (65533,1):=by
 have hv:=og x
 unfold gud
 by_cases h:x<least∨1114111<x∨(55296≤x∧x<57344)
 ·rw [if_pos h,if_neg]
  rw [Bool.and_eq_true,decide_eq_true_eq,hv];omega
 ·rw [if_neg h,if_pos]
  rw [Bool.and_eq_true,decide_eq_true_eq,hv];omega
theorem dF {b:UInt8} (h:cont b=true):b.toNat%64=b.toNat-128∧128≤b.toNat∧b.toNat≤191:=by
 simp only [cont,Bool.and_eq_true,decide_eq_true_eq] at h
 omega
theorem tE : ∀ (r:List UInt8),r≠[]→decR r=(match sgn r with
  | some x=>x
  | none=>(65533,1))
 | [],h=>absurd rfl h
 | a::r,_=>by
  have ha:=a.toNat_lt
  have b6:(a.toNat/32==6)=decide (192≤a.toNat∧a.toNat<224):=by rw [Bool.eq_iff_iff];simp;omega
  have b14:(a.toNat/16==14)=decide (224≤a.toNat∧a.toNat<240):=by rw [Bool.eq_iff_iff];simp;omega
  have b30:(a.toNat/8==30)=decide (240≤a.toNat∧a.toNat<248):=by rw [Bool.eq_iff_iff];simp;omega
  unfold decR sgn
  simp only [List.getElem?_cons_zero,Option.getD_some,b6,b14,b30]
  by_cases h1:a.toNat<128
  ·simp only [if_pos h1]
  simp only [if_neg h1]
  by_cases h2:192≤a.toNat∧a.toNat<224
  ·have n3 : ¬(224≤a.toNat∧a.toNat<240):=by omega
   have n4 : ¬(240≤a.toNat∧a.toNat<248):=by omega
   simp only [h2,n3,n4,and_self,decide_true,decide_false,Bool.true_and,Bool.false_and,if_true,if_false,Bool.false_eq_true]
   match r with
   | []=>rfl
   | b::r=>
    simp only [List.getElem?_cons_succ,List.getElem?_cons_zero,Option.getD_some,List.length_cons,show 1<r.length+1+1 by omega,decide_true,Bool.true_and]
    by_cases hb:cont b=true
    ·obtain ⟨e1,e2,e3⟩:=dF hb
     have e4:a.toNat%32=a.toNat-192:=by omega
     have:Utf8.valid ((a.toNat-192)*64+(b.toNat-128):Nat)=true:=by rw [og];omega
     simp only [hb,and_self,decide_true,Bool.and_self,if_true]
     rw [oB]
     simp only [e1,e4,this,Bool.and_true,decide_eq_true_eq]
    ·simp [hb]
  by_cases h3:224≤a.toNat∧a.toNat<240
  ·have n4 : ¬(240≤a.toNat∧a.toNat<248):=by omega
   simp only [h2,h3,n4,and_self,decide_true,decide_false,Bool.true_and,Bool.false_and,if_true,if_false,Bool.false_eq_true]
   match r with
   | []=>rfl
   | [b]=>simp
   | b::c::r=>
    simp only [List.getElem?_cons_succ,List.getElem?_cons_zero,Option.getD_some,List.length_cons,show 1<r.length+1+1+1 by omega,show 2<r.length+1+1+1 by omega,decide_true,Bool.true_and]
    by_cases hb:(cont b&&cont c)=true
    ·simp only [Bool.and_eq_true] at hb
     obtain ⟨e1,e2,e3⟩:=dF hb.1
     obtain ⟨f1,f2,f3⟩:=dF hb.2
     have e4:(a.toNat%16)*4096+(b.toNat%64)*64+c.toNat%64=((a.toNat-224)*64+(b.toNat-128))*64+(c.toNat-128):=by omega
     simp only [hb.1,hb.2,and_self,decide_true,Bool.and_self,if_true]
     rw [oB]
     simp only [e4]
    ·have:(cont b&&cont c)=false:=by simpa using hb
     simp [this]
  by_cases h4:240≤a.toNat∧a.toNat<248
  ·simp only [h2,h3,h4,and_self,decide_true,decide_false,Bool.true_and,Bool.false_and,if_true,if_false,Bool.false_eq_true]
   match r with
   | []=>rfl
   | [b]=>simp
   | [b,c]=>simp
   | b::c::d::r=>
    simp only [List.getElem?_cons_succ,List.getElem?_cons_zero,Option.getD_some,List.length_cons,show 1<r.length+1+1+1+1 by omega,show 2<r.length+1+1+1+1 by omega,show 3<r.length+1+1+1+1 by omega,decide_true,Bool.true_and]
    by_cases hb:(cont b&&cont c&&cont d)=true
    ·simp only [Bool.and_eq_true] at hb
     obtain ⟨e1,e2,e3⟩:=dF hb.1.1
     obtain ⟨f1,f2,f3⟩:=dF hb.1.2
     obtain ⟨g1,g2,g3⟩:=dF hb.2
     have e4:(a.toNat%8)*262144+(b.toNat%64)*4096+(c.toNat%64)*64+d.toNat%64=(((a.toNat-240)*64+(b.toNat-128))*64+(c.toNat-128))*64+(d.toNat-128):=by omega
     simp only [hb.1.1,hb.1.2,hb.2,and_self,decide_true,Bool.and_self,if_true]
     rw [oB]
     simp only [e4]
    ·have:(cont b&&cont c&&cont d)=false:=by simpa using hb
     simp [this]
  simp only [h2,h3,h4,decide_false,Bool.false_and,if_false,Bool.false_eq_true]
theorem we (l:List UInt8) (i:Nat) (hi:i<l.length):Utf8.decode ⟨l.toArray⟩ i=(match sgn (l.drop i) with
  | some x=>x
  | none=>(65533,1)):=by
 rw [tF,tE]
 intro e
 have:=congrArg List.length e
 rw [List.length_drop,List.length_nil] at this
 omega
end Go.Sx
end

section
namespace Go.Sx
open Go
def acc (a:Nat):Option (Nat × Nat × Nat):=
 if 194≤a∧a≤223 then some (2,128,191) else if a=224 then some (3,160,191) else if a=237 then some (3,128,159) else if 225≤a∧a≤239 then some (3,128,191)
 else if a=240 then some (4,144,191) else if a=244 then some (4,128,143) else if 241≤a∧a≤243 then some (4,128,191) else none
def restOk (n lo hi:Nat) (r:List UInt8):Bool:=match n,r with
 | 2,b::_=>decide (lo≤b.toNat)&&decide (b.toNat≤hi)
 | 3,b::c::_=>decide (lo≤b.toNat)&&decide (b.toNat≤hi)&&cont c
 | 4,b::c::d::_=>decide (lo≤b.toNat)&&decide (b.toNat≤hi)&&cont c&&cont d
 | _,_=>false
def accOk (a:Nat) (r:List UInt8):Option Nat:=match acc a with
 | some (n,lo,hi)=>if restOk n lo hi r=true then some n else none
 | none=>none
theorem eC (least x n:Nat):(gud least x n).map (·.2)=if x<least∨1114111<x∨(55296≤x∧x<57344) then none else some n:=by
 unfold gud;split<;>rfl
theorem vy (a:UInt8) (r:List UInt8) (ha : ¬a.toNat<128):(sgn (a::r)).map (·.2)=accOk a.toNat r:=by
 have h8:=a.toNat_lt
 unfold sgn accOk
 dsimp only
 rw [if_neg ha]
 by_cases h2:192≤a.toNat∧a.toNat<224
 ·rw [if_pos h2]
  by_cases h:194≤a.toNat
  ·have e:acc a.toNat=some (2,128,191):=by unfold acc;rw [if_pos (by omega)]
   rw [e]
   match r with
   | []=>rfl
   | b::r=>
    simp only [restOk,cont,Bool.and_eq_true,decide_eq_true_eq]
    by_cases hb:128≤b.toNat∧b.toNat≤191
    ·rw [if_pos hb,if_pos hb,eC,if_neg (by omega)]
    ·rw [if_neg hb,if_neg hb];rfl
  ·have e:acc a.toNat=none:=by unfold acc;repeat rw [if_neg (by omega)]
   rw [e]
   match r with
   | []=>rfl
   | b::r=>
    simp only [cont,Bool.and_eq_true,decide_eq_true_eq]
    by_cases hb:128≤b.toNat∧b.toNat≤191
    ·rw [if_pos hb,eC,if_pos (by omega)]
    ·rw [if_neg hb];rfl
 rw [if_neg h2]
 by_cases h3:224≤a.toNat∧a.toNat<240
 ·rw [if_pos h3]
  have e:acc a.toNat=some (3,if a.toNat=224 then 160 else 128,if a.toNat=237 then 159 else 191):=by
   unfold acc
   rw [if_neg (by omega)]
   by_cases q:a.toNat=224
   ·rw [if_pos q,if_pos q,if_neg (by omega)]
   ·rw [if_neg q,if_neg q]
    by_cases q2:a.toNat=237
    ·rw [if_pos q2,if_pos q2]
    ·rw [if_neg q2,if_neg q2,if_pos (by omega)]
  rw [e]
  match r with
  | []=>rfl
  | [b]=>rfl
  | b::c::r=>
   simp only [restOk,cont,Bool.and_eq_true,decide_eq_true_eq]
   by_cases hb:(128≤b.toNat∧b.toNat≤191)∧(128≤c.toNat∧c.toNat≤191)
   ·rw [if_pos hb,eC]
    by_cases q:a.toNat=224<;>by_cases q2:a.toNat=237<;>simp only [q,q2,if_true,if_false,Nat.reduceEqDiff]
    ·omega
    ·by_cases q3:160≤b.toNat
     ·rw [if_neg (by omega),if_pos (by omega)]
     ·rw [if_pos (by omega),if_neg (by omega)]
    ·by_cases q3:b.toNat≤159
     ·rw [if_neg (by omega),if_pos (by omega)]
     ·rw [if_pos (by omega),if_neg (by omega)]
    ·rw [if_neg (by omega),if_pos (by omega)]
   ·rw [if_neg hb,if_neg]
    ·rfl
    ·split<;>split<;>omega
 rw [if_neg h3]
 by_cases h4:240≤a.toNat∧a.toNat<248
 ·rw [if_pos h4]
  by_cases h5:a.toNat≤244
  ·have e:acc a.toNat=some (4,if a.toNat=240 then 144 else 128,if a.toNat=244 then 143 else 191):=by
    unfold acc
    rw [if_neg (by omega),if_neg (by omega),if_neg (by omega),if_neg (by omega)]
    by_cases q:a.toNat=240
    ·rw [if_pos q,if_pos q,if_neg (by omega)]
    ·rw [if_neg q,if_neg q]
     by_cases q2:a.toNat=244
     ·rw [if_pos q2,if_pos q2]
     ·rw [if_neg q2,if_neg q2,if_pos (by omega)]
   rw [e]
   match r with
   | []=>rfl
   | [b]=>rfl
   | [b,c]=>rfl
   | b::c::d::r=>
    simp only [restOk,cont,Bool.and_eq_true,decide_eq_true_eq]
    by_cases hb:((128≤b.toNat∧b.toNat≤191)∧(128≤c.toNat∧c.toNat≤191))∧(128≤d.toNat∧d.toNat≤191)
    ·rw [if_pos hb,eC]
     by_cases q:a.toNat=240<;>by_cases q2:a.toNat=244<;>simp only [q,q2,if_true,if_false,Nat.reduceEqDiff]
     ·omega
     ·by_cases q3:144≤b.toNat
      ·rw [if_neg (by omega),if_pos (by omega)]
      ·rw [if_pos (by omega),if_neg (by omega)]
     ·by_cases q3:b.toNat≤143
      ·rw [if_neg (by omega),if_pos (by omega)]
      ·rw [if_pos (by omega),if_neg (by omega)]
     ·rw [if_neg (by omega),if_pos (by omega)]
    ·rw [if_neg hb,if_neg]
     ·rfl
     ·split<;>split<;>omega
  ·have e:acc a.toNat=none:=by unfold acc;repeat rw [if_neg (by omega)]
   rw [e]
   match r with
   | []=>rfl
   | [b]=>rfl
   | [b,c]=>rfl
   | b::c::d::r=>
    simp only [cont,Bool.and_eq_true,decide_eq_true_eq]
    by_cases hb:((128≤b.toNat∧b.toNat≤191)∧(128≤c.toNat∧c.toNat≤191))∧(128≤d.toNat∧d.toNat≤191)
    ·rw [if_pos hb,eC,if_pos (by omega)]
    ·rw [if_neg hb];rfl
 ·rw [if_neg h4]
  have e:acc a.toNat=none:=by unfold acc;repeat rw [if_neg (by omega)]
  rw [e];rfl
theorem uh {least x n y k:Nat} (h:gud least x n=some (y,k)):k=n:=by
 unfold gud at h
 split at h
 ·cases h
 ·simp only [Option.some.injEq,Prod.mk.injEq] at h;exact h.2.symm
theorem rp : ∀ {l:List UInt8} {x k:Nat},sgn l=some (x,k)→1≤k∧k≤l.length
 | [],x,k,h=>by cases h
 | a::r,x,k,h=>by
  unfold sgn at h
  dsimp only at h
  split at h
  ·simp only [Option.some.injEq,Prod.mk.injEq] at h;obtain ⟨_,rfl⟩:=h;simp
  split at h
  ·split at h
   ·split at h
    ·have:=uh h;subst this;simp
    ·cases h
   ·cases h
  split at h
  ·split at h
   ·split at h
    ·have:=uh h;subst this;simp
    ·cases h
   ·cases h
  split at h
  ·split at h
   ·split at h
    ·have:=uh h;subst this;simp
    ·cases h
   ·cases h
  ·cases h
def valN:Nat→List UInt8→Bool
 | _,[]=>true
 | 0,_::_=>false
 | n+1,a::r=>match sgn (a::r) with
  | some (_,k)=>valN n ((a::r).drop k)
  | none=>false
end Go.Sx
end

section
namespace Go.Proofs.YtoeblkipfdnnlaaGreatDoor
open Go Go.Sx
set_option maxHeartbeats 1000000
def contN:Nat→Nat→List UInt8→Option Nat
 | 0,x,_=>some x
 | _+1,_,[]=>none
 | k+1,x,b::r=>if cont b then contN k (64*x+b.toNat-128) r else none
theorem bH {b:UInt8} (h:cont b=true):128≤b.toNat∧b.toNat≤191:=by simpa [cont] using h
theorem yp (a:UInt8) (r:List UInt8):sgn (a::r)=if a.toNat<128 then some (a.toNat,1)
  else if 192≤a.toNat∧a.toNat<224 then (contN 1 (a.toNat-192) r).bind fun x=>gud 128 x 2
  else if 224≤a.toNat∧a.toNat<240 then (contN 2 (a.toNat-224) r).bind fun x=>gud 2048 x 3
  else if 240≤a.toNat∧a.toNat<248 then (contN 3 (a.toNat-240) r).bind fun x=>gud 65536 x 4
  else none:=by
 unfold sgn
 dsimp only
 split
 ·rfl
 ·split
  ·match r with
   | []=>rfl
   | b::_=>
    by_cases h:cont b
    ·have:=bH h
     simp only [contN,h,if_true,Option.bind_some]
     exact congrArg (fun x=>gud 128 x 2) (by omega)
    ·simp [contN,h]
  ·split
   ·match r with
    | []=>rfl
    | [b]=>by_cases h:cont b<;>simp [contN,h]
    | b::c::_=>
     by_cases h:cont b
     ·by_cases h2:cont c
      ·have:=bH h
       have:=bH h2
       simp only [contN,h,h2,Bool.and_self,if_true,Option.bind_some]
       exact congrArg (fun x=>gud 2048 x 3) (by omega)
      ·simp [contN,h,h2]
     ·simp [contN,h]
   ·split
    ·match r with
     | []=>rfl
     | [b]=>by_cases h:cont b<;>simp [contN,h]
     | [b,c]=>by_cases h:cont b<;>by_cases h2:cont c<;>simp [contN,h,h2]
     | b::c::d::_=>
      by_cases h:cont b
      ·by_cases h2:cont c
       ·by_cases h3:cont d
        ·have:=bH h
         have:=bH h2
         have:=bH h3
         simp only [contN,h,h2,h3,Bool.and_self,if_true,Option.bind_some]
         exact congrArg (fun x=>gud 65536 x 4) (by omega)
        ·simp [contN,h,h2,h3]
       ·simp [contN,h,h2]
      ·simp [contN,h]
    ·rfl
theorem gq : ∀ (k x i:Nat) (r:List UInt8) (y:Nat),x<2^(6*i)→contN k x r=some y→y<2^(6*(i+k))
 | 0,x,i,r,y,h,e=>by cases e;exact h
 | k+1,x,i,[],y,h,e=>by cases e
 | k+1,x,i,b::r,y,h,e=>by
  rw [contN] at e
  split at e
  ·rename_i hb
   have:=bH hb
   have hp:2^(6*(i+1))=2^(6*i)*64:=by rw [Nat.mul_add,Nat.pow_add]
   have:=gq k _ (i+1) r y (by omega) e
   rwa [show i+1+k=i+(k+1) by omega] at this
  ·cases e
theorem kU (s:List UInt8) (at' n least:Nat) (hs:s.length<2^31) (H:Heap) (nx:Nat) : ∀ (k x i:Nat) (r:List UInt8),s.drop (at'+i)=r→n=i+k→n≤4→at'<2^31→x<2^(6*i) →
  run ⟨Ω,gG,H,nx⟩ (.loop ir155_0) ⟨[(0,.str ⟨s.toArray⟩),(1,.int .i64 at'),(8,.int .i64 n),(9,.int .i64 least),(10,.int .i64 x),(11,.int .i64 i)],⟨[],[]⟩⟩=
   match contN k x r with
   | none=>some (.ret,⟨[(4,.int .i64 0),(5,.int .i64 1),(6,.bool false)],⟨[],[]⟩⟩)
   | some y=>some (.exit 1,⟨[(8,.int .i64 n),(9,.int .i64 least),(10,.int .i64 y)],⟨[],[]⟩⟩)
 | 0,x,i,r,hr,hn,hi,ha,hx=>by
  rw [ay]
  have h1 : ¬i<n:=by omega
  have h2:n≤i:=by omega
  simp +contextual (maxSteps:=1000000) [ir155_0,ssL,↓ssM,aa,ssU,Go.Sx.LV.undef,Go.undef,ssR,h1,h2,contN]
 | k+1,x,i,[],hr,hn,hi,ha,hx=>by
  rw [ay]
  have h1:i<n:=by omega
  have h2 : ¬n≤i:=by omega
  have sz:=aS s
  have h3:s.length≤at'+i:=by simpa using hr
  have a1:IntKind.i64.wrap ((at':Int)+(i:Int))=((at'+i:Nat):Int):=by rw [wrap_i64 _ (by omega) (by omega)];omega
  generalize at'+i=q at*
  simp +contextual (maxSteps:=1000000) [ir155_0,ssL,↓ssM,aa,ssU,Go.Sx.LV.undef,Go.undef,ssR,h1,h2,contN,sz,a1,h3]
 | k+1,x,i,b::r,hr,hn,hi,ha,hx=>by
  rw [ay]
  have h1:i<n:=by omega
  have h2 : ¬n≤i:=by omega
  have sz:=aS s
  have h3:at'+i<s.length:=by
   rcases Nat.lt_or_ge (at'+i) s.length with h|h
   ·exact h
   ·rw [List.drop_of_length_le h] at hr;cases hr
  have h3' : ¬s.length≤at'+i:=by omega
  have hg:s[at'+i]?=some b:=by rw [←List.head?_drop,hr];rfl
  have hr':s.drop (at'+(i+1))=r:=by rw [←Nat.add_assoc,←List.drop_drop,hr];rfl
  have a1:IntKind.i64.wrap ((at':Int)+(i:Int))=((at'+i:Nat):Int):=by rw [wrap_i64 _ (by omega) (by omega)];omega
  have hx2:x<2^24:=Nat.lt_of_lt_of_le hx (Nat.pow_le_pow_right (by decide) (by omega))
  have hb:=b.toNat_lt
  have a2:IntKind.i64.wrap (64*(x:Int))=64*(x:Int):=wrap_i64 _ (by omega) (by omega)
  have a3:IntKind.i64.wrap (b.toNat:Int)=(b.toNat:Int):=wrap_i64 _ (by omega) (by omega)
  have a4:IntKind.i64.wrap (64*(x:Int)+(b.toNat:Int))=64*(x:Int)+(b.toNat:Int):=wrap_i64 _ (by omega) (by omega)
  have a6:IntKind.i64.wrap ((i:Int)+1)=((i+1:Nat):Int):=by rw [wrap_i64 _ (by omega) (by omega)];omega
  have c4:(!decide ((128:Int)≤b.toNat)||!decide ((b.toNat:Int)≤191))=!cont b:=by
   rw [Bool.eq_iff_iff]
   simp [cont]
   omega
  clear h3
  by_cases c3:cont b=true
  ·have:=bH c3
   have a5:IntKind.i64.wrap (64*(x:Int)+(b.toNat:Int)-128)=((64*x+b.toNat-128:Nat):Int):=by rw [wrap_i64 _ (by omega) (by omega)];omega
   have hp:2^(6*(i+1))=2^(6*i)*64:=by rw [Nat.mul_add,Nat.pow_add]
   have ih:=kU s at' n least hs H nx k (64*x+b.toNat-128) (i+1) r hr' (by omega) hi ha (by omega)
   rw [contN,if_pos c3]
   clear hr' hr hx
   generalize at'+i=q at*
   generalize 64*x+b.toNat-128=x' at*
   generalize i+1=i' at*
   generalize IRC.loop ir155_0=LB at*
   simp +contextual (maxSteps:=1000000) [ir155_0,ssL,↓ssM,aa,ssU,Go.Sx.LV.undef,Go.undef,ssR,h1,h2,sz,a1,h3',hg,c3,c4,a2,a3,a4,a5,a6]
   simpa using ih
  ·rw [contN,if_neg c3]
   generalize at'+i=q at*
   generalize IRC.loop ir155_0=LB at*
   simp +contextual (maxSteps:=1000000) [ir155_0,ssL,↓ssM,aa,ssU,Go.Sx.LV.undef,Go.undef,ssR,h1,h2,sz,a1,h3',hg,c3,c4]
def sgnV (r:List UInt8):LV:=match sgn r with
 | some (x,k)=>.tuple [.int .i64 x,.int .i64 k,.bool true]
 | none=>.tuple [.int .i64 0,.int .i64 1,.bool false]
theorem jA (least n:Nat) (least' n':Int) (h1:least'=least) (h2:n'=n) (y:Nat):
  iteK (!decide (least'≤(y:Int))||!decide ((y:Int)≤1114111)||decide ((55296:Int)≤y)&&!decide ((57344:Int)≤y))
   (some (LV.tuple [.int .i64 0,.int .i64 1,.bool false])) (some (.tuple [.int .i64 y,.int .i64 n',.bool true]))=
  some (match gud least y n with
   | some (x,k)=>.tuple [.int .i64 x,.int .i64 k,.bool true]
   | none=>.tuple [.int .i64 0,.int .i64 1,.bool false]):=by
 subst h1 h2
 have c:(!decide ((least:Int)≤(y:Int))||!decide ((y:Int)≤1114111)||decide ((55296:Int)≤y)&&!decide ((57344:Int)≤y))=decide (y<least∨1114111<y∨(55296≤y∧y<57344)):=by
  rw [Bool.eq_iff_iff]
  simp only [Bool.or_eq_true,Bool.and_eq_true,decide_eq_true_eq,Bool.not_eq_true',decide_eq_false_iff_not]
  omega
 rw [c]
 unfold gud
 by_cases h:y<least∨1114111<y∨(55296≤y∧y<57344)
 ·rw [if_pos h,decide_eq_true h];rfl
 ·rw [if_neg h,decide_eq_false h];rfl
theorem AH (s:List UInt8) (q:Nat) (hs:s.length<2^31) (hq:q<s.length):Ψ 155 [.str ⟨s.toArray⟩,.int .i64 q] []=some (sgnV (s.drop q)):=by
 obtain ⟨a,r,hr⟩ : ∃ a r,s.drop q=a::r:=by
  cases h:s.drop q with
  | nil=>simp at h;omega
  | cons a r=>exact ⟨a,r,rfl⟩
 have sz:=aS s
 have hg:s[q]?=some a:=by rw [←List.head?_drop,hr];rfl
 have hr':s.drop (q+1)=r:=by rw [←List.drop_drop,hr];rfl
 have ha:=a.toNat_lt
 have a1:IntKind.i64.wrap (a.toNat:Int)=(a.toNat:Int):=wrap_i64 _ (by omega) (by omega)
 rw [hr,sgnV,yp]
 have lp:=fun n least H nx k x h1 h2 h3=>kU s q n least hs H nx k x 1 r hr' h1 h2 (by omega) h3
 clear hr hr' hq sz hs
 by_cases c1:a.toNat<128
 ·have f1 : ¬(128:Int)≤a.toNat:=by omega
  rw [if_pos c1]
  clear lp
  refine aU (ir:=ir155) (by kernel_rfl) ?_;simp +contextual (maxSteps:=1000000) [ir155,ssL,↓ssM,aa,ssU,Go.Sx.LV.undef,Go.undef,ssR,hg,a1,f1]
 ·rw [if_neg c1]
  by_cases c2:192≤a.toNat∧a.toNat<224
  ·rw [if_pos c2]
   have e0 : ¬a.toNat<128:=by omega
   have f1:(128:Int)≤a.toNat:=by omega
   have g1:(192:Int)≤a.toNat:=by omega
   have g2 : ¬(224:Int)≤a.toNat:=by omega
   have a2:IntKind.i64.wrap ((a.toNat:Int)-192)=((a.toNat-192:Nat):Int):=by rw [wrap_i64 _ (by omega) (by omega)];omega
   have l2:=fun H nx=>lp 2 128 H nx 1 (a.toNat-192) (by omega) (by omega) (by omega)
   have hy:=fun y=>gq 1 (a.toNat-192) 1 r y (by omega)
   generalize contN 1 (a.toNat-192) r=o at*
   generalize a.toNat-192=x at*
   clear lp
   rcases o with _|y
   ·simp only [Int.cast_ofNat_Int,Int.natCast_one] at l2
    refine aU (ir:=ir155) (by kernel_rfl) ?_;simp +contextual (maxSteps:=1000000) [ir155,ssL,↓ssM,aa,ssU,Go.Sx.LV.undef,Go.undef,ssR,hg,a1,a2,f1,g1,g2,l2,sgnV]
   ·simp only [Int.cast_ofNat_Int,Int.natCast_one] at l2
    refine aU (ir:=ir155) (by kernel_rfl) ?_;simp +contextual (maxSteps:=1000000) [ir155,ssL,↓ssM,aa,ssU,Go.Sx.LV.undef,Go.undef,ssR,hg,a1,a2,f1,g1,g2,l2]
    exact jA 128 2 _ _ rfl rfl y
  ·rw [if_neg c2]
   by_cases c3:224≤a.toNat∧a.toNat<240
   ·rw [if_pos c3]
    have e0 : ¬a.toNat<128:=by omega
    have f1:(128:Int)≤a.toNat:=by omega
    have k1:(192:Int)≤a.toNat:=by omega
    have g1:(224:Int)≤a.toNat:=by omega
    have g2 : ¬(240:Int)≤a.toNat:=by omega
    have a2:IntKind.i64.wrap ((a.toNat:Int)-224)=((a.toNat-224:Nat):Int):=by rw [wrap_i64 _ (by omega) (by omega)];omega
    have l2:=fun H nx=>lp 3 2048 H nx 2 (a.toNat-224) (by omega) (by omega) (by omega)
    have hy:=fun y=>gq 2 (a.toNat-224) 1 r y (by omega)
    generalize contN 2 (a.toNat-224) r=o at*
    generalize a.toNat-224=x at*
    clear lp
    rcases o with _|y
    ·simp only [Int.cast_ofNat_Int,Int.natCast_one] at l2
     refine aU (ir:=ir155) (by kernel_rfl) ?_;simp +contextual (maxSteps:=1000000) [ir155,ssL,↓ssM,aa,ssU,Go.Sx.LV.undef,Go.undef,ssR,hg,a1,a2,f1,g1,g2,k1,l2,sgnV]
    ·simp only [Int.cast_ofNat_Int,Int.natCast_one] at l2
     refine aU (ir:=ir155) (by kernel_rfl) ?_;simp +contextual (maxSteps:=1000000) [ir155,ssL,↓ssM,aa,ssU,Go.Sx.LV.undef,Go.undef,ssR,hg,a1,a2,f1,g1,g2,k1,l2]
     exact jA 2048 3 _ _ rfl rfl y
   ·rw [if_neg c3]
    by_cases c4:240≤a.toNat∧a.toNat<248
    ·rw [if_pos c4]
     have e0 : ¬a.toNat<128:=by omega
     have f1:(128:Int)≤a.toNat:=by omega
     have k1:(192:Int)≤a.toNat:=by omega
     have k2:(224:Int)≤a.toNat:=by omega
     have g1:(240:Int)≤a.toNat:=by omega
     have g2 : ¬(248:Int)≤a.toNat:=by omega
     have a2:IntKind.i64.wrap ((a.toNat:Int)-240)=((a.toNat-240:Nat):Int):=by rw [wrap_i64 _ (by omega) (by omega)];omega
     have l2:=fun H nx=>lp 4 65536 H nx 3 (a.toNat-240) (by omega) (by omega) (by omega)
     have hy:=fun y=>gq 3 (a.toNat-240) 1 r y (by omega)
     generalize contN 3 (a.toNat-240) r=o at*
     generalize a.toNat-240=x at*
     clear lp
     rcases o with _|y
     ·simp only [Int.cast_ofNat_Int,Int.natCast_one] at l2
      refine aU (ir:=ir155) (by kernel_rfl) ?_;simp +contextual (maxSteps:=1000000) [ir155,ssL,↓ssM,aa,ssU,Go.Sx.LV.undef,Go.undef,ssR,hg,a1,a2,f1,g1,g2,k1,k2,l2,sgnV]
     ·simp only [Int.cast_ofNat_Int,Int.natCast_one] at l2
      refine aU (ir:=ir155) (by kernel_rfl) ?_;simp +contextual (maxSteps:=1000000) [ir155,ssL,↓ssM,aa,ssU,Go.Sx.LV.undef,Go.undef,ssR,hg,a1,a2,f1,g1,g2,k1,k2,l2]
      exact jA 65536 4 _ _ rfl rfl y
    ·rw [if_neg c4]
     clear lp
     have f1:(128:Int)≤a.toNat:=by omega
     by_cases c5:192≤a.toNat
     ·have k1:(192:Int)≤a.toNat:=by omega
      have k2:(224:Int)≤a.toNat:=by omega
      have k3:(240:Int)≤a.toNat:=by omega
      have k4:(248:Int)≤a.toNat:=by omega
      refine aU (ir:=ir155) (by kernel_rfl) ?_;simp +contextual (maxSteps:=1000000) [ir155,ssL,↓ssM,aa,ssU,Go.Sx.LV.undef,Go.undef,ssR,hg,a1,f1,k1,k2,k3,k4]
     ·have k1 : ¬(192:Int)≤a.toNat:=by omega
      have k2 : ¬(224:Int)≤a.toNat:=by omega
      have k3 : ¬(240:Int)≤a.toNat:=by omega
      refine aU (ir:=ir155) (by kernel_rfl) ?_;simp +contextual (maxSteps:=1000000) [ir155,ssL,↓ssM,aa,ssU,Go.Sx.LV.undef,Go.undef,ssR,hg,a1,f1,k1,k2,k3]
def chk:Nat→List UInt8→Bool
 | _,[]=>true
 | 0,_::_=>false
 | m+1,a::r=>match sgn (a::r) with
  | none=>false
  | some (x,k)=>if x<32∨x=127 then false else chk m ((a::r).drop k)
theorem kO (s:List UInt8) (hs:s.length<2^30) (H:Heap) (nx:Nat) : ∀ (m q:Nat),s.length-q≤m→q≤s.length →
  run ⟨Ω,gG,H,nx⟩ (.loop ir127_0) ⟨[(0,.str ⟨s.toArray⟩),(5,.int .i64 q)],⟨[],[]⟩⟩=
   if chk m (s.drop q) then some (.exit 0,⟨[],⟨[],[]⟩⟩) else some (.ret,⟨[(4,.int .i64 7)],⟨[],[]⟩⟩):=fun m q hm hq=>by
 have sz:=aS s
 rw [ay]
 cases hr:s.drop q with
 | nil=>
  have h1:s.length≤q:=by simpa using hr
  have h2 : ¬q<s.length:=by omega
  rw [show chk m []=true by cases m<;>rfl]
  simp +contextual (maxSteps:=1000000) [ir127_0,ssL,↓ssM,aa,ssU,Go.Sx.LV.undef,Go.undef,ssR,sz,h1,h2]
 | cons a r=>
  have h2:q<s.length:=by
   rcases Nat.lt_or_ge q s.length with h|h
   ·exact h
   ·rw [List.drop_of_length_le h] at hr;cases hr
  have h1 : ¬s.length≤q:=by omega
  obtain ⟨m,rfl⟩ : ∃ m',m=m'+1:=⟨m-1,by omega⟩
  have sg:=AH s q (by omega) h2
  rw [hr,sgnV] at sg
  rw [chk]
  cases hg:sgn (a::r) with
  | none=>
   rw [hg] at sg
   generalize IRC.loop ir127_0=LB
   simp +contextual (maxSteps:=1000000) [ir127_0,ssL,↓ssM,aa,ssU,Go.Sx.LV.undef,Go.undef,ssR,sz,h1,h2,sg]
  | some xk=>
   obtain ⟨x,k⟩:=xk
   rw [hg] at sg
   simp only at sg ⊢
   have hp:=rp hg
   rw [←hr,List.length_drop] at hp
   have hd:(a::r).drop k=s.drop (q+k):=by rw [←hr,List.drop_drop]
   have ih:=kO s hs H nx m (q+k) (by omega) (by omega)
   simp only [hd]
   have a1:IntKind.i64.wrap ((q:Int)+(k:Int))=((q+k:Nat):Int):=by rw [wrap_i64 _ (by omega) (by omega)];omega
   have c1:(!decide ((32:Int)≤(x:Int))||decide ((x:Int)=127))=decide (x<32∨x=127):=by
    rw [Bool.eq_iff_iff]
    simp
    omega
   generalize q+k=q' at*
   generalize IRC.loop ir127_0=LB at*
   by_cases c2:x<32∨x=127
   ·have c3:(!decide ((32:Int)≤(x:Int))||decide ((x:Int)=127))=true:=by rw [c1,decide_eq_true c2]
    rw [if_pos c2]
    simp +contextual (maxSteps:=1000000) [ir127_0,ssL,↓ssM,aa,ssU,Go.Sx.LV.undef,Go.undef,ssR,sz,h1,h2,sg,c3]
   ·have c3:(!decide ((32:Int)≤(x:Int))||decide ((x:Int)=127))=false:=by rw [c1,decide_eq_false c2]
    rw [if_neg c2]
    simp +contextual (maxSteps:=1000000) [ir127_0,ssL,↓ssM,aa,ssU,Go.Sx.LV.undef,Go.undef,ssR,sz,h1,h2,sg,c3,a1,ih]
termination_by m=>m
theorem qQ (s:List UInt8) (most:Nat) (hs:s.length<2^30) (hm:most<2^30):Ψ 127 [.str ⟨s.toArray⟩,.int .i64 most] []=some (.int .i64 (if most<s.length then 9 else if chk s.length s then 0 else 7)):=by
 have sz:=aS s
 have lp:=fun H nx=>kO s hs H nx s.length 0 (by omega) (by omega)
 simp only [List.drop_zero,Int.natCast_zero] at lp
 by_cases h1:most<s.length
 ·have h2 : ¬s.length≤most:=by omega
  rw [if_pos h1]
  clear lp
  refine aU (ir:=ir127) (by kernel_rfl) ?_;simp +contextual (maxSteps:=1000000) [ir127,ssL,↓ssM,aa,ssU,Go.Sx.LV.undef,Go.undef,ssR,sz,h1,h2]
 ·have h2:s.length≤most:=by omega
  rw [if_neg h1]
  by_cases h3:chk s.length s=true
  ·simp only [h3,if_true] at lp ⊢
   refine aU (ir:=ir127) (by kernel_rfl) ?_;simp +contextual (maxSteps:=1000000) [ir127,ssL,↓ssM,aa,ssU,Go.Sx.LV.undef,Go.undef,ssR,sz,h1,h2,lp]
  ·simp only [h3,if_false,Bool.false_eq_true] at lp ⊢
   refine aU (ir:=ir127) (by kernel_rfl) ?_;simp +contextual (maxSteps:=1000000) [ir127,ssL,↓ssM,aa,ssU,Go.Sx.LV.undef,Go.undef,ssR,sz,h1,h2,lp]
end Go.Proofs.YtoeblkipfdnnlaaGreatDoor
end

section
namespace Go.Proofs.YtoeblkipfdnnlaaGreatDoor
open Go Go.Sx
set_option maxHeartbeats 1000000
theorem pm (l:List UInt8) : ∀ (k i:Nat) (r:List UInt8),l.length-i=k→ByteArray.toList.loop ⟨l.toArray⟩ i r=r.reverse++l.drop i
 | 0,i,r,h=>by
  rw [ByteArray.toList.loop]
  have hs:(⟨l.toArray⟩:ByteArray).size=l.length:=by simp [ByteArray.size]
  rw [if_neg (by rw [hs];omega),List.drop_of_length_le (by omega),List.append_nil]
 | k+1,i,r,h=>by
  rw [ByteArray.toList.loop]
  have hs:(⟨l.toArray⟩:ByteArray).size=l.length:=by simp [ByteArray.size]
  rw [if_pos (by rw [hs];omega),pm l k (i+1) _ (by omega),List.drop_eq_getElem_cons (show i<l.length by omega)]
  have hg:(⟨l.toArray⟩:ByteArray).get! i=l[i]:=by
   simp only [ByteArray.get!]
   rw [Array.getElem!_eq_getD,Array.getD_eq_getD_getElem?]
   simp [show i<l.length by omega]
  rw [hg];simp
theorem iQ (l:List UInt8):(⟨l.toArray⟩:ByteArray).toList=l:=by
 rw [ByteArray.toList,pm l _ 0 [] rfl];simp
theorem bp (l:List UInt8) (i j:Nat):(⟨l.toArray⟩:ByteArray).extract i j=⟨((l.take j).drop i).toArray⟩:=by
 apply ByteArray.ext
 simp [ByteArray.data_extract,List.drop_take]
theorem xC (a b:List UInt8):(⟨a.toArray⟩:ByteArray)++⟨b.toArray⟩=⟨(a++b).toArray⟩:=by
 apply ByteArray.ext
 simp
def stripS:List UInt8→List UInt8
 | []=>[]
 | a::r=>if a.toNat=32 then stripS r else a::r
def stripE (l:List UInt8):List UInt8:=(stripS l.reverse).reverse
def dbl:List UInt8→Option Nat
 | a::b::r=>if a.toNat=32∧b.toNat=32 then some 0 else (dbl (b::r)).map (· + 1)
 | _=>none
def foldR:Nat→List UInt8→List UInt8
 | 0,l=>l
 | m+1,l=>match dbl (stripE (stripS l)) with
  | none=>stripE (stripS l)
  | some i=>foldR m ((stripE (stripS l)).take i++(stripE (stripS l)).drop (i+1))
theorem cg : ∀ l:List UInt8,(stripS l).length≤l.length
 | []=>Nat.le_refl _
 | a::r=>by rw [stripS];split;exact Nat.le_succ_of_le (cg r);exact Nat.le_refl _
theorem kV : ∀ l:List UInt8,(stripS l).length=l.length→stripS l=l
 | [],_=>rfl
 | a::r,h=>by
  rw [stripS] at h ⊢
  split
  ·rename_i h1
   rw [if_pos h1] at h
   have:=cg r
   simp at h;omega
  ·rfl
theorem fu (l:List UInt8):(stripE l).length≤l.length:=by
 have:=cg l.reverse
 rw [List.length_reverse] at this
 rwa [stripE,List.length_reverse]
theorem sS (l:List UInt8) (h:(stripE l).length=l.length):stripE l=l:=by
 rw [stripE,List.length_reverse,←@List.length_reverse _ l] at h
 rw [stripE,kV _ h,List.reverse_reverse]
theorem oy : ∀ {l:List UInt8} {i:Nat},dbl l=some i→i+1<l.length
 | [],i,h=>by cases h
 | [_],i,h=>by cases h
 | a::b::r,i,h=>by
  rw [dbl] at h
  split at h
  ·cases h;simp
  ·cases hd:dbl (b::r) with
   | none=>rw [hd] at h;cases h
   | some j=>
    rw [hd] at h
    have:=oy hd
    simp at h this ⊢
    omega
theorem jB : ∀ (m:Nat) (l:List UInt8),(foldR m l).length≤(stripE (stripS l)).length∨m=0
 | 0,l=>.inr rfl
 | m+1,l=>by
  left
  rw [foldR]
  split
  ·exact Nat.le_refl _
  ·rename_i i hi
   have:=oy hi
   have hl:((stripE (stripS l)).take i++(stripE (stripS l)).drop (i+1)).length≤(stripE (stripS l)).length:=by simp;omega
   rcases jB m ((stripE (stripS l)).take i++(stripE (stripS l)).drop (i+1)) with h|h
   ·have h1:=fu (stripS ((stripE (stripS l)).take i++(stripE (stripS l)).drop (i+1)))
    have h2:=cg ((stripE (stripS l)).take i++(stripE (stripS l)).drop (i+1))
    omega
   ·subst h;exact hl
theorem t9 {m:Nat} {l:List UInt8} (hm:0<m) (h:foldR m l=l):stripS l=l∧stripE l=l∧dbl l=none:=by
 have h1:=cg l
 have h2:=fu (stripS l)
 have h3:=(jB m l).resolve_right (by omega)
 rw [h] at h3
 have e1:=kV l (by omega)
 rw [e1] at h2 h3
 have e2:=sS l (by omega)
 refine ⟨e1,e2,?_⟩
 obtain ⟨m,rfl⟩ : ∃ k,m=k+1:=⟨m-1,by omega⟩
 rw [foldR,e1,e2] at h
 cases hd:dbl l with
 | none=>rfl
 | some i=>
  rw [hd] at h
  simp only at h
  have:=oy hd
  have hl:(l.take i++l.drop (i+1)).length<l.length:=by simp;omega
  rcases jB m (l.take i++l.drop (i+1)) with h4|h4
  ·have h5:=fu (stripS (l.take i++l.drop (i+1)))
   have h6:=cg (l.take i++l.drop (i+1))
   rw [h] at h4
   omega
  ·subst h4
   rw [foldR] at h
   rw [h] at hl
   omega
theorem pT (H:Heap) (nx:Nat) : ∀ (l:List UInt8),l.length<2^30 →
  run ⟨Ω,gG,H,nx⟩ (.loop ir128_2) ⟨[(0,.str ⟨l.toArray⟩)],⟨[],[]⟩⟩=some (.exit 0,⟨[(0,.str ⟨(stripS l).toArray⟩)],⟨[],[]⟩⟩)
 | [],h=>by
  rw [ay]
  have sz:(⟨#[]⟩:ByteArray).size=0:=rfl
  simp +contextual (maxSteps:=1000000) [ir128_2,ssL,↓ssM,aa,ssU,Go.Sx.LV.undef,Go.undef,ssR,stripS,sz]
 | a::r,h=>by
  rw [ay,stripS]
  have sz:=aS (a::r)
  have hg : ∀ h:0<(a::r).length,(a::r)[0]'h=a:=fun _=>rfl
  have ih:=pT H nx r (by simp at h;omega)
  have e1:((a::r).take (a::r).length).drop 1=r:=by rw [List.take_length];rfl
  have e2:=bp (a::r) 1 (a::r).length
  rw [e1] at e2
  have h0:0<(a::r).length:=by simp
  have h1:1≤(a::r).length:=by simp
  have h2 : ¬(a::r).length=0:=by simp
  have h3 : ¬(a::r).length≤0:=by simp
  generalize a::r=l at*
  generalize IRC.loop ir128_2=LB at*
  by_cases c:a.toNat=32
  ·have c':(a.toNat:Int)=32:=by omega
   rw [if_pos c]
   simp +contextual (maxSteps:=1000000) [ir128_2,ssL,↓ssM,aa,ssU,Go.Sx.LV.undef,Go.undef,ssR,sz,hg,c,c',e2,h0,h1,h2,h3,ih]
  ·have c' : ¬(a.toNat:Int)=32:=by omega
   rw [if_neg c]
   simp +contextual (maxSteps:=1000000) [ir128_2,ssL,↓ssM,aa,ssU,Go.Sx.LV.undef,Go.undef,ssR,sz,hg,c,c',h0,h1,h2,h3]
theorem pS (H:Heap) (nx:Nat) : ∀ (r:List UInt8),r.length<2^30 →
  run ⟨Ω,gG,H,nx⟩ (.loop ir128_1) ⟨[(0,.str ⟨r.reverse.toArray⟩)],⟨[],[]⟩⟩=some (.exit 2,⟨[(0,.str ⟨(stripS r).reverse.toArray⟩)],⟨[],[]⟩⟩)
 | [],h=>by
  rw [ay]
  have sz:(⟨#[]⟩:ByteArray).size=0:=rfl
  simp +contextual (maxSteps:=1000000) [ir128_1,ssL,↓ssM,aa,ssU,Go.Sx.LV.undef,Go.undef,ssR,stripS,sz]
 | a::r,h=>by
  rw [ay,stripS]
  have sz:=aS (a::r).reverse
  have hl:(a::r).reverse.length=r.length+1:=by simp
  rw [hl] at sz
  have hg:(a::r).reverse[r.length]?=some a:=by simp
  have ih:=pS H nx r (by simp at h;omega)
  have e2:=bp (a::r).reverse 0 r.length
  have e1:((a::r).reverse.take r.length).drop 0=r.reverse:=by simp
  rw [e1] at e2
  have a1:IntKind.i64.wrap (((r.length+1:Nat):Int)-1)=(r.length:Int):=by
   simp at h
   rw [wrap_i64 _ (by omega) (by omega)];omega
  have h0 : ¬r.length+1=0:=by omega
  have h3:r.length≤r.length+1:=by omega
  have h4 : ¬((r.length+1:Nat):Int)≤0:=by omega
  have hg' : ∀ h,(a::r).reverse.toArray[r.length]'h=a:=fun h=>by simp
  generalize hl':(a::r).reverse=l at*
  generalize r.length+1=n1 at*
  generalize r.length=n at*
  clear e1 hl
  generalize IRC.loop ir128_1=LB at*
  by_cases c:a.toNat=32
  ·have c':(a.toNat:Int)=32:=by omega
   rw [if_pos c]
   simp +contextual (maxSteps:=1000000) [ir128_1,ssL,↓ssM,aa,ssU,Go.Sx.LV.undef,Go.undef,ssR,sz,hg,c,c',e2,h0,h3,h4,a1,ih]
  ·have c' : ¬(a.toNat:Int)=32:=by omega
   rw [if_neg c,hl']
   simp +contextual (maxSteps:=1000000) [ir128_1,ssL,↓ssM,aa,ssU,Go.Sx.LV.undef,Go.undef,ssR,sz,hg,c,c',h0,h3,h4,a1]
theorem te (a b:List UInt8) (ha:a.length<2^31) (hb:b.length<2^31):binS .add ⟨a.toArray⟩ ⟨b.toArray⟩=some (.string ⟨(a++b).toArray⟩):=by
 rw [binS,if_neg,xC]
 rw [aS,aS,show IntKind.i64.max=9223372036854775807 by decide]
 omega
theorem pR (H:Heap) (nx m:Nat) (s:List UInt8) (hs:s.length<2^30) (ih0 : ∀ t:List UInt8,t.length<s.length→Ψ 128 [.str ⟨t.toArray⟩] []=some (.str ⟨(foldR m t).toArray⟩)) : ∀ (k i:Nat),s.length-i=k→i≤s.length →
  run ⟨Ω,gG,H,nx⟩ (.loop ir128_0) ⟨[(0,.str ⟨s.toArray⟩),(3,.int .i64 i)],⟨[],[]⟩⟩=match dbl (s.drop i) with
   | none=>some (.exit 4,⟨[(0,.str ⟨s.toArray⟩)],⟨[],[]⟩⟩)
   | some j=>some (.ret,⟨[(2,.str ⟨(foldR m (s.take (i+j)++s.drop (i+j+1))).toArray⟩)],⟨[],[]⟩⟩):=fun k i hk hi=>by
 have sz:=aS s
 have a1:IntKind.i64.wrap ((i:Int)+1)=((i+1:Nat):Int):=by rw [wrap_i64 _ (by omega) (by omega)];omega
 rw [ay]
 match hr:s.drop i with
 | []=>
  have h0:s.length≤i:=by simpa using hr
  have h1:s.length≤i+1:=by omega
  clear h0
  have h2 : ¬i+1<s.length:=by omega
  rw [dbl]
  ·generalize i+1=i' at*
   simp +contextual (maxSteps:=1000000) [ir128_0,ssL,↓ssM,aa,ssU,Go.Sx.LV.undef,Go.undef,ssR,sz,a1,h1,h2]
  ·intros;simp_all
 | [a]=>
  have h1:s.length≤i+1:=by have:=congrArg List.length hr;simp at this;omega
  have h2 : ¬i+1<s.length:=by omega
  rw [dbl]
  ·generalize i+1=i' at*
   simp +contextual (maxSteps:=1000000) [ir128_0,ssL,↓ssM,aa,ssU,Go.Sx.LV.undef,Go.undef,ssR,sz,a1,h1,h2]
  ·intros;simp_all
 | a::b::r=>
  have h2:i+1<s.length:=by have:=congrArg List.length hr;simp at this;omega
  have h1 : ¬s.length≤i+1:=by omega
  have hga : ∀ h,s[i]'h=a:=fun h=>by
   have:s[i]?=some a:=by rw [←List.head?_drop,hr];rfl
   exact (List.getElem?_eq_some_iff.1 this).2
  have h5:i<s.length:=by omega
  have hr1:s.drop (i+1)=b::r:=by rw [←List.drop_drop,hr];rfl
  have hgb : ∀ h,s[i+1]'h=b:=fun h=>by
   have:s[i+1]?=some b:=by rw [←List.head?_drop,hr1];rfl
   exact (List.getElem?_eq_some_iff.1 this).2
  have ih:=pR H nx m s hs ih0 (k-1) (i+1) (by omega) (by omega)
  rw [hr1] at ih
  rw [dbl]
  by_cases c:a.toNat=32∧b.toNat=32
  ·obtain ⟨ca,cb⟩:=c
   have ca':(a.toNat:Int)=32:=by omega
   have cb':(b.toNat:Int)=32:=by omega
   have e1:=bp s 0 i
   rw [List.drop_zero] at e1
   have e2:=bp s (i+1) s.length
   rw [List.take_length] at e2
   have bs:=te (s.take i) (s.drop (i+1)) (by simp;omega) (by simp;omega)
   have i0:=ih0 (s.take i++s.drop (i+1)) (by simp;omega)
   rw [if_pos ⟨ca,cb⟩]
   simp only [Nat.add_zero]
   generalize s.take i++s.drop (i+1)=t at*
   generalize s.take i=x1 at*
   have h3:i≤s.length:=hi
   have h4:i+1≤s.length:=by omega
   clear ih hr1 hr
   generalize s.drop (i+1)=x2 at*
   generalize i+1=i' at*
   generalize IRC.loop ir128_0=LB at*
   simp +contextual (maxSteps:=1000000) [ir128_0,ssL,↓ssM,aa,ssU,Go.Sx.LV.undef,Go.undef,ssR,sz,a1,h1,h2,h3,h4,h5,hga,hgb,ca,cb,ca',cb',e1,e2,bs,i0]
  ·rw [if_neg c]
   have eq:(match (dbl (b::r)).map (· + 1) with
     | none=>some (Ex.exit 4,(⟨[(0,.str ⟨s.toArray⟩)],⟨[],[]⟩⟩:St))
     | some j=>some (.ret,⟨[(2,.str ⟨(foldR m (s.take (i+j)++s.drop (i+j+1))).toArray⟩)],⟨[],[]⟩⟩))=(match dbl (b::r) with
     | none=>some (Ex.exit 4,(⟨[(0,.str ⟨s.toArray⟩)],⟨[],[]⟩⟩:St))
     | some j=>some (.ret,⟨[(2,.str ⟨(foldR m (s.take (i+1+j)++s.drop (i+1+j+1))).toArray⟩)],⟨[],[]⟩⟩)):=by
    cases dbl (b::r) with
    | none=>rfl
    | some j=>simp only [Option.map_some];rw [show i+(j+1)=i+1+j by omega]
   rw [eq,←ih]
   have c':(decide ((a.toNat:Int)=32)&&decide ((b.toNat:Int)=32))=false:=by
    rw [Bool.and_eq_false_iff,decide_eq_false_iff_not,decide_eq_false_iff_not]
    omega
   clear ih hr1 hr eq
   generalize i+1=i' at*
   generalize IRC.loop ir128_0=LB at*
   simp +contextual (maxSteps:=1000000) [ir128_0,ssL,↓ssM,aa,ssU,Go.Sx.LV.undef,Go.undef,ssR,sz,a1,h1,h2,h5,hga,hgb,c']
termination_by k=>k
theorem uX : ∀ (m:Nat) (l:List UInt8),l.length<m→l.length<2^30→Ψ 128 [.str ⟨l.toArray⟩] []=some (.str ⟨(foldR m l).toArray⟩)
 | 0,l,h,h2=>absurd h (Nat.not_lt_zero _)
 | m+1,l,h,h2=>by
  have l1:=cg l
  have l2:=fu (stripS l)
  have p2:=fun H nx=>pT H nx l h2
  have p1:=fun H nx=>pS H nx (stripS l).reverse (by rw [List.length_reverse];omega)
  rw [List.reverse_reverse,show (stripS (stripS l).reverse).reverse=stripE (stripS l) from rfl] at p1
  have p0:=fun H nx=>pR H nx m (stripE (stripS l)) (by omega) (fun t ht=>uX m t (by omega) (by omega)) _ 0 rfl (by omega)
  rw [foldR]
  simp only [List.drop_zero,Int.natCast_zero,Nat.zero_add] at p0
  generalize stripE (stripS l)=t at*
  generalize stripS l=u at*
  cases hd:dbl t with
  | none=>
   rw [hd] at p0
   refine aU (ir:=ir128) (by kernel_rfl) ?_;simp +contextual (maxSteps:=1000000) [ir128,ssL,↓ssM,aa,ssU,Go.Sx.LV.undef,Go.undef,ssR,p2,p1,p0]
  | some j=>
   rw [hd] at p0
   refine aU (ir:=ir128) (by kernel_rfl) ?_;simp +contextual (maxSteps:=1000000) [ir128,ssL,↓ssM,aa,ssU,Go.Sx.LV.undef,Go.undef,ssR,p2,p1,p0]
end Go.Proofs.YtoeblkipfdnnlaaGreatDoor
end

section
namespace Go.Proofs.YtoeblkipfdnnlaaGreatDoor
open Go Go.Sx
set_option maxHeartbeats 1000000
theorem gk (a b:List UInt8):binS .eql ⟨a.toArray⟩ ⟨b.toArray⟩=some (.bool (decide (a=b))):=by
 rw [binS,iQ,iQ]
 congr 2
 rw [Bool.eq_iff_iff];simp
theorem mr (a b:List UInt8):binS .neq ⟨a.toArray⟩ ⟨b.toArray⟩=some (.bool (!decide (a=b))):=by
 rw [binS,iQ,iQ]
 congr 3
 rw [Bool.eq_iff_iff];simp
def errR (s:List UInt8):Int:=if 40<s.length then 9 else if chk s.length s=false then 7 else if s=[]∨foldR (s.length+1) s≠s then 7 else 0
theorem u6 (s:List UInt8) (hs:s.length<2^30):Ψ 93 [.p (.agg (fldP s))] []=some (.int .i64 (errR s)):=by
 have k0:Ψ 127 [.str ⟨#[]⟩,.int .i64 12] []=some (.int .i64 0):=by
  have:=qQ [] 12 (by decide) (by decide)
  simpa [chk] using this
 have k1:=qQ s 40 hs (by decide)
 have fd:=uX (s.length+1) s (by omega) hs
 have e1:=gk s []
 have e2:=mr (foldR (s.length+1) s) s
 simp only [show ([]:List UInt8).toArray = #[] from rfl,Int.cast_ofNat_Int] at e1 k1
 unfold errR
 by_cases h1:40<s.length
 ·rw [if_pos h1] at k1 ⊢
  clear fd e1 e2
  refine aU (ir:=ir93) (by kernel_rfl) ?_;simp +contextual (maxSteps:=1000000) [ir93,ssL,↓ssM,aa,ssU,Go.Sx.LV.undef,Go.undef,ssR,k0,k1]
 ·rw [if_neg h1] at k1 ⊢
  cases h2:chk s.length s with
  | false=>
   rw [h2] at k1
   rw [if_pos rfl]
   simp only [Bool.false_eq_true,if_false] at k1
   clear fd e1 e2
   refine aU (ir:=ir93) (by kernel_rfl) ?_;simp +contextual (maxSteps:=1000000) [ir93,ssL,↓ssM,aa,ssU,Go.Sx.LV.undef,Go.undef,ssR,k0,k1]
  | true=>
   rw [h2] at k1
   rw [if_neg (by decide)]
   simp only [if_true] at k1
   generalize foldR (s.length+1) s=t at*
   by_cases h3:s=[]
   ·rw [decide_eq_true h3] at e1
    rw [if_pos (.inl h3)]
    clear h3
    refine aU (ir:=ir93) (by kernel_rfl) ?_;simp +contextual (maxSteps:=1000000) [ir93,ssL,↓ssM,aa,ssU,Go.Sx.LV.undef,Go.undef,ssR,k0,k1,e1]
   ·simp only [h3,decide_false] at e1
    by_cases h4:t=s
    ·rw [if_neg (by simp [h3,h4])]
     simp only [h4,decide_true,Bool.not_true] at e2 fd
     refine aU (ir:=ir93) (by kernel_rfl) ?_;simp +contextual (maxSteps:=1000000) [ir93,ssL,↓ssM,aa,ssU,Go.Sx.LV.undef,Go.undef,ssR,k0,k1,e1,e2,fd]
    ·rw [if_pos (.inr h4)]
     simp only [h4,decide_false,Bool.not_false] at e2
     refine aU (ir:=ir93) (by kernel_rfl) ?_;simp +contextual (maxSteps:=1000000) [ir93,ssL,↓ssM,aa,ssU,Go.Sx.LV.undef,Go.undef,ssR,k0,k1,e1,e2,fd]
structure Nam (s:List UInt8):Prop where
 l:s.length≤40
 c:chk s.length s=true
 n:s≠[]
 f:stripS s=s∧stripE s=s∧dbl s=none
theorem uA {s:List UInt8} (h:errR s=0):Nam s:=by
 unfold errR at h
 split at h
 ·cases h
 split at h
 ·cases h
 split at h
 ·cases h
 rename_i h1 h2 h3
 rw [not_or] at h3
 exact ⟨by omega,by simpa using h2,h3.1,t9 (Nat.succ_pos _) (Decidable.not_not.1 h3.2)⟩
end Go.Proofs.YtoeblkipfdnnlaaGreatDoor
end

section
namespace Go.Proofs.YtoeblkipfdnnlaaGreatDoor
open Go Go.Sx
set_option maxHeartbeats 1000000
theorem zj (x:Nat) (h : ¬(x<32∨x=127)):Ψ 159 [.int .i32 x] []=some (.bool true):=by
 have h1:(32:Int)≤x:=by omega
 have h2 : ¬(x:Int)=127:=by omega
 refine aU (ir:=ir159) (by kernel_rfl) ?_;simp +contextual (maxSteps:=1000000) [ir159,ssL,↓ssM,aa,ssU,Go.Sx.LV.undef,Go.undef,ssR,h1,h2]
theorem v8 (x:Nat) (h : ¬(x<32∨x=127)):Ψ 158 [.int .i32 x] []=some (.bool false):=by
 have p:=zj x h
 refine aU (ir:=ir158) (by kernel_rfl) ?_;simp +contextual (maxSteps:=1000000) [ir158,ssL,↓ssM,aa,ssU,Go.Sx.LV.undef,Go.undef,ssR,p]
theorem ss:Ψ 131 [.int .i64 1] []=some (.str ⟨#[110,97,109,101]⟩):=by
 refine aU (ir:=ir131) (by kernel_rfl) ?_;simp +contextual (maxSteps:=1000000) [ir131,ssL,↓ssM,aa,ssU,Go.Sx.LV.undef,Go.undef,ssR]
theorem wB (s:List UInt8) (a:UInt8) (hs:s.length<2^30) (ha:a.toNat≠32):Ψ 220 [.str ⟨(s++[a]).toArray⟩,.str ⟨#[32]⟩] []=some (.bool false):=by
 have sz:=aS (s++[a])
 have sz2:(⟨#[32]⟩:ByteArray).size=1:=rfl
 have hl:(s++[a]).length=s.length+1:=by simp
 rw [hl] at sz
 have e2:=bp (s++[a]) s.length (s.length+1)
 have e1:((s++[a]).take (s.length+1)).drop s.length=[a]:=by rw [←hl,List.take_length];simp
 rw [e1] at e2
 have a1:IntKind.i64.wrap (((s.length+1:Nat):Int)-1)=(s.length:Int):=by rw [wrap_i64 _ (by omega) (by omega)];omega
 have bq:binS .eql ⟨[a].toArray⟩ ⟨#[32]⟩=some (.bool (decide ([a]=[32]))):=gk [a] [32]
 rw [decide_eq_false (by intro h;simp at h;subst h;exact ha rfl)] at bq
 have h0:1≤s.length+1:=by omega
 have h3:s.length≤s.length+1:=by omega
 have h4:(1:Int)≤((s.length+1:Nat):Int):=by omega
 generalize (s++[a]).toArray=l at*
 generalize [a].toArray=l1 at*
 generalize s.length+1=n1 at*
 generalize s.length=n at*
 clear hl e1
 refine aU (ir:=ir220) (by kernel_rfl) ?_;simp +contextual (maxSteps:=1000000) [ir220,ssL,↓ssM,aa,ssU,Go.Sx.LV.undef,Go.undef,ssR,sz,sz2,e2,a1,bq,h0,h3,h4]
theorem sU (s:List UInt8) (a:UInt8) (hs:s.length<2^30) (ha:a.toNat≠32):Ψ 186 [.str ⟨(s++[a]).toArray⟩,.str ⟨#[32]⟩] []=some (.str ⟨(s++[a]).toArray⟩):=by
 have h:=wB s a hs ha
 generalize (s++[a]).toArray=l at*
 refine aU (ir:=ir186) (by kernel_rfl) ?_;simp +contextual (maxSteps:=1000000) [ir186,ssL,↓ssM,aa,ssU,Go.Sx.LV.undef,Go.undef,ssR,h]
theorem vI (s:List UInt8) (a:UInt8) (hs:s.length<2^30) (ha:a.toNat≠32):Ψ 160 [.str ⟨(s++[a]).toArray⟩,.str ⟨#[32]⟩] []=some (.str ⟨(s++[a]).toArray⟩):=by
 have h:=sU s a hs ha
 generalize (s++[a]).toArray=l at*
 refine aU (ir:=ir160) (by kernel_rfl) ?_;simp +contextual (maxSteps:=1000000) [ir160,ssL,↓ssM,aa,ssU,Go.Sx.LV.undef,Go.undef,ssR,h]
theorem tD {a b:UInt8} {r:List UInt8} (h:dbl (a::b::r)=none) : ¬(a.toNat=32∧b.toNat=32)∧dbl (b::r)=none:=by
 rw [dbl] at h
 split at h
 ·cases h
 ·rename_i h1
  refine ⟨h1,?_⟩
  cases hd:dbl (b::r) with
  | none=>rfl
  | some j=>rw [hd] at h;cases h
abbrev pfS (nx i:Nat) (s:List UInt8) (fl bl:Bool) (J:List (Ob)) (ex:Bool):St:=
 ⟨[(3,.arr (nx+J.length) 0 i 1 i ex),(4,.bool bl),(8,sB fl s),(9,.int .i64 s.length),(10,.int .i64 i)],⟨[],J++[some (.cells (byt (s.take i)))]⟩⟩
def jnk (J:List (Ob)):Prop:=J=[]∨J=[none]∨∃ l,J=[some (.cells l)]
theorem oM (s:List UInt8) (fl ex:Bool) (hs:s.length<2^30) (H:Heap) (nx i:Nat) (p b:UInt8) (hb:s[i]?=some b) (hc : ¬(p.toNat=32∧b.toNat=32)) (hi:0<i) (J:List (Ob)) (hJ:jnk J):
  ∃ J',jnk J'∧run ⟨Ω,gG,H,nx⟩ ir133_0 (pfS nx i s fl (decide (p.toNat=32)) J ex)=some (.normal,pfS nx (i+1) s fl (decide (b.toNat=32)) J' false):=by
 have h1:i<s.length:=(List.getElem?_eq_some_iff.1 hb).1
 have h2 : ¬s.length≤i:=by omega
 have hg : ∀ h,(byt s)[i]'h = .int .u8 b.toNat:=fun h=>(List.getElem?_eq_some_iff.1 (bA hb)).2
 have a1:IntKind.i64.wrap ((i:Int)+1)=(i:Int)+1:=wrap_i64 _ (by omega) (by omega)
 have c1:(!decide (b.toNat=32)||!decide (p.toNat=32))=true:=by
  rw [Bool.or_eq_true,Bool.not_eq_true',Bool.not_eq_true',decide_eq_false_iff_not,decide_eq_false_iff_not]
  omega
 have c2:decide ((b.toNat:Int)=32)=decide (b.toNat=32):=decide_eq_decide.2 (by omega)
 have q41 : ¬1099511627776<i+1:=by omega
 have tl:(byt (s.take i)).length=i:=by rw [ax,List.length_take];omega
 have i1:ids.idsL (byt (s.take i))=[]:=aH _
 have r1 : ∀ n' m',ren.go n' m' (byt (s.take i))=some (byt (s.take i)):=fun n' m'=>aK _ _ _
 have t1:List.take i (byt (s.take i))=byt (s.take i):=List.take_of_length_le (by rw [tl];exact Nat.le_refl _)
 have e1:byt (s.take i)++[.p (.s (.int .u8 b.toNat))]=byt (s.take (i+1)):=by
  rw [List.take_add_one,hb,bO];rfl
 simp only [pfS]
 generalize byt (s.take i)=X at*
 generalize byt (s.take (i+1))=Y at*
 cases ex with
 | true=>
  refine ⟨[some (.cells X)],.inr (.inr ⟨X,rfl⟩),?_⟩
  rcases hJ with rfl|rfl|⟨l,rfl⟩ <;>
  simp +contextual (maxSteps:=100000) [ir133_0,ssL,↓ssM,aa,ssU,Go.Sx.LV.undef,Go.undef,ssR,h1,h2,hg,aJ,ak,a1,c1,c2,q41,tl,i1,r1,t1,e1,ax,ak,aD,aH,aK,aO,aR,aB,aF]
 | false=>
  refine ⟨[none],.inr (.inl rfl),?_⟩
  rcases hJ with rfl|rfl|⟨l,rfl⟩ <;>
  simp +contextual (maxSteps:=100000) [ir133_0,ssL,↓ssM,aa,ssU,Go.Sx.LV.undef,Go.undef,ssR,h1,h2,hg,aJ,ak,a1,c1,c2,q41,tl,i1,r1,t1,e1,ax,ak,aD,aH,aK,aO,aR,aB,aF]
theorem jL (s:List UInt8) (fl:Bool) (hs:s.length<2^30) (H:Heap) (nx:Nat) : ∀ (r:List UInt8) (i:Nat) (p:UInt8) (J:List (Ob)) (ex:Bool),s.drop i=r→0<i→dbl (p::r)=none→jnk J→i≤s.length →
  ∃ ex',run ⟨Ω,gG,H,nx⟩ (.loop ir133_0) (pfS nx i s fl (decide (p.toNat=32)) J ex)=some (.exit 0,⟨[(3,.arr nx 0 s.length 1 s.length ex')],⟨[],[some (.cells (byt s))]⟩⟩)
 | [],i,p,J,ex,hr,hi,hd,hJ,hle=>by
  have h1:s.length≤i:=by simpa using hr
  obtain rfl:i=s.length:=by omega
  refine ⟨ex,?_⟩
  rw [ay]
  have h2 : ¬s.length<s.length:=by omega
  have i1:ids.idsL (byt s)=[]:=aH _
  have r1 : ∀ n' m',ren.go n' m' (byt s)=some (byt s):=fun n' m'=>aK _ _ _
  have t1:s.take s.length=s:=List.take_length
  rcases hJ with rfl|rfl|⟨l,rfl⟩ <;>
  simp +contextual (maxSteps:=100000) [ir133_0,ssL,↓ssM,aa,ssU,Go.Sx.LV.undef,Go.undef,ssR,h1,h2,aJ,ak,i1,r1,t1,ax,ak,aD,aH,aK,aO,aR,aB,aF]
 | b::r,i,p,J,ex,hr,hi,hd,hJ,hle=>by
  have hb:s[i]?=some b:=by rw [←List.head?_drop,hr];rfl
  have hr':s.drop (i+1)=r:=by rw [←List.drop_drop,hr];rfl
  have h1:i<s.length:=(List.getElem?_eq_some_iff.1 hb).1
  obtain ⟨hc,hd'⟩:=tD hd
  obtain ⟨J',hJ',st⟩:=oM s fl ex hs H nx i p b hb hc hi J hJ
  obtain ⟨ex',ih⟩:=jL s fl hs H nx r (i+1) b J' false hr' (Nat.succ_pos i) hd' hJ' h1
  exact ⟨ex',by rw [ay,st,aE,aA,ih]⟩
theorem nM (s:List UInt8) (a:UInt8) (r:List UInt8) (hr:s=a::r) (ha:a.toNat≠32) (fl:Bool) (hs:s.length<2^30) (H:Heap) (nx:Nat):
  run ⟨Ω,gG,H,nx⟩ ir133_0 ⟨[(3,.p (.s (.slice none 0 0))),(4,.bool true),(8,sB fl s),(9,.int .i64 s.length),(10,.int .i64 0)],⟨[],[]⟩⟩=some (.normal,pfS nx 1 s fl (decide (a.toNat=32)) [] false):=by
 have h1:0<s.length:=by rw [hr];simp
 have h2 : ¬s.length≤0:=by omega
 have h3 : ¬s.length=0:=by omega
 have hg : ∀ h,(byt s)[0]'h = .int .u8 a.toNat:=fun h=>by subst hr;rfl
 have a1:IntKind.i64.wrap 1=1:=by decide
 have c1:decide ((a.toNat:Int)=32)=false:=decide_eq_false (by omega)
 have c2 : ¬a.toNat=32:=ha
 have c3 : ¬(a.toNat:Int)=32:=by omega
 have e1:byt (s.take 1)=[.p (.s (.int .u8 a.toNat))]:=by subst hr;rfl
 have hne : ¬s=[]:=by rw [hr];simp
 simp only [pfS,e1]
 clear hr
 simp +contextual (maxSteps:=100000) [ir133_0,ssL,↓ssM,aa,ssU,Go.Sx.LV.undef,Go.undef,ssR,h1,h2,h3,hg,aJ,ak,a1,c1,c2,c3,hne,ax,ak,aD,aH,aK,aO,aR,aB,aF]
theorem jZ {a:UInt8} {r:List UInt8} (h:stripS (a::r)=a::r):a.toNat≠32:=fun c=>by
 rw [stripS,if_pos c] at h
 have:=cg r
 rw [h] at this
 simp only [List.length_cons] at this
 omega
theorem zb (s:List UInt8) (h:Nam s):Ψ 133 [.str ⟨s.toArray⟩] []=some (.str ⟨s.toArray⟩):=by
 obtain ⟨hl,-,hn,hS,hE,hd⟩:=h
 have hs:s.length<2^30:=by omega
 obtain ⟨a,r,hr⟩:=List.exists_cons_of_ne_nil hn
 have ha:a.toNat≠32:=jZ (r:=r) (by rw [←hr];exact hS)
 have lp : ∀ fl H nx,∃ ex',run ⟨Ω,gG,H,nx⟩ (.loop ir133_0) ⟨[(3,.p (.s (.slice none 0 0))),(4,.bool true),(8,sB fl s),(9,.int .i64 s.length),(10,.int .i64 0)],⟨[],[]⟩⟩=some (.exit 0,⟨[(3,.arr nx 0 s.length 1 s.length ex')],⟨[],[some (.cells (byt s))]⟩⟩):=fun fl H nx=>by
  obtain ⟨ex',lp⟩:=jL s fl hs H nx r 1 a [] false (by rw [hr];rfl) (by decide) (by rw [←hr];exact hd) (.inl rfl) (by rw [hr];simp)
  exact ⟨ex',by rw [ay,nM s a r hr ha fl hs,aE,aA,lp]⟩
 obtain ⟨q,z,hq⟩ : ∃ q z,s=q++[z]:=⟨s.dropLast,s.getLast hn,(List.dropLast_concat_getLast hn).symm⟩
 have hz:z.toNat≠32:=by
  rw [stripE,hq,List.reverse_append] at hE
  have h2:=congrArg List.reverse hE
  rw [List.reverse_reverse,List.reverse_append] at h2
  exact jZ h2
 have tr:Ψ 160 [.str ⟨s.toArray⟩,.str ⟨#[32]⟩] []=some (.str ⟨s.toArray⟩):=by
  rw [hq];exact vI q z (by have:=congrArg List.length hq;simp at this;omega) hz
 obtain ⟨ex',lp'⟩:=lp false (hpL []) 0
 have sz:=aS s
 have h3 : ¬s.length=0:=by rw [hr];simp
 have bb:=bW s
 have dp:List.map (fun x=>PV.s (.int .u8 (UInt8.toNat x:Int))) s=bytP s:=rfl
 clear hS hE hq hr lp
 refine aU (ir:=ir133) (by kernel_rfl) ?_;simp +contextual (maxSteps:=1000000) [ir133,ssL,↓ssM,aa,ssU,Go.Sx.LV.undef,Go.undef,ssR,sz,h3,hn,lp',tr,bb,ax,ak,aD,aH,aK,aO,aR,aB,aF,dp,aJ,ak]
end Go.Proofs.YtoeblkipfdnnlaaGreatDoor
end

section
namespace Go.Proofs.YtoeblkipfdnnlaaGreatDoor
open Go Go.Sx
set_option maxHeartbeats 1000000
theorem ni (s:List UInt8) (hs:s.length<2^30) (H:Heap) (nx:Nat) : ∀ (m q:Nat),chk m (s.drop q)=true→q≤s.length →
  run ⟨Ω,gG,H,nx⟩ (.loop ir219_0) ⟨[(1,.fn 158 [] []),(2,.bool true),(10,.ref nx 0)],⟨[],[some (.iter ⟨s.toArray⟩ q)]⟩⟩=some (.exit 0,⟨[],⟨[],[some (.iter ⟨s.toArray⟩ s.length)]⟩⟩):=fun m q hc hq=>by
 have sz:=aS s
 rw [ay]
 cases hr:s.drop q with
 | nil=>
  have h1:s.length≤q:=by simpa using hr
  obtain rfl:q=s.length:=by omega
  have h2 : ¬s.length<s.length:=by omega
  simp +contextual (maxSteps:=1000000) [ir219_0,ssL,↓ssM,aa,ssU,Go.Sx.LV.undef,Go.undef,ssR,sz,h1,h2]
 | cons a r=>
  have h2:q<s.length:=by
   rcases Nat.lt_or_ge q s.length with h|h
   ·exact h
   ·rw [List.drop_of_length_le h] at hr;cases hr
  have h1 : ¬s.length≤q:=by omega
  have dc:=we s q h2
  rw [hr] at hc dc
  obtain ⟨m,rfl⟩ : ∃ m',m=m'+1:=by
   cases m with
   | zero=>rw [chk] at hc;cases hc
   | succ m'=>exact ⟨m',rfl⟩
  rw [chk] at hc
  cases hg:sgn (a::r) with
  | none=>rw [hg] at hc;cases hc
  | some xk=>
   obtain ⟨x,k⟩:=xk
   rw [hg] at hc dc
   simp only at hc dc
   split at hc
   ·cases hc
   ·rename_i h3
    have hp:=rp hg
    rw [←hr,List.length_drop] at hp
    rw [←hr,List.drop_drop] at hc
    have ih:=ni s hs H nx m (q+k) hc (by omega)
    have ck:=v8 x h3
    generalize IRC.loop ir219_0=LB at*
    have d1:(Utf8.decode ⟨s.toArray⟩ q).1=x:=by rw [dc]
    have d2:(Utf8.decode ⟨s.toArray⟩ q).2=k:=by rw [dc]
    simp +contextual (maxSteps:=1000000) [ir219_0,ssL,↓ssM,aa,ssU,Go.Sx.LV.undef,Go.undef,ssR,sz,h1,h2,d1,d2,ck]
    exact ih
termination_by m=>m
theorem AQ (s:List UInt8) (hs:s.length<2^30) (hc:chk s.length s=true):Ψ 219 [.str ⟨s.toArray⟩,.fn 158 [] [],.bool true] []=some (.int .i64 (-1)):=by
 have lp:=fun H nx=>ni s hs H nx s.length 0 hc (Nat.zero_le _)
 clear hc
 refine aU (ir:=ir219) (by kernel_rfl) ?_;simp +contextual (maxSteps:=1000000) [ir219,ssL,↓ssM,aa,ssU,Go.Sx.LV.undef,Go.undef,ssR,lp]
theorem Ah (s:List UInt8) (hs:s.length<2^30) (hc:chk s.length s=true):Ψ 185 [.str ⟨s.toArray⟩,.fn 158 [] []] []=some (.int .i64 (-1)):=by
 have h:=AQ s hs hc
 refine aU (ir:=ir185) (by kernel_rfl) ?_;simp +contextual (maxSteps:=1000000) [ir185,ssL,↓ssM,aa,ssU,Go.Sx.LV.undef,Go.undef,ssR,h]
theorem Aa (s:List UInt8) (hs:s.length<2^30) (hc:chk s.length s=true):Ψ 157 [.str ⟨s.toArray⟩,.fn 158 [] []] []=some (.bool false):=by
 have h:=Ah s hs hc
 refine aU (ir:=ir157) (by kernel_rfl) ?_;simp +contextual (maxSteps:=1000000) [ir157,ssL,↓ssM,aa,ssU,Go.Sx.LV.undef,Go.undef,ssR,h]
end Go.Proofs.YtoeblkipfdnnlaaGreatDoor
end

section
namespace Go.Proofs.YtoeblkipfdnnlaaGreatDoor
open Go Go.Sx
set_option maxHeartbeats 1000000
theorem qz (s:List UInt8) (most:Nat) (hs:s.length≤most) (hm:most<2^30) (hc:chk s.length s=true) (hv:Ψ 156 [.str ⟨s.toArray⟩] []=some (.bool true)):
  Ψ 132 [.str ⟨s.toArray⟩,.int .i64 most] []=some (.int .i64 0):=by
 have sz:=aS s
 have h:=Aa s (by omega) hc
 refine aU (ir:=ir132) (by kernel_rfl) ?_;simp +contextual (maxSteps:=1000000) [ir132,ssL,↓ssM,aa,ssU,Go.Sx.LV.undef,Go.undef,ssR,sz,h,hv,hs]
theorem w9 (s:List UInt8) (h:Nam s) (hv0:Ψ 156 [.str ⟨#[]⟩] []=some (.bool true)) (hv:Ψ 156 [.str ⟨s.toArray⟩] []=some (.bool true)):
  Ψ 94 [.p (.agg (fldP s))] []=some (.int .i64 0):=by
 have k0:Ψ 132 [.str ⟨#[]⟩,.int .i64 12] []=some (.int .i64 0):=qz [] 12 (by decide) (by decide) rfl hv0
 have k1:Ψ 132 [.str ⟨s.toArray⟩,.int .i64 40] []=some (.int .i64 0):=qz s 40 h.l (by decide) h.c hv
 have fd:=zb s h
 have kn:=ss
 have e1:binS .eql ⟨s.toArray⟩ ⟨#[]⟩=some (.bool (decide (s=[]))):=gk s []
 rw [decide_eq_false h.n] at e1
 have e2:=mr s s
 rw [decide_eq_true rfl,Bool.not_true] at e2
 have e3:binS .eql ⟨#[110,97,109,101]⟩ ⟨#[]⟩=some (.bool false):=gk [110,97,109,101] []
 clear hv hv0 h
 refine aU (ir:=ir94) (by kernel_rfl) ?_;simp +contextual (maxSteps:=1000000) [ir94,ssL,↓ssM,aa,ssU,Go.Sx.LV.undef,Go.undef,ssR,k0,k1,fd,kn,e1,e2,e3]
end Go.Proofs.YtoeblkipfdnnlaaGreatDoor
end

section
namespace Go.Proofs.YtoeblkipfdnnlaaGreatDoor
open Go Go.Sx
set_option maxHeartbeats 1000000
theorem c7 {w k:Nat} (i:Nat) (h:w &&& 9259542123273814144=0) (hm:(9259542123273814144:Nat).testBit i=true):w.testBit i=false:=by
 have:=congrArg (fun n=>n.testBit i) h
 simpa [Nat.testBit_and,hm] using this
theorem et {a:Nat} (ha:a<256) (h:a.testBit 7=false):a<128:=by
 rcases Nat.lt_or_ge a 128 with h1|h1
 ·exact h1
 ·exfalso
  have:a.testBit 7=true:=by
   rw [Nat.testBit,Nat.shiftRight_eq_div_pow]
   have:a/2^7=1:=by omega
   rw [this];decide
  rw [this] at h;cases h
theorem gb (a k:Nat):(a*2^k).testBit (k+7)=a.testBit 7:=by
 rw [←Nat.shiftLeft_eq,Nat.testBit_shiftLeft]
 simp
theorem AM (a b c d e f g h:UInt8) (r:List UInt8) : ∃ w:Nat,w<2^64∧Ψ 184 [.str ⟨(a::b::c::d::e::f::g::h::r).toArray⟩] []=some (.int .u64 w) ∧
  (w &&& 9259542123273814144=0→a.toNat<128∧b.toNat<128∧c.toNat<128∧d.toNat<128∧e.toNat<128∧f.toNat<128∧g.toNat<128∧h.toNat<128):=by
 have l0:=a.toNat_lt
 have z0:=aY a.toNat (by omega)
 have l1:=b.toNat_lt
 have z1:=aY b.toNat (by omega)
 have l2:=c.toNat_lt
 have z2:=aY c.toNat (by omega)
 have l3:=d.toNat_lt
 have z3:=aY d.toNat (by omega)
 have l4:=e.toNat_lt
 have z4:=aY e.toNat (by omega)
 have l5:=f.toNat_lt
 have z5:=aY f.toNat (by omega)
 have l6:=g.toNat_lt
 have z6:=aY g.toNat (by omega)
 have l7:=h.toNat_lt
 have z7:=aY h.toNat (by omega)
 have s1:=cD b.toNat 8 (by omega)
 rw [Nat.mod_eq_of_lt (by omega)] at s1
 have b1:b.toNat*2^8<2^64:=by omega
 have t1:=gb b.toNat 8
 generalize b.toNat*2^8=x1 at*
 have s2:=cD c.toNat 16 (by omega)
 rw [Nat.mod_eq_of_lt (by omega)] at s2
 have b2:c.toNat*2^16<2^64:=by omega
 have t2:=gb c.toNat 16
 generalize c.toNat*2^16=x2 at*
 have s3:=cD d.toNat 24 (by omega)
 rw [Nat.mod_eq_of_lt (by omega)] at s3
 have b3:d.toNat*2^24<2^64:=by omega
 have t3:=gb d.toNat 24
 generalize d.toNat*2^24=x3 at*
 have s4:=cD e.toNat 32 (by omega)
 rw [Nat.mod_eq_of_lt (by omega)] at s4
 have b4:e.toNat*2^32<2^64:=by omega
 have t4:=gb e.toNat 32
 generalize e.toNat*2^32=x4 at*
 have s5:=cD f.toNat 40 (by omega)
 rw [Nat.mod_eq_of_lt (by omega)] at s5
 have b5:f.toNat*2^40<2^64:=by omega
 have t5:=gb f.toNat 40
 generalize f.toNat*2^40=x5 at*
 have s6:=cD g.toNat 48 (by omega)
 rw [Nat.mod_eq_of_lt (by omega)] at s6
 have b6:g.toNat*2^48<2^64:=by omega
 have t6:=gb g.toNat 48
 generalize g.toNat*2^48=x6 at*
 have s7:=cD h.toNat 56 (by omega)
 rw [Nat.mod_eq_of_lt (by omega)] at s7
 have b7:h.toNat*2^56<2^64:=by omega
 have t7:=gb h.toNat 56
 generalize h.toNat*2^56=x7 at*
 have o1:=cy a.toNat x1 (by omega) b1
 have p1:=Nat.or_lt_two_pow (show a.toNat<2^64 by omega) b1
 generalize hy1:a.toNat ||| x1=y1 at*
 have o2:=cy y1 x2 p1 b2
 have p2:=Nat.or_lt_two_pow p1 b2
 generalize hy2:y1 ||| x2=y2 at*
 have o3:=cy y2 x3 p2 b3
 have p3:=Nat.or_lt_two_pow p2 b3
 generalize hy3:y2 ||| x3=y3 at*
 have o4:=cy y3 x4 p3 b4
 have p4:=Nat.or_lt_two_pow p3 b4
 generalize hy4:y3 ||| x4=y4 at*
 have o5:=cy y4 x5 p4 b5
 have p5:=Nat.or_lt_two_pow p4 b5
 generalize hy5:y4 ||| x5=y5 at*
 have o6:=cy y5 x6 p5 b6
 have p6:=Nat.or_lt_two_pow p5 b6
 generalize hy6:y5 ||| x6=y6 at*
 have o7:=cy y6 x7 p6 b7
 have p7:=Nat.or_lt_two_pow p6 b7
 generalize hy7:y6 ||| x7=y7 at*
 simp only [Int.cast_ofNat_Int] at s1 s2 s3 s4 s5 s6 s7
 refine ⟨y7,p7,?_,fun h => ?_⟩
 ·clear l0 l1 l2 l3 l4 l5 l6 l7 b1 b2 b3 b4 b5 b6 b7 t1 t2 t3 t4 t5 t6 t7 p1 p2 p3 p4 p5 p6 p7 hy1 hy2 hy3 hy4 hy5 hy6 hy7
  refine aU (ir:=ir184) (by kernel_rfl) ?_;simp +contextual (maxSteps:=1000000) [ir184,ssL,↓ssM,aa,ssU,Go.Sx.LV.undef,Go.undef,ssR,z0,z1,z2,z3,z4,z5,z6,z7,s1,s2,s3,s4,s5,s6,s7,o1,o2,o3,o4,o5,o6,o7]
 ·subst hy1 hy2 hy3 hy4 hy5 hy6 hy7
  have g0:=c7 (k:=0) 7 h (by decide)
  simp only [Nat.testBit_or,Bool.or_eq_false_iff] at g0
  have g1:=c7 (k:=0) 15 h (by decide)
  simp only [Nat.testBit_or,Bool.or_eq_false_iff] at g1
  have g2:=c7 (k:=0) 23 h (by decide)
  simp only [Nat.testBit_or,Bool.or_eq_false_iff] at g2
  have g3:=c7 (k:=0) 31 h (by decide)
  simp only [Nat.testBit_or,Bool.or_eq_false_iff] at g3
  have g4:=c7 (k:=0) 39 h (by decide)
  simp only [Nat.testBit_or,Bool.or_eq_false_iff] at g4
  have g5:=c7 (k:=0) 47 h (by decide)
  simp only [Nat.testBit_or,Bool.or_eq_false_iff] at g5
  have g6:=c7 (k:=0) 55 h (by decide)
  simp only [Nat.testBit_or,Bool.or_eq_false_iff] at g6
  have g7:=c7 (k:=0) 63 h (by decide)
  simp only [Nat.testBit_or,Bool.or_eq_false_iff] at g7
  simp only [Nat.reduceAdd] at t1 t2 t3 t4 t5 t6 t7
  exact ⟨et (by omega) (g0.1.1.1.1.1.1.1),et (by omega) (t1.symm.trans (g1.1.1.1.1.1.1.2)),et (by omega) (t2.symm.trans (g2.1.1.1.1.1.2)),et (by omega) (t3.symm.trans (g3.1.1.1.1.2)),et (by omega) (t4.symm.trans (g4.1.1.1.2)),et (by omega) (t5.symm.trans (g5.1.1.2)),et (by omega) (t6.symm.trans (g6.1.2)),et (by omega) (t7.symm.trans (g7.2))⟩
end Go.Proofs.YtoeblkipfdnnlaaGreatDoor
end

section
namespace Go.Proofs.YtoeblkipfdnnlaaGreatDoor
open Go Go.Sx
set_option maxHeartbeats 1000000
theorem ld (x y:Nat) (hx:x<2^64) (hy:y<2^64):binI .and .u64 x y=some (.int .u64 (x &&& y:Nat)):=by
 have:binI .and .u64 (x:Int) (y:Int)=some (.int .u64 (IntKind.u64.wrap (BitVec.ofInt 64 (x:Int) &&& BitVec.ofInt 64 (y:Int)).toNat)):=rfl
 rw [this,BitVec.ofInt_natCast,BitVec.ofInt_natCast,BitVec.toNat_and,BitVec.toNat_ofNat,BitVec.toNat_ofNat,Nat.mod_eq_of_lt hx,Nat.mod_eq_of_lt hy,aY _ (Nat.lt_of_le_of_lt Nat.and_le_left hx)]
def good (l:List UInt8):Prop:=∃ m,valN m l=true
theorem ug:good []:=⟨0,rfl⟩
theorem nc : ∀ (m:Nat) (l:List UInt8),chk m l=true→good l
 | m,[],h=>ug
 | 0,a::r,h=>by cases h
 | m+1,a::r,h=>by
  rw [chk] at h
  cases hg:sgn (a::r) with
  | none=>rw [hg] at h;cases h
  | some xk=>
   obtain ⟨x,k⟩:=xk
   rw [hg] at h
   simp only at h
   split at h
   ·cases h
   ·obtain ⟨n,hn⟩:=nc m _ h
    exact ⟨n+1,by rw [valN,hg];exact hn⟩
theorem ng {a:UInt8} {r:List UInt8} (h:good (a::r)) : ∃ x k,sgn (a::r)=some (x,k)∧good ((a::r).drop k):=by
 obtain ⟨m,hm⟩:=h
 cases m with
 | zero=>cases hm
 | succ m=>
  rw [valN] at hm
  cases hg:sgn (a::r) with
  | none=>rw [hg] at hm;cases hm
  | some xk=>
   obtain ⟨x,k⟩:=xk
   rw [hg] at hm
   exact ⟨x,k,rfl,m,hm⟩
theorem nf {a:UInt8} {r:List UInt8} (h:good (a::r)) (ha:a.toNat<128):good r:=by
 obtain ⟨x,k,hs,hg⟩:=ng h
 rw [yp,if_pos ha] at hs
 simp only [Option.some.injEq,Prod.mk.injEq] at hs
 obtain ⟨-,rfl⟩:=hs
 exact hg
theorem kG : ∀ (k:Nat) (l:List UInt8),good l→(∀ i,i<k→(l.getD i 0).toNat<128)→good (l.drop k)
 | 0,l,h,_=>h
 | k+1,[],h,_=>by simpa using h
 | k+1,a::r,h,hl=>kG k r (nf h (hl 0 (by omega))) fun i hi=>hl (i+1) (by omega)
theorem j4 (l:List UInt8) (h8:8≤l.length) : ∃ w:Nat,w<2^64∧Ψ 184 [.str ⟨l.toArray⟩] []=some (.int .u64 w)∧(w &&& 9259542123273814144=0→∀ i,i<8→(l.getD i 0).toNat<128):=by
 match l,h8 with
 | a::b::c::d::e::f::g::h::r,_=>
  obtain ⟨w,hw,e1,e2⟩:=AM a b c d e f g h r
  refine ⟨w,hw,e1,fun hz i hi => ?_⟩
  obtain ⟨h0,h1,h2,h3,h4,h5,h6,h7⟩:=e2 hz
  match i,hi with
  | 0,_=>exact h0
  | 1,_=>exact h1
  | 2,_=>exact h2
  | 3,_=>exact h3
  | 4,_=>exact h4
  | 5,_=>exact h5
  | 6,_=>exact h6
  | 7,_=>exact h7
end Go.Proofs.YtoeblkipfdnnlaaGreatDoor
end

section
namespace Go.Proofs.YtoeblkipfdnnlaaGreatDoor
open Go Go.Sx
set_option maxHeartbeats 1000000
theorem w8 {x y M:Nat} (h:(x ||| y) &&& M=0):x &&& M=0∧y &&& M=0:=by
 have:(x &&& M) ||| (y &&& M)=0:=by rw [←Nat.and_or_distrib_right];exact h
 exact Nat.or_eq_zero_iff.1 this
theorem vs0 (H:Heap) (nx:Nat) : ∀ (m:Nat) (l:List UInt8),l.length≤m→l.length<2^30 →
  ∃ j,run ⟨Ω,gG,H,nx⟩ (.loop ir156_0) ⟨[(0,.str ⟨l.toArray⟩)],⟨[],[]⟩⟩=some (.exit 2,⟨[(0,.str ⟨(l.drop j).toArray⟩)],⟨[],[]⟩⟩)∧∀ i,i<j→(l.getD i 0).toNat<128:=fun m l hm hl=>by
 have sz:=aS l
 by_cases h:l.length≤32
 ·refine ⟨0,?_,fun i hi=>absurd hi (Nat.not_lt_zero _)⟩
  rw [ay,List.drop_zero]
  have h1 : ¬32<l.length:=by omega
  have hI:(l.length:Int)≤32:=by omega
  simp +contextual (maxSteps:=100000) [ir156_0,ssL,↓ssM,aa,ssU,Go.Sx.LV.undef,Go.undef,ssR,sz,h,h1,hI]
 ·obtain ⟨w0,b0,q0,g0⟩:=j4 l (by omega)
  obtain ⟨w1,b1,q1,g1⟩:=j4 (l.drop 8) (by simp;omega)
  obtain ⟨w2,b2,q2,g2⟩:=j4 (l.drop 16) (by simp;omega)
  obtain ⟨w3,b3,q3,g3⟩:=j4 (l.drop 24) (by simp;omega)
  have x1:=bp l 8 l.length
  have x2:=bp l 16 l.length
  have x3:=bp l 24 l.length
  have x4:=bp l 32 l.length
  rw [List.take_length] at x1 x2 x3 x4
  have o1:=cy w0 w1 b0 b1
  have o2:=cy w2 w3 b2 b3
  have o3:=cy (w0 ||| w1) (w2 ||| w3) (Nat.or_lt_two_pow b0 b1) (Nat.or_lt_two_pow b2 b3)
  have a1:=ld ((w0 ||| w1) ||| (w2 ||| w3)) 9259542123273814144 (Nat.or_lt_two_pow (Nat.or_lt_two_pow b0 b1) (Nat.or_lt_two_pow b2 b3)) (by decide)
  have hz:((w0 ||| w1) ||| (w2 ||| w3)) &&& 9259542123273814144=0→∀ i,i<32→(l.getD i 0).toNat<128:=fun hz i hi=>by
   obtain ⟨z1,z2⟩:=w8 hz
   obtain ⟨z3,z4⟩:=w8 z1
   obtain ⟨z5,z6⟩:=w8 z2
   rcases Nat.lt_or_ge i 8 with c|c
   ·exact g0 z3 i c
   rcases Nat.lt_or_ge i 16 with c2|c2
   ·have:=g1 z4 (i-8) (by omega)
    simpa [List.getD_eq_getElem?_getD,List.getElem?_drop,show 8+(i-8)=i by omega] using this
   rcases Nat.lt_or_ge i 24 with c3|c3
   ·have:=g2 z5 (i-16) (by omega)
    simpa [List.getD_eq_getElem?_getD,List.getElem?_drop,show 16+(i-16)=i by omega] using this
   ·have:=g3 z6 (i-24) (by omega)
    simpa [List.getD_eq_getElem?_getD,List.getElem?_drop,show 24+(i-24)=i by omega] using this
  have h1:32<l.length:=by omega
  have hI : ¬(l.length:Int)≤32:=by omega
  have h8:8≤l.length:=by omega
  have h16:16≤l.length:=by omega
  have h24:24≤l.length:=by omega
  have h32:32≤l.length:=by omega
  clear g0 g1 g2 g3 b0 b1 b2 b3
  simp only [Int.cast_ofNat_Int] at a1
  generalize w0 ||| w1=y1 at*
  generalize w2 ||| w3=y2 at*
  generalize y1 ||| y2=y3 at*
  generalize y3 &&& 9259542123273814144=y4 at*
  by_cases c:y4=0
  ·have c':(y4:Int)=0:=by omega
   obtain ⟨j,e,hj⟩:=vs0 H nx (m-32) (l.drop 32) (by simp;omega) (by simp;omega)
   refine ⟨32+j,?_,fun i hi => ?_⟩
   ·rw [ay,←List.drop_drop,←e]
    generalize IRC.loop ir156_0=LB at*
    clear e hj
    simp +contextual (maxSteps:=100000) [ir156_0,ssL,↓ssM,aa,ssU,Go.Sx.LV.undef,Go.undef,ssR,sz,h,h1,hI,h8,h16,h24,h32,q0,q1,q2,q3,x1,x2,x3,x4,o1,o2,o3,a1,c,c']
   ·rcases Nat.lt_or_ge i 32 with c2|c2
    ·exact hz c i c2
    ·have:=hj (i-32) (by omega)
     simpa [List.getD_eq_getElem?_getD,List.getElem?_drop,show 32+(i-32)=i by omega] using this
  ·have c' : ¬(y4:Int)=0:=by omega
   refine ⟨0,?_,fun i hi=>absurd hi (Nat.not_lt_zero _)⟩
   rw [ay,List.drop_zero]
   generalize IRC.loop ir156_0=LB at*
   simp +contextual (maxSteps:=100000) [ir156_0,ssL,↓ssM,aa,ssU,Go.Sx.LV.undef,Go.undef,ssR,sz,h,h1,hI,h8,h16,h24,h32,q0,q1,q2,q3,x1,x2,x3,x4,o1,o2,o3,a1,c,c']
termination_by m=>m
decreasing_by omega
end Go.Proofs.YtoeblkipfdnnlaaGreatDoor
end

section
namespace Go.Proofs.YtoeblkipfdnnlaaGreatDoor
open Go Go.Sx
set_option maxHeartbeats 1000000
def accL:List Nat:=[128,191,160,191,128,159,144,191,128,143,0,0,0,0,0,0,0,0,0,0,0,0,0,0,0,0,0,0,0,0,0,0]
def tabOk (a:Nat):Bool:=decide (a<128)||(match acc a with
 | some (n,lo,hi)=>decide (firstN a%8=n)&&decide (accL[2*(firstN a/16)]?=some lo)&&decide (accL[2*(firstN a/16)+1]?=some hi)&&decide (2≤n∧n≤4)
 | none=>decide (firstN a%8=1))
theorem xD:(List.range 256).all tabOk=true:=by decide +kernel
theorem mh {a:Nat} (h:a<256) (h2:128≤a) {n lo hi:Nat} (e:acc a=some (n,lo,hi)):
  firstN a%8=n∧accL[2*(firstN a/16)]?=some lo∧accL[2*(firstN a/16)+1]?=some hi∧2≤n∧n≤4:=by
 have:=List.all_eq_true.1 xD a (List.mem_range.2 h)
 unfold tabOk at this
 rw [e,decide_eq_false (by omega)] at this
 simp only [Bool.false_or,Bool.and_eq_true,decide_eq_true_eq] at this
 exact ⟨this.1.1.1,this.1.1.2,this.1.2,this.2⟩
theorem vM (H:Heap) (nx:Nat):run ⟨Ω,gG,H,nx⟩ (.loop ir156_1) ⟨[(0,.str ⟨#[]⟩)],⟨[],[]⟩⟩=some (.exit 0,⟨[],⟨[],[]⟩⟩):=by
 have sz:(⟨#[]⟩:ByteArray).size=0:=rfl
 rw [ay]
 simp +contextual (maxSteps:=100000) [ir156_1,ssL,↓ssM,aa,ssU,Go.Sx.LV.undef,Go.undef,ssR,sz]
theorem xF:Ψ 156 [.str ⟨#[]⟩] []=some (.bool true):=by
 have h:=vM
 refine aU (ir:=ir156) (by kernel_rfl) ?_;simp +contextual (maxSteps:=1000000) [ir156,ssL,↓ssM,aa,ssU,Go.Sx.LV.undef,Go.undef,ssR,h]
end Go.Proofs.YtoeblkipfdnnlaaGreatDoor
end

section
namespace Go.Proofs.YtoeblkipfdnnlaaGreatDoor
open Go Go.Sx
set_option maxHeartbeats 1000000
theorem zO (H:Heap) (nx:Nat) (a:UInt8) (r:List UInt8) (ha:a.toNat<128) (hl:r.length<2^29):
  ∃ j,run ⟨Ω,gG,H,nx⟩ ir156_1 ⟨[(0,.str ⟨(a::r).toArray⟩)],⟨[],[]⟩⟩=some (.normal,⟨[(0,.str ⟨(r.drop j).toArray⟩)],⟨[],[]⟩⟩)∧∀ i,i<j→(r.getD i 0).toNat<128:=by
 have sz:=aS (a::r)
 have sz2:=aS r
 have hL:(a::r).length=r.length+1:=rfl
 have hg : ∀ h:0<(a::r).length,(a::r)[0]'h=a:=fun _=>rfl
 have e1:=bp (a::r) 1 (a::r).length
 rw [List.take_length,List.drop_one,List.tail_cons] at e1
 have f1 : ¬(128:Int)≤a.toNat:=by omega
 have h0:0<(a::r).length:=by rw [hL];omega
 have h1:1≤(a::r).length:=h0
 have hI : ¬((a::r).length:Int)≤0:=by omega
 have h2 : ¬(a::r).length=0:=by omega
 generalize a::r=l at*
 by_cases c8:r.length≤8
 ·have cI:(r.length:Int)≤8:=by omega
  have c8' : ¬8<r.length:=by omega
  refine ⟨0,?_,fun i hi=>absurd hi (Nat.not_lt_zero _)⟩
  rw [List.drop_zero]
  simp +contextual (maxSteps:=60000) [ir156_1,ssL,↓ssM,aa,ssU,Go.Sx.LV.undef,Go.undef,ssR,sz,sz2,hg,e1,f1,h0,h1,hI,h2,c8,cI,c8']
 have cI : ¬(r.length:Int)≤8:=by omega
 have c8':8<r.length:=by omega
 have d8:8≤r.length:=by omega
 obtain ⟨w0,b0,q0,g0⟩:=j4 r (by omega)
 have a0:=ld w0 9259542123273814144 b0 (by decide)
 simp only [Int.cast_ofNat_Int] at a0
 have x8:=bp r 8 r.length
 rw [List.take_length] at x8
 by_cases z0:w0 &&& 9259542123273814144=0
 ·have g0':=g0 z0
  rw [z0] at a0
  have hr8:(r.drop 8).length=r.length-8:=List.length_drop
  have hd : ∀ k,r.drop (8+k)=(r.drop 8).drop k:=fun k=>by rw [List.drop_drop]
  have hgd : ∀ i,(r.getD (8+i) 0)=(r.drop 8).getD i 0:=fun i=>by simp [List.getD_eq_getElem?_getD,List.getElem?_drop]
  have sz3:=aS (r.drop 8)
  suffices hs : ∃ j,run ⟨Ω,gG,H,nx⟩ ir156_1 ⟨[(0,.str ⟨l.toArray⟩)],⟨[],[]⟩⟩=some (.normal,⟨[(0,.str ⟨((r.drop 8).drop j).toArray⟩)],⟨[],[]⟩⟩)∧∀ i,i<j→((r.drop 8).getD i 0).toNat<128 by
   obtain ⟨j,e,hj⟩:=hs
   refine ⟨8+j,by rw [hd];exact e,fun i hi => ?_⟩
   rcases Nat.lt_or_ge i 8 with c|c
   ·exact g0' i c
   ·have:=hj (i-8) (by omega)
    rwa [←hgd,show 8+(i-8)=i by omega] at this
  clear hd hgd g0 g0'
  generalize r.drop 8=t at*
  by_cases c16:t.length≤16
  ·have tI:(t.length:Int)≤16:=by omega
   have c16' : ¬16<t.length:=by omega
   refine ⟨0,?_,fun i hi=>absurd hi (Nat.not_lt_zero _)⟩
   rw [List.drop_zero]
   simp +contextual (maxSteps:=200000) [ir156_1,ssL,↓ssM,aa,ssU,Go.Sx.LV.undef,Go.undef,ssR,sz,sz2,sz3,hg,e1,f1,h0,h1,hI,h2,c8,cI,c8',d8,q0,a0,x8,c16,tI,c16']
  have tI : ¬(t.length:Int)≤16:=by omega
  have c16':16<t.length:=by omega
  have d8':8≤t.length:=by omega
  have d16:16≤t.length:=by omega
  obtain ⟨w1,b1,q1,g1⟩:=j4 t (by omega)
  obtain ⟨w2,b2,q2,g2⟩:=j4 (t.drop 8) (by simp;omega)
  have y8:=bp t 8 t.length
  have y16:=bp t 16 t.length
  rw [List.take_length] at y8 y16
  have o1:=cy w1 w2 b1 b2
  have a1:=ld (w1 ||| w2) 9259542123273814144 (Nat.or_lt_two_pow b1 b2) (by decide)
  simp only [Int.cast_ofNat_Int] at a1
  have gz:=@w8 w1 w2 9259542123273814144
  generalize w1 ||| w2=y at*
  by_cases z1:y &&& 9259542123273814144=0
  ·rw [z1] at a1
   obtain ⟨u1,u2⟩:=gz z1
   have g1':=g1 u1
   have g2':=g2 u2
   obtain ⟨j,e,hj⟩:=vs0 H nx (t.drop 16).length (t.drop 16) (Nat.le_refl _) (by simp;omega)
   refine ⟨16+j,?_,fun i hi => ?_⟩
   ·rw [←List.drop_drop]
    clear g1 g2 g1' g2' gz hj
    simp +contextual (maxSteps:=200000) [ir156_1,ssL,↓ssM,aa,ssU,Go.Sx.LV.undef,Go.undef,ssR,sz,sz2,sz3,hg,e1,f1,h0,h1,hI,h2,c8,cI,c8',d8,q0,a0,x8,c16,tI,c16',d8',d16,q1,q2,y8,y16,o1,a1,e]
   ·rcases Nat.lt_or_ge i 8 with c|c
    ·exact g1' i c
    rcases Nat.lt_or_ge i 16 with c2|c2
    ·have:=g2' (i-8) (by omega)
     simpa [List.getD_eq_getElem?_getD,List.getElem?_drop,show 8+(i-8)=i by omega] using this
    ·have:=hj (i-16) (by omega)
     simpa [List.getD_eq_getElem?_getD,List.getElem?_drop,show 16+(i-16)=i by omega] using this
  ·have z1' : ¬((y &&& 9259542123273814144:Nat):Int)=0:=by omega
   refine ⟨0,?_,fun i hi=>absurd hi (Nat.not_lt_zero _)⟩
   rw [List.drop_zero]
   clear g1 g2 gz
   generalize y &&& 9259542123273814144=n1 at*
   simp +contextual (maxSteps:=200000) [ir156_1,ssL,↓ssM,aa,ssU,Go.Sx.LV.undef,Go.undef,ssR,sz,sz2,sz3,hg,e1,f1,h0,h1,hI,h2,c8,cI,c8',d8,q0,a0,x8,c16,tI,c16',d8',d16,q1,q2,y8,y16,o1,a1,z1,z1']
 ·have z0' : ¬((w0 &&& 9259542123273814144:Nat):Int)=0:=by omega
  refine ⟨0,?_,fun i hi=>absurd hi (Nat.not_lt_zero _)⟩
  rw [List.drop_zero]
  clear g0
  generalize w0 &&& 9259542123273814144=n0 at*
  simp +contextual (maxSteps:=200000) [ir156_1,ssL,↓ssM,aa,ssU,Go.Sx.LV.undef,Go.undef,ssR,sz,sz2,hg,e1,f1,h0,h1,hI,h2,c8,cI,c8',d8,q0,a0,x8,z0,z0']
end Go.Proofs.YtoeblkipfdnnlaaGreatDoor
end

section
namespace Go.Proofs.YtoeblkipfdnnlaaGreatDoor
open Go Go.Sx
set_option maxHeartbeats 1000000
theorem yv (x:Nat) (hx:x<256):binI .and .u8 x 7=some (.int .u8 (x%8:Nat)):=by
 have:binI .and .u8 (x:Int) 7=some (.int .u8 (IntKind.u8.wrap (BitVec.ofInt 8 (x:Int) &&& BitVec.ofInt 8 (7:Int)).toNat)):=rfl
 have h7:BitVec.ofInt 8 (7:Int)=7#8:=rfl
 have hm:x &&& 7=x%8:=Nat.and_two_pow_sub_one_eq_mod x 3
 rw [this,BitVec.ofInt_natCast,h7,BitVec.toNat_and,BitVec.toNat_ofNat,Nat.mod_eq_of_lt (by omega)]
 rw [show (7#8).toNat=7 from rfl,hm]
 congr 2
 have:x%8<8:=Nat.mod_lt _ (by decide)
 rw [iZ]
 simp only [UInt8.toNat_ofNat']
 omega
theorem zG (x:Nat):shI .shr .u8 x 4=some (.int .u8 (x/16:Nat)):=by
 have:shI .shr .u8 (x:Int) 4=some (.int .u8 ((x:Int).fdiv (2^(min 4 8)))):=by
  simp only [shI]
  rw [if_neg (by omega)]
  rfl
 rw [this]
 congr 2
 rw [show ((2:Int)^(min 4 8))=((16:Nat):Int) from rfl,Int.fdiv_eq_ediv_of_nonneg _ (by omega)]
 exact (Int.natCast_ediv x 16).symm
theorem fM {a:Nat} (h:a<256):firstT[a]?=some (.s (.int .u8 (firstN a:Nat))):=by
 unfold firstT
 rw [List.getElem?_map,List.getElem?_range h];rfl
theorem fN:firstT.length=256:=by simp [firstT]
theorem kY:accT=accL.map fun a:Nat=>PV.s (.int .u8 (a:Int)):=rfl
theorem hP (a:Nat):firstN a<256:=by
 unfold firstN
 repeat' split
 all_goals omega
theorem gG1:gG 1=some firstT:=rfl
theorem gG2:gG 2=some accT:=rfl
end Go.Proofs.YtoeblkipfdnnlaaGreatDoor
end

section
namespace Go.Proofs.YtoeblkipfdnnlaaGreatDoor
open Go Go.Sx
set_option maxHeartbeats 1000000
theorem zP (H:Heap) (nx:Nat) (a b:UInt8) (r:List UInt8) (ha:128≤a.toNat) (lo hi:Nat) (e:acc a.toNat=some (2,lo,hi)) (hlo:lo≤b.toNat) (hhi:b.toNat≤hi):
  run ⟨Ω,gG,H,nx⟩ ir156_1 ⟨[(0,.str ⟨(a::b::r).toArray⟩)],⟨[],[]⟩⟩=some (.normal,⟨[(0,.str ⟨r.toArray⟩)],⟨[],[]⟩⟩):=by
 have h8:=a.toNat_lt
 have sz:=aS (a::b::r)
 obtain ⟨t1,t2,t3,-,-⟩:=mh (by omega) ha e
 have fl:=hP a.toNat
 have k7:=yv (firstN a.toNat) fl
 have k4:=zG (firstN a.toNat)
 rw [t1] at k7
 have gt:=fM (show a.toNat<256 by omega)
 have ft:=fN
 have G1:=gG1
 have G2:=gG2
 have hg0 : ∀ h:0<(a::b::r).length,(a::b::r)[0]'h=a:=fun _=>rfl
 have f1:(128:Int)≤a.toNat:=by omega
 have h0:0<(a::b::r).length:=by simp
 have hI : ¬((a::b::r).length:Int)≤0:=by simp;omega
 have h2 : ¬(a::b::r).length=0:=by simp
 have w1:IntKind.i64.wrap 2=2:=by decide
 have gg : ∀ h,firstT[a.toNat]'h = .s (.int .u8 (firstN a.toNat:Nat)):=fun h=>(List.getElem?_eq_some_iff.1 gt).2
 clear gt
 have hF:firstN a.toNat/16<16:=by omega
 have aL:accT.length=32:=rfl
 have pf:List.take 2 (List.drop ((((firstN a.toNat:Nat):Int)/16).toNat*2) (List.map LV.p accT))=[.p (.s (.int .u8 (lo:Int))),.p (.s (.int .u8 (hi:Int)))]:=by
  have e1:(((firstN a.toNat:Nat):Int)/16).toNat=firstN a.toNat/16:=by omega
  rw [e1,Nat.mul_comm]
  have hb:2*(firstN a.toNat/16)+1<accL.length:=by rw [show accL.length=32 from rfl];omega
  rw [List.getElem?_eq_getElem (by omega)] at t2 t3
  simp only [Option.some.injEq] at t2 t3
  rw [kY,List.map_map,←List.map_drop,List.drop_eq_getElem_cons (show 2*(firstN a.toNat/16)<accL.length by omega),List.drop_eq_getElem_cons hb,t2,t3]
  rfl
 simp only [Int.cast_ofNat_Int] at k7
 have f2:(2:Int)≤((a::b::r).length:Int):=by simp;omega
 have n1:1<(a::b::r).length:=by simp
 have n2:2≤(a::b::r).length:=by simp
 have hg1 : ∀ h:1<(a::b::r).length,(a::b::r)[1]'h=b:=fun _=>rfl
 have c1:(lo:Int)≤b.toNat:=by omega
 have c2:(b.toNat:Int)≤hi:=by omega
 have x2:=bp (a::b::r) 2 (a::b::r).length
 rw [List.take_length,show (a::b::r).drop 2=r from rfl] at x2
 generalize firstT=FT at*
 generalize accT=AT at*
 generalize a::b::r=l at*
 generalize firstN a.toNat=F at*
 clear t1 t2 t3 e
 simp +contextual (maxSteps:=200000) [ir156_1,ssL,↓ssM,aa,ssU,Go.Sx.LV.undef,Go.undef,ssR,sz,hg0,hg1,f1,f2,n1,n2,h0,hI,h2,k7,k4,G1,G2,ft,gg,w1,pf,aL,hF,c1,c2,x2]
 omega
end Go.Proofs.YtoeblkipfdnnlaaGreatDoor
end
