/- What the proof of the claim leans on, part 1 of 5: the value machine, the functions as it has them, their specifications. No condition. -/
import Derived.WalkKit
import Derived.Laws.IdiomCopy
import Derived.Laws.Append
import Derived.Below
import Derived.Laws.IdiomStrings
import Derived.Laws.Tables
import Derived.Laws.Slices
import Derived.Laws.MakeOwn
import Derived.Laws.BytesString
import Derived.Laws.Externs
import Derived.Lib.BytesEntry
import Derived.KernelRfl
set_option linter.all false
set_option linter.unnecessarySimpa false
set_option linter.unusedSimpArgs false
set_option linter.unusedVariables false
set_option linter.constructorNameAsVariable false
set_option maxHeartbeats 4000000
section
namespace Go.Sx
open Go
inductive PV where
 | s (v:Value)
 | agg (cs:List PV)
 | imm (cs:List PV) (off:Nat)
 | sl (cs:List PV) (len sz:Nat) (full:Bool)
 deriving Inhabited
inductive LV where
 | junk
 | p (x:PV)
 | ref (id off:Nat)
 | arr (id off len sz cap:Nat) (ex:Bool)
 | agg (cs:List LV)
 | tuple (vs:List LV)
 | fn (f:FuncId) (first captured:List LV)
 deriving Inhabited
inductive Obj where
 | cells (cs:List LV)
 | iter (s:ByteArray) (pos:Nat)
 deriving Inhabited
abbrev LV.int (k:IntKind) (n:Int):LV:=.p (.s (.int k n))
abbrev LV.bool (b:Bool):LV:=.p (.s (.bool b))
abbrev LV.str (b:ByteArray):LV:=.p (.s (.string b))
abbrev LV.undef:LV:=.p (.s Go.undef)
def allP:List LV→Option (List PV)
 | []=>some []
 | .p x::r=>match allP r with
  | some l=>some (x::l)
  | none=>none
 | _::_=>none
def mkAgg (cs:List LV):LV:=match allP cs with
 | some l=>.p (.agg l)
 | none=>.agg cs
def ofConst:Value→LV
 | .agg cs=>if cs.all (·.oneCell') then .p (.agg (cs.toList.map .s)) else .junk
 | v=>.p (.s v)
def LV.cells:LV→Option (List LV)
 | .junk=>none
 | .tuple _=>none
 | .p (.agg cs)=>some (cs.map .p)
 | .agg cs=>some cs
 | .p (.s v)=>if v.oneCell' then some [.p (.s v)] else none
 | x=>some [x]
inductive Opd where
 | t (slot:Nat)
 | c (v:LV)
 | g (n:Nat)
 deriving Inhabited
inductive EK where
 | bool|ptr|slice|func|iface
 deriving DecidableEq,Inhabited
inductive IROp where
 | mv (x:Opd)
 | pick (c a b:Opd)
 | box (im:Bool) (x:Opd)
 | alloc (im:Bool) (zero:List PV)
 | build (zero:List PV) (parts:List (Nat × Nat × Opd))
 | mkSl (im:Bool) (len sz:Nat) (zero:List PV) (parts:List (Nat × Nat × Opd))
 | load (sz:Nat) (ag:Bool) (x:Opd)
 | store (sz:Nat) (a x:Opd)
 | nilCk (x:Opd)
 | bin (b:BinOp) (x y:Opd)
 | eq (neg:Bool) (k:EK) (x y:Opd)
 | un (u:UnOp) (x:Opd)
 | cvt (k:IntKind) (x:Opd)
 | strC (x:Opd)
 | s2b (im:Bool) (x:Opd)
 | b2s (x:Opd)
 | fieldAddr (off:Nat) (x:Opd)
 | field (off sz:Nat) (ag:Bool) (x:Opd)
 | idxASl (sz:Nat) (x i:Opd)
 | idxAArr (n sz:Nat) (x i:Opd)
 | idxStr (x i:Opd)
 | idxArr (n sz:Nat) (ag:Bool) (x i:Opd)
 | slStr (x:Opd) (lo hi:Option Opd)
 | slSl (sz:Nat) (x:Opd) (lo hi mx:Option Opd)
 | slArr (n sz:Nat) (x:Opd) (lo hi mx:Option Opd)
 | len (str:Bool) (x:Opd)
 | app (sz bytes:Nat) (x y:Opd)
 | copy (sz:Nat) (x y:Opd)
 | minmax (mx:Bool) (xs:List Opd)
 | call (f:FuncId) (args:List Opd)
 | callv (x:Opd) (args:List Opd)
 | ext (x:Opd) (i:Nat)
 | mkFn (f:FuncId) (first captured:List Opd)
 | mkSlice (sz bytes:Nat) (zero:List PV) (len cap:Opd)
 | clr (sz:Nat) (zero:List PV) (x:Opd)
 | rng (x:Opd)
 | nxt (x:Opd)
 | cap (x:Opd)
 | copyX (sz:Nat) (x y:Opd)
 | ovl (x y:Opd)
 | cmpB (x y:Opd)
 | appZ (sz bytes:Nat) (zero:List PV) (x k:Opd)
 | bad
 deriving Inhabited
def Opd.slots:Opd→List Nat
 | .t s=>[s]
 | _=>[]
def oslots:Option Opd→List Nat
 | some x=>x.slots
 | none=>[]
def IROp.slots:IROp→List Nat
 | .mv x | .box _ x | .load _ _ x | .nilCk x | .un _ x | .cvt _ x | .strC x | .s2b _ x | .b2s x | .fieldAddr _ x | .field _ _ _ x | .len _ x | .ext x _ | .clr _ _ x | .rng x | .nxt x | .cap x=>x.slots
 | .pick a b c=>a.slots++b.slots++c.slots
 | .alloc _ _ | .bad=>[]
 | .build _ ps | .mkSl _ _ _ _ ps=>ps.flatMap fun (_,_,x)=>x.slots
 | .store _ a x | .bin _ a x | .eq _ _ a x | .idxASl _ a x | .idxAArr _ _ a x | .idxStr a x | .idxArr _ _ _ a x | .app _ _ a x | .copy _ a x | .mkSlice _ _ _ a x | .copyX _ a x | .ovl a x | .cmpB a x | .appZ _ _ _ a x=>a.slots++x.slots
 | .slStr x a b=>x.slots++oslots a++oslots b
 | .slSl _ x a b c | .slArr _ _ x a b c=>x.slots++oslots a++oslots b++oslots c
 | .minmax _ xs | .call _ xs=>xs.flatMap Opd.slots
 | .callv x xs=>x.slots++xs.flatMap Opd.slots
 | .mkFn _ a b=>a.flatMap Opd.slots++b.flatMap Opd.slots
structure IROper where
 dst:Option Nat
 op:IROp
 guard:Option (Nat × Bool)
 deriving Inhabited
inductive IRC where
 | skip
 | region (ops:List IROper) (draw:Option (List Nat)) (live:List Nat)
 | seq (a b:IRC)
 | cond (c:Opd) (a b:IRC)
 | block (id:Nat) (c:IRC)
 | loop (c:IRC)
 | exit (id:Nat)
 | ret
 | bad
 | label (l:Nat) (live:List Nat)
 | goto (l:Nat)
 | scope (a:IRC) (l:Nat) (b:IRC)
 | tidy (keep fz:List Nat)
 | regq (fin:Bool) (ops:List IROper) (live:List Nat)
 deriving Inhabited
structure IRF where
 params:List Nat
 body:IRC
 results:List (Nat × Option (Nat × Bool))
 own:Bool
 deriving Inhabited
abbrev Env:=List (Nat × LV)
abbrev Heap:=Nat→Option Obj
abbrev Upd:=List (Nat × Option Obj)
abbrev Oracle:=FuncId→List LV→Heap→Nat→Option (LV × Upd × List (Option Obj))
structure Hp where
 upd:Upd
 new:List (Option Obj)
 deriving Inhabited
structure Ctx where
 O:Oracle
 G:Nat→Option (List PV)
 H:Heap
 nx:Nat
def get (env:Env) (t:Nat):LV:=match env with
 | []=>.junk
 | (u,v)::r=>if t=u then v else get r t
def findU (u:Upd) (id:Nat):Option (Option Obj):=match u with
 | []=>none
 | (j,o)::r=>if id=j then some o else findU r id
def setU (u:Upd) (id:Nat) (o:Option Obj):Upd:=match u with
 | []=>[(id,o)]
 | (j,p)::r=>if id=j then (j,o)::r else (j,p)::setU r id o
def look (H:Heap) (nx:Nat) (h:Hp) (id:Nat):Option Obj:=
 if id<nx then (match findU h.upd id with
  | some o=>o
  | none=>H id)
 else match h.new[id-nx]? with
  | some o=>o
  | none=>none
def setObj (nx:Nat) (h:Hp) (id:Nat) (o:Option Obj):Hp:=
 if id<nx then { h with upd:=setU h.upd id o } else { h with new:=h.new.set (id-nx) o }
def push (h:Hp) (o:Obj):Hp := { h with new:=h.new++[some o] }
def setAll (nx:Nat) (h:Hp):Upd→Hp
 | []=>h
 | (id,o)::r=>setObj nx (setAll nx h r) id o
def opd (c:Ctx) (env:Env):Opd→LV
 | .t s=>get env s
 | .c v=>v
 | .g n=>match c.G n with
  | some cs=>.p (.imm cs 0)
  | none=>.junk
def slCells (H:Heap) (nx:Nat) (h:Hp):LV→Option (List LV × Nat)
 | .p (.s (.slice none 0 0))=>some ([],0)
 | .p (.s (.string b))=>some (b.data.toList.map (fun x=>.int .u8 x.toNat),b.size)
 | .p (.sl cs len _ _)=>some (cs.map .p,len)
 | .arr id off len sz _ _=>match look H nx h id with
  | some (.cells cs)=>if off+len*sz≤cs.length then some ((cs.drop off).take (len*sz),len) else none
  | _=>none
 | _=>none
def slPart (H:Heap) (nx:Nat) (h:Hp) (m sz:Nat):LV→Option (List LV × Nat)
 | .arr id off len sz' _ _=>match look H nx h id with
  | some (.cells cs)=>if sz'=sz∧off+min len m*sz≤cs.length then some ((cs.drop off).take (min len m*sz),len) else none
  | _=>none
 | v=>match slCells H nx h v with
  | some (yc,n)=>if yc.length=n*sz then some (yc.take (min n m*sz),n) else none
  | none=>none
def fillP (cells:List LV):List (Nat × Nat × LV)→Option (List LV)
 | []=>some cells
 | (off,sz,v)::r=>match v.cells with
  | some cs=>if cs.length=sz∧off+sz≤cells.length then fillP (cells.take off++cs++cells.drop (off+sz)) r else none
  | none=>none
def splice (cells:List LV) (off:Nat) (cs:List LV):List LV:=cells.take off++cs++cells.drop (off+cs.length)
def rd (cs:List LV) (off sz:Nat) (ag:Bool):Option LV:=
 if ag then (if off+sz≤cs.length then some (mkAgg ((cs.drop off).take sz)) else none) else cs[off]?
def leI (x y:Int):Bool:=match x,y with
 | .ofNat a,.ofNat b=>a.ble b
 | .ofNat _,.negSucc _=>false
 | .negSucc _,.ofNat _=>true
 | .negSucc a,.negSucc b=>b.ble a
theorem leI_eq (x y:Int):leI x y=decide (x≤y):=by
 rw [Bool.eq_iff_iff,decide_eq_true_iff]
 cases x<;>cases y<;>simp only [leI,Nat.ble_eq,Bool.false_eq_true,false_iff,true_iff,Int.ofNat_eq_natCast,Int.negSucc_eq]<;>omega
theorem xV (x y:Int):(!decide (y≤x))=decide (x<y):=by
 rw [←decide_not,decide_eq_decide];omega
def binI (b:BinOp) (k:IntKind) (x y:Int):Option Value:=match b with
 | .add=>some (.int k (k.wrap (x+y)))
 | .sub=>some (.int k (k.wrap (x-y)))
 | .mul=>some (.int k (k.wrap (x*y)))
 | .quo=>if y=0 then none else some (.int k (k.wrap (x.tdiv y)))
 | .rem=>if y=0 then none else some (.int k (x.tmod y))
 | .and=>some (.int k (k.wrap (BitVec.ofInt k.bits x &&& BitVec.ofInt k.bits y).toNat))
 | .or=>some (.int k (k.wrap (BitVec.ofInt k.bits x ||| BitVec.ofInt k.bits y).toNat))
 | .xor=>some (.int k (k.wrap (BitVec.ofInt k.bits x ^^^ BitVec.ofInt k.bits y).toNat))
 | .andNot=>some (.int k (k.wrap (BitVec.ofInt k.bits x &&& ~~~ BitVec.ofInt k.bits y).toNat))
 | .eql=>some (.bool (x==y))
 | .neq=>some (.bool (x != y))
 | .lss=>some (.bool (!leI y x))
 | .leq=>some (.bool (leI x y))
 | .gtr=>some (.bool (!leI x y))
 | .geq=>some (.bool (leI y x))
 | _=>none
def shI (b:BinOp) (k:IntKind) (x y:Int):Option Value:=if y<0 then none else match b with
 | .shl=>some (.int k (k.wrap (x*2^(min y.toNat k.bits))))
 | .shr=>some (.int k (x.fdiv (2^(min y.toNat k.bits))))
 | _=>none
def binS (b:BinOp) (x y:ByteArray):Option Value:=match b with
 | .add=>if ((x.size+y.size:Nat):Int)>IntKind.i64.max then none else some (.string (x++y))
 | .eql=>some (.bool (x.toList==y.toList))
 | .neq=>some (.bool (!(x.toList==y.toList)))
 | .lss=>some (.bool (Op.bytesLess x.toList y.toList))
 | .leq=>some (.bool (Op.bytesLess x.toList y.toList||x.toList==y.toList))
 | .gtr=>some (.bool (!(Op.bytesLess x.toList y.toList||x.toList==y.toList)))
 | .geq=>some (.bool (!(Op.bytesLess x.toList y.toList)))
 | _=>none
def isSh:BinOp→Bool
 | .shl=>true
 | .shr=>true
 | _=>false
def binL (b:BinOp) (x y:LV):Option LV:=match x,y with
 | .p (.s (.int k a)),.p (.s (.int k' c))=>(if isSh b then shI b k a c else if k=k' then binI b k a c else none).map (fun v=>.p (.s v))
 | .p (.s (.string a)),.p (.s (.string c))=>(binS b a c).map (fun v=>.p (.s v))
 | _,_=>none
def eqL (k:EK) (x y:LV):Option Bool:=match k,x,y with
 | .bool,.p (.s (.bool a)),.p (.s (.bool b))=>some (a==b)
 | .ptr,.p (.s (.pointer none)),.p (.s (.pointer none))=>some true
 | .ptr,.p (.s (.pointer none)),.p (.imm _ _)=>some false
 | .ptr,.p (.s (.pointer none)),.ref _ _=>some false
 | .ptr,.p (.imm _ _),.p (.s (.pointer none))=>some false
 | .ptr,.ref _ _,.p (.s (.pointer none))=>some false
 | .slice,.p (.s (.slice none _ _)),.p (.s (.slice none _ _))=>some true
 | .slice,.p (.s (.slice none _ _)),.p (.sl _ _ _ _)=>some false
 | .slice,.p (.s (.slice none _ _)),.arr _ _ _ _ _ _=>some false
 | .slice,.p (.sl _ _ _ _),.p (.s (.slice none _ _))=>some false
 | .slice,.arr _ _ _ _ _ _,.p (.s (.slice none _ _))=>some false
 | .func,.p (.s .nilFunc),.p (.s .nilFunc)=>some true
 | .func,.fn _ _ _,.p (.s .nilFunc)=>some false
 | .func,.p (.s .nilFunc),.fn _ _ _=>some false
 | .iface,.p (.s .nilIface),.p (.s .nilIface)=>some true
 | _,_,_=>none
def unL (u:UnOp) (x:LV):Option LV:=match u,x with
 | .neg,.p (.s (.int k n))=>some (.int k (k.wrap (0-n)))
 | .xor,.p (.s (.int k n))=>some (.int k (k.wrap (BitVec.ofInt k.bits (if k.signed then -1 else k.max) ^^^ BitVec.ofInt k.bits n).toNat))
 | .not,.p (.s (.bool b))=>some (.bool (!b))
 | _,_=>none
def natL:LV→Option Nat
 | .p (.s (.int _ n))=>if 0≤n then some n.toNat else none
 | _=>none
def bytesL:List LV→Option (List UInt8)
 | []=>some []
 | .p (.s (.int .u8 n))::r=>match bytesL r with
  | some l=>some (UInt8.ofNat n.toNat::l)
  | none=>none
 | _::_=>none
def cmpL:List UInt8→List UInt8→Int
 | [],[]=>0
 | [],_::_ => -1
 | _::_,[]=>1
 | a::x,b::y=>if a=b then cmpL x y else if a<b then -1 else 1
def mm2 (mx:Bool) (x y:LV):Option LV:=match x,y with
 | .p (.s (.int k a)),.p (.s (.int _ b))=>some (.int k (if mx then (if b>a then b else a) else (if b<a then b else a)))
 | _,_=>none
def mmL (mx:Bool):LV→List LV→Option LV
 | x,[]=>some x
 | x,y::r=>match mm2 mx x y with
  | some z=>mmL mx z r
  | none=>none
def ids:LV→List Nat
 | .ref id _=>[id]
 | .arr id _ _ _ _ _=>[id]
 | .agg cs=>idsL cs
 | .tuple cs=>idsL cs
 | .fn _ a b=>idsL a++idsL b
 | _=>[]
 where idsL:List LV→List Nat
 | []=>[]
 | x::r=>ids x++idsL r
def Obj.ids:Obj→List Nat
 | .cells cs=>ids.idsL cs
 | .iter _ _=>[]
def reach (lk:Nat→Option Obj):Nat→List Nat→List Nat→Option (List Nat)
 | _,[],seen=>some seen
 | 0,_::_,_=>none
 | n+1,id::todo,seen=>
  if seen.contains id then reach lk n todo seen
  else match lk id with
   | some o=>reach lk n (o.ids++todo) (seen++[id])
   | none=>reach lk n todo seen
structure Res where
 v:LV
 h:Hp
 tch:List Nat
 md:Bool
 deriving Inhabited
def callO (c:Ctx) (dr:Bool) (h:Hp) (f:FuncId) (args:List LV):Option Res:=
 if dr then
  match reach (look c.H c.nx h) 1000 (ids.idsL args) [] with
  | some S=>
   if (ids.idsL args++S.flatMap (fun id=>match look c.H c.nx h id with
    | some o=>o.ids
    | none=>[])).all (fun id=>decide (id<c.nx+h.new.length)) then
   match c.O f args (fun id=>if S.contains id then look c.H c.nx h id else none) (c.nx+h.new.length) with
   | some (r,u,n)=>some ⟨r,{ setAll c.nx h u with new:=(setAll c.nx h u).new++n },S,!u.isEmpty⟩
   | none=>none
   else none
  | none=>none
 else
  match c.O f args (look c.H c.nx h) (c.nx+h.new.length) with
  | some (r,u,n)=>some ⟨r,{ setAll c.nx h u with new:=(setAll c.nx h u).new++n },[],!u.isEmpty⟩
  | none=>none
def appO (c:Ctx) (h:Hp) (sz bytes:Nat) (x y:LV):Option Res:=
 match slCells c.H c.nx h y with
 | none=>none
 | some (yc,n)=>
  if yc.length≠n*sz then none
  else if n=0 then (match x with
   | .p (.s (.slice none 0 0))=>some ⟨.p (.s (.slice none 0 0)),h,ids y,false⟩
   | .p (.sl _ _ _ _)=>some ⟨x,h,ids y,false⟩
   | .arr _ _ _ _ _ _=>some ⟨x,h,ids y,false⟩
   | _=>none)
  else match x with
   | .p (.s (.slice none 0 0))=>if n*bytes≤2^40 then some ⟨.arr (c.nx+h.new.length) 0 n sz n false,push h (.cells yc),ids y,false⟩ else none
   | .p (.sl cs len sz' full)=>
    if full∧cs.length=len*sz∧sz'=sz∧(len+n)*bytes≤2^40 then
     some ⟨.arr (c.nx+h.new.length) 0 (len+n) sz (len+n) false,push h (.cells (cs.map .p++yc)),ids y,false⟩
    else none
   | .arr id off len sz' cp ex=>
    match look c.H c.nx h id with
    | some (.cells cs)=>
     if sz'≠sz∨(len+n)*bytes>2^40∨off+len*sz>cs.length then none
     else if ex=true∧cp=len then
      some ⟨.arr (c.nx+h.new.length) 0 (len+n) sz (len+n) false,push h (.cells ((cs.drop off).take (len*sz)++yc)),id::ids y,false⟩
     else if off+len*sz=cs.length then
      some ⟨.arr (c.nx+h.new.length) 0 (len+n) sz (len+n) false,push (setObj c.nx h id none) (.cells (cs.drop off++yc)),id::ids y,true⟩
     else if off+(len+n)*sz≤cs.length∧len+n≤cp then
      some ⟨.arr id off (len+n) sz cp ex,setObj c.nx h id (some (.cells (splice cs (off+len*sz) yc))),id::ids y,true⟩
     else none
    | _=>none
   | _=>none
def sliceO (sz:Nat) (x:LV) (lo hi mx:Option Nat):Option LV:=
 match x with
 | .p (.s (.slice none 0 0))=>
  if lo.getD 0=0∧hi.getD 0=0∧mx.getD 0=0∧(mx.isSome→hi.isSome) then some (.p (.s (.slice none 0 0))) else none
 | .p (.sl cs len sz' full)=>
  if sz'=sz∧cs.length=len*sz then
   let l:=lo.getD 0
   let h:=hi.getD len
   match mx with
   | none=>if l≤h∧h≤len then some (.p (.sl ((cs.drop (l*sz)).take ((h-l)*sz)) (h-l) sz (full&&h==len))) else none
   | some m=>if l≤h∧h≤m∧m≤len∧hi.isSome then some (.p (.sl ((cs.drop (l*sz)).take ((h-l)*sz)) (h-l) sz (h==m))) else none
  else none
 | .arr id off len sz' cp ex=>
  if sz'=sz then
   let l:=lo.getD 0
   let h:=hi.getD len
   match mx with
   | none=>if l≤h∧(h≤len∨h≤cp) then some (.arr id (off+l*sz) (h-l) sz (cp-l) ex) else none
   | some m=>if l≤h∧h≤m∧m≤len∧hi.isSome then some (.arr id (off+l*sz) (h-l) sz (m-l) true) else none
  else none
 | _=>none
def optMap (f:Opd→LV):Option Opd→Option (Option Nat)
 | none=>some none
 | some x=>match natL (f x) with
  | some n=>some (some n)
  | none=>none
def evOp (c:Ctx) (dr:Bool) (env:Env) (h:Hp) (op:IROp):Option Res:=
 let ρ:=opd c env
 let pure' (v:LV):Option Res:=some ⟨v,h,[],false⟩
 let alloc' (o:Obj) (v:LV):Option Res:=some ⟨v,push h o,[],false⟩
 match op with
 | .mv x=>pure' (ρ x)
 | .pick b x y=>match ρ b with
  | .p (.s (.bool t))=>pure' (if t then ρ x else ρ y)
  | _=>none
 | .box im x=>match (ρ x).cells with
  | some cs=>if im then (match allP cs with
    | some ps=>pure' (.p (.imm ps 0))
    | none=>none)
   else alloc' (.cells cs) (.ref (c.nx+h.new.length) 0)
  | none=>none
 | .alloc im zero=>if im then pure' (.p (.imm zero 0)) else alloc' (.cells (zero.map .p)) (.ref (c.nx+h.new.length) 0)
 | .build zero parts=>match fillP (zero.map .p) (parts.map fun (o,s,x)=>(o,s,ρ x)) with
  | some cs=>pure' (mkAgg cs)
  | none=>none
 | .mkSl im len sz zero parts=>match fillP (zero.map .p) (parts.map fun (o,s,x)=>(o,s,ρ x)) with
  | some cs=>if im then (match allP cs with
    | some ps=>pure' (.p (.sl ps len sz true))
    | none=>none)
   else alloc' (.cells cs) (.arr (c.nx+h.new.length) 0 len sz len true)
  | none=>none
 | .load sz ag x=>match ρ x with
  | .p (.imm cs off)=>match rd (cs.map .p) off sz ag with
   | some v=>pure' v
   | none=>none
  | .ref id off=>match look c.H c.nx h id with
   | some (.cells cs)=>match rd cs off sz ag with
    | some v=>some ⟨v,h,[id],false⟩
    | none=>none
   | _=>none
  | _=>none
 | .store sz a x=>match ρ a,(ρ x).cells with
  | .ref id off,some vs=>match look c.H c.nx h id with
   | some (.cells cs)=>if vs.length=sz∧off+sz≤cs.length then some ⟨.undef,setObj c.nx h id (some (.cells (splice cs off vs))),[id],true⟩ else none
   | _=>none
  | _,_=>none
 | .nilCk x=>match ρ x with
  | .p (.imm cs o)=>pure' (.p (.imm cs o))
  | .ref id o=>pure' (.ref id o)
  | .fn f a b=>pure' (.fn f a b)
  | _=>none
 | .bin b x y=>match binL b (ρ x) (ρ y) with
  | some v=>pure' v
  | none=>none
 | .eq neg k x y=>match eqL k (ρ x) (ρ y) with
  | some t=>pure' (.bool (if neg then !t else t))
  | none=>none
 | .un u x=>match unL u (ρ x) with
  | some v=>pure' v
  | none=>none
 | .cvt k x=>match ρ x with
  | .p (.s (.int _ n))=>pure' (.int k (k.wrap n))
  | _=>none
 | .strC x=>match ρ x with
  | .p (.s (.string b))=>pure' (.str b)
  | _=>none
 | .s2b _ x=>match ρ x with
  | .p (.s (.string b))=>pure' (.p (.sl (b.data.toList.map fun x=>.s (.int .u8 x.toNat)) b.size 1 false))
  | _=>none
 | .b2s x=>match ρ x with
  | .p (.s (.string _))=>none
  | v=>match slCells c.H c.nx h v with
   | some (cs,n)=>if cs.length=n then (match bytesL cs with
    | some l=>some ⟨.str ⟨l.toArray⟩,h,ids v,false⟩
    | none=>none) else none
   | none=>none
 | .fieldAddr off x=>match ρ x with
  | .p (.imm cs o)=>pure' (.p (.imm cs (o+off)))
  | .ref id o=>pure' (.ref id (o+off))
  | _=>none
 | .field off sz ag x=>match ρ x with
  | .p (.agg cs)=>match rd (cs.map .p) off sz ag with
   | some v=>pure' v
   | none=>none
  | .agg cs=>match rd cs off sz ag with
   | some v=>pure' v
   | none=>none
  | _=>none
 | .idxASl sz x i=>match ρ x,natL (ρ i) with
  | .p (.sl cs len sz' _),some n=>if n<len∧sz'=sz then pure' (.p (.imm cs (n*sz))) else none
  | .arr id off len sz' _ _,some n=>if n<len∧sz'=sz then pure' (.ref id (off+n*sz)) else none
  | _,_=>none
 | .idxAArr m sz x i=>match ρ x,natL (ρ i) with
  | .p (.imm cs off),some n=>if n<m then pure' (.p (.imm cs (off+n*sz))) else none
  | .ref id off,some n=>if n<m then pure' (.ref id (off+n*sz)) else none
  | _,_=>none
 | .idxStr x i=>match ρ x,natL (ρ i) with
  | .p (.s (.string b)),some n=>match b.data[n]? with
   | some u=>pure' (.int .u8 u.toNat)
   | none=>none
  | _,_=>none
 | .idxArr m sz ag x i=>match ρ x,natL (ρ i) with
  | .p (.agg cs),some n=>if n<m then (match rd (cs.map .p) (n*sz) sz ag with
   | some v=>pure' v
   | none=>none) else none
  | _,_=>none
 | .slStr x lo hi=>match ρ x,optMap ρ lo,optMap ρ hi with
  | .p (.s (.string b)),some l,some m=>
   if l.getD 0≤m.getD b.size∧m.getD b.size≤b.size then pure' (.str (b.extract (l.getD 0) (m.getD b.size))) else none
  | _,_,_=>none
 | .slSl sz x lo hi mx=>match optMap ρ lo,optMap ρ hi,optMap ρ mx with
  | some l,some m,some n=>match sliceO sz (ρ x) l m n with
   | some v=>pure' v
   | none=>none
  | _,_,_=>none
 | .slArr n sz x lo hi mx=>match ρ x,optMap ρ lo,optMap ρ hi,optMap ρ mx with
  | .ref id off,some l,some m,some none=>match look c.H c.nx h id with
   | some (.cells cs)=>if off+n*sz≤cs.length then (match sliceO sz (.arr id off n sz n true) l m none with
    | some v=>some ⟨v,h,[id],false⟩
    | none=>none) else none
   | _=>none
  | _,_,_,_=>none
 | .len str x=>match str,ρ x with
  | true,.p (.s (.string b))=>pure' (.int .i64 b.size)
  | false,.p (.s (.slice none n _))=>pure' (.int .i64 n)
  | false,.p (.sl _ n _ _)=>pure' (.int .i64 n)
  | false,.arr _ _ n _ _ _=>pure' (.int .i64 n)
  | _,_=>none
 | .app sz bytes x y=>appO c h sz bytes (ρ x) (ρ y)
 | .copy sz x y=>match ρ x with
  | .arr id off len sz' _ _=>match look c.H c.nx h id,slCells c.H c.nx h (ρ y) with
   | some (.cells cs),some (yc,n)=>
    if sz'=sz∧yc.length=n*sz∧off+len*sz≤cs.length then
     some ⟨.int .i64 (min n len:Nat),setObj c.nx h id (some (.cells (splice cs off (yc.take (min n len*sz))))),id::ids (ρ y),true⟩
    else none
   | _,_=>none
  | _=>none
 | .minmax mx xs=>match xs.map ρ with
  | []=>none
  | x::r=>match mmL mx x r with
   | some v=>pure' v
   | none=>none
 | .call f args=>callO c dr h f (args.map ρ)
 | .callv x args=>match ρ x with
  | .fn f a b=>callO c dr h f (a++args.map ρ++b)
  | _=>none
 | .ext x i=>match ρ x with
  | .tuple vs=>match vs[i]? with
   | some v=>pure' v
   | none=>none
  | _=>none
 | .mkFn f a b=>pure' (.fn f (a.map ρ) (b.map ρ))
 | .mkSlice sz bytes zero l m=>match natL (ρ l),natL (ρ m) with
  | some len,some cap=>
   if len≤cap∧cap*bytes≤2^40∧cap<2^62∧zero.length=sz then
    alloc' (.cells ((List.replicate len zero).flatten.map .p)) (.arr (c.nx+h.new.length) 0 len sz cap true)
   else none
  | _,_=>none
 | .clr sz zero x=>match ρ x with
  | .p (.s (.slice none 0 0))=>pure' (.tuple [])
  | .arr id off len sz' _ _=>if len=0 then pure' (.tuple []) else match look c.H c.nx h id with
   | some (.cells cs)=>
    if sz'=sz∧zero.length=sz∧off+len*sz≤cs.length then
     some ⟨.tuple [],setObj c.nx h id (some (.cells (splice cs off ((List.replicate len zero).flatten.map .p)))),[id],true⟩
    else none
   | _=>none
  | _=>none
 | .rng x=>match ρ x with
  | .p (.s (.string b))=>alloc' (.iter b 0) (.ref (c.nx+h.new.length) 0)
  | _=>none
 | .nxt x=>match ρ x with
  | .ref id 0=>match look c.H c.nx h id with
   | some (.iter b q)=>
    if q<b.size then
     some ⟨.tuple [.bool true,.int .i64 q,.int .i32 (Utf8.decode b q).1],setObj c.nx h id (some (.iter b (q+(Utf8.decode b q).2))),[id],true⟩
    else some ⟨.tuple [.bool false],h,[id],false⟩
   | _=>none
  | _=>none
 | .cap x=>match ρ x with
  | .arr _ _ _ _ cp true=>pure' (.int .i64 cp)
  | .p (.s (.slice none 0 0))=>pure' (.int .i64 0)
  | _=>none
 | .appZ sz bytes zero x k=>match ρ x,natL (ρ k) with
  | .arr id off len sz' cp true,some m=>match look c.H c.nx h id with
   | some (.cells cs)=>if sz'=sz∧0<m∧cp<len+m∧(len+m)*bytes≤2^40∧off+len*sz≤cs.length then
     some ⟨.arr (c.nx+h.new.length) 0 (len+m) sz (len+m) false,push h (.cells ((cs.drop off).take (len*sz)++((List.replicate m zero).flatten.map .p))),[id],false⟩
    else none
   | _=>none
  | _,_=>none
 | .cmpB x y=>match slCells c.H c.nx h (ρ x),slCells c.H c.nx h (ρ y) with
  | some (c1,n1),some (c2,n2)=>if c1.length=n1∧c2.length=n2 then (match bytesL c1,bytesL c2 with
   | some l1,some l2=>some ⟨.int .i64 (cmpL l1 l2),h,ids (ρ x)++ids (ρ y),false⟩
   | _,_=>none) else none
  | _,_=>none
 | .ovl x y=>match ρ x,ρ y with
  | .arr i _ _ _ _ _,.arr j _ _ _ _ _=>if i=j then none else match look c.H c.nx h i,look c.H c.nx h j with
   | some (.cells _),some (.cells _)=>some ⟨.bool false,h,[i,j],false⟩
   | _,_=>none
  | _,_=>none
 | .copyX sz x y=>match ρ x with
  | .arr id off len sz' cp _=>match look c.H c.nx h id,slPart c.H c.nx h len sz (ρ y) with
   | some (.cells cs),some (yc,n)=>
    if sz'=sz∧yc.length=min n len*sz∧off≤cs.length then
     some ⟨.int .i64 (min n len:Nat),setObj c.nx h id (some (.cells (splice cs off yc))),id::ids (ρ y),true⟩
    else none
   | _,_=>none
  | _=>none
 | .bad=>none
def wants (env:Env):Option (Nat × Bool)→Option Bool
 | none=>some true
 | some (t,b)=>match get env t with
  | .p (.s (.bool x))=>some (x==b)
  | .p (.s (.tuple _))=>some false
  | _=>none
def putD (env:Env) (d:Option Nat) (v:LV):Env:=match d with
 | some t=>(t,v)::env
 | none=>env
structure Tr where
 tch:List Nat
 md:Bool
 lo:Nat
 hi:Nat
 rds:List Nat
 wr:Option Nat
 deriving Inhabited
def gslot:Option (Nat × Bool)→List Nat
 | some (t,_)=>[t]
 | none=>[]
def runOps (c:Ctx):List IROper→Env→Hp→Option (Env × Hp)
 | [],env,h=>some (env,h)
 | o::r,env,h=>match wants env o.guard with
  | some true=>match evOp c false env h o.op with
   | some x=>runOps c r (putD env o.dst x.v) x.h
   | none=>none
  | some false=>runOps c r (putD env o.dst .undef) h
  | none=>none
def quickR (h:Hp) (x:Res):Bool:=(!x.md||x.tch.isEmpty)&&x.h.new.length==h.new.length
def runOpsQ (c:Ctx) (fin:Bool):List IROper→Env→Hp→Option (Env × Hp)
 | [],env,h=>some (env,h)
 | o::r,env,h=>match wants env o.guard with
  | some true=>match evOp c true env h o.op with
   | some x=>if (fin&&r.isEmpty)||quickR h x then runOpsQ c fin r (putD env o.dst x.v) x.h else none
   | none=>none
  | some false=>runOpsQ c fin r (putD env o.dst .undef) h
  | none=>none
def lastFull (before:List Nat) (n:Nat):Bool:=(List.range (n-1)).all fun i=>(before.getD (n-1) 0).testBit i
def runOpsT (c:Ctx):List IROper→Env→Hp→Option (List Tr × Env × Hp)
 | [],env,h=>some ([],env,h)
 | o::r,env,h=>match wants env o.guard with
  | some true=>match evOp c true env h o.op with
   | some x=>match runOpsT c r (putD env o.dst x.v) x.h with
    | some (tr,e,h')=>some (⟨x.tch,x.md,c.nx+h.new.length,c.nx+x.h.new.length,o.op.slots++gslot o.guard,o.dst⟩::tr,e,h')
    | none=>none
   | none=>none
  | some false=>match runOpsT c r (putD env o.dst .undef) h with
   | some (tr,e,h')=>some (⟨[],false,c.nx+h.new.length,c.nx+h.new.length,gslot o.guard,o.dst⟩::tr,e,h')
   | none=>none
  | none=>none
def apartT (a b:Tr):Bool:=
 (match a.wr with
  | some d => !b.rds.contains d&&b.wr != some d
  | none=>true)&&
 (match b.wr with
  | some d => !a.rds.contains d
  | none=>true)&&
 a.tch.all (fun x => !((a.md||b.md)&&b.tch.contains x))&&
 b.tch.all (fun x => !(decide (a.lo≤x)&&decide (x<a.hi)))
def apartS (a b:IROper):Bool:=
 (match a.dst with
  | some d => !(b.op.slots++gslot b.guard).contains d&&b.dst != some d
  | none=>true)&&
 (match b.dst with
  | some d => !(a.op.slots++gslot a.guard).contains d
  | none=>true)
def indepS (ops:List IROper) (before:List Nat):Bool:=
 (List.range ops.length).all fun j=>(List.range j).all fun i=>(before.getD j 0).testBit i||apartS (ops.getD i default) (ops.getD j default)
def apartD (a b:Tr):Bool:=
 a.tch.all (fun x => !((a.md||b.md)&&b.tch.contains x))&&
 b.tch.all (fun x => !(decide (a.lo≤x)&&decide (x<a.hi)))
def quickD:List Tr→Bool
 | []=>true
 | t::r=>(!t.md||t.tch.isEmpty)&&(t.lo==t.hi)&&quickD r
def pairsD (t:Tr) (m:Nat):Nat→List Tr→Bool
 | _,[]=>true
 | i,s::l=>(m.testBit i||apartD s t)&&pairsD t m (i+1) l
def indepR:List Tr→List Tr→List Nat→Bool
 | _,[],_=>true
 | seen,t::r,[]=>pairsD t 0 0 seen&&indepR (seen++[t]) r []
 | seen,t::r,b::bs=>pairsD t b 0 seen&&indepR (seen++[t]) r bs
def indepD (tr:List Tr) (before:List Nat):Bool:=if quickD tr then true else indepR [] tr before
def frzL (nx:Nat) (h:Hp):Nat→LV→Option PV
 | 0,_=>none
 | _+1,.p x=>some x
 | _+1,.arr id off len sz cp ex=>if id<nx then none else match h.new[id-nx]? with
  | some (some (.cells cs))=>if off+len*sz≤cs.length then (match allP ((cs.drop off).take (len*sz)) with
   | some l=>some (.sl l len sz (ex&&cp==len))
   | none=>none) else none
  | _=>none
 | n+1,.agg cs=>match go n cs with
  | some l=>some (.agg l)
  | none=>none
 | _+1,.ref id off=>if id<nx then none else match h.new[id-nx]? with
  | some (some (.cells cs))=>(match allP cs with
   | some l=>some (.imm l off)
   | none=>none)
  | _=>none
 | _+1,_=>none
 where go (n:Nat):List LV→Option (List PV)
 | []=>some []
 | x::r=>match frzL nx h n x,go n r with
  | some y,some l=>some (y::l)
  | _,_=>none
def frz (nx:Nat) (h:Hp):LV→Option LV
 | .tuple vs=>match go vs with
  | some l=>some (.tuple l)
  | none=>none
 | x=>match frzL nx h 8 x with
  | some y=>some (.p y)
  | none=>none
 where go:List LV→Option (List LV)
 | []=>some []
 | x::r=>match frzL nx h 8 x,go r with
  | some y,some l=>some (.p y::l)
  | _,_=>none
def renId (nx:Nat) (seen:List Nat) (id:Nat):Option Nat:=
 if id<nx then some id else match seen.idxOf? id with
  | some k=>some (nx+k)
  | none=>none
def ren (nx:Nat) (seen:List Nat):LV→Option LV
 | .junk=>some .junk
 | .p x=>some (.p x)
 | .ref id off=>match renId nx seen id with
  | some j=>some (.ref j off)
  | none=>none
 | .arr id off len sz cp ex=>match renId nx seen id with
  | some j=>some (.arr j off len sz cp ex)
  | none=>none
 | .agg cs=>match go cs with
  | some l=>some (.agg l)
  | none=>none
 | .tuple cs=>match go cs with
  | some l=>some (.tuple l)
  | none=>none
 | .fn f a b=>match go a,go b with
  | some x,some y=>some (.fn f x y)
  | _,_=>none
 where go:List LV→Option (List LV)
 | []=>some []
 | x::r=>match ren nx seen x,go r with
  | some y,some l=>some (y::l)
  | _,_=>none
def renO (nx:Nat) (seen:List Nat):Option Obj→Option (Option Obj)
 | none=>some none
 | some (.cells cs)=>match ren.go nx seen cs with
  | some l=>some (some (.cells l))
  | none=>none
 | some (.iter s q)=>some (some (.iter s q))
def renU (nx:Nat) (seen:List Nat):Upd→Option Upd
 | []=>some []
 | (id,o)::r=>match renO nx seen o,renU nx seen r with
  | some p,some l=>some ((id,p)::l)
  | _,_=>none
def renN (H:Heap) (nx:Nat) (h:Hp) (seen:List Nat):List Nat→Option (List (Option Obj))
 | []=>some []
 | id::r=>match renO nx seen (look H nx h id),renN H nx h seen r with
  | some p,some l=>some (p::l)
  | _,_=>none
def updIds:Upd→List Nat
 | []=>[]
 | (_,some o)::r=>o.ids++updIds r
 | (_,none)::r=>updIds r
def finish (own:Bool) (H:Heap) (nx:Nat) (r0:LV) (h:Hp):Option (LV × Upd × List (Option Obj)):=
 match (if own then some r0 else frz nx h r0) with
 | none=>none
 | some r=>
  match reach (fun id=>if id<nx then none else look H nx h id) 1000 (ids r++updIds h.upd) [] with
  | none=>none
  | some seen=>
   if own||(ids r0).all (fun id => !seen.contains id) then
   match ren nx seen r,renU nx seen h.upd,renN H nx h seen seen with
   | some r',some u,some n=>some (r',u,n)
   | _,_,_=>none
   else none
def tidyR (H:Heap) (nx:Nat) (k f:LV) (h:Hp):Option (LV × LV × Upd × List (Option Obj)):=
 match frz nx h f with
 | none=>none
 | some f'=>
  match reach (fun id=>if id<nx then none else look H nx h id) 1000 (ids k++updIds h.upd) [] with
  | none=>none
  | some seen=>
   if (ids f).all (fun id => !seen.contains id) then
   match ren nx seen k,renU nx seen h.upd,renN H nx h seen seen with
   | some k',some u,some n=>some (k',f',u,n)
   | _,_,_=>none
   else none
inductive Ex where
 | normal|exit (id:Nat)|ret|goto (l:Nat)
 deriving DecidableEq,Inhabited
structure St where
 env:Env
 h:Hp
 deriving Inhabited
def iter (f:St→Option (Ex × St)):Nat→St→Option (Ex × St)
 | 0,_=>none
 | n+1,st=>match f st with
  | some (.normal,st')=>iter f n st'
  | r=>r
def iterG (f:St→Option (Ex × St)) (l:Nat):Nat→St→Option (Ex × St)
 | 0,_=>none
 | n+1,st=>match f st with
  | some (.goto j,st')=>if j=l then iterG f l n st' else some (.goto j,st')
  | r=>r
def keep (live:List Nat) (env:Env):Env:=live.map fun t=>(t,get env t)
def runC (c:Ctx) (n:Nat):IRC→St→Option (Ex × St)
 | .skip,st=>some (.normal,st)
 | .region ops none live,st=>match runOps c ops st.env st.h with
  | some (env,h)=>some (.normal,⟨keep live env,h⟩)
  | none=>none
 | .region ops (some before) live,st=>match runOpsT c ops st.env st.h with
  | some (tr,env,h)=>if indepD tr before then some (.normal,⟨keep live env,h⟩) else none
  | none=>none
 | .seq a b,st=>match runC c n a st with
  | some (.normal,st')=>runC c n b st'
  | r=>r
 | .cond x a b,st=>match opd c st.env x with
  | .p (.s (.bool t))=>if t then runC c n a st else runC c n b st
  | _=>none
 | .block id a,st=>match runC c n a st with
  | some (.exit j,st')=>if j=id then some (.normal,st') else some (.exit j,st')
  | r=>r
 | .loop a,st=>iter (runC c n a) n st
 | .exit id,st=>some (.exit id,st)
 | .ret,st=>some (.ret,st)
 | .bad,_=>none
 | .label _ _,st=>some (.normal,st)
 | .goto l,st=>some (.goto l,st)
 | .scope a l b,st=>match runC c n a st with
  | some (.normal,st')=>iterG (runC c n b) l n st'
  | some (.goto j,st')=>if j=l then iterG (runC c n b) l n st' else some (.goto j,st')
  | r=>r
 | .tidy keep fz,st=>match tidyR c.H c.nx (.tuple (keep.map (get st.env))) (.tuple (fz.map (get st.env))) st.h with
  | some (.tuple ks,.tuple fs,u,n)=>some (.normal,⟨keep.zip ks++fz.zip fs,⟨u,n⟩⟩)
  | _=>none
 | .regq fin ops live,st=>match runOpsQ c fin ops st.env st.h with
  | some (env,h)=>some (.normal,⟨keep live env,h⟩)
  | none=>none
def resV (H:Heap) (nx:Nat) (st:St):Nat × Option (Nat × Bool)→Option LV
 | (t,none)=>some (get st.env t)
 | (t,some (sz,ag))=>match get st.env t with
  | .p (.imm cs off)=>rd (cs.map .p) off sz ag
  | .ref id off=>match look H nx st.h id with
   | some (.cells cs)=>rd cs off sz ag
   | _=>none
  | _=>none
def resVs (H:Heap) (nx:Nat) (st:St):List (Nat × Option (Nat × Bool))→Option (List LV)
 | []=>some []
 | x::r=>match resV H nx st x,resVs H nx st r with
  | some v,some l=>some (v::l)
  | _,_=>none
def oneL:List LV→LV
 | [x]=>x
 | l=>.tuple l
def runF (O:Oracle) (G:Nat→Option (List PV)) (n:Nat) (f:IRF) (args:List LV) (H:Heap) (nx:Nat):Option (LV × Upd × List (Option Obj)):=
 if args.length=f.params.length then
  match runC ⟨O,G,H,nx⟩ n f.body ⟨f.params.zip args,⟨[],[]⟩⟩ with
  | some (.exit _,_)=>none
  | some (.goto _,_)=>none
  | some (_,st)=>match resVs H nx st f.results with
   | some l=>finish f.own H nx (oneL l) st.h
   | none=>none
  | none=>none
 else none
def hpL (l:List (Option Obj)):Heap:=fun id=>match l[id]? with
 | some o=>o
 | none=>none
def bkId (seen:List Nat) (nx id:Nat):Nat:=match seen[id]? with
 | some j=>j
 | none=>nx+(id-seen.length)
def bk (seen:List Nat) (nx:Nat):LV→LV
 | .ref id off=>.ref (bkId seen nx id) off
 | .arr id off len sz cp ex=>.arr (bkId seen nx id) off len sz cp ex
 | .agg cs=>.agg (go cs)
 | .tuple cs=>.tuple (go cs)
 | .fn f a b=>.fn f (go a) (go b)
 | x=>x
 where go:List LV→List LV
 | []=>[]
 | x::r=>bk seen nx x::go r
def bkO (seen:List Nat) (nx:Nat):Option Obj→Option Obj
 | some (.cells cs)=>some (.cells (bk.go seen nx cs))
 | o=>o
def renH (H:Heap) (seen:List Nat):List Nat→Option (List (Option Obj))
 | []=>some []
 | id::r=>match renO 0 seen (H id),renH H seen r with
  | some p,some l=>some (p::l)
  | _,_=>none
def outU (u:Upd):Nat→List (Option Obj)→List (Option Obj)
 | _,[]=>[]
 | i,o::r=>(findU u i).getD o::outU u (i+1) r
def ansW (O:Oracle) (f:FuncId) (args:List LV) (l:List (Option Obj)):Option (LV × List (Option Obj)):=match O f args (hpL l) l.length with
 | some (r,u,n)=>some (r,outU u 0 l++n)
 | none=>none
def ansP (O:Oracle) (f:FuncId) (args:List LV) (l:List (Option Obj)):Option LV:=match O f args (hpL l) l.length with
 | some (r,[],[])=>some r
 | _=>none
def can (g:List LV→List (Option Obj)→Option (LV × List (Option Obj))) (w:Bool) (args:List LV) (H:Heap) (nx:Nat):Option (LV × Upd × List (Option Obj)):=
 match reach H 1000 (ids.idsL args) [] with
 | none=>none
 | some seen=>match ren.go 0 seen args,renH H seen seen with
  | some a,some l=>match g a l with
   | some (r,l')=>some (bk seen nx r,if w then seen.zip (l'.map (bkO seen nx)) else [],if w then (l'.drop seen.length).map (bkO seen nx) else [])
   | none=>none
  | _,_=>none
def noW (o:Option LV):Option (LV × List (Option Obj)):=match o with
 | some r=>some (r,[])
 | none=>none
def sel (C:FuncId→Nat) (O:Oracle):Oracle:=fun f args H nx=>match C f with
 | 0=>O f args H nx
 | 1=>can (ansW O f) true args H nx
 | _=>can (fun a l=>noW (ansP O f a l)) false args H nx
def evalN (C:FuncId→Nat) (F:FuncId→Option IRF) (G:Nat→Option (List PV)) (E:Oracle):Nat→Oracle
 | 0=>fun _ _ _ _=>none
 | n+1=>fun f args H nx=>match F f with
  | some ir=>runF (sel C (evalN C F G E n)) G n ir args H nx
  | none=>E f args H nx
end Go.Sx
end

section
namespace Go.Sx
open Go
def tsz (P:Program) (t:TypeId):Option Nat:=(P.info? t).map (·.size)
def tby (P:Program) (t:TypeId):Option Nat:=(P.info? t).map (·.bytes)
def tag? (P:Program) (t:TypeId):Option Bool:=(P.underlying t).map fun
 | .struct _ | .array _ _=>true
 | _=>false
def tzero (P:Program) (t:TypeId):Option (List PV):=match P.info? t with
 | some i=>match i.zero with
  | some v=>if v.cells.all (·.oneCell') then some (v.cells.toList.map .s) else none
  | none=>none
 | none=>none
def copd:Operand→Opd
 | .tmp t=>.t t
 | .const v=>.c (ofConst v)
 | .global g=>.g g
 | .func f=>.c (.fn f [] [])
def cparts (place:Nat→Option (Nat × Nat)):List (Nat × Operand)→Option (List (Nat × Nat × Opd))
 | []=>some []
 | (i,x)::r=>match place i,cparts place r with
  | some (o,s),some l=>some ((o,s,copd x)::l)
  | _,_=>none
def eqKind (P:Program) (t:TypeId):Option EK:=match P.underlying t with
 | some .bool=>some .bool
 | some (.pointer _)=>some .ptr
 | some (.slice _)=>some .slice
 | some (.func _ _ _)=>some .func
 | _=>none
def nilI (P:Program) (t:TypeId) (y:Operand):Bool:=match P.underlying t,y with
 | some (.interface _),.const .nilIface=>true
 | _,_=>false
def ovOk (fn:Func):Bool:=fn.body.isNone&&fn.origin == "slices.overlaps" && fn.name != "runtime.NumGoroutine" &&
 (Extern.allGenericRows.lookup fn.name).isNone&&(Extern.allTypedRows.lookup fn.name).isNone&&(Extern.allRows.lookup fn.name).isNone&&(Extern.allNextRows.lookup fn.name).isNone
def cmpOk (fn:Func):Bool:=fn.body.isNone&&fn.name == "internal/bytealg.Compare" && (Extern.allNextRows.lookup fn.origin).isNone
def cop (P:Program) (imT:TypeId→Bool):Op→IROp
 | .move x=>.mv (copd x)
 | .assign x=>.mv (copd x)
 | .pick c a b=>.pick (copd c) (copd a) (copd b)
 | .alloc t=>match tzero P t with
  | some z=>.alloc (imT t) z
  | none=>.bad
 | .box t x=>.box (imT t) (copd x)
 | .build t parts=>match P.underlying t,tzero P t with
  | some (.struct fs),some z=>match fs.toList.mapM (fun f=>(P.info? f.type).map fun i=>(f.offset,i.size)) with
   | some places=>match cparts (fun i=>places.toArray[i]?) parts.toList with
    | some l=>.build z l
    | none=>.bad
   | none=>.bad
  | some (.array _ e),some z=>match P.info? e with
   | some ie=>match cparts (fun i=>some (i*ie.size,ie.size)) parts.toList with
    | some l=>.build z l
    | none=>.bad
   | none=>.bad
  | _,_=>.bad
 | .buildSlice t len parts=>match P.underlying t with
  | some (.slice e)=>match tsz P e,tzero P e with
   | some s,some z=>match cparts (fun i=>some (i*s,s)) parts.toList with
    | some l=>if len=0 then (if parts.size=0 then .mkSl false 0 s [] [] else .bad) else if len*s≤2^24∧z.length=s∧len*s≠0 then .mkSl (imT t) len s ((List.replicate len z).flatten) l else .bad
    | none=>.bad
   | _,_=>.bad
  | _=>.bad
 | .load t a=>match tsz P t,tag? P t with
  | some s,some g=>.load s g (copd a)
  | _,_=>.bad
 | .store t a x=>match tsz P t with
  | some s=>.store s (copd a) (copd x)
  | none=>.bad
 | .nilCheck x=>.nilCk (copd x)
 | .binOp op t x y _=>match op with
  | .eql=>match eqKind P t with
   | some k=>.eq false k (copd x) (copd y)
   | none=>if nilI P t y then .eq false .iface (copd x) (copd y) else .bin .eql (copd x) (copd y)
  | .neq=>match eqKind P t with
   | some k=>.eq true k (copd x) (copd y)
   | none=>if nilI P t y then .eq true .iface (copd x) (copd y) else .bin .neq (copd x) (copd y)
  | op=>.bin op (copd x) (copd y)
 | .unOp u _ x=>.un u (copd x)
 | .convert src dst x=>match P.underlying src,P.underlying dst with
  | some (.int _),some (.int k)=>.cvt k (copd x)
  | some .string,some .string=>.strC (copd x)
  | some .string,some (.slice e)=>match P.underlying e with
   | some (.int .u8)=>.s2b (imT dst) (copd x)
   | _=>.bad
  | some (.slice e),some .string=>match P.underlying e with
   | some (.int .u8)=>.b2s (copd x)
   | _=>.bad
  | _,_=>.bad
 | .makeFunc (.func f) a b=>.mkFn f (a.toList.map copd) (b.toList.map copd)
 | .makeSlice t l c=>match P.underlying t with
  | some (.slice e)=>match tsz P e,tby P e,tzero P e with
   | some s,some b,some z=>.mkSlice s b z (copd l) (copd c)
   | _,_,_=>.bad
  | _=>.bad
 | .slice t x lo hi mx=>match P.underlying t with
  | some .string=>if mx.isSome then .bad else .slStr (copd x) (lo.map copd) (hi.map copd)
  | some (.slice e)=>match tsz P e with
   | some s=>.slSl s (copd x) (lo.map copd) (hi.map copd) (mx.map copd)
   | none=>.bad
  | some (.array n e)=>match tsz P e with
   | some s=>.slArr n s (copd x) (lo.map copd) (hi.map copd) (mx.map copd)
   | none=>.bad
  | _=>.bad
 | .fieldAddr t x f=>match P.underlying t with
  | some (.struct fs)=>match fs[f]? with
   | some fd=>match tsz P fd.type with
    | some s=>if s=0 then .bad else .fieldAddr fd.offset (copd x)
    | none=>.bad
   | none=>.bad
  | _=>.bad
 | .field t x f=>match P.underlying t with
  | some (.struct fs)=>match fs[f]? with
   | some fd=>match tsz P fd.type,tag? P fd.type with
    | some s,some g=>.field fd.offset s g (copd x)
    | _,_=>.bad
   | none=>.bad
  | _=>.bad
 | .indexAddr t x i=>match P.underlying t with
  | some (.slice e)=>match tsz P e with
   | some s=>.idxASl s (copd x) (copd i)
   | none=>.bad
  | some (.array n e)=>match tsz P e with
   | some s=>.idxAArr n s (copd x) (copd i)
   | none=>.bad
  | _=>.bad
 | .index t x i=>match P.underlying t with
  | some .string=>.idxStr (copd x) (copd i)
  | some (.array n e)=>match tsz P e,tag? P e with
   | some s,some g=>.idxArr n s g (copd x) (copd i)
   | _,_=>.bad
  | _=>.bad
 | .extract x i=>.ext (copd x) i
 | .call c=>match c.callee with
  | .value (.func f)=>match P.funcs[f]? with
   | some fn=>if fn.body.isSome∧fn.name ≠ "runtime.NumGoroutine" then .call f (c.args.toList.map copd)
    else if ovOk fn then (match (fn.params[0]?).bind (P.underlying ·),c.args.toList with
     | some (.slice e),[x,y]=>(match tsz P e with
      | some _=>.ovl (copd x) (copd y)
      | none=>.bad)
     | _,_=>.bad)
    else if cmpOk fn then (match c.args.toList with
     | [x,y]=>.cmpB (copd x) (copd y)
     | _=>.bad) else .bad
   | none=>.bad
  | .value x=>.callv (copd x) (c.args.toList.map copd)
  | .builtin .len=>match (c.argTypes[0]?).bind (P.underlying ·),c.args.toList with
   | some .string,[x]=>.len true (copd x)
   | some (.slice _),[x]=>.len false (copd x)
   | some (.array n _),[_]=>.mv (.c (.int .i64 n))
   | _,_=>.bad
  | .builtin .append=>match c.argTypes.toList,c.args.toList with
   | [t,u],[x,y]=>match P.underlying t,P.underlying u with
    | some (.slice e),some ty=>match tsz P e,tby P e,tzero P e,ty with
     | some s,some b,some z,.slice _=>if b=0∨z.length≠s then .bad else .app s b (copd x) (copd y)
     | some s,some b,some z,.string=>if b=0∨z.length≠s then .bad else .app s b (copd x) (copd y)
     | some s,some b,some z,.int _=>if b=0∨z.length≠s∨s=0 then .bad else .appZ s b z (copd x) (copd y)
     | _,_,_,_=>.bad
    | _,_=>.bad
   | _,_=>.bad
  | .builtin .cap=>match (c.argTypes[0]?).bind (P.underlying ·),c.args.toList with
   | some (.slice _),[x]=>.cap (copd x)
   | _,_=>.bad
  | .builtin .copy=>match (c.argTypes[0]?).bind (P.underlying ·),c.args.toList with
   | some (.slice e),[x,y]=>match tsz P e with
    | some s=>if imT 999999 then .copyX s (copd x) (copd y) else .copy s (copd x) (copd y)
    | none=>.bad
   | _,_=>.bad
  | .builtin .clear=>match (c.argTypes[0]?).bind (P.underlying ·),c.args.toList with
   | some (.slice e),[x]=>match tsz P e,tzero P e with
    | some s,some z=>.clr s z (copd x)
    | _,_=>.bad
   | _,_=>.bad
  | .builtin .min=>.minmax false (c.args.toList.map copd)
  | .builtin .max=>.minmax true (c.args.toList.map copd)
  | _=>.bad
 | .range t x=>match P.underlying t with
  | some .string=>.rng (copd x)
  | _=>.bad
 | .next x str=>if str then .nxt (copd x) else .bad
 | _=>.bad
def guardOf (ops:Array Oper):Option (Nat × Bool)→Option (Option (Nat × Bool))
 | none=>some none
 | some (j,b)=>match (ops[j]?).bind (·.dst) with
  | some t=>some (some (t,b))
  | none=>none
def dstOk (d:Option Nat) (nt:Nat):Bool:=match d with
 | some d=>decide (d<nt)
 | none=>true
structure An where
 own:Bool
 ty:TypeId→Bool
 im:List Nat
 lp:Bool
 bz:List (Nat × List Nat)
 rz:List (Nat × List Nat)
 qr:List Nat:=[]
 kx:Bool:=false
def An.imT (an:An) (d:Option Nat) (t:TypeId):Bool:=an.ty t||(match d with
 | some s=>an.im.contains s
 | none=>false)
def coper (P:Program) (an:An) (nt:Nat) (ops:Array Oper) (o:Oper):IROper:=
 match guardOf ops o.guard with
 | some g=>if dstOk o.dst nt then ⟨o.dst,cop P (an.imT o.dst) o.op,g⟩ else ⟨o.dst,.bad,none⟩
 | none=>⟨o.dst,.bad,none⟩
def ins (t:Nat):List Nat→List Nat
 | []=>[t]
 | x::r=>if t<x then t::x::r else if t=x then x::r else x::ins t r
def uni (a b:List Nat):List Nat:=a.foldl (fun l t=>ins t l) b
def del (t:Nat) (l:List Nat):List Nat:=l.filter (· != t)
def liveOps:List IROper→List Nat→List Nat
 | [],after=>after
 | o::r,after=>
  let l:=liveOps r after
  let l:=match o.dst with
   | some d=>del d l
   | none=>l
  let l:=uni o.op.slots l
  match o.guard with
  | some (t,_)=>ins t l
  | none=>l
abbrev LCtx:=List (Nat × List Nat)
def splitI:IRC→Option (IRC × Nat × List Nat × IRC)
 | .label l lv=>some (.skip,l,lv,.skip)
 | .seq a b=>match splitI a with
  | some (x,l,lv,y)=>some (x,l,lv,.seq y b)
  | none=>match splitI b with
   | some (x,l,lv,y)=>some (.seq a x,l,lv,y)
   | none=>none
 | _=>none
abbrev labelNo (l:Nat):Nat:=1000000+l
def labelOf (c:IRC):LCtx:=match splitI c with
 | some (_,l,lv,_)=>[(labelNo l,lv)]
 | none=>[]
def kpI (k:Bool) (c:IRC) (a:List Nat):IRC:=if k then .seq c (.region [] none a) else c
def kpX (k:Bool) (id:Nat) (a:List Nat):IRC:=if k then .seq (.region [] none a) (.exit id) else .exit id
def kpG (k:Bool) (l:Nat) (a:List Nat):IRC:=if k then .seq (.region [] none a) (.goto l) else .goto l
def tidyOf (l:List (Nat × List Nat)) (id:Nat) (a:List Nat):Option IRC:=match l.find? (·.1==id) with
 | some (_,fz)=>some (.tidy (a.filter (!fz.contains ·)) (a.filter (fz.contains ·)))
 | none=>none
def thenT (c:IRC):Option IRC→IRC
 | some t=>.seq c t
 | none=>c
def cc (P:Program) (an:An) (nt:Nat) (res:List Nat) (x:LCtx):Code→List Nat→IRC × List Nat
 | .skip,a=>(.skip,a)
 | .region id ops draw,a=>
  let l:=ops.toList.map (coper P an nt ops)
  (thenT (if draw&&!((ops.zipIdx.all fun (o,i)=>o.after.all fun e => !Region.binds .any e||decide (e.on<i))&&indepS l (Region.before ops).toList) then .bad
   else if draw&&an.qr.contains id then .regq (lastFull (Region.before ops).toList l.length) l a
   else .region l (if draw then some (Region.before ops).toList else none) a) (tidyOf an.rz id a),liveOps l a)
 | .seq c d,a=>
  let (d',a'):=cc P an nt res x d a
  let (c',a''):=cc P an nt res x c a'
  (.seq c' d',a'')
 | .cond o c d,a=>
  let (c',l):=cc P an nt res x c a
  let (d',m):=cc P an nt res x d a
  (kpI an.kx (.cond (copd o) c' d') a,uni (copd o).slots (uni l m))
 | .block id c,a=>
  let (c',l):=cc P an nt res ((id,a)::x) c a
  (thenT (.block id c') (tidyOf an.bz id a),l)
 | .loop c,_=>
  let (_,l):=cc P an nt res x c []
  let (_,l):=cc P an nt res x c l
  let (c',l):=cc P an nt res x c l
  (.loop (if an.lp then .seq (.tidy l []) c' else c'),l)
 | .exit id,_=>(kpX an.kx id ((x.find? (·.1==id)).elim [] (·.2)),(x.find? (·.1==id)).elim [] (·.2))
 | .ret,_=>(.ret,res)
 | .label l,a=>(.label l a,a)
 | .goto l,_=>(kpG an.kx l ((x.find? (·.1==labelNo l)).elim [] (·.2)),(x.find? (·.1==labelNo l)).elim [] (·.2))
 | .scope c,a=>
  let (c0,_):=cc P an nt res x c a
  let (c1,_):=cc P an nt res (labelOf c0++x) c a
  let (c2,l):=cc P an nt res (labelOf c1++x) c a
  match splitI c2 with
   | some (p,k,_,q)=>if (splitI q).isNone then (.scope p k q,l) else (.bad,[])
   | none=>(.bad,[])
 | _,_=>(.bad,[])
def resSlots (P:Program):List ResultVar→Option (List (Nat × Option (Nat × Bool)))
 | []=>some []
 | .tmp t::r=>match resSlots P r with
  | some l=>some ((t,none)::l)
  | none=>none
 | .cell a t::r=>match tsz P t,tag? P t,resSlots P r with
  | some s,some g,some l=>some ((a,some (s,g))::l)
  | _,_,_=>none
def cF (P:Program) (an:An) (fn:Func):Option IRF:=
 match fn.body,resSlots P fn.results.toList with
 | some c,some rs=>some ⟨List.range (fn.params.size+fn.nfree),(cc P an fn.ntmps (uni (rs.map (·.1)) []) [] c (uni (rs.map (·.1)) [])).1,rs,an.own⟩
 | _,_=>none
end Go.Sx
end

section
namespace Go.Sx
open Go
abbrev Mu:=Nat→Option (Nat × Nat × Nat)
def blk (μ:Mu) (id:Nat):Option Nat:=(μ id).map (·.1)
inductive PR (I:Nat→Prop) (w:World):PV→Value→Prop
 | s (v:Value):PR I w (.s v) v
 | agg (cs:List PV) (a:Array Value) (hl:a.size=cs.length) (h1 : ∀ u∈a.toList,u.oneCell'=true)
   (h : ∀ (j:Nat) (l:PV) (u:Value),cs[j]?=some l→a[j]?=some u→PR I w l u):PR I w (.agg cs) (.agg a)
 | imm (cs:List PV) (off b o:Nat) (u:Nat→Value) (hb:I b) (hc : ∀ j,j<cs.length→w.cell? ⟨b,o+j,none⟩=some (u j))
   (h1 : ∀ j,j<cs.length→(u j).oneCell'=true) (h : ∀ (j:Nat) (l:PV),cs[j]?=some l→PR I w l (u j)):PR I w (.imm cs off) (.pointer (some ⟨b,o+off,none⟩))
 | sl (cs:List PV) (len sz:Nat) (full:Bool) (b o cap:Nat) (u:Nat→Value) (hb:I b) (hc : ∀ j,j<cs.length→w.cell? ⟨b,o+j,none⟩=some (u j))
   (h1 : ∀ j,j<cs.length→(u j).oneCell'=true) (h : ∀ (j:Nat) (l:PV),cs[j]?=some l→PR I w l (u j)) (hlen:len≤cap) (hf:full=true→cap=len):
   PR I w (.sl cs len sz full) (.slice (some ⟨b,o,none⟩) len cap)
 | sl0 (sz:Nat) (full:Bool) (a:Addr) (cap:Nat) (hf:full=true→cap=0):PR I w (.sl [] 0 sz full) (.slice (some a) 0 cap)
theorem PR.mono {I I':Nat→Prop} {w w':World} (hI : ∀ b,I b→I' b) (hw : ∀ b,I b→w'.heap[b]?=w.heap[b]?) {x:PV} {v:Value} (h:PR I w x v):PR I' w' x v:=by
 induction h with
 | s v=>exact .s v
 | agg cs a hl h1 _ ih=>exact .agg cs a hl h1 ih
 | imm cs off b o u hb hc h1 _ ih=>exact .imm cs off b o u (hI _ hb) (fun j hj=>by rw [←hc j hj];exact World.cell?_of_block (a:=⟨b,o+j,none⟩) (hw b hb)) h1 ih
 | sl cs len sz full b o cap u hb hc h1 _ hlen hf ih=>
  exact .sl cs len sz full b o cap u (hI _ hb) (fun j hj=>by rw [←hc j hj];exact World.cell?_of_block (a:=⟨b,o+j,none⟩) (hw b hb)) h1 ih hlen hf
 | sl0 sz full a cap hf=>exact .sl0 sz full a cap hf
inductive VR (I:Nat→Prop) (μ:Mu) (w:World):LV→Value→Prop
 | junk (v:Value):VR I μ w .junk v
 | p {x:PV} {v:Value} (h:PR I w x v):VR I μ w (.p x) v
 | ref (id off b o s:Nat) (h:μ id=some (b,o,s)):VR I μ w (.ref id off) (.pointer (some ⟨b,o+off,none⟩))
 | arr (id off len sz cp:Nat) (ex:Bool) (b o s o' cap:Nat) (h:μ id=some (b,o,s)) (ho:cap=0∨o'=o+off) (hlen:len≤cp) (hcp:cp≤cap) (hf:ex=true→cap=cp)
   (hs:o+off+cap*sz≤s):VR I μ w (.arr id off len sz cp ex) (.slice (some ⟨b,o',none⟩) len cap)
 | agg (cs:List LV) (a:Array Value) (hl:a.size=cs.length) (h1 : ∀ u∈a.toList,u.oneCell'=true)
   (h : ∀ (j:Nat) (l:LV) (u:Value),cs[j]?=some l→a[j]?=some u→VR I μ w l u):VR I μ w (.agg cs) (.agg a)
 | tuple (cs:List LV) (a:Array Value) (hl:a.size=cs.length) (h : ∀ (j:Nat) (l:LV) (u:Value),cs[j]?=some l→a[j]?=some u→VR I μ w l u):VR I μ w (.tuple cs) (.tuple a)
 | fn (f:FuncId) (fs cs:List LV) (fa ca:Array Value) (hl:fa.size=fs.length) (hl':ca.size=cs.length)
   (h : ∀ (j:Nat) (l:LV) (u:Value),fs[j]?=some l→fa[j]?=some u→VR I μ w l u) (h' : ∀ (j:Nat) (l:LV) (u:Value),cs[j]?=some l→ca[j]?=some u→VR I μ w l u):
   VR I μ w (.fn f fs cs) (.func (.func f) fa ca)
structure Stp (own:Nat→Prop) (w w':World):Prop where
 os:w'.os=w.os
 tape:w'.tape=w.tape
 output:w'.output=w.output
 size:w.heap.size≤w'.heap.size
 block : ∀ k,k<w.heap.size→¬own k→w'.heap[k]?=w.heap[k]?
theorem Stp.refl (own:Nat→Prop) (w:World):Stp own w w:=⟨rfl,rfl,rfl,Nat.le_refl _,fun _ _ _=>rfl⟩
theorem Stp.trans {own own':Nat→Prop} {a b c:World} (h:Stp own a b) (k:Stp own' b c) (ho : ∀ x,x<a.heap.size→own' x→own x):Stp own a c:=
 ⟨k.os.trans h.os,k.tape.trans h.tape,k.output.trans h.output,Nat.le_trans h.size k.size,
  fun x hx hn=>(k.block x (Nat.lt_of_lt_of_le hx h.size) (fun e=>hn (ho x hx e))).trans (h.block x hx hn)⟩
theorem Stp.mono {own own':Nat→Prop} {a b:World} (h:Stp own a b) (ho : ∀ x,own x→own' x):Stp own' a b:=
 ⟨h.os,h.tape,h.output,h.size,fun x hx hn=>h.block x hx (fun e=>hn (ho x e))⟩
theorem Stp.drew (own:Nat→Prop) (w:World):Stp own w w.drew:=⟨rfl,rfl,rfl,Nat.le_refl _,fun _ _ _=>rfl⟩
theorem Stp.alloc (own:Nat→Prop) (w:World) (o:Go.Obj):Stp own w (w.alloc o):=⟨rfl,rfl,rfl,by simp,fun k hk _=>Go.RowKit.Below.heap_alloc _ _ _ hk⟩
theorem VR.mono {I I':Nat→Prop} {μ μ':Mu} {w w':World} (hI : ∀ b,I b→I' b) (hμ : ∀ id x,μ id=some x→μ' id=some x)
  (hw : ∀ b,I b→w'.heap[b]?=w.heap[b]?) {x:LV} {v:Value} (h:VR I μ w x v):VR I' μ' w' x v:=by
 induction h with
 | junk v=>exact .junk v
 | p h=>exact .p (h.mono hI hw)
 | ref id off b o s h=>exact .ref id off b o s (hμ _ _ h)
 | arr id off len sz cp ex b o s o' cap h ho hlen hcp hf hs=>exact .arr id off len sz cp ex b o s o' cap (hμ _ _ h) ho hlen hcp hf hs
 | agg cs a hl h1 _ ih=>exact .agg cs a hl h1 ih
 | tuple cs a hl _ ih=>exact .tuple cs a hl ih
 | fn f fs cs fa ca hl hl' _ _ ih ih'=>exact .fn f fs cs fa ca hl hl' ih ih'
def OR (I:Nat→Prop) (μ:Mu) (w:World) (id:Nat):Obj→Prop
 | .cells cs=>∃ b o s e,μ id=some (b,o,s)∧w.shape? b=some (e,s)∧o+cs.length≤s∧(∀ k,k≤s→w.frozen? ⟨b,k,none⟩=false) ∧
   ∀ j l,cs[j]?=some l→∃ u,w.cell? ⟨b,o+j,none⟩=some u∧u.oneCell'=true∧VR I μ w l u
 | .iter s q=>∃ b,μ id=some (b,0,0)∧w.heap[b]?=some (.stringIter s q)
theorem wK {w:World} {b:Nat} {x:TypeId × Nat} (h:w.shape? b=some x):b<w.heap.size:=by
 unfold World.shape? at h
 rcases Nat.lt_or_ge b w.heap.size with h' | h'
 ·exact h'
 ·rw [Array.getElem?_eq_none h'] at h;cases h
theorem kz {w w':World} {b:Nat} (h:w'.heap[b]?=w.heap[b]?):w'.shape? b=w.shape? b:=by simp [World.shape?,h]
theorem bC {w:World} {b s k:Nat} {e:TypeId} (h:w.shape? b=some (e,s)) (hk:k<s) : ∃ u,w.cell? ⟨b,k,none⟩=some u:=by
 unfold World.shape? at h
 unfold World.cell?
 cases hq:w.heap[b]? with
 | none=>rw [hq] at h;cases h
 | some x=>
  rw [hq] at h
  cases x<;>simp at h
  rename_i c e' fz
  obtain ⟨rfl,rfl⟩:=h
  exact ⟨c[k],by simp [hk]⟩
theorem OR.lt {I:Nat→Prop} {μ:Mu} {w:World} {id:Nat} {o:Obj} (h:OR I μ w id o) : ∃ b,blk μ id=some b∧b<w.heap.size:=by
 cases o with
 | cells cs=>
  obtain ⟨b,o,s,e,hm,hs,_⟩:=h
  exact ⟨b,by simp [blk,hm],wK hs⟩
 | iter s q=>
  obtain ⟨b,hm,hb⟩:=h
  exact ⟨b,by simp [blk,hm],(Array.getElem?_eq_some_iff.1 hb).1⟩
theorem OR.mono {I I':Nat→Prop} {μ μ':Mu} {w w':World} {id:Nat} (hI : ∀ b,I b→I' b) (hμ : ∀ id x,μ id=some x→μ' id=some x)
  (hw : ∀ b,I b→w'.heap[b]?=w.heap[b]?) (hb : ∀ b,blk μ id=some b→w'.heap[b]?=w.heap[b]?) {o:Obj} (h:OR I μ w id o):OR I' μ' w' id o:=by
 cases o with
 | cells cs=>
  obtain ⟨b,o,s,e,hm,hs,hl,hf,hc⟩:=h
  have hbb:=hb b (by simp [blk,hm])
  refine ⟨b,o,s,e,hμ _ _ hm,by rw [kz hbb];exact hs,hl,fun k hk => ?_,fun j l hj => ?_⟩
  ·rw [World.frozen?_of_block (a:=⟨b,k,none⟩) hbb];exact hf k hk
  ·obtain ⟨u,h1,h2,h3⟩:=hc j l hj
   exact ⟨u,by rw [World.cell?_of_block (a:=⟨b,o+j,none⟩) hbb];exact h1,h2,h3.mono hI hμ hw⟩
 | iter s q=>
  obtain ⟨b,hm,hq⟩:=h
  exact ⟨b,hμ _ _ hm,by rw [hb b (by simp [blk,hm])];exact hq⟩
structure HR (I:Nat→Prop) (μ:Mu) (w:World) (D:Nat→Prop) (lk:Nat→Option Obj):Prop where
 obj : ∀ id o,D id→lk id=some o→OR I μ w id o
 inj : ∀ id id' o o',D id→D id'→lk id=some o→lk id'=some o'→id≠id'→blk μ id≠blk μ id'
 imm : ∀ id o b,D id→lk id=some o→I b→blk μ id≠some b
 lt : ∀ b,I b→b<w.heap.size
theorem HR.sub {I:Nat→Prop} {μ:Mu} {w:World} {D D':Nat→Prop} {lk lk':Nat→Option Obj} (h:HR I μ w D lk) (hd : ∀ id,D' id→D id∧lk' id=lk id):HR I μ w D' lk' where
 obj id o hD hl:=h.obj id o (hd id hD).1 ((hd id hD).2▸hl)
 inj id id' o o' hD hD' hl hl':=h.inj id id' o o' (hd id hD).1 (hd id' hD').1 ((hd id hD).2▸hl) ((hd id' hD').2▸hl')
 imm id o b hD hl:=h.imm id o b (hd id hD).1 ((hd id hD).2▸hl)
 lt:=h.lt
def Own (μ:Mu) (T:Nat→Prop) (lk:Nat→Option Obj) (b:Nat):Prop:=∃ id o,T id∧lk id=some o∧blk μ id=some b
structure Goes (I I':Nat→Prop) (μ μ':Mu) (w w':World) (lk lk':Nat→Option Obj) (T N:Nat→Prop):Prop where
 mu : ∀ id,¬N id→μ' id=μ id
 fresh : ∀ id,N id→μ id=none
 up : ∀ b,I b→I' b
 back : ∀ b,I' b→I b∨w.heap.size≤b∨Own μ T lk b
 stp:Stp (Own μ T lk) w w'
 hr:HR I' μ' w' (fun id=>T id∨N id) lk'
 new : ∀ id b,N id→(∃ o,lk' id=some o)→blk μ' id=some b→w.heap.size≤b∨Own μ T lk b
 same : ∀ id,¬T id→¬N id→lk' id=lk id
 alive : ∀ id,¬N id→lk id=none→lk' id=none
section
variable {I I':Nat→Prop} {μ μ':Mu} {w w':World} {lk lk':Nat→Option Obj} {T N:Nat→Prop}
theorem Goes.mu_mono (g:Goes I I' μ μ' w w' lk lk' T N) : ∀ id x,μ id=some x→μ' id=some x:=fun id x h=>by
 by_cases hn:N id
 ·rw [g.fresh id hn] at h;cases h
 ·rw [g.mu id hn];exact h
theorem Goes.imm_block (g:Goes I I' μ μ' w w' lk lk' T N) (h:HR I μ w T lk) : ∀ b,I b→w'.heap[b]?=w.heap[b]?:=fun b hb=>
 g.stp.block b (h.lt b hb) fun ⟨id,o,ht,hl,hbk⟩=>h.imm id o b ht hl hb hbk
theorem Goes.vr (g:Goes I I' μ μ' w w' lk lk' T N) (h:HR I μ w T lk) {x:LV} {v:Value} (hv:VR I μ w x v):VR I' μ' w' x v:=
 hv.mono g.up g.mu_mono (g.imm_block h)
theorem Goes.frame (g:Goes I I' μ μ' w w' lk lk' T N) {lk0 lk0':Nat→Option Obj} {D:Nat→Prop} (h:HR I μ w D lk0) (hT : ∀ id,T id→D id∧lk0 id=lk id)
  (h1 : ∀ id,T id∨N id→lk0' id=lk' id) (h2 : ∀ id,¬T id→¬N id→lk0' id=lk0 id):HR I' μ' w' (fun id=>D id∨N id) lk0':=by
 have hTr:HR I μ w T lk:=h.sub fun id ht=>⟨(hT id ht).1,(hT id ht).2.symm⟩
 have him:=g.imm_block hTr
 have hout : ∀ id o,D id→¬T id→lk0 id=some o→∃ b,blk μ id=some b∧b<w.heap.size∧¬Own μ T lk b:=by
  intro id o hD ht hl
  obtain ⟨b,hb,hlt⟩:=(h.obj id o hD hl).lt
  refine ⟨b,hb,hlt,fun ⟨id',o',ht',hl',hb'⟩ => ?_⟩
  exact h.inj id id' o o' hD (hT id' ht').1 hl ((hT id' ht').2.trans hl') (fun e=>ht (e▸ht')) (hb.trans hb'.symm)
 have hin : ∀ id o b,(T id∨N id)→lk' id=some o→blk μ' id=some b→w.heap.size≤b∨Own μ T lk b:=by
  intro id o b htn hl' hb
  by_cases hn:N id
  ·exact g.new id b hn ⟨o,hl'⟩ hb
  ·have ht:T id:=htn.resolve_right hn
   rw [blk,g.mu id hn] at hb
   cases hlk:lk id with
   | none=>rw [g.alive id hn hlk] at hl';cases hl'
   | some o=>exact .inr ⟨id,o,ht,hlk,hb⟩
 have hold : ∀ id,¬N id→blk μ' id=blk μ id:=fun id hn=>by rw [blk,g.mu id hn,blk]
 have hDN : ∀ id o,(D id∨N id)→¬(T id∨N id)→lk0' id=some o→D id∧¬T id∧¬N id∧lk0 id=some o:=fun id o hd hn hl=>
  ⟨hd.resolve_right fun e=>hn (.inr e),fun e=>hn (.inl e),fun e=>hn (.inr e),by rw [←h2 id (fun e=>hn (.inl e)) (fun e=>hn (.inr e))];exact hl⟩
 refine ⟨fun id o hd hl => ?_,fun id id' o o' hd hd' hl hl' hne => ?_,fun id o b hd hl hb => ?_,g.hr.lt⟩
 ·by_cases htn:T id∨N id
  ·exact g.hr.obj id o htn (by rw [←h1 id htn];exact hl)
  ·obtain ⟨hD,ht,hn,hl0⟩:=hDN id o hd htn hl
   obtain ⟨b,hb,hlt,hno⟩:=hout id o hD ht hl0
   exact (h.obj id o hD hl0).mono g.up g.mu_mono him fun b' hb'=>by
    obtain rfl:b=b':=Option.some.inj (hb.symm.trans hb')
    exact g.stp.block b hlt hno
 ·by_cases htn:T id∨N id<;>by_cases htn':T id'∨N id'
  ·exact g.hr.inj id id' o o' htn htn' (by rw [←h1 id htn];exact hl) (by rw [←h1 id' htn'];exact hl') hne
  ·obtain ⟨hD,ht,hn,hl0⟩:=hDN id' o' hd' htn' hl'
   obtain ⟨b,hb,hlt,hno⟩:=hout id' o' hD ht hl0
   intro e
   rw [hold id' hn,hb] at e
   rcases hin id o b htn (by rw [←h1 id htn];exact hl) e with h' | h'
   ·omega
   ·exact hno h'
  ·obtain ⟨hD,ht,hn,hl0⟩:=hDN id o hd htn hl
   obtain ⟨b,hb,hlt,hno⟩:=hout id o hD ht hl0
   intro e
   rw [hold id hn,hb] at e
   rcases hin id' o' b htn' (by rw [←h1 id' htn'];exact hl') e.symm with h' | h'
   ·omega
   ·exact hno h'
  ·obtain ⟨hD,ht,hn,hl0⟩:=hDN id o hd htn hl
   obtain ⟨hD',ht',hn',hl0'⟩:=hDN id' o' hd' htn' hl'
   rw [hold id hn,hold id' hn']
   exact h.inj id id' o o' hD hD' hl0 hl0' hne
 ·by_cases htn:T id∨N id
  ·exact g.hr.imm id o b htn (by rw [←h1 id htn];exact hl) hb
  ·obtain ⟨hD,ht,hn,hl0⟩:=hDN id o hd htn hl
   obtain ⟨b0,hb0,hlt,hno⟩:=hout id o hD ht hl0
   intro e
   rw [hold id hn,hb0] at e
   obtain rfl:=Option.some.inj e
   rcases g.back _ hb with h' | h' | h'
   ·exact h.imm id o _ hD hl0 h' hb0
   ·omega
   ·exact hno h'
theorem Goes.widen (g:Goes I I' μ μ' w w' lk lk' T N) {D:Nat→Prop} (h:HR I μ w D lk) (hT : ∀ id,T id→D id):Goes I I' μ μ' w w' lk lk' D N where
 mu:=g.mu
 fresh:=g.fresh
 up:=g.up
 back b hb:=(g.back b hb).imp (fun h=>h) (Or.imp (fun h=>h) fun ⟨id,o,ht,r⟩=>⟨id,o,hT id ht,r⟩)
 stp:=g.stp.mono fun _ ⟨id,o,ht,r⟩=>⟨id,o,hT id ht,r⟩
 hr:=g.frame h (fun id ht=>⟨hT id ht,rfl⟩) (fun _ _=>rfl) (fun id h1 h2=>g.same id h1 h2)
 new id b hn he hb:=(g.new id b hn he hb).imp (fun h=>h) fun ⟨id,o,ht,r⟩=>⟨id,o,hT id ht,r⟩
 same id h1 h2:=g.same id (fun e=>h1 (hT id e)) h2
 alive:=g.alive
theorem Own.of_goes (g:Goes I I' μ μ' w w' lk lk' (fun _=>True) N) {b:Nat} (h:Own μ' (fun _=>True) lk' b):w.heap.size≤b∨Own μ (fun _=>True) lk b:=by
 obtain ⟨id,o,_,hl,hb⟩:=h
 by_cases hn:N id
 ·exact g.new id b hn ⟨o,hl⟩ hb
 ·rw [blk,g.mu id hn] at hb
  cases hlk:lk id with
  | none=>rw [g.alive id hn hlk] at hl;cases hl
  | some o=>exact .inr ⟨id,o,trivial,hlk,hb⟩
theorem Goes.trans (g:Goes I I' μ μ' w w' lk lk' (fun _=>True) N) {I2:Nat→Prop} {μ2:Mu} {w2:World} {lk2:Nat→Option Obj} {N2 N3:Nat→Prop}
  (k:Goes I' I2 μ' μ2 w' w2 lk' lk2 (fun _=>True) N2) (h3 : ∀ id,N3 id↔N id∨N2 id):Goes I I2 μ μ2 w w2 lk lk2 (fun _=>True) N3 where
 mu id hn:=by
  rw [h3] at hn
  rw [k.mu id fun e=>hn (.inr e),g.mu id fun e=>hn (.inl e)]
 fresh id hn:=by
  by_cases h1:N id
  ·exact g.fresh id h1
  ·have:=k.fresh id (((h3 id).1 hn).resolve_left h1)
   rwa [g.mu id h1] at this
 up b hb:=k.up b (g.up b hb)
 back b hb:=by
  rcases k.back b hb with h|h|h
  ·exact g.back b h
  ·exact .inr (.inl (Nat.le_trans g.stp.size h))
  ·exact .inr (Own.of_goes g h)
 stp:=g.stp.trans k.stp fun x hx h=>(Own.of_goes g h).resolve_left (by omega)
 hr:=k.hr.sub fun id _=>⟨.inl trivial,rfl⟩
 new id b hn he hb:=by
  by_cases h2:N2 id
  ·rcases k.new id b h2 he hb with h|h
   ·exact .inl (Nat.le_trans g.stp.size h)
   ·exact Own.of_goes g h
  ·have h1:=((h3 id).1 hn).resolve_right h2
   rw [blk,k.mu id h2] at hb
   refine g.new id b h1 ?_ hb
   cases hlk:lk' id with
   | none=>obtain ⟨o,ho⟩:=he;rw [k.alive id h2 hlk] at ho;cases ho
   | some o=>exact ⟨o,rfl⟩
 same id h:=absurd trivial h
 alive id hn hl:=by
  rw [h3] at hn
  exact k.alive id (fun e=>hn (.inr e)) (g.alive id (fun e=>hn (.inl e)) hl)
theorem Goes.refl (hlt : ∀ b,I b→b<w.heap.size):Goes I I μ μ w w lk lk (fun _=>False) (fun _=>False) where
 mu _ _:=rfl
 fresh _ h:=h.elim
 up _ h:=h
 back _ h:=.inl h
 stp:=.refl _ _
 hr:=⟨fun _ _ h=>(h.elim id id).elim,fun _ _ _ _ h=>(h.elim id id).elim,fun _ _ _ h=>(h.elim id id).elim,hlt⟩
 new _ _ h:=h.elim
 same _ _ _:=rfl
 alive _ _ h:=h
theorem Goes.imm (hlt : ∀ b,I b→b<w.heap.size) (o:Go.Obj):Goes I (fun b=>I b∨b=w.heap.size) μ μ w (w.alloc o) lk lk (fun _=>False) (fun _=>False) where
 mu _ _:=rfl
 fresh _ h:=h.elim
 up _ h:=.inl h
 back b h:=h.imp (fun h=>h) fun e=>.inl (Nat.le_of_eq e.symm)
 stp:=.alloc _ _ _
 hr:=⟨fun _ _ h=>(h.elim id id).elim,fun _ _ _ _ h=>(h.elim id id).elim,fun _ _ _ h=>(h.elim id id).elim,fun b hb=>by
  rw [World.size_alloc]
  rcases hb with hb|hb
  ·exact Nat.lt_succ_of_lt (hlt b hb)
  ·omega⟩
 new _ _ h:=h.elim
 same _ _ _:=rfl
 alive _ _ h:=h
theorem Goes.drew (hlt : ∀ b,I b→b<w.heap.size):Goes I I μ μ w w.drew lk lk (fun _=>False) (fun _=>False) where
 mu _ _:=rfl
 fresh _ h:=h.elim
 up _ h:=h
 back _ h:=.inl h
 stp:=.drew _ _
 hr:=⟨fun _ _ h=>(h.elim id id).elim,fun _ _ _ _ h=>(h.elim id id).elim,fun _ _ _ h=>(h.elim id id).elim,hlt⟩
 new _ _ h:=h.elim
 same _ _ _:=rfl
 alive _ _ h:=h
theorem Goes.make (hlt : ∀ b,I b→b<w.heap.size) (id:Nat) (hid:μ id=none) (c:Array Value) (e:TypeId) (fz:Nat × Nat) (hfz : ∀ k,k≤c.size→¬(fz.1≤k∧k<fz.2))
  (cs:List LV) (hl:cs.length≤c.size) (h1 : ∀ (j:Nat) u,j<cs.length→c[j]?=some u→u.oneCell'=true) (hc : ∀ (j:Nat) l u,cs[j]?=some l→c[j]?=some u→VR I μ w l u)
  (hsame : ∀ j,j≠id→lk' j=lk j) (hnew:lk' id=some (.cells cs)):
  Goes I I μ (fun j=>if j=id then some (w.heap.size,0,c.size) else μ j) w (w.alloc (.cells c e fz)) lk lk' (fun _=>False) (fun j=>j=id):=by
 have hmono : ∀ j x,μ j=some x→(if j=id then some (w.heap.size,0,c.size) else μ j)=some x:=fun j x h=>by
  by_cases e:j=id
  ·rw [e,hid] at h;cases h
  ·rw [if_neg e];exact h
 have hblk:(w.alloc (.cells c e fz)).heap[w.heap.size]?=some (.cells c e fz):=by
  show (w.heap.push (.cells c e fz))[w.heap.size]?=_
  simp
 have hcell : ∀ k,(w.alloc (.cells c e fz)).cell? ⟨w.heap.size,k,none⟩=c[k]?:=fun k=>by
  simp only [World.cell?,hblk]
  rfl
 refine ⟨fun j hn=>if_neg hn,fun j hj=>hj▸hid,fun _ h=>h,fun _ h=>.inl h,.alloc _ _ _,⟨?_,?_,?_,fun b hb => ?_⟩,fun j b hj _ hb => ?_,fun j _ hn=>hsame j hn,fun j hn hl=>by rw [hsame j hn];exact hl⟩
 ·rintro j o (h|rfl) hl'
  ·exact h.elim
  ·rw [hnew] at hl'
   obtain rfl:=Option.some.inj hl'
   refine ⟨w.heap.size,0,c.size,e,by simp,by simp only [World.shape?,hblk],by omega,fun k hk => ?_,fun j l hj => ?_⟩
   ·have:=hfz k hk
    simp only [World.frozen?,hblk]
    simp only [Bool.and_eq_false_iff,decide_eq_false_iff_not]
    omega
   ·have hlt':j<c.size:=Nat.lt_of_lt_of_le (List.getElem?_eq_some_iff.1 hj).1 hl
    refine ⟨c[j],by rw [Nat.zero_add,hcell];simp [hlt'],h1 j _ (List.getElem?_eq_some_iff.1 hj).1 (by simp [hlt']),?_⟩
    exact (hc j l c[j] hj (by simp [hlt'])).mono (fun _ h=>h) hmono fun b hb=>Go.RowKit.Below.heap_alloc _ _ _ (hlt b hb)
 ·rintro j j' o o' (h|rfl) (h' | rfl) _ _ hne
  ·exact h.elim
  ·exact h.elim
  ·exact h'.elim
  ·exact absurd rfl hne
 ·rintro j o b (h|rfl) _ hb
  ·exact h.elim
  ·simp only [blk,if_true,Option.map_some,ne_eq,Option.some.injEq]
   have:=hlt b hb
   omega
 ·rw [World.size_alloc];exact Nat.lt_succ_of_lt (hlt b hb)
 ·obtain rfl:=hj
  simp only [blk,if_true,Option.map_some,Option.some.injEq] at hb
  exact .inl (by omega)
theorem Goes.makeO (hlt : ∀ b,I b→b<w.heap.size) (id:Nat) (hid:μ id=none) (ho:Go.Obj) (o:Obj) (hsame : ∀ j,j≠id→lk' j=lk j) (hnew:lk' id=some o)
  (hor:OR I (fun j=>if j=id then some (w.heap.size,0,0) else μ j) (w.alloc ho) id o):
  Goes I I μ (fun j=>if j=id then some (w.heap.size,0,0) else μ j) w (w.alloc ho) lk lk' (fun _=>False) (fun j=>j=id):=by
 refine ⟨fun j hn=>if_neg hn,fun j hj=>hj▸hid,fun _ h=>h,fun _ h=>.inl h,.alloc _ _ _,⟨?_,?_,?_,fun b hb => ?_⟩,fun j b hj _ hb => ?_,fun j _ hn=>hsame j hn,fun j hn hl=>by rw [hsame j hn];exact hl⟩
 ·rintro j p (h|rfl) hl'
  ·exact h.elim
  ·rw [hnew] at hl'
   obtain rfl:=Option.some.inj hl'
   exact hor
 ·rintro j j' o o' (h|rfl) (h' | rfl) _ _ hne
  ·exact h.elim
  ·exact h.elim
  ·exact h'.elim
  ·exact absurd rfl hne
 ·rintro j o b (h|rfl) _ hb
  ·exact h.elim
  ·simp only [blk,if_true,Option.map_some,ne_eq,Option.some.injEq]
   have:=hlt b hb
   omega
 ·rw [World.size_alloc];exact Nat.lt_succ_of_lt (hlt b hb)
 ·obtain rfl:=hj
  simp only [blk,if_true,Option.map_some,Option.some.injEq] at hb
  exact .inl (by omega)
def putB (w:World) (b:Nat) (o:Go.Obj):World := { w with heap:=w.heap.setIfInBounds b o }
theorem kj (w:World) (b k:Nat) (o:Go.Obj) (h:k≠b):(putB w b o).heap[k]?=w.heap[k]?:=by
 simp only [putB,Array.getElem?_setIfInBounds]
 rw [if_neg (fun e=>h e.symm)]
theorem ua (w:World) (b:Nat) (o:Go.Obj) (h:b<w.heap.size):(putB w b o).heap[b]?=some o:=by
 simp [putB,h]
theorem Goes.writeO (h:HR I μ w T lk) (id:Nat) (hT:T id) {o o':Obj} (hl:lk id=some o) {b q s:Nat} (hm:μ id=some (b,q,s)) (ho:Go.Obj)
  (hsame : ∀ j,j≠id→lk' j=lk j) (hnew:lk' id=some o') (hor:(∀ {l v},VR I μ w l v→VR I μ (putB w b ho) l v)→OR I μ (putB w b ho) id o'):
  Goes I I μ μ w (putB w b ho) lk lk' (fun j=>j=id) (fun _=>False):=by
 have hbI : ∀ x,I x→x≠b:=fun x hx e=>h.imm id _ x hT hl hx (by simp [blk,hm,e])
 refine ⟨fun _ _=>rfl,fun _ h=>h.elim,fun _ h=>h,fun _ h=>.inl h,⟨rfl,rfl,rfl,by simp [putB],fun k hk hn=>kj _ _ _ _ fun e=>hn ⟨id,_,rfl,hl,by simp [blk,hm,e]⟩⟩,
  ⟨?_,?_,?_,fun x hx => ?_⟩,fun _ _ h=>h.elim,fun j hj _=>hsame j hj,fun j _ hj => ?_⟩
 ·rintro j ob (rfl|hj) hob
  ·rw [hnew] at hob
   obtain rfl:=Option.some.inj hob
   exact hor fun hv=>hv.mono (fun _ h=>h) (fun _ _ h=>h) fun x hx=>kj _ _ _ _ (hbI x hx)
  ·exact hj.elim
 ·rintro j j' ob ob' (rfl|hj) (rfl|hj') _ _ hne
  ·exact absurd rfl hne
  ·exact hj'.elim
  ·exact hj.elim
  ·exact hj.elim
 ·rintro j ob x (rfl|hj) _ hx
  ·exact h.imm j _ x hT hl hx
  ·exact hj.elim
 ·have:=h.lt x hx
  simpa [putB] using this
 ·by_cases e:j=id
  ·rw [e,hl] at hj;cases hj
  ·rw [hsame j e];exact hj
theorem Goes.kill (hlt : ∀ b,I b→b<w.heap.size) (id:Nat) (hsame : ∀ j,j≠id→lk' j=lk j) (hnew:lk' id=none):Goes I I μ μ w w lk lk' (fun j=>j=id) (fun _=>False) where
 mu _ _:=rfl
 fresh _ h:=h.elim
 up _ h:=h
 back _ h:=.inl h
 stp:=.refl _ _
 hr:=⟨fun j o hj hl=>by rcases hj with rfl|hj;(rw [hnew] at hl;cases hl);exact hj.elim,
      fun j j' o o' hj _ hl=>by rcases hj with rfl|hj;(rw [hnew] at hl;cases hl);exact hj.elim,
      fun j o b hj hl=>by rcases hj with rfl|hj;(rw [hnew] at hl;cases hl);exact hj.elim,hlt⟩
 new _ _ h:=h.elim
 same j hj _:=hsame j hj
 alive j _ hl:=by
  by_cases e:j=id
  ·rw [e];exact hnew
  ·rw [hsame j e];exact hl
theorem da (b:Nat) (k:Nat) (hk:k≠b) : ∀ (vs:List Value) (o:Nat) (w:World),(w.setCells b o vs).heap[k]?=w.heap[k]?
 | [],_,_=>rfl
 | v::r,o,w=>by rw [World.setCells,da b k hk r];exact Go.RowKit.Below.heap_setCell _ _ _ _ hk
theorem cv (b:Nat) {own:Nat→Prop} (ho:own b) : ∀ (vs:List Value) (o:Nat) (w:World),Stp own w (w.setCells b o vs)
 | [],_,w=>.refl _ _
 | v::r,o,w=>by
  have h1:Stp own w (w.setCell ⟨b,o,none⟩ v):=⟨rfl,rfl,rfl,by simp,fun k _ hn=>Go.RowKit.Below.heap_setCell _ _ _ _ fun e=>hn (e▸ho)⟩
  exact h1.trans (cv b ho r (o+1) _) fun _ _ h=>h
theorem kN (w:World) (a:Addr) (v:Value) (b:Nat):(w.setCell a v).shape? b=w.shape? b:=by
 unfold World.shape? World.setCell
 simp only [Array.getElem?_modify]
 by_cases h:a.block=b
 ·rw [if_pos h]
  cases w.heap[b]? with
  | none=>rfl
  | some x=>
   cases x with
   | cells c e fz=>
    simp only [Option.map_some]
    by_cases hs:a.spot.isSome=true
    ·rw [if_pos hs]
    ·rw [if_neg hs,Array.size_setIfInBounds]
   | _=>rfl
 ·rw [if_neg h]
theorem db (b b':Nat) : ∀ (vs:List Value) (o:Nat) (w:World),(w.setCells b o vs).shape? b'=w.shape? b'
 | [],_,_=>rfl
 | v::r,o,w=>by rw [World.setCells,db b b' r,kN]
theorem gc {w:World} {b o s:Nat} {e:TypeId} (hs:w.shape? b=some (e,s)) (vs:List Value) (hl:o+vs.length≤s) (k:Nat):
  (w.setCells b o vs).cell? ⟨b,k,none⟩=if o≤k∧k<o+vs.length then vs[k-o]? else w.cell? ⟨b,k,none⟩:=by
 split
 ·rename_i h
  have:=World.cell?_setCells_in b vs o w (fun j hj=>by
   obtain ⟨u,hu⟩:=bC (k:=o+j) hs (by omega)
   rw [hu];rfl) (k-o) (by omega)
  rw [show o+(k-o)=k by omega] at this
  rw [this,List.getElem?_eq_getElem]
 ·rename_i h
  exact World.cell?_setCells_out b vs o w ⟨b,k,none⟩ fun _ _=>by simp only;omega
theorem Goes.write (h:HR I μ w T lk) (id:Nat) (hT:T id) (cs cs':List LV) (hl:lk id=some (.cells cs)) {b o s:Nat} (hm:μ id=some (b,o,s)) (p:Nat) (vs:List Value)
  (h1 : ∀ v∈vs,v.oneCell'=true) (hps:o+p+vs.length≤s) (hlen:o+cs'.length≤s)
  (hc : ∀ (j:Nat) l,cs'[j]?=some l→(p≤j∧j<p+vs.length∧∃ v,vs[j-p]?=some v∧VR I μ w l v)∨(¬(p≤j∧j<p+vs.length)∧cs[j]?=some l))
  (hsame : ∀ j,j≠id→lk' j=lk j) (hnew:lk' id=some (.cells cs')):
  Goes I I μ μ w (w.setCells b (o+p) vs) lk lk' (fun j=>j=id) (fun _=>False):=by
 obtain ⟨b',o',s',e,hm',hs,hle,hf,hcs⟩:=h.obj id _ hT hl
 rw [hm] at hm'
 obtain ⟨rfl,rfl,rfl⟩:b=b'∧o=o'∧s=s':=by simpa using hm'
 have hbI : ∀ x,I x→x≠b:=fun x hx e=>h.imm id _ x hT hl hx (by simp [blk,hm,e])
 have hmono : ∀ {l v},VR I μ w l v→VR I μ (w.setCells b (o+p) vs) l v:=fun hv=>hv.mono (fun _ h=>h) (fun _ _ h=>h) fun x hx=>da b x (hbI x hx) vs _ w
 refine ⟨fun _ _=>rfl,fun _ h=>h.elim,fun _ h=>h,fun _ h=>.inl h,cv b ⟨id,_,rfl,hl,by simp [blk,hm]⟩ vs _ w,⟨?_,?_,?_,fun x hx => ?_⟩,fun _ _ h=>h.elim,fun j hj _=>hsame j hj,fun j _ hj => ?_⟩
 ·rintro j ob (rfl|hj) hob
  ·rw [hnew] at hob
   obtain rfl:=Option.some.inj hob
   refine ⟨b,o,s,e,hm,by rw [db];exact hs,hlen,fun k hk=>by rw [World.frozen?_setCells];exact hf k hk,fun i l hi => ?_⟩
   rw [gc hs vs hps]
   rcases hc i l hi with ⟨h2,h3,v,hv,hr⟩|⟨h2,h3⟩
   ·refine ⟨v,?_,h1 v (List.mem_of_getElem? hv),hmono hr⟩
    rw [if_pos (by omega),show o+i-(o+p)=i-p by omega,hv]
   ·obtain ⟨u,hu1,hu2,hu3⟩:=hcs i l h3
    exact ⟨u,by rw [if_neg (by omega)];exact hu1,hu2,hmono hu3⟩
  ·exact hj.elim
 ·rintro j j' ob ob' (rfl|hj) (rfl|hj') _ _ hne
  ·exact absurd rfl hne
  ·exact hj'.elim
  ·exact hj.elim
  ·exact hj.elim
 ·rintro j ob x (rfl|hj) _ hx
  ·exact h.imm j _ x hT hl hx
  ·exact hj.elim
 ·exact Nat.lt_of_lt_of_le (h.lt x hx) (cv (own:=fun _=>True) b trivial vs _ w).size
 ·by_cases e:j=id
  ·rw [e,hl] at hj;cases hj
  ·rw [hsame j e];exact hj
theorem Goes.grow (h:HR I μ w T lk) (id:Nat) (hT:T id) (n:Nat) (hn:μ n=none) (hni:n≠id) (cs ys:List LV) (hl:lk id=some (.cells cs)) {b o s:Nat} (hm:μ id=some (b,o,s)) (p:Nat) (hp:p≤cs.length) (vs:List Value)
  (hvl:vs.length=ys.length) (h1 : ∀ v∈vs,v.oneCell'=true) (hps:o+cs.length+vs.length≤s)
  (hc : ∀ (j:Nat) l v,ys[j]?=some l→vs[j]?=some v→VR I μ w l v)
  (hsame : ∀ j,j≠id→j≠n→lk' j=lk j) (hold:lk' id=none) (hnew:lk' n=some (.cells (cs.drop p++ys))):
  Goes I I μ (fun j=>if j=n then some (b,o+p,s) else μ j) w (w.setCells b (o+cs.length) vs) lk lk' (fun j=>j=id) (fun j=>j=n):=by
 obtain ⟨b',o',s',e,hm',hs,hle,hf,hcs⟩:=h.obj id _ hT hl
 rw [hm] at hm'
 obtain ⟨rfl,rfl,rfl⟩:b=b'∧o=o'∧s=s':=by simpa using hm'
 have hbI : ∀ x,I x→x≠b:=fun x hx e=>h.imm id _ x hT hl hx (by simp [blk,hm,e])
 have hmm : ∀ j x,μ j=some x→(if j=n then some (b,o+p,s) else μ j)=some x:=fun j x h=>by
  by_cases e:j=n
  ·rw [e,hn] at h;cases h
  ·rw [if_neg e];exact h
 have hmono : ∀ {l v},VR I μ w l v→VR I (fun j=>if j=n then some (b,o+p,s) else μ j) (w.setCells b (o+cs.length) vs) l v:=
  fun hv=>hv.mono (fun _ h=>h) hmm fun x hx=>da b x (hbI x hx) vs _ w
 refine ⟨fun j hj=>if_neg hj,fun j hj=>hj▸hn,fun _ h=>h,fun _ h=>.inl h,cv b ⟨id,_,rfl,hl,by simp [blk,hm]⟩ vs _ w,⟨?_,?_,?_,fun x hx => ?_⟩,fun j x hj _ hx => ?_,fun j hj hj'=>hsame j hj hj',fun j hj' hj => ?_⟩
 ·rintro j ob (rfl|rfl) hob
  ·rw [hold] at hob;cases hob
  ·rw [hnew] at hob
   obtain rfl:=Option.some.inj hob
   refine ⟨b,o+p,s,e,by simp,by rw [db];exact hs,by simp;omega,fun k hk=>by rw [World.frozen?_setCells];exact hf k hk,fun i l hi => ?_⟩
   rw [gc hs vs hps]
   by_cases hi2:i<cs.length-p
   ·rw [List.getElem?_append_left (by simpa using hi2),List.getElem?_drop] at hi
    obtain ⟨u,hu1,hu2,hu3⟩:=hcs _ l hi
    exact ⟨u,by rw [if_neg (by omega),←hu1];congr 2;omega,hu2,hmono hu3⟩
   ·rw [List.getElem?_append_right (by simp;omega),List.length_drop] at hi
    have hlt:=(List.getElem?_eq_some_iff.1 hi).1
    have hv:vs[i-(cs.length-p)]?=some vs[i-(cs.length-p)]:=List.getElem?_eq_getElem (by omega)
    refine ⟨_,?_,h1 _ (List.mem_of_getElem? hv),hmono (hc _ l _ hi hv)⟩
    rw [if_pos (by omega),show o+p+i-(o+cs.length)=i-(cs.length-p) by omega]
    exact hv
 ·rintro j j' ob ob' (rfl|rfl) (rfl|rfl) hob hob' hne
  ·exact absurd rfl hne
  ·rw [hold] at hob;cases hob
  ·rw [hold] at hob';cases hob'
  ·exact absurd rfl hne
 ·rintro j ob x (rfl|rfl) hob hx
  ·rw [hold] at hob;cases hob
  ·simp only [blk,if_true,Option.map_some,ne_eq,Option.some.injEq]
   exact fun e=>hbI x hx e.symm
 ·exact Nat.lt_of_lt_of_le (h.lt x hx) (cv (own:=fun _=>True) b trivial vs _ w).size
 ·obtain rfl:=hj
  simp only [blk,if_true,Option.map_some,Option.some.injEq] at hx
  exact .inr ⟨id,_,rfl,hl,by simp [blk,hm,hx]⟩
 ·by_cases e:j=id
  ·rw [e];exact hold
  ·rw [hsame j e hj'];exact hj
end
end Go.Sx
end

section
namespace Go.Sx
open Go
section
variable {I:Nat→Prop} {μ:Mu} {w:World}
theorem VR.one_or {x:LV} {v:Value} (h:VR I μ w x v) : ∀ cs,x.cells=some cs→v.cells.size=cs.length∧(∀ u∈v.cells.toList,u.oneCell'=true) ∧
  ∀ (j:Nat) l u,cs[j]?=some l→v.cells[j]?=some u→VR I μ w l u:=by
 intro cs hcs
 have single : ∀ {y:LV} {u:Value},VR I μ w y u→u.oneCell'=true→(#[u]:Array Value).size=[y].length∧(∀ t∈(#[u]:Array Value).toList,t.oneCell'=true) ∧
   ∀ (j:Nat) l t,[y][j]?=some l→(#[u]:Array Value)[j]?=some t→VR I μ w l t:=fun {y u} hy hu=>by
  refine ⟨rfl,fun t ht=>by simp at ht;rw [ht];exact hu,fun j l t hj ht => ?_⟩
  cases j with
  | zero=>simp at hj ht;rw [←hj,←ht];exact hy
  | succ j=>simp at hj
 cases h with
 | junk=>cases hcs
 | p hp=>
  cases hp with
  | s v=>
   simp only [LV.cells] at hcs
   split at hcs
   ·rename_i h1
    obtain rfl:=Option.some.inj hcs
    have hv:v.cells = #[v]:=by cases v<;>first|rfl|cases h1
    rw [hv]
    exact single (.p (.s v)) h1
   ·cases hcs
  | agg cs' a hl h1 h=>
   simp only [LV.cells,Option.some.injEq] at hcs
   subst hcs
   refine ⟨by simpa [Value.cells] using hl,h1,fun j l u hj hu => ?_⟩
   rw [List.getElem?_map,Option.map_eq_some_iff] at hj
   obtain ⟨x,hx,rfl⟩:=hj
   exact .p (h j x u hx hu)
  | imm cs' off b o u hb hc h1 h=>
   simp only [LV.cells,Option.some.injEq] at hcs
   subst hcs
   exact single (.p (.imm cs' off b o u hb hc h1 h)) rfl
  | sl cs' len sz full b o cap u hb hc h1 h hlen hf=>
   simp only [LV.cells,Option.some.injEq] at hcs
   subst hcs
   exact single (.p (.sl cs' len sz full b o cap u hb hc h1 h hlen hf)) rfl
  | sl0 sz full a cap hf=>
   simp only [LV.cells,Option.some.injEq] at hcs
   subst hcs
   exact single (.p (.sl0 sz full a cap hf)) rfl
 | ref id off b o s hm=>simp only [LV.cells,Option.some.injEq] at hcs;subst hcs;exact single (.ref id off b o s hm) rfl
 | arr id off len sz cp ex b o s o' cap hm ho hlen hcp hf hs=>simp only [LV.cells,Option.some.injEq] at hcs;subst hcs;exact single (.arr id off len sz cp ex b o s o' cap hm ho hlen hcp hf hs) rfl
 | agg cs' a hl h1 h=>simp only [LV.cells,Option.some.injEq] at hcs;subst hcs;exact ⟨hl,h1,h⟩
 | tuple=>cases hcs
 | fn f fs cs' fa ca hl hl' h h'=>simp only [LV.cells,Option.some.injEq] at hcs;subst hcs;exact single (.fn f fs cs' fa ca hl hl' h h') rfl
theorem dH {cs:List LV} {ps:List PV} (h:allP cs=some ps):cs=ps.map .p:=by
 induction cs generalizing ps with
 | nil=>simp [allP] at h;subst h;rfl
 | cons x r ih=>
  cases x with
  | p x=>
   simp only [allP] at h
   split at h
   ·rename_i l hl
    obtain rfl:=Option.some.inj h
    rw [ih hl];rfl
   ·cases h
  | _=>simp [allP] at h
theorem VR.pp {x:PV} {v:Value} (h:VR I μ w (.p x) v):PR I w x v:=by cases h;assumption
theorem ke {cs:List LV} {a:Array Value} (hl:a.size=cs.length) (h1 : ∀ u∈a.toList,u.oneCell'=true)
  (h : ∀ (j:Nat) l u,cs[j]?=some l→a[j]?=some u→VR I μ w l u):VR I μ w (mkAgg cs) (.agg a):=by
 unfold mkAgg
 split
 ·rename_i ps hps
  have:=dH hps
  subst this
  refine .p (.agg ps a (by simpa using hl) h1 fun j l u hj hu => ?_)
  exact (h j (.p l) u (by rw [List.getElem?_map,hj];rfl) hu).pp
 ·exact .agg cs a hl h1 h
theorem pS (v:Value):VR I μ w (ofConst v) v:=by
 cases v
 case agg cs=>
  simp only [ofConst]
  split
  ·rename_i h1
   refine .p (.agg _ cs (by simp) (fun u hu => ?_) fun j l u hj hu => ?_)
   ·rw [Array.all_eq_true'] at h1
    exact h1 u (Array.mem_toList_iff.1 hu)
   ·rw [List.getElem?_map,Option.map_eq_some_iff] at hj
    obtain ⟨x,hx,rfl⟩:=hj
    rw [Array.getElem?_toList] at hx
    obtain rfl:x=u:=Option.some.inj (hx.symm.trans hu)
    exact .s x
  ·exact .junk _
 all_goals exact .p (.s _)
def At (I:Nat→Prop) (μ:Mu) (w:World) (b o:Nat) (cs:List LV):Prop:=
 ∀ (j:Nat) l,cs[j]?=some l→∃ u,w.cell? ⟨b,o+j,none⟩=some u∧u.oneCell'=true∧VR I μ w l u
theorem At.vals {b o:Nat} {cs:List LV} (h:At I μ w b o cs) : ∃ vs:List Value,vs.length=cs.length∧(∀ v∈vs,v.oneCell'=true) ∧
  (∀ (j:Nat) v,vs[j]?=some v→w.cell? ⟨b,o+j,none⟩=some v)∧∀ (j:Nat) l v,cs[j]?=some l→vs[j]?=some v→VR I μ w l v:=by
 induction cs generalizing o with
 | nil=>exact ⟨[],rfl,by simp,by simp,by simp⟩
 | cons x r ih=>
  obtain ⟨u,h1,h2,h3⟩:=h 0 x rfl
  obtain ⟨vs,g1,g2,g3,g4⟩:=ih (o:=o+1) fun j l hj=>by
   obtain ⟨u,h1,h2⟩:=h (j+1) l hj
   exact ⟨u,by rw [show o+1+j=o+(j+1) by omega];exact h1,h2⟩
  refine ⟨u::vs,by simp [g1],fun v hv=>by
   rcases List.mem_cons.1 hv with rfl|hv
   ·exact h2
   ·exact g2 v hv,fun j v hj => ?_,fun j l v hj hv => ?_⟩
  ·cases j with
   | zero=>simp at hj;rw [←hj];exact h1
   | succ j=>rw [show o+(j+1)=o+1+j by omega];exact g3 j v hj
  ·cases j with
   | zero=>simp at hj hv;rw [←hj,←hv];exact h3
   | succ j=>exact g4 j l v hj hv
theorem At.drop {b o:Nat} {cs:List LV} (h:At I μ w b o cs) (n:Nat):At I μ w b (o+n) (cs.drop n):=fun j l hj=>by
 rw [List.getElem?_drop] at hj
 obtain ⟨u,hu⟩:=h (n+j) l hj
 exact ⟨u,by rw [show o+n+j=o+(n+j) by omega];exact hu⟩
theorem At.take {b o:Nat} {cs:List LV} (h:At I μ w b o cs) (n:Nat):At I μ w b o (cs.take n):=fun j l hj=>by
 rw [List.getElem?_take] at hj
 split at hj
 ·exact h j l hj
 ·cases hj
theorem PR.imm_at {cs:List PV} {off:Nat} {v:Value} (h:PR I w (.imm cs off) v) : ∃ b o,v = .pointer (some ⟨b,o+off,none⟩)∧I b∧At I μ w b o (cs.map .p):=by
 cases h with
 | imm _ _ b o u hb hc h1 h=>
  refine ⟨b,o,rfl,hb,fun j l hj => ?_⟩
  rw [List.getElem?_map,Option.map_eq_some_iff] at hj
  obtain ⟨x,hx,rfl⟩:=hj
  have hlt:=(List.getElem?_eq_some_iff.1 hx).1
  exact ⟨u j,hc j hlt,h1 j hlt,.p (h j x hx)⟩
theorem PR.sl_at {cs:List PV} {len sz:Nat} {full:Bool} {v:Value} (h:PR I w (.sl cs len sz full) v) : ∃ a cap,v = .slice (some a) len cap∧(cs=[]∧len=0∨∃ b o,a=⟨b,o,none⟩∧I b∧At I μ w b o (cs.map .p))∧len≤cap∧(full=true→cap=len):=by
 cases h with
 | sl0 sz full a cap hf=>exact ⟨a,cap,rfl,.inl ⟨rfl,rfl⟩,Nat.zero_le _,hf⟩
 | sl _ _ _ _ b o cap u hb hc h1 h hlen hf=>
  refine ⟨_,cap,rfl,.inr ⟨b,o,rfl,hb,fun j l hj => ?_⟩,hlen,hf⟩
  rw [List.getElem?_map,Option.map_eq_some_iff] at hj
  obtain ⟨x,hx,rfl⟩:=hj
  have hlt:=(List.getElem?_eq_some_iff.1 hx).1
  exact ⟨u j,hc j hlt,h1 j hlt,.p (h j x hx)⟩
theorem kf {b o:Nat} {cs:List PV} (hb:I b) (h:At I μ w b o (cs.map .p)) (off:Nat):PR I w (.imm cs off) (.pointer (some ⟨b,o+off,none⟩)):=by
 refine .imm cs off b o (fun j=>(w.cell? ⟨b,o+j,none⟩).getD undef) hb (fun j hj => ?_) (fun j hj => ?_) fun j l hj => ?_
 ·obtain ⟨u,h1,_⟩:=h j (.p cs[j]) (by simp [hj])
  simp [h1]
 ·obtain ⟨u,h1,h2,_⟩:=h j (.p cs[j]) (by simp [hj])
  simp [h1,h2]
 ·obtain ⟨u,h1,_,h3⟩:=h j (.p l) (by simp [hj])
  simp [h1]
  exact h3.pp
theorem oJ {b o:Nat} {cs:List PV} (hb:I b) (h:At I μ w b o (cs.map .p)) (len sz cap:Nat) (full:Bool) (hlen:len≤cap) (hf:full=true→cap=len):
  PR I w (.sl cs len sz full) (.slice (some ⟨b,o,none⟩) len cap):=by
 refine .sl cs len sz full b o cap (fun j=>(w.cell? ⟨b,o+j,none⟩).getD undef) hb (fun j hj => ?_) (fun j hj => ?_) (fun j l hj => ?_) hlen hf
 ·obtain ⟨u,h1,_⟩:=h j (.p cs[j]) (by simp [hj])
  simp [h1]
 ·obtain ⟨u,h1,h2,_⟩:=h j (.p cs[j]) (by simp [hj])
  simp [h1,h2]
 ·obtain ⟨u,h1,_,h3⟩:=h j (.p l) (by simp [hj])
  simp [h1]
  exact h3.pp
theorem bX (b o j:Nat):(⟨b,o,none⟩:Addr).add j=⟨b,o+j,none⟩:=by
 unfold Addr.add;split<;>simp_all
variable {P:Program}
theorem cA {t:TypeId} {s:Nat} (h:tsz P t=some s):(sizeOf t).run P w = .ok s w:=by
 unfold tsz at h
 cases hi:P.info? t with
 | none=>rw [hi] at h;cases h
 | some i=>rw [hi] at h;simp at h;simp [sizeOf,typeInfo,hi,h]
theorem nk {t:TypeId} {g:Bool} (h:tag? P t=some g):(isAgg t).run P w = .ok g w:=by
 unfold tag? at h
 cases hu:P.underlying t with
 | none=>rw [hu] at h;cases h
 | some d=>
  rw [hu] at h
  simp only [Option.map_some,Option.some.injEq] at h
  subst h
  cases d<;>simp [isAgg,run_underlying hu]
theorem r6 {b o off sz:Nat} {ag:Bool} {cs:List LV} (h:At I μ w b o cs) {v:LV} (hv:rd cs off sz ag=some v) {t:TypeId} (ht:tsz P t=some sz) (hg:tag? P t=some ag):
  ∃ u,(loadVar t ⟨b,o+off,none⟩).run P w = .ok u w∧VR I μ w v u:=by
 unfold rd at hv
 unfold loadVar
 cases ag with
 | true=>
  simp only [if_true] at hv
  split at hv
  ·rename_i hle
   obtain rfl:=Option.some.inj hv
   obtain ⟨vs,h1,h2,h3,h4⟩:=((h.drop off).take sz).vals
   have hlen:vs.length=sz:=by rw [h1];simp;omega
   refine ⟨.agg vs.toArray,?_,ke (by simp [h1]) (by simpa using h2) (by simpa using h4)⟩
   have hld:=run_loadCells_list (P:=P) w ⟨b,o+off,none⟩ vs fun j v hv=>by rw [bX];exact h3 j v hv
   rw [hlen] at hld
   simp [nk hg,cA ht,hld]
  ·cases hv
 | false=>
  simp only [Bool.false_eq_true,if_false] at hv
  obtain ⟨u,h1,h2,h3⟩:=h off v hv
  exact ⟨u,by simp [nk hg,h1],h3⟩
theorem sy {off sz:Nat} {ag:Bool} {cs:List LV} {a:Array Value} (hl:a.size=cs.length) (h1 : ∀ u∈a.toList,u.oneCell'=true)
  (h : ∀ (j:Nat) l u,cs[j]?=some l→a[j]?=some u→VR I μ w l u) {v:LV} (hv:rd cs off sz ag=some v) {t:TypeId} (ht:tsz P t=some sz) (hg:tag? P t=some ag):
  ∃ u,(part t a off).run P w = .ok u w∧VR I μ w v u:=by
 unfold rd at hv
 unfold part
 cases ag with
 | true=>
  simp only [if_true] at hv
  split at hv
  ·rename_i hle
   obtain rfl:=Option.some.inj hv
   refine ⟨.agg (a.extract off (off+sz)),by simp [nk hg,cA ht],ke (by simp;omega) (fun u hu => ?_) fun j l u hj hu => ?_⟩
   ·have:u∈a.toList.extract off (off+sz):=by simpa using hu
    rw [List.extract_eq_take_drop] at this
    exact h1 u (List.mem_of_mem_drop (List.mem_of_mem_take this))
   ·rw [List.getElem?_take] at hj
    split at hj
    ·rename_i hlt
     rw [List.getElem?_drop] at hj
     rw [Array.getElem?_extract] at hu
     split at hu
     ·exact h _ l u hj hu
     ·cases hu
    ·cases hj
  ·cases hv
 | false=>
  simp only [Bool.false_eq_true,if_false] at hv
  have hlt:=(List.getElem?_eq_some_iff.1 hv).1
  have hu:a[off]?=some a[off]:=by simp [hl,hlt]
  exact ⟨a[off],by simp [nk hg,hu],h off v _ hv hu⟩
end
end Go.Sx
end

section
namespace Go.Sx
open Go
def Does (P:Program) (s:Sem Next) (w:World) (I:Nat→Prop) (μ:Mu) (lk lk':Nat→Option Obj) (T N:Nat→Prop) (lv:LV):Prop:=
 ∃ I' μ' w' v,(s.run P w = .ok (.value v) w'∨(s.run P w = .ok .skip w'∧v=undef))∧Goes I I' μ μ' w w' lk lk' T N∧VR I' μ' w' lv v
section
variable {P:Program} {w:World} {I:Nat→Prop} {μ:Mu} {lk lk':Nat→Option Obj} {T N:Nat→Prop} {lv:LV} {s:Sem Next}
theorem Goes.congrN {I I':Nat→Prop} {μ μ':Mu} {w w':World} {lk lk':Nat→Option Obj} {T N N':Nat→Prop} (g:Goes I I' μ μ' w w' lk lk' T N) (h : ∀ id,N' id↔N id):Goes I I' μ μ' w w' lk lk' T N':=by
 obtain rfl:N'=N:=funext fun id=>propext (h id)
 exact g
theorem aj {v:Value} (h:HR I μ w T lk) (hN : ∀ id,¬N id) (hr:s.run P w = .ok (.value v) w) (hv:VR I μ w lv v):Does P s w I μ lk lk T N lv:=
 ⟨I,μ,w,v,.inl hr,((Goes.refl h.lt).widen h fun _ h=>h.elim).congrN fun id=>⟨fun h=>hN id h,fun h=>h.elim⟩,hv⟩
theorem ao {H:Heap} {nx:Nat} {h:Hp} {o:Obj} (id:Nat):look H nx (push h o) id=if id=nx+h.new.length then some o else look H nx h id:=by
 unfold look push
 by_cases h1:id<nx
 ·rw [if_pos h1,if_neg (by omega),if_pos h1]
 ·rw [if_neg h1,if_neg h1]
  by_cases h2:id=nx+h.new.length
  ·subst h2;simp
  ·rw [if_neg h2]
   by_cases h3:id-nx<h.new.length
   ·simp only [List.getElem?_append_left h3]
   ·rw [List.getElem?_append_right (by omega),List.getElem?_eq_none (by simp;omega),List.getElem?_eq_none (by omega)]
theorem bm {H:Heap} {nx:Nat} {h:Hp} {id:Nat} (hid:nx+h.new.length≤id):look H nx h id=none:=by
 unfold look
 rw [if_neg (by omega),List.getElem?_eq_none (by omega)]
theorem eh {nx:Nat} {h:Hp} {o:Obj} (id:Nat):(nx+h.new.length≤id∧id<nx+(push h o).new.length)↔id=nx+h.new.length:=by
 simp [push];omega
theorem Goes.of_drew {I I':Nat→Prop} {μ μ':Mu} {w w':World} {lk lk':Nat→Option Obj} {T N:Nat→Prop} (g:Goes I I' μ μ' w.drew w' lk lk' T N):Goes I I' μ μ' w w' lk lk' T N:=
 ⟨g.mu,g.fresh,g.up,g.back,⟨g.stp.os,g.stp.tape,g.stp.output,g.stp.size,g.stp.block⟩,g.hr,g.new,g.same,g.alive⟩
theorem Goes.after_kill {I I':Nat→Prop} {μ μ':Mu} {w w':World} {lk lk2 lk':Nat→Option Obj} {T N:Nat→Prop} (g1:Goes I I μ μ w w lk lk2 T (fun _=>False)) (g2:Goes I I' μ μ' w w' lk2 lk' T N):
  Goes I I' μ μ' w w' lk lk' T N:=by
 have hown : ∀ b,Own μ T lk2 b→Own μ T lk b:=fun b ⟨id,o,ht,hl,hb⟩=>by
  cases hlk:lk id with
  | none=>rw [g1.alive id (fun h=>h) hlk] at hl;cases hl
  | some o'=>exact ⟨id,o',ht,hlk,hb⟩
 exact ⟨g2.mu,g2.fresh,g2.up,fun b hb=>(g2.back b hb).imp (fun h=>h) (Or.imp (fun h=>h) (hown b)),g2.stp.mono hown,g2.hr,
  fun id b hn he hb=>(g2.new id b hn he hb).imp (fun h=>h) (hown b),fun id h1 h2=>(g2.same id h1 h2).trans (g1.same id h1 (fun h=>h)),fun id hn hl=>g2.alive id hn (g1.alive id (fun h=>h) hl)⟩
theorem cx {H:Heap} {nx:Nat} {h:Hp} {cs:List LV} (hH:HR I μ w T (look H nx h)) (hμ:μ (nx+h.new.length)=none) (w1:World) (hw1:w1=w∨w1=w.drew) {v:Value} (c:Array Value) (e:TypeId) (fz:Nat × Nat)
  (hfz : ∀ k,k≤c.size→¬(fz.1≤k∧k<fz.2)) (hl:cs.length≤c.size) (h1 : ∀ (j:Nat) u,j<cs.length→c[j]?=some u→u.oneCell'=true) (hc : ∀ (j:Nat) l u,cs[j]?=some l→c[j]?=some u→VR I μ w l u)
  (hr:s.run P w = .ok (.value v) (w1.alloc (.cells c e fz)))
  (hv : ∀ I' μ' w',(∀ id x,μ id=some x→μ' id=some x)→μ' (nx+h.new.length)=some (w.heap.size,0,c.size)→VR I' μ' w' lv v):
  Does P s w I μ (look H nx h) (look H nx (push h (.cells cs))) T (fun id=>nx+h.new.length≤id∧id<nx+(push h (.cells cs)).new.length) lv:=by
 have hsz:w1.heap.size=w.heap.size:=by rcases hw1 with rfl|rfl<;>rfl
 have hvr : ∀ {l u},VR I μ w l u→VR I μ w1 l u:=fun hx=>hx.mono (fun _ h=>h) (fun _ _ h=>h) fun b _=>by rcases hw1 with rfl|rfl<;>rfl
 have g:=Goes.make (w:=w1) (I:=I) (μ:=μ) (lk:=look H nx h) (lk':=look H nx (push h (.cells cs))) (by rw [hsz];exact hH.lt) (nx+h.new.length) hμ c e fz hfz cs hl h1 (fun j l u a b=>hvr (hc j l u a b))
  (fun j hj=>by rw [ao,if_neg hj]) (by rw [ao,if_pos rfl])
 have g':Goes I I μ (fun j=>if j=nx+h.new.length then some (w1.heap.size,0,c.size) else μ j) w (w1.alloc (.cells c e fz)) (look H nx h) (look H nx (push h (.cells cs))) (fun _=>False) (fun j=>j=nx+h.new.length):=by
  rcases hw1 with rfl|rfl
  ·exact g
  ·exact g.of_drew
 exact ⟨_,_,_,v,.inl hr,(g'.widen hH fun _ h=>h.elim).congrN eh,hv _ _ _ g'.mu_mono (by simp [hsz])⟩
theorem nV (hH:HR I μ w T lk) (hN : ∀ id,¬N id) {cs:List PV} (c:Array Value) (e:TypeId) (hl:cs.length=c.size) (h1 : ∀ (j:Nat) u,c[j]?=some u→u.oneCell'=true)
  (hc : ∀ (j:Nat) l u,cs[j]?=some l→c[j]?=some u→PR I w l u) (hr:s.run P w = .ok (.value (.pointer (some ⟨w.heap.size,0,none⟩))) (w.alloc (.cells c e))):
  Does P s w I μ lk lk T N (.p (.imm cs 0)):=by
 have g:=Goes.imm (w:=w) (I:=I) (μ:=μ) (lk:=lk) hH.lt (.cells c e)
 refine ⟨_,_,_,_,.inl hr,(g.widen hH fun _ h=>h.elim).congrN fun id=>⟨fun h=>hN id h,fun h=>h.elim⟩,.p ?_⟩
 refine kf (μ:=μ) (o:=0) (.inr rfl) (fun j l hj => ?_) 0
 rw [List.getElem?_map,Option.map_eq_some_iff] at hj
 obtain ⟨x,hx,rfl⟩:=hj
 have hlt:j<c.size:=by rw [←hl];exact (List.getElem?_eq_some_iff.1 hx).1
 have hu:c[j]?=some c[j]:=by simp [hlt]
 refine ⟨c[j],?_,h1 j _ hu,.p ((hc j x _ hx hu).mono (fun _ h=>.inl h) fun b hb=>Go.RowKit.Below.heap_alloc _ _ _ (hH.lt b hb))⟩
 rw [Nat.zero_add,World.cell?_alloc_new,hu]
theorem kY (hH:HR I μ w T lk) (hN : ∀ id,¬N id) (w1:World) (hw1:w1=w∨w1=w.drew) {cs:List PV} (c:Array Value) (e:TypeId) (fz:Nat × Nat) (hl:cs.length≤c.size) (h1 : ∀ (j:Nat) u,j<cs.length→c[j]?=some u→u.oneCell'=true)
  (hc : ∀ (j:Nat) l u,cs[j]?=some l→c[j]?=some u→PR I w l u) {v:Value} (hr:s.run P w = .ok (.value v) (w1.alloc (.cells c e fz)))
  (hv : ∀ I' w',I' w.heap.size→At I' μ w' w.heap.size 0 (cs.map .p)→VR I' μ w' lv v):
  Does P s w I μ lk lk T N lv:=by
 have hsz:w1.heap.size=w.heap.size:=by rcases hw1 with rfl|rfl<;>rfl
 have g:=Goes.imm (w:=w1) (I:=I) (μ:=μ) (lk:=lk) (by rw [hsz];exact hH.lt) (.cells c e fz)
 have g':Goes I (fun b=>I b∨b=w1.heap.size) μ μ w (w1.alloc (.cells c e fz)) lk lk (fun _=>False) (fun _=>False):=by
  rcases hw1 with rfl|rfl
  ·exact g
  ·exact g.of_drew
 refine ⟨_,_,_,_,.inl hr,(g'.widen hH fun _ h=>h.elim).congrN fun id=>⟨fun h=>hN id h,fun h=>h.elim⟩,hv _ _ (.inr hsz.symm) fun j l hj => ?_⟩
 rw [List.getElem?_map,Option.map_eq_some_iff] at hj
 obtain ⟨x,hx,rfl⟩:=hj
 have hlt0:j<cs.length:=(List.getElem?_eq_some_iff.1 hx).1
 have hlt:j<c.size:=Nat.lt_of_lt_of_le hlt0 hl
 have hu:c[j]?=some c[j]:=by simp [hlt]
 refine ⟨c[j],?_,h1 j _ hlt0 hu,.p ((hc j x _ hx hu).mono (fun _ h=>.inl h) fun b hb => ?_)⟩
 ·rw [Nat.zero_add,←hsz,World.cell?_alloc_mark,hu]
 ·rw [Go.RowKit.Below.heap_alloc _ _ _ (by rw [hsz];exact hH.lt b hb)]
  rcases hw1 with rfl|rfl<;>rfl
end
section ops
variable {P:Program} {imT:TypeId→Bool} {c:Ctx} {dr:Bool} {env:Env} {h:Hp} {a:Act} {w:World} {I:Nat→Prop} {μ:Mu} {r:Res} {T:Nat→Prop}
abbrev newN (c:Ctx) (h h':Hp):Nat→Prop:=fun id=>c.nx+h.new.length≤id∧id<c.nx+h'.new.length
theorem ah {c:Ctx} {h:Hp} (id:Nat) : ¬newN c h h id:=fun ⟨a,b⟩=>by omega
def Opds (c:Ctx) (env:Env) (a:Act) (I:Nat→Prop) (μ:Mu) (w:World):Prop:=∀ x:Operand,VR I μ w (opd c env (copd x)) (a.eval x)
abbrev DoesOp (P:Program) (c:Ctx) (h:Hp) (a:Act) (w:World) (I:Nat→Prop) (μ:Mu) (r:Res) (T:Nat→Prop) (o:Oper):Prop:=
 Does P (execOp a.eval o) w I μ (look c.H c.nx h) (look c.H c.nx r.h) T (newN c h r.h) r.v
variable {dst:Option Tmp} {ty:TypeId} {pos:String} {after:Array Edge} {guard:Option (Nat × Bool)}
theorem ss (hH:HR I μ w T (look c.H c.nx h)) (ho:Opds c env a I μ w) {x:Operand} (hr:evOp c dr env h (.mv (copd x))=some r):
  DoesOp P c h a w I μ r T ⟨dst,.move x,ty,pos,after,guard⟩∧DoesOp P c h a w I μ r T ⟨dst,.assign x,ty,pos,after,guard⟩:=by
 simp only [evOp,Option.some.injEq] at hr
 subst hr
 exact ⟨aj hH ah rfl (ho x),aj hH ah rfl (ho x)⟩
theorem dh {id off:Nat} {v:Value} (h:VR I μ w (.ref id off) v) : ∃ b o s,μ id=some (b,o,s)∧v = .pointer (some ⟨b,o+off,none⟩):=by
 cases h with
 | ref _ _ b o s h=>exact ⟨b,o,s,h,rfl⟩
theorem bF {id off len sz cp:Nat} {ex:Bool} {v:Value} (h:VR I μ w (.arr id off len sz cp ex) v) : ∃ b o s o' cap,μ id=some (b,o,s)∧v = .slice (some ⟨b,o',none⟩) len cap ∧
  (cap=0∨o'=o+off)∧len≤cap∧(ex=true→cap=cp)∧o+off+cap*sz≤s∧cp≤cap∧len≤cp:=by
 cases h with
 | arr _ _ _ _ _ _ b o s o' cap h ho hlen hcp hf hs=>exact ⟨b,o,s,o',cap,h,rfl,ho,by omega,hf,hs,hcp,hlen⟩
theorem wU {cs:List LV} {v:Value} (h:VR I μ w (.agg cs) v) : ∃ a,v = .agg a∧a.size=cs.length∧(∀ u∈a.toList,u.oneCell'=true)∧∀ (j:Nat) (l:LV) (u:Value),cs[j]?=some l→a[j]?=some u→VR I μ w l u:=by
 cases h with
 | agg _ a hl h1 h=>exact ⟨a,rfl,hl,h1,h⟩
theorem td {cs:List PV} {v:Value} (h:VR I μ w (.p (.agg cs)) v) : ∃ a,v = .agg a∧a.size=(cs.map LV.p).length∧(∀ u∈a.toList,u.oneCell'=true)∧∀ (j:Nat) (l:LV) (u:Value),(cs.map LV.p)[j]?=some l→a[j]?=some u→VR I μ w l u:=by
 cases h.pp with
 | agg _ a hl h1 hh=>
  refine ⟨a,rfl,by simpa using hl,h1,fun j l u hj hu => ?_⟩
  rw [List.getElem?_map,Option.map_eq_some_iff] at hj
  obtain ⟨x,hx,rfl⟩:=hj
  exact .p (hh j x u hx hu)
theorem kF {cs:List LV} {v:Value} (h:VR I μ w (.tuple cs) v) : ∃ a,v = .tuple a∧a.size=cs.length∧∀ (j:Nat) (l:LV) (u:Value),cs[j]?=some l→a[j]?=some u→VR I μ w l u:=by
 cases h with
 | tuple _ a hl h=>exact ⟨a,rfl,hl,h⟩
theorem tc {f:FuncId} {fs cs:List LV} {v:Value} (h:VR I μ w (.fn f fs cs) v) : ∃ fa ca,v = .func (.func f) fa ca∧fa.size=fs.length∧ca.size=cs.length ∧
  (∀ (j:Nat) (l:LV) (u:Value),fs[j]?=some l→fa[j]?=some u→VR I μ w l u)∧∀ (j:Nat) (l:LV) (u:Value),cs[j]?=some l→ca[j]?=some u→VR I μ w l u:=by
 cases h with
 | fn _ _ _ fa ca hl hl' h h'=>exact ⟨fa,ca,rfl,hl,hl',h,h'⟩
theorem yW {t:Bool} {v:Value} (h:VR I μ w (.p (.s (.bool t))) v):v = .bool t:=by cases h.pp;rfl
theorem bh {x v:Value} (h:VR I μ w (.p (.s x)) v):v=x:=by cases h.pp;rfl
theorem yj (hH:HR I μ w T (look c.H c.nx h)) (ho:Opds c env a I μ w) {b x y:Operand} (hr:evOp c dr env h (.pick (copd b) (copd x) (copd y))=some r):
  DoesOp P c h a w I μ r T ⟨dst,.pick b x y,ty,pos,after,guard⟩:=by
 simp only [evOp] at hr
 split at hr
 ·rename_i t ht
  obtain rfl:=Option.some.inj hr
  have hb:=ho b
  rw [ht] at hb
  have hb':=yW hb
  refine aj hH ah (v:=if t then a.eval x else a.eval y) (by simp [execOp,hb',asBool]) ?_
  cases t
  ·exact ho y
  ·exact ho x
 ·cases hr
theorem bN {t:TypeId} {z:List PV} (hz:tzero P t=some z) : ∃ i v,P.info? t=some i∧i.zero=some v∧(∀ u∈v.cells.toList,u.oneCell'=true)∧z=v.cells.toList.map .s:=by
 unfold tzero at hz
 split at hz
 ·rename_i i hi
  split at hz
  ·rename_i v hv
   split at hz
   ·rename_i h1
    rw [Array.all_eq_true'] at h1
    exact ⟨i,v,hi,hv,fun u hu=>h1 u (Array.mem_toList_iff.1 hu),(Option.some.inj hz).symm⟩
   ·cases hz
  ·cases hz
 ·cases hz
theorem vN (hH:HR I μ w T (look c.H c.nx h)) (hμ : ∀ id,newN c h r.h id→μ id=none) {t:TypeId} (hr:evOp c dr env h (cop P imT (.alloc t))=some r):
  DoesOp P c h a w I μ r T ⟨dst,.alloc t,ty,pos,after,guard⟩:=by
 simp only [cop] at hr
 split at hr
 ·rename_i z hz
  obtain ⟨i,v,hi,hv,h1,rfl⟩:=bN hz
  have hrun:(execOp a.eval ⟨dst,.alloc t,ty,pos,after,guard⟩).run P w = .ok (.value (.pointer (some ⟨w.heap.size,0,none⟩))) (w.alloc (.cells v.cells t)):=by
   simp [execOp,Instr.alloc,zeroValue,typeInfo,hi,hv,newVar,newRow]
  simp only [evOp] at hr
  split at hr
  ·obtain rfl:=Option.some.inj hr
   refine nV hH ah v.cells t (by simp) (fun j u hu=>h1 u ?_) (fun j l u hl hu => ?_) hrun
   ·rw [←Array.getElem?_toList] at hu;exact List.mem_of_getElem? hu
   ·rw [List.getElem?_map,Option.map_eq_some_iff] at hl
    obtain ⟨x,hx,rfl⟩:=hl
    rw [Array.getElem?_toList] at hx
    obtain rfl:x=u:=Option.some.inj (hx.symm.trans hu)
    exact .s x
  ·obtain rfl:=Option.some.inj hr
   refine cx hH (hμ _ (by rw [newN,eh])) w (.inl rfl) v.cells t (0,0) (by simp) (by simp) (fun j u _ hu=>h1 u ?_) (fun j l u hl hu => ?_) hrun fun I' μ' w' _ hm => ?_
   ·rw [←Array.getElem?_toList] at hu;exact List.mem_of_getElem? hu
   ·simp only [List.map_map,List.getElem?_map,Option.map_eq_some_iff] at hl
    obtain ⟨x,hx,rfl⟩:=hl
    rw [Array.getElem?_toList] at hx
    obtain rfl:x=u:=Option.some.inj (hx.symm.trans hu)
    exact .p (.s x)
   ·exact .ref _ 0 w.heap.size 0 v.cells.size hm
 ·simp [evOp] at hr
theorem Ak (hH:HR I μ w T (look c.H c.nx h)) (ho:Opds c env a I μ w) (hμ : ∀ id,newN c h r.h id→μ id=none) {t:TypeId} {x:Operand} (hr:evOp c dr env h (cop P imT (.box t x))=some r):
  DoesOp P c h a w I μ r T ⟨dst,.box t x,ty,pos,after,guard⟩:=by
 simp only [cop,evOp] at hr
 split at hr
 ·rename_i cs hcs
  obtain ⟨hl,h1,hc⟩:=(ho x).one_or cs hcs
  have hrun:(execOp a.eval ⟨dst,.box t x,ty,pos,after,guard⟩).run P w = .ok (.value (.pointer (some ⟨w.heap.size,0,none⟩))) (w.alloc (.cells (a.eval x).cells t)):=by
   simp [execOp,Instr.box,newVar,newRow]
  have hmem : ∀ (j:Nat) u,(a.eval x).cells[j]?=some u→u.oneCell'=true:=fun j u hu=>h1 u (by rw [←Array.getElem?_toList] at hu;exact List.mem_of_getElem? hu)
  split at hr
  ·split at hr
   ·rename_i ps hps
    obtain rfl:=Option.some.inj hr
    have:=dH hps
    subst this
    refine nV hH ah (a.eval x).cells t (by simpa using hl.symm) hmem (fun j l u hl hu => ?_) hrun
    exact (hc j (.p l) u (by rw [List.getElem?_map,hl];rfl) hu).pp
   ·cases hr
  ·obtain rfl:=Option.some.inj hr
   exact cx hH (hμ _ (by rw [newN,eh])) w (.inl rfl) (a.eval x).cells t (0,0) (by simp) (by omega) (fun j u _ hu=>hmem j u hu) hc hrun fun I' μ' w' _ hm=>.ref _ 0 w.heap.size 0 _ hm
 ·cases hr
theorem tK (xs:List Value) (off:Nat) : ∀ (k:Nat) (cs:Array Value),((xs.zipIdx k).foldl (fun cs (c,j)=>cs.setIfInBounds (off+j) c) cs).size=cs.size ∧
  ∀ i,((xs.zipIdx k).foldl (fun cs (c,j)=>cs.setIfInBounds (off+j) c) cs)[i]?=if off+k≤i∧i<off+k+xs.length∧i<cs.size then xs[i-(off+k)]? else cs[i]?:=by
 induction xs with
 | nil=>intro k cs;exact ⟨rfl,fun i=>by rw [if_neg (by simp;omega)];rfl⟩
 | cons x r ih=>
  intro k cs
  simp only [List.zipIdx_cons,List.foldl_cons]
  obtain ⟨h1,h2⟩:=ih (k+1) (cs.setIfInBounds (off+k) x)
  refine ⟨by rw [h1];simp,fun i => ?_⟩
  rw [h2,Array.size_setIfInBounds,Array.getElem?_setIfInBounds]
  by_cases e:i=off+k
  ·subst e
   rw [if_neg (by omega),if_pos rfl]
   by_cases hs:off+k<cs.size
   ·rw [if_pos hs,if_pos (by simp;omega)];simp
   ·rw [if_neg hs,if_neg (by omega),Array.getElem?_eq_none (by omega)]
  ·rw [if_neg (c:=off+k=i) (fun h=>e h.symm)]
   by_cases h3:off+(k+1)≤i∧i<off+(k+1)+r.length∧i<cs.size
   ·rw [if_pos h3,if_pos (by simp;omega),show i-(off+k)=(i-(off+(k+1)))+1 by omega];rfl
   ·rw [if_neg h3,if_neg (by simp at h3 ⊢;omega)]
inductive Parts (I:Nat→Prop) (μ:Mu) (w:World) (place:Nat→Option (Nat × Nat)):List (Nat × Value)→List (Nat × Nat × LV)→Prop
 | nil:Parts I μ w place [] []
 | cons {i:Nat} {v:Value} {o s:Nat} {l:LV} {r:List (Nat × Value)} {r':List (Nat × Nat × LV)} (h1:place i=some (o,s)) (h2:VR I μ w l v) (h3:Parts I μ w place r r'):Parts I μ w place ((i,v)::r) ((o,s,l)::r')
theorem rq {place:Nat→Option (Nat × Nat)} {parts:List (Nat × Value)} {lparts:List (Nat × Nat × LV)} (hp:Parts I μ w place parts lparts):
  ∀ {cells:Array Value} {lc lc':List LV},cells.size=lc.length→(∀ u∈cells.toList,u.oneCell'=true)→(∀ (j:Nat) l u,lc[j]?=some l→cells[j]?=some u→VR I μ w l u) →
   fillP lc lparts=some lc'→∃ cells',Instr.fill place cells parts=some cells'∧cells'.size=lc'.length∧(∀ u∈cells'.toList,u.oneCell'=true)∧∀ (j:Nat) l u,lc'[j]?=some l→cells'[j]?=some u→VR I μ w l u:=by
 induction hp with
 | nil=>intro cells lc lc' hs h1 hc hf;simp only [fillP,Option.some.injEq] at hf;subst hf;exact ⟨cells,rfl,hs,h1,hc⟩
 | @cons i v o s l r r' hpl hv _ ih=>
  intro cells lc lc' hs h1 hc hf
  simp only [fillP] at hf
  split at hf
  ·rename_i vs hvs
   split at hf
   ·rename_i hle
    obtain ⟨g1,g2,g3⟩:=hv.one_or vs hvs
    obtain ⟨f1,f2⟩:=tK v.cells.toList o 0 cells
    have e1:v.cells.zipIdx.foldl (fun cs (x:Value × Nat)=>cs.setIfInBounds (o+x.2) x.1) cells=(v.cells.toList.zipIdx 0).foldl (fun cs (c,j)=>cs.setIfInBounds (o+j) c) cells:=by
     rw [←Array.foldl_toList,Array.toList_zipIdx]
    obtain ⟨F,hF⟩ : ∃ F,F=(v.cells.toList.zipIdx 0).foldl (fun cs (c,j)=>cs.setIfInBounds (o+j) c) cells:=⟨_,rfl⟩
    rw [←hF] at f1 f2 e1
    have hsz:F.size=(lc.take o++vs++lc.drop (o+s)).length:=by
     rw [f1,hs];simp;omega
    have hget : ∀ (j:Nat) (l:LV) (u:Value),(lc.take o++vs++lc.drop (o+s))[j]?=some l→F[j]?=some u→u.oneCell'=true∧VR I μ w l u:=by
     intro j l u hj hu
     rw [f2] at hu
     simp only [Nat.add_zero,Array.length_toList] at hu
     by_cases h3:o≤j∧j<o+v.cells.size
     ·rw [if_pos ⟨h3.1,h3.2,by omega⟩] at hu
      have hu':v.cells[j-o]?=some u:=by rw [←Array.getElem?_toList];exact hu
      rw [List.append_assoc,List.getElem?_append_right (by simp;omega),List.getElem?_append_left (by simp;omega)] at hj
      rw [show j-(lc.take o).length=j-o by simp;omega] at hj
      exact ⟨g2 u (List.mem_of_getElem? hu),g3 _ l u hj hu'⟩
     ·rw [if_neg (fun e=>h3 ⟨e.1,e.2.1⟩)] at hu
      have hone:u.oneCell'=true:=h1 u (by rw [←Array.getElem?_toList] at hu;exact List.mem_of_getElem? hu)
      refine ⟨hone,hc j l u ?_ hu⟩
      by_cases h4:j<o
      ·rw [List.append_assoc,List.getElem?_append_left (by simp;omega),List.getElem?_take,if_pos h4] at hj
       exact hj
      ·rw [List.getElem?_append_right (by simp;omega),List.getElem?_drop] at hj
       rw [←hj];congr 1;simp;omega
    obtain ⟨cells',k1,k2,k3,k4⟩:=ih (cells:=F) hsz (fun u hu=>by
      obtain ⟨j,hj⟩:=List.getElem?_of_mem hu
      rw [Array.getElem?_toList] at hj
      have hlt:j<(lc.take o++vs++lc.drop (o+s)).length:=by rw [←hsz];exact (Array.getElem?_eq_some_iff.1 hj).1
      exact (hget j _ u (List.getElem?_eq_getElem hlt) hj).1) (fun j l u hj hu=>(hget j l u hj hu).2) hf
    refine ⟨cells',?_,k2,k3,k4⟩
    simp only [Instr.fill,hpl]
    rw [if_neg (by simp;omega),←k1,←e1]
   ·cases hf
  ·cases hf
theorem d9 {c:Ctx} {env:Env} {a:Act} (ho:Opds c env a I μ w) {place:Nat→Option (Nat × Nat)} : ∀ {ps:List (Nat × Operand)} {l:List (Nat × Nat × Opd)},cparts place ps=some l →
  Parts I μ w place (ps.map fun (i,x)=>(i,a.eval x)) (l.map fun (o,s,x)=>(o,s,opd c env x))
 | [],l,hl=>by simp only [cparts,Option.some.injEq] at hl;subst hl;exact .nil
 | (i,x)::r,l,hl=>by
  simp only [cparts] at hl
  split at hl
  ·rename_i o s l' h1 h2
   obtain rfl:=Option.some.inj hl
   exact .cons h1 (ho x) (d9 ho h2)
  ·cases hl
theorem vO (hH:HR I μ w T (look c.H c.nx h)) (ho:Opds c env a I μ w) {t:TypeId} {parts:Array (Nat × Operand)} (hr:evOp c dr env h (cop P imT (.build t parts))=some r):
  DoesOp P c h a w I μ r T ⟨dst,.build t parts,ty,pos,after,guard⟩:=by
 have key : ∀ (z:List PV) (l:List (Nat × Nat × Opd)) (place:Nat→Option (Nat × Nat)) (it:TypeInfo) (zv:Value),P.info? t=some it→it.zero=some zv→(∀ u∈zv.cells.toList,u.oneCell'=true)→z=zv.cells.toList.map .s →
   cparts place parts.toList=some l→(∀ cells,Instr.fill place zv.cells (parts.toList.map fun (i,x)=>(i,a.eval x))=some cells→P.built t (parts.toList.map fun (i,x)=>(i,a.eval x))=some cells) →
   evOp c dr env h (.build z l)=some r→DoesOp P c h a w I μ r T ⟨dst,.build t parts,ty,pos,after,guard⟩:=by
  intro z l place it zv hi hz h1 hzz hl hb hr
  subst hzz
  simp only [evOp] at hr
  split at hr
  ·rename_i cs hcs
   obtain rfl:=Option.some.inj hr
   obtain ⟨cells,k1,k2,k3,k4⟩:=rq (d9 ho hl) (cells:=zv.cells) (by simp) h1 (fun j l u hl hu=>by
    simp only [List.map_map,List.getElem?_map,Option.map_eq_some_iff] at hl
    obtain ⟨x,hx,rfl⟩:=hl
    rw [Array.getElem?_toList] at hx
    obtain rfl:x=u:=Option.some.inj (hx.symm.trans hu)
    exact .p (.s x)) hcs
   have hrun:=run_build (P:=P) w t (parts.map fun (i,x)=>(i,a.eval x)) cells (by rw [Array.toList_map];exact hb cells k1)
   exact aj hH ah (v:=.agg cells) (by simp [execOp,hrun]) (ke k2 k3 k4)
  ·cases hr
 simp only [cop] at hr
 split at hr
 ·rename_i fs z hu hz
  obtain ⟨it,zv,hi,hzv,h1,hzz⟩:=bN hz
  split at hr
  ·rename_i places hpl
   split at hr
   ·rename_i l hl
    exact key z l _ it zv hi hzv h1 hzz hl (fun cells hf=>by simp only [Program.built,hi,hu,hzv,hpl];exact hf) hr
   ·simp [evOp] at hr
  ·simp [evOp] at hr
 ·rename_i n e z hu hz
  obtain ⟨it,zv,hi,hzv,h1,hzz⟩:=bN hz
  split at hr
  ·rename_i ie hie
   split at hr
   ·rename_i l hl
    exact key z l _ it zv hi hzv h1 hzz hl (fun cells hf=>by simp only [Program.built,hi,hu,hzv,hie];exact hf) hr
   ·simp [evOp] at hr
  ·simp [evOp] at hr
 ·simp [evOp] at hr
end ops
end Go.Sx
end

section
namespace Go.Sx
open Go
section ops
variable {P:Program} {imT:TypeId→Bool} {c:Ctx} {dr:Bool} {env:Env} {h:Hp} {a:Act} {w:World} {I:Nat→Prop} {μ:Mu} {r:Res} {T:Nat→Prop}
variable {dst:Option Tmp} {ty:TypeId} {pos:String} {after:Array Edge} {guard:Option (Nat × Bool)}
theorem dT {α:Type} (z:List α) : ∀ (n j:Nat),(List.replicate n z).flatten[j]?=if j<n*z.length then z[j%z.length]? else none
 | 0,j=>by simp
 | n+1,j=>by
  rw [List.replicate_succ,List.flatten_cons]
  by_cases h:j<z.length
  ·rw [List.getElem?_append_left h,if_pos (Nat.lt_of_lt_of_le h (by rw [Nat.add_mul,Nat.one_mul];omega)),Nat.mod_eq_of_lt h]
  ·rw [List.getElem?_append_right (by omega),dT z n]
   by_cases h2:j-z.length<n*z.length
   ·rw [if_pos h2,if_pos (by rw [Nat.add_mul,Nat.one_mul];omega),←Nat.mod_eq_sub_mod (by omega)]
   ·rw [if_neg h2,if_neg (by rw [Nat.add_mul,Nat.one_mul];omega)]
theorem vk {α:Type} (z:List α) (n:Nat):(List.replicate n z).flatten.length=n*z.length:=by simp
theorem jt {zs:Array Value} (hz : ∀ u∈zs.toList,u.oneCell'=true) (n m:Nat):
  (∀ u∈(madeCells zs m).toList,m=0∨zs.size≠0→u.oneCell'=true) ∧
  ∀ (j:Nat) l u,((List.replicate n (zs.toList.map PV.s)).flatten.map LV.p)[j]?=some l→(madeCells zs m)[j]?=some u→VR I μ w l u:=by
 refine ⟨fun u hu hm0 => ?_,fun j l u hl hu => ?_⟩
 ·simp only [madeCells,Array.toList_map,Array.toList_range,List.mem_map,List.mem_range] at hu
  obtain ⟨i,hi,rfl⟩:=hu
  have hlt:i%zs.size<zs.size:=Nat.mod_lt _ (by omega)
  exact hz _ (by simp [hlt])
 ·rw [List.getElem?_map,dT] at hl
  simp only [List.length_map,Array.length_toList] at hl
  split at hl
  ·rename_i h1
   have hpos:0<zs.size:=by
    rcases Nat.eq_zero_or_pos zs.size with h0|h0
    ·rw [h0] at h1;simp at h1
    ·exact h0
   have hlt:j%zs.size<zs.size:=Nat.mod_lt _ hpos
   simp only [List.getElem?_map,Array.getElem?_toList,Array.getElem?_eq_getElem hlt,Option.map_some,Option.some.injEq] at hl
   simp only [madeCells,Array.getElem?_map,Array.getElem?_range] at hu
   split at hu
   ·simp only [Option.map_some,Option.some.injEq] at hu
    rw [←hl,←hu,getElem!_pos zs _ hlt]
    exact .p (.s _)
   ·cases hu
  ·simp at hl
theorem kK (hH:HR I μ w T (look c.H c.nx h)) (ho:Opds c env a I μ w) (hμ : ∀ id,newN c h r.h id→μ id=none) {t:TypeId} {len:Nat} {parts:Array (Nat × Operand)} (hr:evOp c dr env h (cop P imT (.buildSlice t len parts))=some r):
  DoesOp P c h a w I μ r T ⟨dst,.buildSlice t len parts,ty,pos,after,guard⟩:=by
 simp only [cop] at hr
 split at hr
 case h_2=>simp [evOp] at hr
 rename_i e hu
 split at hr
 case h_2=>simp [evOp] at hr
 rename_i s z hs hz
 split at hr
 case h_2=>simp [evOp] at hr
 rename_i l hl
 split at hr
 ·rename_i hlen0
  subst hlen0
  split at hr
  case isFalse=>simp [evOp] at hr
  rename_i hp0
  have hpe:parts = #[]:=Array.eq_empty_of_size_eq_zero hp0
  subst hpe
  simp only [evOp,List.map_nil,fillP,Bool.false_eq_true,if_false] at hr
  obtain rfl:=Option.some.inj hr
  refine cx hH (hμ _ (by rw [newN,eh])) w (.inl rfl) #[] e (0,0) (by simp) (by simp) (by simp) (by simp) (v:=.slice (some ⟨w.heap.size,0,none⟩) 0 0) ?_ fun I' μ' w' _ hm => ?_
  ·simp [execOp,Instr.buildSlice,run_underlying hu,cA hs,Instr.fill,newRow]
   simp [Array.range_zero']
  ·exact .arr _ 0 0 s 0 true w.heap.size 0 _ 0 0 hm (.inl rfl) (Nat.le_refl _) (Nat.le_refl _) (fun _=>rfl) (by simp)
 split at hr
 case isFalse=>simp [evOp] at hr
 rename_i hcond
 obtain ⟨hb,hzl,hne⟩:=hcond
 obtain ⟨it,zv,hi,hzv,h1,hzz⟩:=bN hz
 subst hzz
 simp only [evOp] at hr
 split at hr
 case h_2=>cases hr
 rename_i cs hcs
 have hsz:zv.cells.size=s:=by simpa using hzl
 have hmade:=jt (I:=I) (μ:=μ) (w:=w) h1 len (len*s)
 have hs0:s≠0:=fun e=>hne (by rw [e,Nat.mul_zero])
 obtain ⟨cells,k1,k2,k3,k4⟩:=rq (d9 ho hl) (cells:=madeCells zv.cells (len*s)) (by simp [madeCells,hsz]) (fun u hu=>hmade.1 u hu (.inr (by omega))) hmade.2 hcs
 have hrun:(execOp a.eval ⟨dst,.buildSlice t len parts,ty,pos,after,guard⟩).run P w = .ok (.value (.slice (some ⟨w.heap.size,0,none⟩) len len)) (w.alloc (.cells cells e)):=by
  have hb' : ¬(16777216<len*s):=by omega
  have k1':Instr.fill (fun i=>some (i*s,s)) ((Array.range (len*s)).map (zv.cells[· % zv.cells.size]!)) (List.map (fun x=>(x.fst,a.eval x.snd)) parts.toList)=some cells:=k1
  simp [execOp,Instr.buildSlice,run_underlying hu,cA hs,hb',hne,zeroValue,typeInfo,hi,hzv,k1',newRow]
 split at hr
 ·rename_i him
  split at hr
  case h_2=>cases hr
  rename_i ps hps
  obtain rfl:=Option.some.inj hr
  obtain rfl:=dH hps
  refine kY hH ah w (.inl rfl) (cs:=ps) cells e (0,0) (by simpa using Nat.le_of_eq k2.symm) (fun j u _ hu=>k3 u ?_) (fun j l u hl hu => ?_) hrun fun I' w' hb hat => ?_
  ·rw [←Array.getElem?_toList] at hu;exact List.mem_of_getElem? hu
  ·exact (k4 j (.p l) u (by simp [hl]) hu).pp
  ·exact .p (oJ hb hat len s len true (Nat.le_refl _) (fun _=>rfl))
 obtain rfl:=Option.some.inj hr
 refine cx hH (hμ _ (by rw [newN,eh])) w (.inl rfl) cells e (0,0) (by simp) (by omega) (fun j u _ hu=>k3 u ?_) k4 hrun fun I' μ' w' _ hm => ?_
 ·rw [←Array.getElem?_toList] at hu;exact List.mem_of_getElem? hu
 ·have hcl:cells.size=len*s:=by
   rw [k2]
   have : ∀ (ps:List (Nat × Nat × LV)) (l l':List LV),fillP l ps=some l'→l'.length=l.length:=by
    intro ps
    induction ps with
    | nil=>intro l l' h;simp [fillP] at h;rw [h]
    | cons x r ih=>
     obtain ⟨o,s,v⟩:=x
     intro l l' h
     simp only [fillP] at h
     split at h
     ·split at h
      ·rename_i hle
       rw [ih _ _ h];simp;omega
      ·cases h
     ·cases h
   rw [this _ _ _ hcs];simp [hsz]
  exact .arr _ 0 len s len true w.heap.size 0 cells.size 0 len hm (.inr rfl) (Nat.le_refl _) (Nat.le_refl _) (fun _=>rfl) (by omega)
theorem yh (hH:HR I μ w T (look c.H c.nx h)) (ho:Opds c env a I μ w) (hT : ∀ id∈r.tch,T id) {t:TypeId} {x:Operand} (hr:evOp c dr env h (cop P imT (.load t x))=some r):
  DoesOp P c h a w I μ r T ⟨dst,.load t x,ty,pos,after,guard⟩:=by
 simp only [cop] at hr
 split at hr
 case h_2=>simp [evOp] at hr
 rename_i s g hs hg
 simp only [evOp] at hr
 have hx:=ho x
 have key : ∀ {b o off:Nat} {cs:List LV} {v:LV},At I μ w b o cs→rd cs off s g=some v→a.eval x = .pointer (some ⟨b,o+off,none⟩) →
   ∃ u,(execOp a.eval ⟨dst,.load t x,ty,pos,after,guard⟩).run P w = .ok (.value u) w∧VR I μ w v u:=fun hat hv he=>by
  obtain ⟨u,h1,h2⟩:=r6 (P:=P) hat hv hs hg
  exact ⟨u,by simp [execOp,Instr.loadAt,Instr.sureAddr,he,h1],h2⟩
 split at hr
 ·rename_i cs off hv
  rw [hv] at hx
  obtain ⟨b,o,he,_,hat⟩:=hx.pp.imm_at (μ:=μ)
  split at hr
  ·rename_i v hrd
   obtain rfl:=Option.some.inj hr
   obtain ⟨u,h1,h2⟩:=key hat hrd he
   exact aj hH ah h1 h2
  ·cases hr
 ·rename_i id off hv
  rw [hv] at hx
  split at hr
  ·rename_i cs hl
   split at hr
   ·rename_i v hrd
    obtain rfl:=Option.some.inj hr
    have hTid:=hT id (by simp)
    obtain ⟨b,o,sz,e,hm,_,_,_,hat⟩:=hH.obj id _ hTid hl
    obtain ⟨b',o',s',hm',he⟩:=dh hx
    rw [hm] at hm'
    obtain ⟨rfl,rfl,rfl⟩:b=b'∧o=o'∧sz=s':=by simpa using hm'
    obtain ⟨u,h1,h2⟩:=key (off:=off) hat hrd he
    exact aj hH ah h1 h2
   ·cases hr
  ·cases hr
 ·cases hr
theorem bn {H:Heap} {nx:Nat} {h:Hp} {id:Nat} {o:Option Obj} (hid:id<nx∨id-nx<h.new.length) (j:Nat):look H nx (setObj nx h id o) j=if j=id then o else look H nx h j:=by
 have hset : ∀ u,findU (setU u id o) j=if j=id then some o else findU u j:=by
  intro u
  induction u with
  | nil=>simp [setU,findU]
  | cons x r ih=>
   obtain ⟨k,p⟩:=x
   simp only [setU]
   by_cases h1:id=k
   ·rw [if_pos h1]
    simp only [findU]
    by_cases h2:j=k
    ·rw [if_pos h2,if_pos (by omega)]
    ·rw [if_neg h2,if_neg (by omega),if_neg h2]
   ·rw [if_neg h1]
    simp only [findU]
    by_cases h2:j=k
    ·rw [if_pos h2,if_neg (by omega),if_pos h2]
    ·rw [if_neg h2,ih,if_neg h2]
 unfold setObj look
 by_cases h1:id<nx
 ·rw [if_pos h1]
  by_cases h2:j<nx
  ·rw [if_pos h2]
   simp only [hset]
   by_cases h3:j=id
   ·rw [if_pos h3,if_pos h3]
   ·rw [if_neg h3,if_neg h3,if_pos h2]
  ·rw [if_neg h2,if_neg (by omega),if_neg h2]
 ·rw [if_neg h1]
  by_cases h2:j<nx
  ·rw [if_pos h2,if_neg (by omega),if_pos h2]
  ·rw [if_neg h2]
   by_cases h3:j=id
   ·subst h3
    rw [if_pos rfl]
    simp [hid.resolve_left h1]
   ·rw [if_neg h3,if_neg h2]
    simp only []
    rw [List.getElem?_set_ne (by omega)]
theorem a7 {H:Heap} {nx:Nat} {h:Hp} {id:Nat} {o:Obj} (hl:look H nx h id=some o):id<nx∨id-nx<h.new.length:=by
 unfold look at hl
 by_cases h1:id<nx
 ·exact .inl h1
 ·rw [if_neg h1] at hl
  right
  rcases Nat.lt_or_ge (id-nx) h.new.length with h2|h2
  ·exact h2
  ·rw [List.getElem?_eq_none h2] at hl;cases hl
theorem aD {nx:Nat} {h:Hp} {id:Nat} {o:Option Obj} : (setObj nx h id o).new.length=h.new.length:=by
 unfold setObj;split<;>simp
theorem vX (hH:HR I μ w T (look c.H c.nx h)) (ho:Opds c env a I μ w) (hT : ∀ id∈r.tch,T id) {t:TypeId} {x y:Operand} (hr:evOp c dr env h (cop P imT (.store t x y))=some r):
  DoesOp P c h a w I μ r T ⟨dst,.store t x y,ty,pos,after,guard⟩:=by
 simp only [cop] at hr
 split at hr
 case h_2=>simp [evOp] at hr
 rename_i s hs
 simp only [evOp] at hr
 split at hr
 case h_2=>cases hr
 rename_i id off vs hx hy
 split at hr
 case h_2=>cases hr
 rename_i cs hl
 split at hr
 case isFalse=>cases hr
 rename_i hcond
 obtain rfl:=Option.some.inj hr
 have hTid:=hT id (by simp)
 obtain ⟨b,o,sz,e,hm,hsh,hle,hfz,hat⟩:=hH.obj id _ hTid hl
 have hxv:=ho x
 rw [hx] at hxv
 obtain ⟨b',o',s',hm',he⟩:=dh hxv
 rw [hm] at hm'
 obtain ⟨rfl,rfl,rfl⟩:b=b'∧o=o'∧sz=s':=by simpa using hm'
 obtain ⟨g1,g2,g3⟩:=(ho y).one_or vs hy
 have hwr:=Goes.write (lk':=look c.H c.nx (setObj c.nx h id (some (.cells (splice cs off vs))))) hH id hTid cs (splice cs off vs) hl hm off (a.eval y).cells.toList g2 (by simp;omega) (by simp [splice];omega) (fun j l hj=>by
   unfold splice at hj
   simp only [Array.length_toList]
   by_cases h1:off≤j∧j<off+(a.eval y).cells.size
   ·left
    rw [List.append_assoc,List.getElem?_append_right (by simp;omega),List.getElem?_append_left (by simp;omega),show j-(cs.take off).length=j-off by simp;omega] at hj
    refine ⟨h1.1,h1.2,_,List.getElem?_eq_getElem (by simp;omega),g3 _ l _ hj (by rw [←Array.getElem?_toList];exact List.getElem?_eq_getElem (by simp;omega))⟩
   ·right
    refine ⟨h1,?_⟩
    by_cases h4:j<off
    ·rw [List.append_assoc,List.getElem?_append_left (by simp;omega),List.getElem?_take,if_pos h4] at hj
     exact hj
    ·rw [List.getElem?_append_right (by simp;omega),List.getElem?_drop] at hj
     rw [←hj];congr 1;simp;omega)
  (fun j hj=>by rw [bn (a7 hl),if_neg hj]) (by rw [bn (a7 hl),if_pos rfl])
 have hst:=run_storeCells_cells (P:=P) b (o+off) (a.eval y).cells.toList 0 w (fun j hj=>by
   obtain ⟨u,hu⟩:=bC (k:=o+off+0+j) hsh (by simp at hj;omega)
   rw [hu];rfl) (fun j hj=>hfz _ (by simp at hj;omega)) g2
 have hrun:(execOp a.eval ⟨dst,.store t x y,ty,pos,after,guard⟩).run P w = .ok .skip (w.setCells b (o+off) (a.eval y).cells.toList):=by
  simp only [Nat.add_zero] at hst
  simp [execOp,Instr.storeAt,Instr.sureAddr,he,storeVar,cA hs,g1,hcond.1,hst]
 exact ⟨_,_,_,undef,.inr ⟨hrun,rfl⟩,(hwr.widen hH fun _ h=>h▸hTid).congrN fun id'=>⟨fun h=>by simp [newN,aD] at h;omega,fun h=>h.elim⟩,.p (.s _)⟩
theorem oT (hH:HR I μ w T (look c.H c.nx h)) (ho:Opds c env a I μ w) {x:Operand} (hr:evOp c dr env h (.nilCk (copd x))=some r):
  DoesOp P c h a w I μ r T ⟨dst,.nilCheck x,ty,pos,after,guard⟩:=by
 have hx:=ho x
 simp only [evOp] at hr
 split at hr
 ·rename_i cs o hv
  obtain rfl:=Option.some.inj hr
  rw [hv] at hx
  obtain ⟨b,o',he,_⟩:=hx.pp.imm_at (μ:=μ)
  exact aj hH ah (v:=a.eval x) (by simp [execOp,he]) hx
 ·rename_i id o hv
  obtain rfl:=Option.some.inj hr
  rw [hv] at hx
  obtain ⟨b',o',s',hm',he⟩:=dh hx
  exact aj hH ah (v:=a.eval x) (by simp [execOp,he]) hx
 ·rename_i f b d hv
  obtain rfl:=Option.some.inj hr
  rw [hv] at hx
  obtain ⟨fa,ca,he,_⟩:=tc hx
  exact aj hH ah (v:=a.eval x) (by simp [execOp,he]) hx
 ·cases hr
end ops
end Go.Sx
end

section
namespace Go.Sx
open Go
section ops
variable {P:Program} {imT:TypeId→Bool} {c:Ctx} {dr:Bool} {env:Env} {h:Hp} {a:Act} {w:World} {I:Nat→Prop} {μ:Mu} {r:Res} {T:Nat→Prop}
variable {dst:Option Tmp} {ty:TypeId} {pos:String} {after:Array Edge} {guard:Option (Nat × Bool)}
theorem uE {op:BinOp} {k:IntKind} {x y:Int} {v:Value} (h:binI op k x y=some v) (hs:op ≠ .shl) (hs':op ≠ .shr) (t:TypeId):(binOp op t (.int k x) (.int k y)).run P w = .ok v w:=by
 cases op<;>simp only [binI,leI_eq,xV,Option.some.injEq] at h<;>first
  | exact absurd rfl hs
  | exact absurd rfl hs'
  | (cases h;done)
  | (subst h;simp [binOp,Op.intArith,Op.intBits,Op.intCmp];done)
  | (split at h
     ·cases h
     ·rename_i hy
      simp only [Option.some.injEq] at h
      subst h
      simp [binOp,Op.intDiv,hy])
theorem yN {op:BinOp} {k k':IntKind} {x y:Int} {v:Value} (h:shI op k x y=some v) (hs:op = .shl∨op = .shr) (t:TypeId):(binOp op t (.int k x) (.int k' y)).run P w = .ok v w:=by
 unfold shI at h
 split at h
 ·cases h
 ·rename_i hy
  rcases hs with rfl|rfl<;>simp only [Option.some.injEq] at h<;>subst h<;>simp [binOp,Op.shift,hy]
theorem uG {op:BinOp} {x y:ByteArray} {v:Value} (h:binS op x y=some v) (t:TypeId):(binOp op t (.string x) (.string y)).run P w = .ok v w:=by
 cases op<;>simp only [binS,Option.some.injEq] at h<;>first
  | (cases h;done)
  | (subst h;simp [binOp,Op.stringOp];done)
  | (split at h
     ·cases h
     ·rename_i hy
      simp only [Option.some.injEq] at h
      subst h
      simp only [binOp,Op.stringOp,hy]
      simp)
theorem dU {op:BinOp} {t:TypeId} {x y:Operand} {u v:Value} (h1 : ∀ a,u ≠ .agg a) (h2:u ≠ .nilIface):(eqGuard op t x y u v).run P w = .ok () w:=by
 cases op<;>first
  | (simp [eqGuard];done)
  | (cases u<;>first
    | exact absurd rfl h2
    | exact absurd rfl (h1 _)
    | simp [eqGuard])
theorem pT (hH:HR I μ w T (look c.H c.nx h)) (ho:Opds c env a I μ w) {op:BinOp} {t t':TypeId} {x y:Operand} (hr:evOp c dr env h (.bin op (copd x) (copd y))=some r):
  DoesOp P c h a w I μ r T ⟨dst,.binOp op t x y t',ty,pos,after,guard⟩:=by
 have hx:=ho x
 have hy:=ho y
 simp only [evOp] at hr
 split at hr
 case h_2=>cases hr
 rename_i lv hl
 obtain rfl:=Option.some.inj hr
 unfold binL at hl
 split at hl
 ·rename_i k p k' q e1 e2
  rw [Option.map_eq_some_iff] at hl
  obtain ⟨v,hv,rfl⟩:=hl
  rw [e1] at hx;rw [e2] at hy
  split at hv
  ·rename_i hs
   exact aj hH ah (v:=v) (by simp [execOp,bh hx,bh hy,dU,yN hv (by cases op<;>first|exact .inl rfl|exact .inr rfl|cases hs)]) (.p (.s v))
  ·split at hv
   case isFalse=>cases hv
   rename_i hk
   subst hk
   exact aj hH ah (v:=v) (by simp [execOp,bh hx,bh hy,dU,uE hv (fun e=>by subst e;simp [binI] at hv) (fun e=>by subst e;simp [binI] at hv)]) (.p (.s v))
 ·rename_i p q e1 e2
  rw [Option.map_eq_some_iff] at hl
  obtain ⟨v,hv,rfl⟩:=hl
  rw [e1] at hx;rw [e2] at hy
  exact aj hH ah (v:=v) (by simp [execOp,bh hx,bh hy,dU,uG hv]) (.p (.s v))
 ·cases hl
theorem mJ {t:TypeId} (hu:P.underlying t=some .bool) (x y:Bool):(Op.equalIn 10000 t (.bool x) (.bool y)).run P w = .ok (x==y) w:=by
 rw [show (10000:Nat)=9999+1 from rfl,Op.equalIn]
 simp [run_underlying hu]
theorem cE {t e:TypeId} (hu:P.underlying t=some (.pointer e)) (p q:Option Addr) (h:p=none∨q=none):(Op.equalIn 10000 t (.pointer p) (.pointer q)).run P w = .ok (p.isNone&&q.isNone) w:=by
 rw [show (10000:Nat)=9999+1 from rfl,Op.equalIn]
 cases p<;>cases q<;>simp [run_underlying hu] at h ⊢
theorem bV {t e:TypeId} (hu:P.underlying t=some (.slice e)) (p q:Option Addr) (n m k l:Nat) (h:p=none∨q=none):(Op.equalIn 10000 t (.slice p n m) (.slice q k l)).run P w = .ok (p.isNone&&q.isNone) w:=by
 rw [show (10000:Nat)=9999+1 from rfl,Op.equalIn]
 cases p<;>cases q<;>simp [run_underlying hu] at h ⊢
theorem ea {t:TypeId} {ps rs:Array TypeId} {vv:Bool} (hu:P.underlying t=some (.func ps rs vv)):(Op.equalIn 10000 t .nilFunc .nilFunc).run P w = .ok true w ∧
  (∀ f x y,(Op.equalIn 10000 t .nilFunc (.func f x y)).run P w = .ok false w)∧∀ f x y,(Op.equalIn 10000 t (.func f x y) .nilFunc).run P w = .ok false w:=by
 rw [show (10000:Nat)=9999+1 from rfl]
 refine ⟨?_,fun f x y => ?_,fun f x y => ?_⟩<;>rw [Op.equalIn]<;>simp [run_underlying hu]
theorem aN {t:TypeId} {x y:Value} {b:Bool} (h:(Op.equalIn 10000 t x y).run P w = .ok b w) (h1:binOp .eql t x y=(do pure (.bool (← Op.equal t x y)))) (h2:binOp .neq t x y=(do pure (.bool (!(← Op.equal t x y))))):
  (binOp .eql t x y).run P w = .ok (.bool b) w∧(binOp .neq t x y).run P w = .ok (.bool (!b)) w:=by
 rw [h1,h2]
 simp [Op.equal,Op.maxDepth,h]
theorem xA {k:EK} {lx ly:LV} {t:Bool} (hl:eqL k lx ly=some t) {ty:TypeId} (hk:eqKind P ty=some k) {x y:Value} (hx:VR I μ w lx x) (hy:VR I μ w ly y):
  (∀ a,x ≠ .agg a)∧x ≠ .nilIface∧(binOp .eql ty x y).run P w = .ok (.bool t) w∧(binOp .neq ty x y).run P w = .ok (.bool (!t)) w:=by
 have hbool:k = .bool→P.underlying ty=some .bool:=fun e=>by
  subst e;unfold eqKind at hk;split at hk<;>first|assumption|cases hk
 have hptr:k = .ptr→∃ e,P.underlying ty=some (.pointer e):=fun e=>by
  subst e;unfold eqKind at hk;split at hk<;>first|exact ⟨_,by assumption⟩|cases hk
 have hsl:k = .slice→∃ e,P.underlying ty=some (.slice e):=fun e=>by
  subst e;unfold eqKind at hk;split at hk<;>first|exact ⟨_,by assumption⟩|cases hk
 have hfn:k = .func→∃ a b c,P.underlying ty=some (.func a b c):=fun e=>by
  subst e;unfold eqKind at hk;split at hk<;>first|exact ⟨_,_,_,by assumption⟩|cases hk
 unfold eqL at hl
 split at hl
 ·obtain rfl:=Option.some.inj hl
  obtain rfl:=bh hx;obtain rfl:=bh hy
  exact ⟨by simp,by simp,aN (mJ (hbool rfl) _ _) rfl rfl⟩
 ·obtain rfl:=Option.some.inj hl
  obtain ⟨e,hu⟩:=hptr rfl
  obtain rfl:=bh hx;obtain rfl:=bh hy
  exact ⟨by simp,by simp,aN (cE hu none none (.inl rfl)) rfl rfl⟩
 ·obtain rfl:=Option.some.inj hl
  obtain ⟨e,hu⟩:=hptr rfl
  obtain rfl:=bh hx;obtain ⟨b,o,rfl,_⟩:=hy.pp.imm_at (μ:=μ)
  exact ⟨by simp,by simp,aN (cE hu none (some _) (.inl rfl)) rfl rfl⟩
 ·obtain rfl:=Option.some.inj hl
  obtain ⟨e,hu⟩:=hptr rfl
  obtain rfl:=bh hx;obtain ⟨b,o,s,_,rfl⟩:=dh hy
  exact ⟨by simp,by simp,aN (cE hu none (some _) (.inl rfl)) rfl rfl⟩
 ·obtain rfl:=Option.some.inj hl
  obtain ⟨e,hu⟩:=hptr rfl
  obtain rfl:=bh hy;obtain ⟨b,o,rfl,_⟩:=hx.pp.imm_at (μ:=μ)
  exact ⟨by simp,by simp,aN (cE hu (some _) none (.inr rfl)) rfl rfl⟩
 ·obtain rfl:=Option.some.inj hl
  obtain ⟨e,hu⟩:=hptr rfl
  obtain rfl:=bh hy;obtain ⟨b,o,s,_,rfl⟩:=dh hx
  exact ⟨by simp,by simp,aN (cE hu (some _) none (.inr rfl)) rfl rfl⟩
 ·obtain rfl:=Option.some.inj hl
  obtain ⟨e,hu⟩:=hsl rfl
  obtain rfl:=bh hx;obtain rfl:=bh hy
  exact ⟨by simp,by simp,aN (bV hu none none _ _ _ _ (.inl rfl)) rfl rfl⟩
 ·obtain rfl:=Option.some.inj hl
  obtain ⟨e,hu⟩:=hsl rfl
  obtain rfl:=bh hx;obtain ⟨a,cap,rfl,_⟩:=hy.pp.sl_at (μ:=μ)
  exact ⟨by simp,by simp,aN (bV hu none (some _) _ _ _ _ (.inl rfl)) rfl rfl⟩
 ·obtain rfl:=Option.some.inj hl
  obtain ⟨e,hu⟩:=hsl rfl
  obtain rfl:=bh hx;obtain ⟨b,o,s,o',cap,_,rfl,_⟩:=bF hy
  exact ⟨by simp,by simp,aN (bV hu none (some _) _ _ _ _ (.inl rfl)) rfl rfl⟩
 ·obtain rfl:=Option.some.inj hl
  obtain ⟨e,hu⟩:=hsl rfl
  obtain rfl:=bh hy;obtain ⟨a,cap,rfl,_⟩:=hx.pp.sl_at (μ:=μ)
  exact ⟨by simp,by simp,aN (bV hu (some _) none _ _ _ _ (.inr rfl)) rfl rfl⟩
 ·obtain rfl:=Option.some.inj hl
  obtain ⟨e,hu⟩:=hsl rfl
  obtain rfl:=bh hy;obtain ⟨b,o,s,o',cap,_,rfl,_⟩:=bF hx
  exact ⟨by simp,by simp,aN (bV hu (some _) none _ _ _ _ (.inr rfl)) rfl rfl⟩
 ·obtain rfl:=Option.some.inj hl
  obtain ⟨a1,a2,a3,hu⟩:=hfn rfl
  obtain rfl:=bh hx;obtain rfl:=bh hy
  exact ⟨by simp,by simp,aN (ea hu).1 rfl rfl⟩
 ·obtain rfl:=Option.some.inj hl
  obtain ⟨a1,a2,a3,hu⟩:=hfn rfl
  obtain rfl:=bh hy;obtain ⟨fa,ca,rfl,_⟩:=tc hx
  exact ⟨by simp,by simp,aN ((ea hu).2.2 _ _ _) rfl rfl⟩
 ·obtain rfl:=Option.some.inj hl
  obtain ⟨a1,a2,a3,hu⟩:=hfn rfl
  obtain rfl:=bh hx;obtain ⟨fa,ca,rfl,_⟩:=tc hy
  exact ⟨by simp,by simp,aN ((ea hu).2.1 _ _ _) rfl rfl⟩
 ·unfold eqKind at hk;split at hk<;>cases hk
 ·cases hl
theorem zt (hH:HR I μ w T (look c.H c.nx h)) (ho:Opds c env a I μ w) {k:EK} {t t':TypeId} (hk:eqKind P t=some k) {x y:Operand} {neg:Bool} (hr:evOp c dr env h (.eq neg k (copd x) (copd y))=some r):
  DoesOp P c h a w I μ r T ⟨dst,.binOp (if neg then .neq else .eql) t x y t',ty,pos,after,guard⟩:=by
 simp only [evOp] at hr
 split at hr
 case h_2=>cases hr
 rename_i b hl
 obtain rfl:=Option.some.inj hr
 obtain ⟨h1,h2,h3,h4⟩:=xA hl hk (ho x) (ho y)
 refine aj hH ah (v:=.bool (if neg then !b else b)) ?_ (.p (.s _))
 cases neg
 ·simp [execOp,dU h1 h2,h3]
 ·simp [execOp,dU h1 h2,h4]
theorem kJ {t:TypeId} {ms} (hu:P.underlying t=some (.interface ms)):(Op.equalIn 10000 t .nilIface .nilIface).run P w = .ok true w:=by
 rw [show (10000:Nat)=9999+1 from rfl,Op.equalIn]
 simp [run_underlying hu]
theorem vR (hH:HR I μ w T (look c.H c.nx h)) (ho:Opds c env a I μ w) {t t':TypeId} {x y:Operand} (hk:nilI P t y=true) {neg:Bool} (hr:evOp c dr env h (.eq neg .iface (copd x) (copd y))=some r):
  DoesOp P c h a w I μ r T ⟨dst,.binOp (if neg then .neq else .eql) t x y t',ty,pos,after,guard⟩:=by
 unfold nilI at hk
 split at hk
 case h_2=>cases hk
 rename_i ms hu
 simp only [evOp] at hr
 split at hr
 case h_2=>cases hr
 rename_i b hl
 obtain rfl:=Option.some.inj hr
 have hx:=ho x
 unfold eqL at hl
 split at hl
 all_goals first|(exact absurd ‹EK.iface=_› (by decide))|skip
 ·rename_i e1 e2
  obtain rfl:=Option.some.inj hl
  rw [e1] at hx
  have hx':=bh hx
  obtain ⟨h3,h4⟩:=aN (kJ (w:=w) hu) rfl rfl
  refine aj hH ah (v:=.bool (if neg then !true else true)) ?_ (.p (.s _))
  have hy:a.eval (.const .nilIface) = .nilIface:=rfl
  cases neg
  ·simp [execOp,hx',hy,eqGuard,h3]
  ·simp [execOp,hx',hy,eqGuard,h4]
 ·cases hl
theorem Bf (hH:HR I μ w T (look c.H c.nx h)) (ho:Opds c env a I μ w) {u:UnOp} {t:TypeId} {x:Operand} (hr:evOp c dr env h (.un u (copd x))=some r):
  DoesOp P c h a w I μ r T ⟨dst,.unOp u t x,ty,pos,after,guard⟩:=by
 have hx:=ho x
 simp only [evOp] at hr
 split at hr
 case h_2=>cases hr
 rename_i lv hl
 obtain rfl:=Option.some.inj hr
 unfold unL at hl
 split at hl
 ·rename_i k n e1
  obtain rfl:=Option.some.inj hl
  rw [e1] at hx
  exact aj hH ah (v:=.int k (k.wrap (0-n))) (by simp [execOp,bh hx,Op.unary,Op.intArith]) (.p (.s _))
 ·rename_i k n e1
  obtain rfl:=Option.some.inj hl
  rw [e1] at hx
  refine aj hH ah (v:=_) ?_ (.p (.s _))
  simp only [execOp,bh hx,Op.unary,Op.intBits]
  rfl
 ·rename_i b e1
  obtain rfl:=Option.some.inj hl
  rw [e1] at hx
  exact aj hH ah (v:=.bool (!b)) (by simp [execOp,bh hx,Op.unary]) (.p (.s _))
 ·cases hl
theorem mY (hH:HR I μ w T (look c.H c.nx h)) (ho:Opds c env a I μ w) {t:TypeId} {f:Nat} {x:Operand} (hr:evOp c dr env h (cop P imT (.fieldAddr t x f))=some r):
  DoesOp P c h a w I μ r T ⟨dst,.fieldAddr t x f,ty,pos,after,guard⟩:=by
 have hx:=ho x
 simp only [cop] at hr
 split at hr
 case h_2=>simp [evOp] at hr
 rename_i fs hu
 split at hr
 case h_2=>simp [evOp] at hr
 rename_i fd hf
 split at hr
 case h_2=>simp [evOp] at hr
 rename_i s hs
 split at hr
 case isTrue=>simp [evOp] at hr
 rename_i hs0
 have hrun : ∀ {b o:Nat},a.eval x = .pointer (some ⟨b,o,none⟩)→(execOp a.eval ⟨dst,.fieldAddr t x f,ty,pos,after,guard⟩).run P w = .ok (.value (.pointer (some ⟨b,o+fd.offset,none⟩))) w:=fun he=>by
  simp [execOp,Instr.fieldAt,run_underlying hu,hf,he,Instr.sureAddr,fieldPlace,cA hs,hs0,bX]
 simp only [evOp] at hr
 split at hr
 ·rename_i cs o hv
  obtain rfl:=Option.some.inj hr
  rw [hv] at hx
  obtain ⟨b,o',he,hb,hat⟩:=hx.pp.imm_at (μ:=μ)
  refine aj hH ah (hrun he) (.p ?_)
  rw [Nat.add_assoc]
  exact kf hb hat _
 ·rename_i id o hv
  obtain rfl:=Option.some.inj hr
  rw [hv] at hx
  obtain ⟨b,o',s',hm,he⟩:=dh hx
  refine aj hH ah (hrun he) ?_
  rw [Nat.add_assoc]
  exact .ref _ _ _ _ _ hm
 ·cases hr
theorem vS (hH:HR I μ w T (look c.H c.nx h)) (ho:Opds c env a I μ w) {t:TypeId} {f:Nat} {x:Operand} (hr:evOp c dr env h (cop P imT (.field t x f))=some r):
  DoesOp P c h a w I μ r T ⟨dst,.field t x f,ty,pos,after,guard⟩:=by
 have hx:=ho x
 simp only [cop] at hr
 split at hr
 case h_2=>simp [evOp] at hr
 rename_i fs hu
 split at hr
 case h_2=>simp [evOp] at hr
 rename_i fd hf
 split at hr
 case h_2=>simp [evOp] at hr
 rename_i s g hs hg
 simp only [evOp] at hr
 have key : ∀ {cs:List LV} {ar:Array Value} {v:LV},a.eval x = .agg ar→ar.size=cs.length→(∀ u∈ar.toList,u.oneCell'=true)→(∀ (j:Nat) (l:LV) (u:Value),cs[j]?=some l→ar[j]?=some u→VR I μ w l u)→rd cs fd.offset s g=some v →
   ∃ u,(execOp a.eval ⟨dst,.field t x f,ty,pos,after,guard⟩).run P w = .ok (.value u) w∧VR I μ w v u:=fun he hl h1 hc hv=>by
  obtain ⟨u,g1,g2⟩:=sy (P:=P) hl h1 hc hv hs hg
  exact ⟨u,by simp [execOp,Instr.field,run_underlying hu,hf,he,asAgg,g1],g2⟩
 split at hr
 ·rename_i cs hv
  rw [hv] at hx
  obtain ⟨ar,he,hl,h1,hc⟩:=td hx
  split at hr
  ·rename_i v hrd
   obtain rfl:=Option.some.inj hr
   obtain ⟨u,g1,g2⟩:=key he hl h1 hc hrd
   exact aj hH ah g1 g2
  ·cases hr
 ·rename_i cs hv
  rw [hv] at hx
  obtain ⟨ar,he,hl,h1,hc⟩:=wU hx
  split at hr
  ·rename_i v hrd
   obtain rfl:=Option.some.inj hr
   obtain ⟨u,g1,g2⟩:=key he hl h1 hc hrd
   exact aj hH ah g1 g2
  ·cases hr
 ·cases hr
theorem bI {l:LV} {n:Nat} {v:Value} (h:natL l=some n) (hv:VR I μ w l v) : ∃ k,v = .int k (n:Int):=by
 unfold natL at h
 split at h
 ·rename_i k m
  split at h
  ·rename_i h0
   obtain rfl:=Option.some.inj h
   exact ⟨k,by rw [bh hv,Int.toNat_of_nonneg h0]⟩
  ·cases h
 ·cases h
theorem mZ (hH:HR I μ w T (look c.H c.nx h)) (ho:Opds c env a I μ w) {t:TypeId} {x i:Operand} (hr:evOp c dr env h (cop P imT (.indexAddr t x i))=some r):
  DoesOp P c h a w I μ r T ⟨dst,.indexAddr t x i,ty,pos,after,guard⟩:=by
 have hx:=ho x
 have hi:=ho i
 simp only [cop] at hr
 split at hr
 case h_3=>simp [evOp] at hr
 ·rename_i e hu
  split at hr
  case h_2=>simp [evOp] at hr
  rename_i s hs
  simp only [evOp] at hr
  split at hr
  ·rename_i cs len sz' full n hv hn
   split at hr
   case isFalse=>cases hr
   rename_i hc
   obtain rfl:=Option.some.inj hr
   rw [hv] at hx
   obtain ⟨k,hi'⟩:=bI hn hi
   obtain ⟨a0,cap,he,⟨_,h0⟩|⟨b,o,rfl,hb,hat⟩,hlen,_⟩:=hx.pp.sl_at (μ:=μ)
   ·exact absurd hc.1 (by omega)
   refine aj hH ah (v:=.pointer (some ⟨b,o+n*s,none⟩)) ?_ (.p (kf hb hat _))
   have h0:n<len:=hc.1
   simp [execOp,Instr.indexAt,hi',he,asIntOf,run_underlying hu,h0,cA hs,bX]
  ·rename_i id off len sz' cp ex n hv hn
   split at hr
   case isFalse=>cases hr
   rename_i hc
   obtain rfl:=Option.some.inj hr
   rw [hv] at hx
   obtain ⟨k,hi'⟩:=bI hn hi
   obtain ⟨b,o,s',o',cap,hm,he,hoo,hlen,_⟩:=bF hx
   obtain rfl:o'=o+off:=hoo.resolve_left (by omega)
   refine aj hH ah (v:=.pointer (some ⟨b,o+(off+n*s),none⟩)) ?_ (.ref _ _ _ _ _ hm)
   have h0:n<len:=hc.1
   simp [execOp,Instr.indexAt,hi',he,asIntOf,run_underlying hu,h0,cA hs,bX,Nat.add_assoc]
  ·cases hr
 ·rename_i m e hu
  split at hr
  case h_2=>simp [evOp] at hr
  rename_i s hs
  simp only [evOp] at hr
  split at hr
  ·rename_i cs off n hv hn
   split at hr
   case isFalse=>cases hr
   rename_i hc
   obtain rfl:=Option.some.inj hr
   rw [hv] at hx
   obtain ⟨k,hi'⟩:=bI hn hi
   obtain ⟨b,o,he,hb,hat⟩:=hx.pp.imm_at (μ:=μ)
   refine aj hH ah (v:=.pointer (some ⟨b,o+(off+n*s),none⟩)) ?_ (.p (kf hb hat _))
   have h0:n<m:=hc
   simp [execOp,Instr.indexAt,hi',he,asIntOf,run_underlying hu,h0,cA hs,bX,Instr.sureAddr,Nat.add_assoc]
  ·rename_i id off n hv hn
   split at hr
   case isFalse=>cases hr
   rename_i hc
   obtain rfl:=Option.some.inj hr
   rw [hv] at hx
   obtain ⟨k,hi'⟩:=bI hn hi
   obtain ⟨b,o,s',hm,he⟩:=dh hx
   refine aj hH ah (v:=.pointer (some ⟨b,o+(off+n*s),none⟩)) ?_ (.ref _ _ _ _ _ hm)
   have h0:n<m:=hc
   simp [execOp,Instr.indexAt,hi',he,asIntOf,run_underlying hu,h0,cA hs,bX,Instr.sureAddr,Nat.add_assoc]
  ·cases hr
theorem vT (hH:HR I μ w T (look c.H c.nx h)) (ho:Opds c env a I μ w) {t:TypeId} {x i:Operand} (hr:evOp c dr env h (cop P imT (.index t x i))=some r):
  DoesOp P c h a w I μ r T ⟨dst,.index t x i,ty,pos,after,guard⟩:=by
 have hx:=ho x
 have hi:=ho i
 simp only [cop] at hr
 split at hr
 case h_3=>simp [evOp] at hr
 ·rename_i hu
  simp only [evOp] at hr
  split at hr
  case h_2=>cases hr
  rename_i b n hv hn
  split at hr
  case h_2=>cases hr
  rename_i u hbu
  obtain rfl:=Option.some.inj hr
  rw [hv] at hx
  obtain ⟨k,hi'⟩:=bI hn hi
  have hlt:n<b.data.size:=(Array.getElem?_eq_some_iff.1 hbu).1
  have hget:b[n]?=some u:=by
   have:n<b.size:=hlt
   rw [getElem?_pos b n this]
   have h2:=(Array.getElem?_eq_some_iff.1 hbu).2
   rw [←h2];rfl
  refine aj hH ah (v:=.int .u8 u.toNat) ?_ (.p (.s _))
  simp [execOp,Instr.index,hi',bh hx,asIntOf,run_underlying hu,hget]
 ·rename_i m e hu
  split at hr
  case h_2=>simp [evOp] at hr
  rename_i s g hs hg
  simp only [evOp] at hr
  split at hr
  case h_2=>cases hr
  rename_i cs n hv hn
  split at hr
  case isFalse=>cases hr
  rename_i hlt
  split at hr
  case h_2=>cases hr
  rename_i v hrd
  obtain rfl:=Option.some.inj hr
  rw [hv] at hx
  obtain ⟨k,hi'⟩:=bI hn hi
  obtain ⟨ar,he,hl,h1,hc⟩:=td hx
  obtain ⟨u,g1,g2⟩:=sy (P:=P) hl h1 hc hrd hs hg
  have h0:n<m:=hlt
  exact aj hH ah (v:=u) (by simp [execOp,Instr.index,hi',he,asIntOf,run_underlying hu,h0,cA hs,g1]) g2
theorem pV (hH:HR I μ w T (look c.H c.nx h)) (ho:Opds c env a I μ w) {x:Operand} {i:Nat} (hr:evOp c dr env h (.ext (copd x) i)=some r):
  DoesOp P c h a w I μ r T ⟨dst,.extract x i,ty,pos,after,guard⟩:=by
 have hx:=ho x
 simp only [evOp] at hr
 split at hr
 case h_2=>cases hr
 rename_i vs hv
 split at hr
 case h_2=>cases hr
 rename_i v hvi
 obtain rfl:=Option.some.inj hr
 rw [hv] at hx
 obtain ⟨ar,he,hl,hc⟩:=kF hx
 have hlt:i<ar.size:=by rw [hl];exact (List.getElem?_eq_some_iff.1 hvi).1
 have hu:ar[i]?=some ar[i]:=by simp [hlt]
 exact aj hH ah (v:=ar[i]) (by simp [execOp,he,Instr.extract,hu]) (hc i v _ hvi hu)
theorem eZ (ho:Opds c env a I μ w) (xs:Array Operand):(xs.map a.eval).size=(xs.toList.map (fun x=>opd c env (copd x))).length ∧
  ∀ (j:Nat) (l:LV) (u:Value),(xs.toList.map (fun x=>opd c env (copd x)))[j]?=some l→(xs.map a.eval)[j]?=some u→VR I μ w l u:=by
 refine ⟨by simp,fun j l u hl hu => ?_⟩
 rw [List.getElem?_map,Option.map_eq_some_iff] at hl
 obtain ⟨x,hx,rfl⟩:=hl
 rw [Array.getElem?_map,Option.map_eq_some_iff] at hu
 obtain ⟨y,hy,rfl⟩:=hu
 rw [Array.getElem?_toList] at hx
 obtain rfl:x=y:=Option.some.inj (hx.symm.trans hy)
 exact ho x
theorem oS (hH:HR I μ w T (look c.H c.nx h)) (ho:Opds c env a I μ w) {f:FuncId} {fs cs:Array Operand} (hr:evOp c dr env h (.mkFn f (fs.toList.map copd) (cs.toList.map copd))=some r):
  DoesOp P c h a w I μ r T ⟨dst,.makeFunc (.func f) fs cs,ty,pos,after,guard⟩:=by
 simp only [evOp,Option.some.injEq] at hr
 subst hr
 obtain ⟨h1,h2⟩:=eZ ho fs
 obtain ⟨h3,h4⟩:=eZ ho cs
 refine aj hH ah (v:=.func (.func f) (fs.map a.eval) (cs.map a.eval)) (by simp [execOp,Instr.makeFunc]) ?_
 simp only [List.map_map]
 exact .fn f _ _ _ _ h1 h3 h2 h4
end ops
end Go.Sx
end

section
namespace Go.Sx
open Go
section ops
variable {P:Program} {imT:TypeId→Bool} {c:Ctx} {dr:Bool} {env:Env} {h:Hp} {a:Act} {w:World} {I:Nat→Prop} {μ:Mu} {r:Res} {T:Nat→Prop}
variable {dst:Option Tmp} {ty:TypeId} {pos:String} {after:Array Edge} {guard:Option (Nat × Bool)}
theorem iz {b o:Nat} {vs:List Value} (h : ∀ (j:Nat) v,vs[j]?=some v→w.cell? ⟨b,o+j,none⟩=some v) {w':World} (hw:w'.heap=w.heap) {n:Nat} (hn:vs.length=n):
  (loadCells ⟨b,o,none⟩ n).run P w' = .ok vs.toArray w':=by
 subst hn
 refine run_loadCells_list (P:=P) w' ⟨b,o,none⟩ vs fun j v hv => ?_
 rw [bX,←h j v hv]
 simp [World.cell?,hw]
theorem mf {vs:List Value} {b o:Nat} (h : ∀ (j:Nat) v,vs[j]?=some v→w.cell? ⟨b,o+j,none⟩=some v) (n:Nat) : ∀ (j:Nat) v,(vs.take n)[j]?=some v→w.cell? ⟨b,o+j,none⟩=some v:=fun j v hv=>by
 rw [List.getElem?_take] at hv
 split at hv
 ·exact h j v hv
 ·cases hv
theorem fQ {lv:LV} {v:Value} {yc:List LV} {n sz:Nat} (hH:HR I μ w T (look c.H c.nx h)) (hs:slCells c.H c.nx h lv=some (yc,n)) (hT : ∀ id∈ids lv,T id) (hv:VR I μ w lv v) (hn:yc.length=n*sz):
  ∃ vals:List Value,vals.length=n*sz∧(∀ u∈vals,u.oneCell'=true)∧(∀ (j:Nat) l u,yc[j]?=some l→vals[j]?=some u→VR I μ w l u)∧(∀ w',(Builtin.lenOf v).run P w' = .ok n w') ∧
   ∀ w',w'.heap=w.heap→∀ m,m≤n→(Builtin.firstCells sz m v).run P w' = .ok (vals.take (m*sz)).toArray w':=by
 unfold slCells at hs
 split at hs
 ·simp only [Option.some.injEq,Prod.mk.injEq] at hs
  obtain ⟨rfl,rfl⟩:=hs
  obtain rfl:=bh hv
  refine ⟨[],by simp,by simp,by simp,fun w'=>by simp [Builtin.lenOf],fun w' _ m hm => ?_⟩
  simp [Builtin.firstCells]
 ·rename_i b
  simp only [Option.some.injEq,Prod.mk.injEq] at hs
  obtain ⟨rfl,rfl⟩:=hs
  obtain rfl:=bh hv
  refine ⟨b.data.toList.map (fun x=>.int .u8 x.toNat),by simpa using hn,by simp [Value.oneCell'],fun j l u hl hu => ?_,fun w'=>by simp [Builtin.lenOf],fun w' _ m hm => ?_⟩
  ·rw [List.getElem?_map,Option.map_eq_some_iff] at hl hu
   obtain ⟨x,hx,rfl⟩:=hl
   obtain ⟨y,hy,rfl⟩:=hu
   obtain rfl:x=y:=Option.some.inj (hx.symm.trans hy)
   exact .p (.s _)
  ·have hm':m*sz=m:=by
    simp at hn
    rcases Nat.eq_zero_or_pos b.size with h0|h0
    ·have:m=0:=by omega
     rw [this,Nat.zero_mul]
    ·have hsz:b.data.size=b.size:=rfl
     have:sz=1:=Nat.eq_of_mul_eq_mul_left h0 (by omega)
     rw [this,Nat.mul_one]
   rw [hm']
   simp only [Builtin.firstCells]
   have e1:((b.extract 0 m).data.map fun b=>Value.int .u8 b.toNat)=((b.data.toList.map (fun x=>Value.int .u8 x.toNat)).take m).toArray:=by
    apply Array.ext'
    rw [Array.toList_map,←List.map_take]
    congr 1
    rw [ByteArray.data_extract,Array.toList_extract]
    simp
   rw [e1]
   rfl
 ·rename_i cs len sz' full
  simp only [Option.some.injEq,Prod.mk.injEq] at hs
  obtain ⟨rfl,rfl⟩:=hs
  obtain ⟨a0,cap,rfl,⟨rfl,rfl⟩|⟨b,o,rfl,_,hat⟩,_⟩:=hv.pp.sl_at (μ:=μ)
  ·refine ⟨[],by simpa using hn,by simp,by simp,fun w'=>by simp [Builtin.lenOf],fun w' hw m hm => ?_⟩
   obtain rfl:m=0:=by omega
   simp only [Builtin.firstCells,Nat.zero_mul]
   exact run_loadCells_list (P:=P) w' a0 [] (by simp)
  obtain ⟨vs,h1,h2,h3,h4⟩:=hat.vals
  refine ⟨vs,by rw [h1,hn],h2,h4,fun w'=>by simp [Builtin.lenOf],fun w' hw m hm => ?_⟩
  simp only [Builtin.firstCells]
  refine iz (mf h3 _) hw ?_
  rw [List.length_take,h1,hn]
  exact Nat.min_eq_left (Nat.mul_le_mul_right _ hm)
 ·rename_i id off len sz' cp ex
  split at hs
  case h_2=>cases hs
  rename_i cs hl
  split at hs
  case isFalse=>cases hs
  rename_i hle
  simp only [Option.some.injEq,Prod.mk.injEq] at hs
  obtain ⟨rfl,rfl⟩:=hs
  obtain ⟨b,o,s,e,hm,_,_,_,hat⟩:=hH.obj id _ (hT id (by simp [ids])) hl
  obtain ⟨b',o',s',o2,cap,hm',rfl,hoo,hlen,_⟩:=bF hv
  rw [hm] at hm'
  obtain ⟨rfl,rfl,rfl⟩:b=b'∧o=o'∧s=s':=by simpa using hm'
  obtain ⟨vs,h1,h2,h3,h4⟩:=((At.drop (I:=I) (μ:=μ) (w:=w) (b:=b) (o:=o) (cs:=cs) hat off).take (len*sz')).vals
  have hvl:vs.length=len*sz:=by rw [h1,hn]
  refine ⟨vs,hvl,h2,h4,fun w'=>by simp [Builtin.lenOf],fun w' hw m hm2 => ?_⟩
  simp only [Builtin.firstCells]
  rcases hoo with h0|h0
  ·obtain rfl:m=0:=by omega
   simp [loadCells,loadCellsFrom]
  ·subst h0
   refine iz (mf h3 _) hw ?_
   rw [List.length_take,hvl]
   exact Nat.min_eq_left (Nat.mul_le_mul_right _ hm2)
 ·cases hs
theorem gK (z:Array Value) (n:Nat):(Builtin.zeroCells z n).size=n*z.size:=by simp [Builtin.zeroCells]
theorem uC {t u e:TypeId} {i:TypeInfo} {z:Value} {sz bytes:Nat} (ht:P.underlying t=some (.slice e)) (hu:P.underlying u=some .string∨∃ e',P.underlying u=some (.slice e')) (hi:P.info? e=some i) (hz:i.zero=some z)
  (hsz:i.size=sz) (hby:i.bytes=bytes) {base:Option Addr} {sLen sCap n:Nat} {y:Value} {olds vals:List Value} (hlo : ∀ w',w'.heap=w.heap→(Builtin.firstCells sz sLen (.slice base sLen sCap)).run P w' = .ok olds.toArray w')
  (hle : ∀ w',(Builtin.lenOf y).run P w' = .ok n w') (hv : ∀ w',w'.heap=w.heap→(Builtin.firstCells sz n y).run P w' = .ok vals.toArray w') (hg:sCap<sLen+n) (hb:(sLen+n)*bytes≤2^40) (h63:sLen+n<2^62):
  ∃ cap',sLen+n≤cap'∧(Builtin.append_ #[t,u] ty #[.slice base sLen sCap,y]).run P w=
   .ok (.slice (some ⟨w.heap.size,0,none⟩) (sLen+n) cap') (w.drew.alloc (.cells (olds.toArray++vals.toArray++Builtin.zeroCells z.cells (cap'-(sLen+n))) e)):=by
 subst hsz hby
 refine ⟨grownCap w (sLen+n) sCap e,?_,?_⟩
 ·unfold grownCap Question.cut
  exact Nat.le_add_right _ _
 have hn : ¬(sLen+n≤sCap):=by omega
 have h63' : ¬(9223372036854775807<((sLen:Int)+(n:Int))):=by omega
 have hfit:=growslice_fits (need:=sLen+n) (old:=sCap) (bytes:=i.bytes) hg (by omega)
 have h48' : ¬(281474976710656<Builtin.nextslicecap (sLen+n) sCap*i.bytes):=by omega
 have h1:=hv w.drew rfl
 have h2:=hlo w.drew rfl
 have h3:=hle w
 rcases hu with hu|⟨e',hu⟩ <;>
  (simp [Builtin.append_,run_underlying ht,run_underlying hu,sizeOf,typeInfo,zeroValue,hi,hz,h3,hn,h63',h48',Question.forced,h1,h2,newRow,grownCap]
   congr 2
   apply Array.ext'
   simp)
theorem tq {t u e:TypeId} {i:TypeInfo} {z:Value} {k k2:IntKind} {sz bytes:Nat} (ht:P.underlying t=some (.slice e)) (hu:P.underlying u=some (.int k)) (hi:P.info? e=some i) (hz:i.zero=some z)
  (hsz:i.size=sz) (hby:i.bytes=bytes) {base:Option Addr} {sLen sCap n:Nat} {olds:List Value} (hlo : ∀ w',w'.heap=w.heap→(Builtin.firstCells sz sLen (.slice base sLen sCap)).run P w' = .ok olds.toArray w')
  (hn0:n*sz≠0) (hg:sCap<sLen+n) (hb:(sLen+n)*bytes≤2^40) (h63:sLen+n<2^62):
  ∃ cap',sLen+n≤cap'∧(Builtin.append_ #[t,u] ty #[.slice base sLen sCap,.int k2 (n:Int)]).run P w=
   .ok (.slice (some ⟨w.heap.size,0,none⟩) (sLen+n) cap') (w.drew.alloc (.cells (olds.toArray++Builtin.zeroCells z.cells n++Builtin.zeroCells z.cells (cap'-(sLen+n))) e)):=by
 subst hsz hby
 refine ⟨grownCap w (sLen+n) sCap e,?_,?_⟩
 ·unfold grownCap Question.cut
  exact Nat.le_add_right _ _
 have hn : ¬(sLen+n≤sCap):=by omega
 have h63' : ¬(9223372036854775807<((sLen:Int)+(n:Int))):=by omega
 have hfit:=growslice_fits (need:=sLen+n) (old:=sCap) (bytes:=i.bytes) hg (by omega)
 have h48' : ¬(281474976710656<Builtin.nextslicecap (sLen+n) sCap*i.bytes):=by omega
 have h2:=hlo w.drew rfl
 have hw:IntKind.i64.wrap (n:Int)=n:=by rw [IntKind.wrap_i64];omega
 have hl0 : ¬((n:Int)<0):=by omega
 have hnb:n*i.bytes≤(sLen+n)*i.bytes:=Nat.mul_le_mul_right _ (by omega)
 have hl1 : ¬(281474976710656<(n:Int)*(i.bytes:Int)):=by
  have:((n*i.bytes:Nat):Int)≤1099511627776:=by omega
  rw [Int.natCast_mul] at this;omega
 have hn1 : ¬(n=0∨i.size=0):=fun h=>hn0 (by rcases h with h|h<;>simp [h])
 simp [Builtin.append_,run_underlying ht,run_underlying hu,sizeOf,typeInfo,zeroValue,asInt,asIntOf,hi,hz,hw,hl0,hl1,hn,hn1,h63',h48',Question.forced,h2,newRow,grownCap]
 exact fun h=>absurd h hn0
theorem qH {t u e:TypeId} {i:TypeInfo} {sz:Nat} (ht:P.underlying t=some (.slice e)) (hu:P.underlying u=some .string∨∃ e',P.underlying u=some (.slice e')) (hi:P.info? e=some i)
  (hsz:i.size=sz) {b o:Nat} {sLen sCap n:Nat} {y:Value} {vals:List Value}
  (hle : ∀ w',(Builtin.lenOf y).run P w' = .ok n w') (hv : ∀ w',w'.heap=w.heap→(Builtin.firstCells sz n y).run P w' = .ok vals.toArray w') (hg:sLen+n≤sCap)
  (hc : ∀ j,j<vals.length→(w.cell? ⟨b,o+sLen*sz+j,none⟩).isSome=true) (hf : ∀ j,j<vals.length→w.frozen? ⟨b,o+sLen*sz+j,none⟩=false) (h1 : ∀ v∈vals,v.oneCell'=true):
  (Builtin.append_ #[t,u] ty #[.slice (some ⟨b,o,none⟩) sLen sCap,y]).run P w = .ok (.slice (some ⟨b,o,none⟩) (sLen+n) sCap) (w.setCells b (o+sLen*sz) vals):=by
 subst hsz
 have hst:=run_storeCells_cells (P:=P) b (o+sLen*i.size) vals 0 w (by simpa using hc) (by simpa using hf) h1
 have h4:=hv w rfl
 have h3:=hle w
 simp only [Nat.add_zero] at hst
 rcases hu with hu|⟨e',hu⟩ <;>
  simp [Builtin.append_,run_underlying ht,run_underlying hu,sizeOf,typeInfo,hi,h3,hg,h4,bX,hst]
theorem uD {t u e:TypeId} {i:TypeInfo} {sz:Nat} (ht:P.underlying t=some (.slice e)) (hu:P.underlying u=some .string∨∃ e',P.underlying u=some (.slice e')) (hi:P.info? e=some i)
  (hsz:i.size=sz) {base:Option Addr} {sLen sCap:Nat} {y:Value} (hle : ∀ w',(Builtin.lenOf y).run P w' = .ok 0 w') (hv : ∀ w',w'.heap=w.heap→(Builtin.firstCells sz 0 y).run P w' = .ok #[] w') (hg:sLen≤sCap):
  (Builtin.append_ #[t,u] ty #[.slice base sLen sCap,y]).run P w = .ok (.slice base sLen sCap) w:=by
 subst hsz
 have h4:=hv w rfl
 have h3:=hle w
 rcases hu with hu|⟨e',hu⟩<;>cases base <;>
  simp [Builtin.append_,run_underlying ht,run_underlying hu,sizeOf,typeInfo,hi,h3,hg,h4,storeCells]
theorem dg {e:TypeId} {s:Nat} (h:tsz P e=some s) : ∃ i,P.info? e=some i∧i.size=s:=by
 unfold tsz at h
 cases hi:P.info? e with
 | none=>rw [hi] at h;cases h
 | some i=>rw [hi] at h;exact ⟨i,rfl,by simpa using h⟩
theorem kD {e:TypeId} {s:Nat} {i:TypeInfo} (hi:P.info? e=some i) (h:tby P e=some s):i.bytes=s:=by
 unfold tby at h
 rw [hi] at h
 simpa using h
theorem fj {H:Heap} {nx:Nat} {h:Hp} (hH:HR I μ w T (look H nx h)) (id:Nat) (hT:T id) {cs:List LV} (hl:look H nx h id=some (.cells cs)) {b o s:Nat} (hm:μ id=some (b,o,s)) {p:Nat} {ys:List LV} {vs:List Value}
  (hvl:vs.length=ys.length) (h1 : ∀ v∈vs,v.oneCell'=true) (hc : ∀ (j:Nat) l v,ys[j]?=some l→vs[j]?=some v→VR I μ w l v) (hp:p+ys.length≤cs.length):
  Goes I I μ μ w (w.setCells b (o+p) vs) (look H nx h) (look H nx (setObj nx h id (some (.cells (splice cs p ys))))) (fun j=>j=id) (fun _=>False):=by
 obtain ⟨b',o',s',e,hm',hsh,hcs,hfz,hat⟩:=hH.obj id _ hT hl
 rw [hm] at hm'
 obtain ⟨rfl,rfl,rfl⟩:b=b'∧o=o'∧s=s':=by simpa using hm'
 refine Goes.write hH id hT cs (splice cs p ys) hl hm p vs h1 (by omega) (by simp [splice];omega) (fun j l hj => ?_) (fun j hj=>by rw [bn (a7 hl),if_neg hj]) (by rw [bn (a7 hl),if_pos rfl])
 unfold splice at hj
 by_cases h2:p≤j∧j<p+vs.length
 ·left
  rw [List.append_assoc,List.getElem?_append_right (by simp;omega),List.getElem?_append_left (by simp;omega),show j-(cs.take p).length=j-p by simp;omega] at hj
  exact ⟨h2.1,h2.2,_,List.getElem?_eq_getElem (by omega),hc _ l _ hj (List.getElem?_eq_getElem (by omega))⟩
 ·right
  refine ⟨h2,?_⟩
  by_cases h4:j<p
  ·rw [List.append_assoc,List.getElem?_append_left (by simp;omega),List.getElem?_take,if_pos h4] at hj
   exact hj
  ·rw [List.getElem?_append_right (by simp;omega),List.getElem?_drop] at hj
   rw [←hj];congr 1;simp;omega
theorem wN {lv:LV} {v:Value} {yc:List LV} {n m sz:Nat} (hH:HR I μ w T (look c.H c.nx h)) (hs:slPart c.H c.nx h m sz lv=some (yc,n)) (hT : ∀ id∈ids lv,T id) (hv:VR I μ w lv v):
  ∃ vals:List Value,vals.length=yc.length∧yc.length=min n m*sz∧(∀ u∈vals,u.oneCell'=true)∧(∀ (j:Nat) l u,yc[j]?=some l→vals[j]?=some u→VR I μ w l u)∧(∀ w',(Builtin.lenOf v).run P w' = .ok n w') ∧
   ∀ w',w'.heap=w.heap→(Builtin.firstCells sz (min n m) v).run P w' = .ok vals.toArray w':=by
 have old : ∀ {zc:List LV},slCells c.H c.nx h lv=some (zc,n)→zc.length=n*sz→yc=zc.take (min n m*sz) →
   ∃ vals:List Value,vals.length=yc.length∧yc.length=min n m*sz∧(∀ u∈vals,u.oneCell'=true)∧(∀ (j:Nat) l u,yc[j]?=some l→vals[j]?=some u→VR I μ w l u)∧(∀ w',(Builtin.lenOf v).run P w' = .ok n w') ∧
   ∀ w',w'.heap=w.heap→(Builtin.firstCells sz (min n m) v).run P w' = .ok vals.toArray w':=by
  intro zc hz hl hy
  subst hy
  obtain ⟨vals,g1,g2,g3,g4,g5⟩:=fQ (P:=P) hH hz hT hv hl
  have hm:min n m*sz≤n*sz:=Nat.mul_le_mul_right _ (Nat.min_le_left _ _)
  have e:(zc.take (min n m*sz)).length=min n m*sz:=by rw [List.length_take,hl];exact Nat.min_eq_left hm
  refine ⟨vals.take (min n m*sz),by rw [e,List.length_take,g1];exact Nat.min_eq_left hm,e,fun u hu=>g2 u (List.mem_of_mem_take hu),fun j l u hj hu => ?_,g4,fun w' hw=>g5 w' hw _ (Nat.min_le_left _ _)⟩
  rw [List.getElem?_take] at hj hu
  split at hj
  ·rename_i hlt;rw [if_pos hlt] at hu;exact g3 j l u hj hu
  ·cases hj
 unfold slPart at hs
 split at hs
 ·rename_i id off len sz' cp ex
  split at hs
  case h_2=>cases hs
  rename_i cs hl
  split at hs
  case isFalse=>cases hs
  rename_i hle
  obtain ⟨rfl,hle⟩:=hle
  simp only [Option.some.injEq,Prod.mk.injEq] at hs
  obtain ⟨rfl,rfl⟩:=hs
  obtain ⟨b,o,s,e,hm,_,_,_,hat⟩:=hH.obj id _ (hT id (by simp [ids])) hl
  obtain ⟨b',o',s',o2,cap,hm',rfl,hoo,hlen,_⟩:=bF hv
  rw [hm] at hm'
  obtain ⟨rfl,rfl,rfl⟩:b=b'∧o=o'∧s=s':=by simpa using hm'
  obtain ⟨vs,h1,h2,h3,h4⟩:=((At.drop (I:=I) (μ:=μ) (w:=w) (b:=b) (o:=o) (cs:=cs) hat off).take (min len m*sz')).vals
  have e1:((cs.drop off).take (min len m*sz')).length=min len m*sz':=by rw [List.length_take,List.length_drop];exact Nat.min_eq_left (by omega)
  refine ⟨vs,h1,e1,h2,h4,fun w'=>by simp [Builtin.lenOf],fun w' hw => ?_⟩
  simp only [Builtin.firstCells]
  rcases hoo with h0|h0
  ·have h0:min len m=0:=by omega
   rw [h0] at h1 ⊢
   have:vs=[]:=List.eq_nil_of_length_eq_zero (by rw [h1];simp)
   subst this
   simp [loadCells,loadCellsFrom]
  ·subst h0
   refine iz h3 hw ?_
   rw [h1,e1]
 ·split at hs
  case h_2=>cases hs
  rename_i zc n' hz
  split at hs
  case isFalse=>cases hs
  rename_i hl
  simp only [Option.some.injEq,Prod.mk.injEq] at hs
  obtain ⟨rfl,rfl⟩:=hs
  exact old hz hl rfl
theorem nq {H:Heap} {nx:Nat} {h:Hp} (hH:HR I μ w T (look H nx h)) (id:Nat) (hT:T id) {cs:List LV} (hl:look H nx h id=some (.cells cs)) {b o s:Nat} (hm:μ id=some (b,o,s)) {p:Nat} {ys:List LV} {vs:List Value}
  (hvl:vs.length=ys.length) (h1 : ∀ v∈vs,v.oneCell'=true) (hc : ∀ (j:Nat) l v,ys[j]?=some l→vs[j]?=some v→VR I μ w l v) (hp:p≤cs.length) (hs:o+p+ys.length≤s):
  Goes I I μ μ w (w.setCells b (o+p) vs) (look H nx h) (look H nx (setObj nx h id (some (.cells (splice cs p ys))))) (fun j=>j=id) (fun _=>False):=by
 obtain ⟨b',o',s',e,hm',hsh,hcs,hfz,hat⟩:=hH.obj id _ hT hl
 rw [hm] at hm'
 obtain ⟨rfl,rfl,rfl⟩:b=b'∧o=o'∧s=s':=by simpa using hm'
 refine Goes.write hH id hT cs (splice cs p ys) hl hm p vs h1 (by omega) (by simp [splice];omega) (fun j l hj => ?_) (fun j hj=>by rw [bn (a7 hl),if_neg hj]) (by rw [bn (a7 hl),if_pos rfl])
 unfold splice at hj
 by_cases h2:p≤j∧j<p+vs.length
 ·left
  rw [List.append_assoc,List.getElem?_append_right (by simp;omega),List.getElem?_append_left (by simp;omega),show j-(cs.take p).length=j-p by simp;omega] at hj
  exact ⟨h2.1,h2.2,_,List.getElem?_eq_getElem (by omega),hc _ l _ hj (List.getElem?_eq_getElem (by omega))⟩
 ·right
  refine ⟨h2,?_⟩
  by_cases h4:j<p
  ·rw [List.append_assoc,List.getElem?_append_left (by simp;omega),List.getElem?_take,if_pos h4] at hj
   exact hj
  ·rw [List.getElem?_append_right (by simp;omega),List.getElem?_drop] at hj
   rw [←hj];congr 1;simp;omega
theorem ye (hH:HR I μ w T (look c.H c.nx h)) (ho:Opds c env a I μ w) (hμ : ∀ id,newN c h r.h id→μ id=none) (hT : ∀ id∈r.tch,T id) {e:TypeId} {x y:Operand} {t u:TypeId} {k:IntKind} {sz bytes:Nat} {z:List PV}
  (ht:P.underlying t=some (.slice e)) (hu:P.underlying u=some (.int k)) (hs:tsz P e=some sz) (hb:tby P e=some bytes) (hz:tzero P e=some z) (hb0:bytes≠0) (hzl:z.length=sz) (hs0:sz≠0)
  (hr:evOp c dr env h (.appZ sz bytes z (copd x) (copd y))=some r):
  DoesOp P c h a w I μ r T ⟨dst,.call { callee:=.builtin .append,args := #[x,y],argTypes := #[t,u] },ty,pos,after,guard⟩:=by
 obtain ⟨i,hi,hsz⟩:=dg hs
 have hby:=kD hi hb
 obtain ⟨i',zv,hi',hzv,hz1,hzz⟩:=bN hz
 have hzs:zv.cells.size=sz:=by rw [hzz] at hzl;simpa using hzl
 obtain rfl:i=i':=Option.some.inj (hi.symm.trans hi')
 have hx:=ho x
 have hexec : ∀ {v w'},(Builtin.append_ #[t,u] ty #[a.eval x,a.eval y]).run P w = .ok v w' →
   (execOp a.eval ⟨dst,.call { callee:=.builtin .append,args := #[x,y],argTypes := #[t,u] },ty,pos,after,guard⟩).run P w = .ok (.value v) w':=fun hh=>by
  simp [execOp,resolve,invoke,builtin,hh]
 simp only [evOp] at hr
 split at hr
 case h_2=>cases hr
 rename_i id off len s' cp n hv hk
 split at hr
 case h_2=>cases hr
 rename_i cs hl
 split at hr
 case isFalse=>cases hr
 rename_i hcond
 obtain ⟨rfl,hn,hg,hbb,hle⟩:=hcond
 obtain rfl:=Option.some.inj hr
 obtain ⟨k2,hy⟩:=bI hk (ho y)
 rw [hv] at hx
 obtain ⟨b,o,s,o2,cap,hm,he,hoo,hlc,hfull,hroom,hcp,hlcp⟩:=bF hx
 have hcapc:cap=cp:=by first|exact hfull rfl|exact hcp rfl
 have hTid:T id:=hT id (by simp)
 obtain ⟨b',o',s2,e',hm',hsh,hcs,hfz,hat⟩:=hH.obj id _ hTid hl
 rw [hm] at hm'
 obtain ⟨rfl,rfl,rfl⟩:b=b'∧o=o'∧s=s2:=by simpa using hm'
 obtain ⟨vs,f1,f2,f3,f4⟩:=((At.drop (I:=I) (μ:=μ) (w:=w) (b:=b) (o:=o) (cs:=cs) hat off).take (len*s')).vals
 have hvl:vs.length=len*s':=by rw [f1];simp;omega
 have hfirst : ∀ w',w'.heap=w.heap→(Builtin.firstCells s' len (.slice (some ⟨b,o2,none⟩) len cap)).run P w' = .ok vs.toArray w':=fun w' hw=>by
  simp only [Builtin.firstCells]
  rcases hoo with h0|h0
  ·obtain rfl:len=0:=by omega
   have:vs=[]:=List.eq_nil_of_length_eq_zero (by simpa using hvl)
   simp [loadCells,loadCellsFrom,this]
  ·subst h0
   exact iz f3 hw hvl
 have hlt62:len+n<2^62:=by
  have:(len+n)*1≤(len+n)*bytes:=Nat.mul_le_mul_left _ (by omega)
  omega
 obtain ⟨cap',hc1,hrun⟩:=tq (P:=P) (ty:=ty) (k2:=k2) ht hu hi hzv hsz hby hfirst (n:=n) (Nat.mul_ne_zero (by omega) hs0) (by omega) hbb hlt62
 rw [←he,←hy] at hrun
 have hmade:=jt (I:=I) (μ:=μ) (w:=w) hz1 n (n*zv.cells.size)
 rw [←hzz] at hmade
 have hzm:Builtin.zeroCells zv.cells n=madeCells zv.cells (n*zv.cells.size):=rfl
 obtain ⟨xc,hxc⟩ : ∃ xc,xc=(cs.drop off).take (len*s'):=⟨_,rfl⟩
 have hol:vs.length=xc.length:=by rw [f1,hxc]
 have hxl:xc.length=len*s':=by rw [←hol,hvl]
 obtain ⟨yc,hyc⟩ : ∃ yc:List LV,yc=(List.replicate n z).flatten.map LV.p:=⟨_,rfl⟩
 have hyl:yc.length=n*s':=by rw [hyc,List.length_map,vk,hzl]
 have hsize:(vs.toArray++Builtin.zeroCells zv.cells n++Builtin.zeroCells zv.cells (cap'-(len+n))).size=(len+n)*s'+(cap'-(len+n))*zv.cells.size:=by
  simp [gK,hvl,hzs,Nat.add_mul,Nat.add_assoc]
 have hge:(xc++yc).length=(len+n)*s':=by simp [hxl,hyl,Nat.add_mul]
 have hlow : ∀ (j:Nat) (l:LV) (u:Value),(xc++yc)[j]?=some l→(vs.toArray++Builtin.zeroCells zv.cells n++Builtin.zeroCells zv.cells (cap'-(len+n)))[j]?=some u→u.oneCell'=true∧VR I μ w l u:=by
  intro j l u hj hu
  have hjlt:j<(len+n)*s':=by rw [←hge];exact (List.getElem?_eq_some_iff.1 hj).1
  rw [Array.getElem?_append_left (by simp [gK,hvl,hzs];rw [←Nat.add_mul];exact hjlt)] at hu
  by_cases h5:j<xc.length
  ·rw [List.getElem?_append_left h5] at hj
   rw [Array.getElem?_append_left (by simp;omega)] at hu
   have hu':vs[j]?=some u:=by simpa using hu
   exact ⟨f2 u (List.mem_of_getElem? hu'),f4 j l u (by rw [←hxc];exact hj) hu'⟩
  ·rw [List.getElem?_append_right (by omega)] at hj
   rw [Array.getElem?_append_right (by simp;omega),hzm] at hu
   have e5:vs.toArray.size=xc.length:=by simp [hol]
   rw [e5] at hu
   refine ⟨hmade.1 u (by rw [←Array.getElem?_toList] at hu;exact List.mem_of_getElem? hu) (.inr (by omega)),hmade.2 _ l u (by rw [←hyc];exact hj) hu⟩
 rw [←hxc,←hyc]
 exact cx (P:=P) (T:=T) (s:=execOp a.eval ⟨dst,.call { callee:=.builtin .append,args := #[x,y],argTypes := #[t,u] },ty,pos,after,guard⟩)
  (lv:=.arr (c.nx+h.new.length) 0 (len+n) s' (len+n) false) (H:=c.H) (nx:=c.nx) (h:=h) (cs:=xc++yc) hH (hμ _ (by rw [newN,eh])) w.drew (.inr rfl) _ e (0,0) (by simp) (by rw [hsize,hge];omega)
  (fun j u hj hu=>(hlow j _ u (List.getElem?_eq_getElem hj) hu).1) (fun j l u hj hu=>(hlow j l u hj hu).2) (hexec hrun)
  (fun I' μ' w' _ hm=>by
   refine .arr _ 0 (len+n) s' (len+n) false w.heap.size 0 _ 0 cap' hm (.inr rfl) (Nat.le_refl _) hc1 (by simp) ?_
   rw [hsize]
   rw [hzs,←Nat.add_mul]
   have:len+n+(cap'-(len+n))=cap':=by omega
   rw [this];omega)
theorem lO (hH:HR I μ w T (look c.H c.nx h)) (ho:Opds c env a I μ w) (hμ : ∀ id,newN c h r.h id→μ id=none) (hT : ∀ id∈r.tch,T id) {e:TypeId} {x y:Operand} {t u:TypeId} {sz bytes:Nat} {z:List PV}
  (ht:P.underlying t=some (.slice e)) (hu:P.underlying u=some .string∨∃ e',P.underlying u=some (.slice e')) (hs:tsz P e=some sz) (hb:tby P e=some bytes) (hz:tzero P e=some z) (hb0:bytes≠0) (hzl:z.length=sz)
  (hr:evOp c dr env h (.app sz bytes (copd x) (copd y))=some r):
  DoesOp P c h a w I μ r T ⟨dst,.call { callee:=.builtin .append,args := #[x,y],argTypes := #[t,u] },ty,pos,after,guard⟩:=by
 obtain ⟨i,hi,hsz⟩:=dg hs
 have hby:=kD hi hb
 obtain ⟨i',zv,hi',hzv,_,hzz⟩:=bN hz
 have hzs:zv.cells.size=sz:=by rw [hzz] at hzl;simpa using hzl
 obtain rfl:i=i':=Option.some.inj (hi.symm.trans hi')
 have hx:=ho x
 have hy:=ho y
 have hexec : ∀ {v w'},(Builtin.append_ #[t,u] ty #[a.eval x,a.eval y]).run P w = .ok v w' →
   (execOp a.eval ⟨dst,.call { callee:=.builtin .append,args := #[x,y],argTypes := #[t,u] },ty,pos,after,guard⟩).run P w = .ok (.value v) w':=fun hh=>by
  simp [execOp,resolve,invoke,builtin,hh]
 simp only [evOp,appO] at hr
 split at hr
 case h_1=>cases hr
 rename_i yc n hyc
 split at hr
 case isTrue=>cases hr
 rename_i hlen
 simp only [ne_eq,Decidable.not_not] at hlen
 split at hr
 ·
  rename_i hn0
  subst hn0
  have key : ∀ {base:Option Addr} {sl sc:Nat} {lv:LV},a.eval x = .slice base sl sc→sl≤sc→r=⟨lv,h,ids (opd c env (copd y)),false⟩→VR I μ w lv (.slice base sl sc) →
    DoesOp P c h a w I μ r T ⟨dst,.call { callee:=.builtin .append,args := #[x,y],argTypes := #[t,u] },ty,pos,after,guard⟩:=fun he hle hrr hv=>by
   subst hrr
   obtain ⟨vals,g1,g2,g3,g4,g5⟩:=fQ (P:=P) hH hyc hT hy hlen
   refine aj hH ah (hexec (v:=.slice _ _ _) (w':=w) ?_) hv
   rw [he]
   exact uD ht hu hi hsz g4 (fun w' hw=>by have:=g5 w' hw 0 (Nat.le_refl _);simpa using this) hle
  split at hr
  ·rename_i hv
   rw [hv] at hx
   exact key (bh hx) (Nat.le_refl _) (Option.some.inj hr).symm (.p (.s _))
  ·rename_i cs len s' full hv
   rw [hv] at hx
   obtain ⟨a0,cap,he,_,hle,_⟩:=hx.pp.sl_at (μ:=μ)
   exact key he hle (Option.some.inj hr).symm (he▸hv▸hx)
  ·rename_i id off len s' cp ex hv
   rw [hv] at hx
   obtain ⟨b,o,s,o',cap,hm,he,hoo,hle,_⟩:=bF hx
   exact key he hle (Option.some.inj hr).symm (he▸hv▸hx)
  ·cases hr
 ·rename_i hn0
  have grow : ∀ {base:Option Addr} {sl sc:Nat} {xc:List LV} {olds:List Value} {h2:Hp} {tch:List Nat} {md:Bool} (T2:Nat→Prop),a.eval x = .slice base sl sc →
    (∀ w',w'.heap=w.heap→(Builtin.firstCells sz sl (.slice base sl sc)).run P w' = .ok olds.toArray w')→olds.length=xc.length→xc.length=sl*sz→(∀ u∈olds,u.oneCell'=true)→(∀ (j:Nat) l u,xc[j]?=some l→olds[j]?=some u→VR I μ w l u) →
    sc<sl+n→(sl+n)*bytes≤2^40→r=⟨.arr (c.nx+h.new.length) 0 (sl+n) sz (sl+n) false,push h2 (.cells (xc++yc)),tch,md⟩→h2.new.length=h.new.length →
    (∀ id,T2 id→T id)→(Goes I I μ μ w w (look c.H c.nx h) (look c.H c.nx h2) T2 (fun _=>False))→(∀ id∈ids (opd c env (copd y)),T id) →
    DoesOp P c h a w I μ r T ⟨dst,.call { callee:=.builtin .append,args := #[x,y],argTypes := #[t,u] },ty,pos,after,guard⟩:=by
   intro base sl sc xc olds h2 tch md T2 he holds hol hxl ho1 hov hg hbb hrr hh2 hT2 hgo hTy
   subst hrr
   obtain ⟨vals,g1,g2,g3,g4,g5⟩:=fQ (P:=P) hH hyc hTy hy hlen
   have hlt62:sl+n<2^62:=by
    have:(sl+n)*1≤(sl+n)*bytes:=Nat.mul_le_mul_left _ (by omega)
    omega
   obtain ⟨cap',hc1,hrun⟩:=uC (P:=P) (ty:=ty) ht hu hi hzv hsz hby holds g4 (fun w' hw=>by have:=g5 w' hw n (Nat.le_refl _);rwa [List.take_of_length_le (by omega)] at this) hg hbb hlt62
   rw [←he] at hrun
   have hgo':=hgo.widen hH hT2
   have hH2:HR I μ w T (look c.H c.nx h2):=hgo'.hr.sub fun id ht=>⟨.inl ht,rfl⟩
   have hμ':μ (c.nx+h2.new.length)=none:=by
    rw [hh2]
    exact hμ _ ⟨Nat.le_refl _,by simp [push,hh2]⟩
   have hsize:(olds.toArray++vals.toArray++Builtin.zeroCells zv.cells (cap'-(sl+n))).size=(sl+n)*sz+(cap'-(sl+n))*zv.cells.size:=by
    simp [gK,hol,hxl,g1,Nat.add_mul]
   have hge:(xc++yc).length=(sl+n)*sz:=by simp [hxl,hlen,Nat.add_mul]
   have hlow : ∀ (j:Nat) (l:LV) (u:Value),(xc++yc)[j]?=some l→(olds.toArray++vals.toArray++Builtin.zeroCells zv.cells (cap'-(sl+n)))[j]?=some u→u.oneCell'=true∧VR I μ w l u:=by
    intro j l u hj hu
    have hjlt:j<(sl+n)*sz:=by rw [←hge];exact (List.getElem?_eq_some_iff.1 hj).1
    rw [Array.getElem?_append_left (by simp [hol,hxl,g1];rw [←Nat.add_mul];exact hjlt)] at hu
    by_cases h5:j<xc.length
    ·rw [List.getElem?_append_left h5] at hj
     rw [Array.getElem?_append_left (by simp;omega)] at hu
     have hu':olds[j]?=some u:=by simpa using hu
     exact ⟨ho1 u (List.mem_of_getElem? hu'),hov j l u hj hu'⟩
    ·rw [List.getElem?_append_right (by omega)] at hj
     rw [Array.getElem?_append_right (by simp;omega)] at hu
     have hu':vals[j-xc.length]?=some u:=by rw [←hol];simpa using hu
     exact ⟨g2 u (List.mem_of_getElem? hu'),g3 _ l u hj hu'⟩
   have hd:=cx (P:=P) (T:=T) (s:=execOp a.eval ⟨dst,.call { callee:=.builtin .append,args := #[x,y],argTypes := #[t,u] },ty,pos,after,guard⟩)
    (lv:=.arr (c.nx+h.new.length) 0 (sl+n) sz (sl+n) false) (H:=c.H) (nx:=c.nx) (h:=h2) (cs:=xc++yc) hH2 hμ' w.drew (.inr rfl) _ e (0,0) (by simp) (by rw [hsize,hge];omega)
    (fun j u hj hu=>(hlow j _ u (List.getElem?_eq_getElem hj) hu).1) (fun j l u hj hu=>(hlow j l u hj hu).2) (hexec hrun)
    (fun I' μ' w' _ hm=>by
     rw [hh2] at hm
     refine .arr _ 0 (sl+n) sz (sl+n) false w.heap.size 0 _ 0 cap' hm (.inr rfl) (Nat.le_refl _) hc1 (by simp) ?_
     rw [hsize]
     rw [hzs,←Nat.add_mul]
     have:sl+n+(cap'-(sl+n))=cap':=by omega
     rw [this];omega)
   obtain ⟨I',μ',w',v,q1,q2,q3⟩:=hd
   refine ⟨I',μ',w',v,q1,?_,q3⟩
   have:=hgo'.after_kill q2
   rwa [hh2] at this
  have hself:Goes I I μ μ w w (look c.H c.nx h) (look c.H c.nx h) (fun _=>False) (fun _=>False):=Goes.refl hH.lt
  split at hr
  ·
   rename_i hv
   split at hr
   case isFalse=>cases hr
   rename_i hbb
   rw [hv] at hx
   obtain rfl:=Option.some.inj hr
   exact grow (base:=none) (sl:=0) (sc:=0) (xc:=[]) (olds:=[]) (h2:=h) (fun _=>False) (bh hx) (fun w' _=>by simp [Builtin.firstCells]) rfl (by simp) (by simp) (by simp) (by omega) (by simpa using hbb)
    (by simp only [Nat.zero_add,List.nil_append];rfl) rfl (fun _ h=>h.elim) hself hT
  ·
   rename_i cs len s' full hv
   split at hr
   case isFalse=>cases hr
   rename_i hcond
   obtain ⟨hf,hcl,rfl,hbb⟩:=hcond
   rw [hv] at hx
   obtain ⟨a0,cap,he,⟨rfl,rfl⟩|⟨b,o,rfl,_,hat⟩,hle,hfull⟩:=hx.pp.sl_at (μ:=μ)
   ·have hcap:=hfull hf
    obtain rfl:=Option.some.inj hr
    refine grow (h2:=h) (olds:=[]) (fun _=>False) he (fun w' hw => ?_) rfl (by simp) (by simp) (by simp) (by omega) hbb rfl rfl (fun _ h=>h.elim) hself hT
    simp only [Builtin.firstCells,Nat.zero_mul]
    exact run_loadCells_list (P:=P) w' a0 [] (by simp)
   obtain ⟨vs,f1,f2,f3,f4⟩:=hat.vals
   have hcap:=hfull hf
   obtain rfl:=Option.some.inj hr
   refine grow (h2:=h) (fun _=>False) he (fun w' hw => ?_) f1 (by simpa using hcl) f2 f4 (by omega) hbb rfl rfl (fun _ h=>h.elim) hself hT
   simp only [Builtin.firstCells]
   exact iz f3 hw (by rw [f1];simpa using hcl)
  ·
   rename_i id off len s' cp ex hv
   split at hr
   case h_2=>cases hr
   rename_i cs hl
   split at hr
   case isTrue=>cases hr
   rename_i hcond
   simp only [ne_eq,not_or,Decidable.not_not] at hcond
   obtain ⟨rfl,hbb,hle⟩:=hcond
   rw [hv] at hx
   obtain ⟨b,o,s,o2,cap,hm,he,hoo,hlc,hfull,hroom,hcp,hlcp⟩:=bF hx
   have hTid:T id:=by
    refine hT id ?_
    split at hr
    ·obtain rfl:=Option.some.inj hr;simp
    ·split at hr
     ·obtain rfl:=Option.some.inj hr;simp
     ·split at hr
      ·obtain rfl:=Option.some.inj hr;simp
      ·cases hr
   have hTy : ∀ i∈ids (opd c env (copd y)),T i:=by
    intro i hi
    refine hT i ?_
    split at hr
    ·obtain rfl:=Option.some.inj hr;simp [hi]
    ·split at hr
     ·obtain rfl:=Option.some.inj hr;simp [hi]
     ·split at hr
      ·obtain rfl:=Option.some.inj hr;simp [hi]
      ·cases hr
   obtain ⟨b',o',s2,e',hm',hsh,hcs,hfz,hat⟩:=hH.obj id _ hTid hl
   rw [hm] at hm'
   obtain ⟨rfl,rfl,rfl⟩:b=b'∧o=o'∧s=s2:=by simpa using hm'
   obtain ⟨vs,f1,f2,f3,f4⟩:=((At.drop (I:=I) (μ:=μ) (w:=w) (b:=b) (o:=o) (cs:=cs) hat off).take (len*s')).vals
   have hvl:vs.length=len*s':=by rw [f1];simp;omega
   have hfirst : ∀ w',w'.heap=w.heap→(Builtin.firstCells s' len (.slice (some ⟨b,o2,none⟩) len cap)).run P w' = .ok vs.toArray w':=fun w' hw=>by
    simp only [Builtin.firstCells]
    rcases hoo with h0|h0
    ·obtain rfl:len=0:=by omega
     have:vs=[]:=List.eq_nil_of_length_eq_zero (by simpa using hvl)
     simp [loadCells,loadCellsFrom,this]
    ·subst h0
     exact iz f3 hw hvl
   obtain ⟨vals,g1,g2,g3,g4,g5⟩:=fQ (P:=P) hH hyc hTy hy hlen
   have g5' : ∀ w',w'.heap=w.heap→(Builtin.firstCells s' n (a.eval y)).run P w' = .ok vals.toArray w':=fun w' hw=>by have:=g5 w' hw n (Nat.le_refl _);rwa [List.take_of_length_le (by omega)] at this
   split at hr
   ·
    rename_i hf
    have hcap:=hfull hf.1
    have hcap2:=hf.2
    obtain rfl:=Option.some.inj hr
    exact grow (h2:=h) (fun _=>False) he hfirst f1 (by rw [←f1,hvl]) f2 f4 (by omega) (by omega) rfl rfl (fun _ h=>h.elim) hself hTy
   ·split at hr
    ·
     rename_i hnf hfr
     obtain rfl:=Option.some.inj hr
     have hdrop:(cs.drop off).take (len*s')=cs.drop off:=List.take_of_length_le (by simp;omega)
     rw [hdrop] at f1 f4
     by_cases hfit:len+n≤cap
     ·
      have h0:o2=o+off:=hoo.resolve_left (by omega)
      subst h0
      have hcapsz:(len+n)*s'≤cap*s':=Nat.mul_le_mul_right _ hfit
      have hyl:vals.length=yc.length:=by rw [g1,hlen]
      have hnn:μ (c.nx+h.new.length)=none:=hμ _ ⟨Nat.le_refl _,by simp [push,aD]⟩
      have hpl:o+cs.length=o+off+len*s':=by omega
      have hgr:=Goes.grow (lk':=look c.H c.nx (push (setObj c.nx h id none) (.cells (cs.drop off++yc)))) hH id hTid (c.nx+h.new.length) hnn (fun e=>by rw [e,hm] at hnn;cases hnn) cs yc hl hm off (by omega) vals hyl g2
       (by rw [hyl,hlen];rw [Nat.add_mul] at hcapsz;omega) g3 (fun j h1 h2=>by rw [ao,if_neg (by rw [aD];exact h2),bn (a7 hl),if_neg h1])
       (by rw [ao,if_neg (fun e=>by rw [aD] at e;rw [e,hnn] at hm;cases hm),bn (a7 hl),if_pos rfl]) (by rw [ao,aD,if_pos rfl])
      have hrun:=qH (P:=P) (ty:=ty) (t:=t) (u:=u) (w:=w) ht hu hi hsz (b:=b) (o:=o+off) (sLen:=len) (sCap:=cap) g4 g5' hfit
       (fun j hj=>by
        obtain ⟨q,hq⟩:=bC (k:=o+off+len*s'+j) hsh (by rw [g1] at hj;rw [Nat.add_mul] at hcapsz;omega)
        rw [hq];rfl) (fun j hj=>hfz _ (by rw [g1] at hj;rw [Nat.add_mul] at hcapsz;omega)) g2
      rw [←he,←hpl] at hrun
      refine ⟨_,_,_,_,.inl (hexec hrun),(hgr.widen hH fun _ h=>h▸hTid).congrN fun j => ?_,.arr _ 0 (len+n) s' (len+n) false b (o+off) s (o+off) cap (by simp) (.inr (by omega)) (Nat.le_refl _) hfit (by simp) (by omega)⟩
      simp [newN,push,aD];omega
     ·
      exact grow (h2:=setObj c.nx h id none) (xc:=cs.drop off) (fun j=>j=id) he hfirst f1 (by rw [←f1,hvl]) f2 f4 (by omega) (by omega) rfl aD (fun j h=>h▸hTid)
       (Goes.kill hH.lt id (fun j hj=>by rw [bn (a7 hl),if_neg hj]) (by rw [bn (a7 hl),if_pos rfl])) hTy
    ·split at hr
     case isFalse=>cases hr
     rename_i hnf hfr hin
     obtain rfl:=Option.some.inj hr
     have h0:o2=o+off:=hoo.resolve_left (by omega)
     subst h0
     have hyl:vals.length=yc.length:=by rw [g1,hlen]
     have hin1:=hin.1
     rw [Nat.add_mul] at hin1
     have hwr:=fj (nx:=c.nx) (H:=c.H) hH id hTid hl hm (p:=off+len*s') (ys:=yc) hyl g2 g3 (by omega)
     have hrun:=qH (P:=P) (ty:=ty) (t:=t) (u:=u) (w:=w) ht hu hi hsz (b:=b) (o:=o+off) (sLen:=len) (sCap:=cap) g4 g5' (by omega)
      (fun j hj=>by
       obtain ⟨q,hq⟩:=bC (k:=o+off+len*s'+j) hsh (by rw [g1] at hj;omega)
       rw [hq];rfl) (fun j hj=>hfz _ (by rw [g1] at hj;omega)) g2
     rw [←he,Nat.add_assoc] at hrun
     refine ⟨_,_,_,_,.inl (hexec hrun),(hwr.widen hH fun _ h=>h▸hTid).congrN fun j => ?_,.arr id off (len+n) s' cp ex b o s (o+off) cap hm (.inr rfl) (by omega) hcp hfull hroom⟩
     simp [newN,aD]
  ·cases hr
end ops
end Go.Sx
end

section
namespace Go.Sx
open Go
section ops
variable {P:Program} {imT:TypeId→Bool} {c:Ctx} {dr:Bool} {env:Env} {h:Hp} {a:Act} {w:World} {I:Nat→Prop} {μ:Mu} {r:Res} {T:Nat→Prop}
variable {dst:Option Tmp} {ty:TypeId} {pos:String} {after:Array Edge} {guard:Option (Nat × Bool)}
theorem yg (hH:HR I μ w T (look c.H c.nx h)) (ho:Opds c env a I μ w) (hT : ∀ id∈r.tch,T id) {e:TypeId} {x y:Operand} {ats:Array TypeId} {sz:Nat}
  (ht:(ats[0]?).bind (P.underlying ·)=some (.slice e)) (hs:tsz P e=some sz) (hr:evOp c dr env h (.copy sz (copd x) (copd y))=some r):
  DoesOp P c h a w I μ r T ⟨dst,.call { callee:=.builtin .copy,args := #[x,y],argTypes:=ats },ty,pos,after,guard⟩:=by
 obtain ⟨i,hi,hsz⟩:=dg hs
 have hx:=ho x
 have hy:=ho y
 simp only [evOp] at hr
 split at hr
 case h_2=>cases hr
 rename_i id off len s' cp ex hv
 split at hr
 case h_2=>cases hr
 rename_i cs yc n hl hyc
 split at hr
 case isFalse=>cases hr
 rename_i hcond
 obtain ⟨rfl,hlen,hle⟩:=hcond
 obtain rfl:=Option.some.inj hr
 rw [hv] at hx
 obtain ⟨b,o,s,o2,cap,hm,he,hoo,hlc,hfull,hroom,hcp,hlcp⟩:=bF hx
 have hTid:T id:=hT id (by simp)
 obtain ⟨b',o',s2,e',hm',hsh,hcs,hfz,hat⟩:=hH.obj id _ hTid hl
 rw [hm] at hm'
 obtain ⟨rfl,rfl,rfl⟩:b=b'∧o=o'∧s=s2:=by simpa using hm'
 obtain ⟨vals,g1,g2,g3,g4,g5⟩:=fQ (P:=P) hH hyc (fun i hi=>hT i (by simp [hi])) hy hlen
 cases hu:ats[0]? with
 | none=>rw [hu] at ht;cases ht
 | some t=>
  rw [hu] at ht
  simp only [Option.bind_some] at ht
  have hmin:min n len≤n:=Nat.min_le_left _ _
  have hminl:min n len≤len:=Nat.min_le_right _ _
  have hm1:min n len*s'≤n*s':=Nat.mul_le_mul_right _ hmin
  have hm2:min n len*s'≤len*s':=Nat.mul_le_mul_right _ hminl
  have hvl:(vals.take (min n len*s')).length=min n len*s':=by rw [List.length_take,g1];exact Nat.min_eq_left hm1
  have hyl:(yc.take (min n len*s')).length=min n len*s':=by rw [List.length_take,hlen];exact Nat.min_eq_left hm1
  have hwr:=fj (nx:=c.nx) (H:=c.H) hH id hTid hl hm (p:=off) (ys:=yc.take (min n len*s')) (vs:=vals.take (min n len*s')) (by rw [hvl,hyl]) (fun v hv=>g2 v (List.mem_of_mem_take hv)) (fun j l v hj hv=>by
   rw [List.getElem?_take] at hj hv
   split at hj
   ·rename_i hlt;rw [if_pos hlt] at hv;exact g3 j l v hj hv
   ·cases hj) (by rw [hyl];omega)
  have hfirst:=g5 w rfl (min n len) hmin
  have hst:(storeCells ⟨b,o2,none⟩ (vals.take (min n len*s'))).run P w = .ok () (w.setCells b (o+off) (vals.take (min n len*s'))):=by
   rcases hoo with h0|h0
   ·have hz:min n len=0:=by omega
    rw [hz];simp [storeCells,World.setCells]
   ·subst h0
    have:=run_storeCells_cells (P:=P) b (o+off) (vals.take (min n len*s')) 0 w (fun j hj=>by
      obtain ⟨q,hq⟩:=bC (k:=o+off+0+j) hsh (by rw [hvl] at hj;omega)
      rw [hq];rfl) (fun j hj=>hfz _ (by rw [hvl] at hj;omega)) (fun v hv=>g2 v (List.mem_of_mem_take hv))
    simpa using this
  have hrun:(execOp a.eval ⟨dst,.call { callee:=.builtin .copy,args := #[x,y],argTypes:=ats },ty,pos,after,guard⟩).run P w = .ok (.value (.int .i64 (min n len:Nat))) (w.setCells b (o+off) (vals.take (min n len*s'))):=by
   have h3:=g4 w
   have hmn:Nat.min n len=min n len:=rfl
   simp only [execOp,resolve,invoke,builtin,Builtin.copy_]
   simp [hu,run_underlying ht,he,h3,sizeOf,typeInfo,hi,hsz,hmn,hfirst,hst,goInt]
  exact ⟨_,_,_,_,.inl hrun,(hwr.widen hH fun _ h=>h▸hTid).congrN fun j=>by simp [newN,aD],.p (.s _)⟩
theorem vQ (hH:HR I μ w T (look c.H c.nx h)) (ho:Opds c env a I μ w) (hT : ∀ id∈r.tch,T id) {e:TypeId} {x y:Operand} {ats:Array TypeId} {sz:Nat}
  (ht:(ats[0]?).bind (P.underlying ·)=some (.slice e)) (hs:tsz P e=some sz) (hr:evOp c dr env h (.copyX sz (copd x) (copd y))=some r):
  DoesOp P c h a w I μ r T ⟨dst,.call { callee:=.builtin .copy,args := #[x,y],argTypes:=ats },ty,pos,after,guard⟩:=by
 obtain ⟨i,hi,hsz⟩:=dg hs
 have hx:=ho x
 have hy:=ho y
 simp only [evOp] at hr
 split at hr
 case h_2=>cases hr
 rename_i id off len s' cp ex hv
 split at hr
 case h_2=>cases hr
 rename_i cs yc n hl hyc
 split at hr
 case isFalse=>cases hr
 rename_i hcond
 obtain ⟨rfl,hlen,hle⟩:=hcond
 obtain rfl:=Option.some.inj hr
 rw [hv] at hx
 obtain ⟨b,o,s,o2,cap,hm,he,hoo,hlc,hfull,hroom,hcp,hlcp⟩:=bF hx
 have hTid:T id:=hT id (by simp)
 obtain ⟨b',o',s2,e',hm',hsh,hcs,hfz,hat⟩:=hH.obj id _ hTid hl
 rw [hm] at hm'
 obtain ⟨rfl,rfl,rfl⟩:b=b'∧o=o'∧s=s2:=by simpa using hm'
 obtain ⟨vals,g1,_,g2,g3,g4,g5⟩:=wN (P:=P) hH hyc (fun i hi=>hT i (by simp [hi])) hy
 cases hu:ats[0]? with
 | none=>rw [hu] at ht;cases ht
 | some t=>
  rw [hu] at ht
  simp only [Option.bind_some] at ht
  have hminl:min n len*s'≤cap*s':=Nat.mul_le_mul_right _ (Nat.le_trans (Nat.min_le_right _ _) hlc)
  have hwr:=nq (nx:=c.nx) (H:=c.H) hH id hTid hl hm (p:=off) (ys:=yc) (vs:=vals) g1 g2 g3 hle (by rw [hlen];omega)
  have hfirst:=g5 w rfl
  have hst:(storeCells ⟨b,o2,none⟩ vals).run P w = .ok () (w.setCells b (o+off) vals):=by
   rcases hoo with h0|h0
   ·have hz:min n len=0:=by omega
    have:vals=[]:=List.eq_nil_of_length_eq_zero (by rw [g1,hlen,hz,Nat.zero_mul])
    subst this
    simp [storeCells,World.setCells]
   ·subst h0
    have:=run_storeCells_cells (P:=P) b (o+off) vals 0 w (fun j hj=>by
      obtain ⟨q,hq⟩:=bC (k:=o+off+0+j) hsh (by rw [g1,hlen] at hj;omega)
      rw [hq];rfl) (fun j hj=>hfz _ (by rw [g1,hlen] at hj;omega)) g2
    simpa using this
  have hrun:(execOp a.eval ⟨dst,.call { callee:=.builtin .copy,args := #[x,y],argTypes:=ats },ty,pos,after,guard⟩).run P w = .ok (.value (.int .i64 (min n len:Nat))) (w.setCells b (o+off) vals):=by
   have h3:=g4 w
   have hmn:Nat.min n len=min n len:=rfl
   simp only [execOp,resolve,invoke,builtin,Builtin.copy_]
   simp [hu,run_underlying ht,he,h3,sizeOf,typeInfo,hi,hsz,hmn,hfirst,hst,goInt]
  exact ⟨_,_,_,_,.inl hrun,(hwr.widen hH fun _ h=>h▸hTid).congrN fun j=>by simp [newN,aD],.p (.s _)⟩
theorem Al (hH:HR I μ w T (look c.H c.nx h)) (ho:Opds c env a I μ w) {x:Operand} {ats:Array TypeId} (ht : ∃ e,(ats[0]?).bind (P.underlying ·)=some (.slice e))
  (hr:evOp c dr env h (.cap (copd x))=some r):DoesOp P c h a w I μ r T ⟨dst,.call { callee:=.builtin .cap,args := #[x],argTypes:=ats },ty,pos,after,guard⟩:=by
 have hx:=ho x
 obtain ⟨e,ht⟩:=ht
 cases hu:ats[0]? with
 | none=>rw [hu] at ht;cases ht
 | some t=>
  rw [hu] at ht
  simp only [Option.bind_some] at ht
  simp only [evOp] at hr
  have slc : ∀ {base:Option Addr} {n cap:Nat},a.eval x = .slice base n cap →
    (execOp a.eval ⟨dst,.call { callee:=.builtin .cap,args := #[x],argTypes:=ats },ty,pos,after,guard⟩).run P w = .ok (.value (.int .i64 cap)) w:=fun he=>by
   simp [execOp,resolve,invoke,builtin,Builtin.cap_,hu,he,run_underlying ht,goInt]
  split at hr
  ·rename_i id off n sz cp hv
   obtain rfl:=Option.some.inj hr
   rw [hv] at hx
   obtain ⟨b,o,s,o2,cap,hm,he,hoo,hlc,hfull,hroom,hcp,hlcp⟩:=bF hx
   have:cap=cp:=by first|exact hfull rfl|exact hcp rfl
   subst this
   exact aj hH ah (slc he) (.p (.s _))
  ·rename_i hv
   obtain rfl:=Option.some.inj hr
   rw [hv] at hx
   exact aj hH ah (slc (bh hx)) (.p (.s _))
  ·cases hr
theorem vi {fn:Func} (h:ovOk fn=true):Extern.findNext fn=none∧Extern.find fn=some (Extern.SlicesOverlaps.overlaps fn.params fn.resultTypes)∧fn.body.isNone=true∧fn.name ≠ "runtime.NumGoroutine":=by
 simp only [ovOk,Bool.and_eq_true,beq_iff_eq,bne_iff_ne,Option.isNone_iff_eq_none] at h
 obtain ⟨⟨⟨⟨⟨⟨h1,h2⟩,h3⟩,h4⟩,h5⟩,h6⟩,h7⟩:=h
 have e1:Extern.allGenericRows.lookup "slices.overlaps" = none:=by kernel_rfl
 have e2:Extern.allTypedRows.lookup "slices.overlaps" = some Extern.SlicesOverlaps.overlaps:=by kernel_rfl
 have e3:Extern.allNextRows.lookup "slices.overlaps" = none:=by kernel_rfl
 refine ⟨?_,?_,by rw [h1];rfl,h3⟩
 ·simp only [Extern.findNext,h7,h2,e3,Option.map_none,Option.none_or,Option.orElse_none]
  rfl
 ·simp only [Extern.find,h4,h5,h6,h2,e1,e2,Option.map_none,Option.map_some]
  rfl
theorem yH {w:World} {tS e:TypeId} (ht:P.underlying tS=some (.slice e)) {ps rs:Array TypeId} (hp:ps[0]?=some tS) (size:Nat) (hz : ∀ w,(Go.sizeOf e).run P w = .ok size w)
  (b1 o1 b2 o2 la ca lb cb:Nat) (hne:b1≠b2) {tA tB:TypeId} {kA kB:Nat} (hsa:w.shape? b1=some (tA,kA)) (hsb:w.shape? b2=some (tB,kB)) (hfa : ∀ k,k≤kA→w.frozen? ⟨b1,k,none⟩=false) (hfb : ∀ k,k≤kB→w.frozen? ⟨b2,k,none⟩=false)
  (ha:(la=0∨size=0)∨o1≤kA) (hb:(lb=0∨size=0)∨o2≤kB):
  (Extern.SlicesOverlaps.overlaps ps rs #[.slice (some ⟨b1,o1,none⟩) la ca,.slice (some ⟨b2,o2,none⟩) lb cb]).run P w = .ok (.bool false) w:=by
 have hnb:(b1 != b2)=true:=by simpa using hne
 have hnb':(b1==b2)=false:=by simpa using hne
 have q:(Extern.SlicesOverlaps.overlaps ps rs #[.slice (some ⟨b1,o1,none⟩) la ca,.slice (some ⟨b2,o2,none⟩) lb cb]).run P w=Sem.run P (α:=Value) (do
  let some t:=ps[0]? | stuck "slices.overlaps: no parameter types"
  let .slice elem ← underlying t|stuck "slices.overlaps: slice type expected"
  let size ← sizeOf elem
  match (some ⟨b1,o1,none⟩:Option Addr),(some ⟨b2,o2,none⟩:Option Addr) with
  | some a,some b=>
   if la=0∨lb=0∨size=0 then pure (Value.bool false)
   else if a.block != b.block&&(← frozen a)&&(← frozen b) then unsupported .addressObserved
   else do
    if a.block != b.block then do
     noView a;noView b
     if ← mayBeOne a b then return Value.bool ((← choose (.extern "sameAddr.stringBytes" 2))==1)
    pure (Value.bool (a.block==b.block&&a.off<b.off+lb*size&&b.off<a.off+la*size))
  | _,_=>pure (Value.bool false)) w:=rfl
 rw [q]
 by_cases h0:la=0∨lb=0∨size=0
 ·simp [hp,run_underlying ht,hz,h0]
 ·have f1:=hfa o1 (by omega)
  have f2:=hfb o2 (by omega)
  have g1:=hfa kA (Nat.le_refl _)
  have g2:=hfb kB (Nat.le_refl _)
  simp [hp,run_underlying ht,hz,h0,hnb,hnb',frozen,noView,viewAt,mayBeOne,stringish,shape,Sem.run,hsa,hsb,f1,f2,g1,g2]
theorem Am (hH:HR I μ w T (look c.H c.nx h)) (ho:Opds c env a I μ w) (hT : ∀ id∈r.tch,T id) {fn:Func} {f:FuncId} (hf:P.funcs[f]?=some fn) (hk:ovOk fn=true) {e:TypeId} {x y:Operand} {ats:Array TypeId} {sz:Nat}
  (ht:(fn.params[0]?).bind (P.underlying ·)=some (.slice e)) (hs:tsz P e=some sz) (hr:evOp c dr env h (.ovl (copd x) (copd y))=some r):
  DoesOp P c h a w I μ r T ⟨dst,.call { callee:=.value (.func f),args := #[x,y],argTypes:=ats },ty,pos,after,guard⟩:=by
 obtain ⟨i,hi,hsz⟩:=dg hs
 obtain ⟨k1,k2,k3,k4⟩:=vi hk
 have hx:=ho x
 have hy:=ho y
 simp only [evOp] at hr
 split at hr
 case h_2=>cases hr
 rename_i i1 off1 n1 s1 cp1 ex1 i2 off2 n2 s2 cp2 ex2 hv1 hv2
 split at hr
 case isTrue=>cases hr
 rename_i hne
 split at hr
 case h_2=>cases hr
 rename_i cs1 cs2 hl1 hl2
 obtain rfl:=Option.some.inj hr
 rw [hv1] at hx
 rw [hv2] at hy
 obtain ⟨b1,o1,z1,p1,cap1,hm1,he1,hoo1,hlc1,hfull1,hroom1,hcp1,hlcp1⟩:=bF hx
 obtain ⟨b2,o2,z2,p2,cap2,hm2,he2,hoo2,hlc2,hfull2,hroom2,hcp2,hlcp2⟩:=bF hy
 have hT1:T i1:=hT i1 (by simp)
 have hT2:T i2:=hT i2 (by simp)
 have hbne:b1≠b2:=fun e=>hH.inj i1 i2 _ _ hT1 hT2 hl1 hl2 hne (by simp [blk,hm1,hm2,e])
 obtain ⟨_,_,_,t1,hm1',hsh1,_,hfz1,_⟩:=hH.obj i1 _ hT1 hl1
 obtain ⟨_,_,_,t2,hm2',hsh2,_,hfz2,_⟩:=hH.obj i2 _ hT2 hl2
 rw [hm1] at hm1'
 rw [hm2] at hm2'
 simp only [Option.some.injEq,Prod.mk.injEq] at hm1' hm2'
 obtain ⟨rfl,rfl,rfl⟩:=hm1'
 obtain ⟨rfl,rfl,rfl⟩:=hm2'
 cases hu:fn.params[0]? with
 | none=>rw [hu] at ht;cases ht
 | some t=>
  rw [hu] at ht
  simp only [Option.bind_some] at ht
  have hz : ∀ w,(Go.sizeOf e).run P w = .ok sz w:=fun w=>by simp [sizeOf,typeInfo,hi,hsz]
  have hrun:=yH (w:=w) (rs:=fn.resultTypes) ht hu sz hz b1 p1 b2 p2 n1 cap1 n2 cap2 hbne hsh1 hsh2 hfz1 hfz2
   (hoo1.elim (fun h0=>.inl (.inl (by omega))) fun h0=>.inr (by omega))
   (hoo2.elim (fun h0=>.inl (.inl (by omega))) fun h0=>.inr (by omega))
  refine aj hH ah (v:=.bool false) ?_ (.p (.s _))
  have hc:=run_callFunc_extern (P:=P) hf (by simpa using k4) k3 k1 k2 #[.slice (some ⟨b1,p1,none⟩) n1 cap1,.slice (some ⟨b2,p2,none⟩) n2 cap2] w
  rw [hrun] at hc
  simp only [Result.andThen_ok] at hc
  have hev:a.eval (.func f) = .func (.func f) #[] #[]:=rfl
  simp [execOp,resolve,hev,Deferred.ofValue,invoke,he1,he2,hc]
theorem vP (hH:HR I μ w T (look c.H c.nx h)) (ho:Opds c env a I μ w) (hT : ∀ id∈r.tch,T id) {e:TypeId} {x:Operand} {ats:Array TypeId} {sz:Nat} {z:List PV}
  (ht:(ats[0]?).bind (P.underlying ·)=some (.slice e)) (hs:tsz P e=some sz) (hz:tzero P e=some z) (hr:evOp c dr env h (.clr sz z (copd x))=some r):
  DoesOp P c h a w I μ r T ⟨dst,.call { callee:=.builtin .clear,args := #[x],argTypes:=ats },ty,pos,after,guard⟩:=by
 obtain ⟨i,hi,hsz⟩:=dg hs
 obtain ⟨i',zv,hi',hzv,h1,hzz⟩:=bN hz
 obtain rfl:i=i':=Option.some.inj (hi.symm.trans hi')
 have hx:=ho x
 cases hu:ats[0]? with
 | none=>rw [hu] at ht;cases ht
 | some t=>
 rw [hu] at ht
 simp only [Option.bind_some] at ht
 have nil:VR I μ w (.tuple []) (.tuple #[]):=.tuple [] #[] rfl fun j l u hj=>by simp at hj
 simp only [evOp] at hr
 split at hr
 ·rename_i hv
  obtain rfl:=Option.some.inj hr
  rw [hv] at hx
  have he:=bh hx
  exact aj hH ah (v:=.tuple #[]) (by simp [execOp,resolve,invoke,builtin,Builtin.clear_,hu,he,run_underlying ht]) nil
 ·rename_i id off len s' cp ex hv
  rw [hv] at hx
  obtain ⟨b,o,s,o2,cap,hm,he,hoo,hlc,hfull,hroom,hcp,hlcp⟩:=bF hx
  split at hr
  ·rename_i h0
   subst h0
   obtain rfl:=Option.some.inj hr
   exact aj hH ah (v:=.tuple #[]) (by simp [execOp,resolve,invoke,builtin,Builtin.clear_,hu,he,run_underlying ht]) nil
  ·rename_i h0
   split at hr
   case h_2=>cases hr
   rename_i cs hl
   split at hr
   case isFalse=>cases hr
   rename_i hcond
   obtain ⟨rfl,hzl,hle⟩:=hcond
   obtain rfl:=Option.some.inj hr
   have hTid:T id:=hT id (by simp)
   obtain ⟨b',o',s2,e',hm',hsh,hcs,hfz,hat⟩:=hH.obj id _ hTid hl
   rw [hm] at hm'
   obtain ⟨rfl,rfl,rfl⟩:b=b'∧o=o'∧s=s2:=by simpa using hm'
   have hoe:o2=o+off:=by
    rcases hoo with h|h
    ·omega
    ·exact h
   subst hoe
   have hzs:zv.cells.size=s':=by rw [hzz] at hzl;simpa using hzl
   have hmade:=jt (I:=I) (μ:=μ) (w:=w) h1 len (len*s')
   rw [←hzz] at hmade
   have hms:(madeCells zv.cells (len*s')).size=len*s':=size_madeCells _ _
   have hzc:Builtin.zeroCells zv.cells len=madeCells zv.cells (len*s'):=by rw [←hzs];rfl
   have hyl:(((List.replicate len z).flatten).map LV.p).length=len*s':=by simp [hzl]
   have hone : ∀ v∈(madeCells zv.cells (len*s')).toList,v.oneCell'=true:=fun v hv=>hmade.1 v hv (.inr fun e=>by
    have:len*s'=0:=by rw [←hzs,e,Nat.mul_zero]
    have hlt:=List.length_pos_of_mem hv
    rw [Array.length_toList,hms] at hlt
    omega)
   have hwr:=fj (nx:=c.nx) (H:=c.H) hH id hTid hl hm (p:=off) (ys:=((List.replicate len z).flatten).map LV.p) (vs:=(madeCells zv.cells (len*s')).toList) (by rw [Array.length_toList,hms,hyl]) hone (fun j l v hj hv=>by
    rw [Array.getElem?_toList] at hv
    exact hmade.2 j l v hj hv) (by rw [hyl];omega)
   have hst:(storeCells ⟨b,o+off,none⟩ (madeCells zv.cells (len*s')).toList).run P w = .ok () (w.setCells b (o+off) (madeCells zv.cells (len*s')).toList):=by
    have:=run_storeCells_cells (P:=P) b (o+off) (madeCells zv.cells (len*s')).toList 0 w (fun j hj=>by
      rw [Array.length_toList,hms] at hj
      obtain ⟨q,hq⟩:=bC (k:=o+off+0+j) hsh (by omega)
      rw [hq];rfl) (fun j hj=>hfz _ (by rw [Array.length_toList,hms] at hj;omega)) hone
    simpa using this
   have hrun:(execOp a.eval ⟨dst,.call { callee:=.builtin .clear,args := #[x],argTypes:=ats },ty,pos,after,guard⟩).run P w = .ok (.value (.tuple #[])) (w.setCells b (o+off) (madeCells zv.cells (len*s')).toList):=by
    obtain ⟨k,rfl⟩ : ∃ k,len=k+1:=⟨len-1,by omega⟩
    simp only [execOp,resolve,invoke,builtin,Builtin.clear_]
    simp [hu,run_underlying ht,he,zeroValue,typeInfo,hi,hzv,hzc,hst]
   exact ⟨_,_,_,_,.inl hrun,(hwr.widen hH fun _ h=>h▸hTid).congrN fun j=>by simp [newN,aD],.tuple [] #[] rfl fun j l u hj=>by simp at hj⟩
 ·cases hr
theorem vU (hH:HR I μ w T (look c.H c.nx h)) (ho:Opds c env a I μ w) {x:Operand} {ats:Array TypeId} {str:Bool} (ht:if str then (ats[0]?).bind (P.underlying ·)=some .string else ∃ e,(ats[0]?).bind (P.underlying ·)=some (.slice e))
  (hr:evOp c dr env h (.len str (copd x))=some r):DoesOp P c h a w I μ r T ⟨dst,.call { callee:=.builtin .len,args := #[x],argTypes:=ats },ty,pos,after,guard⟩:=by
 have hx:=ho x
 cases hu:ats[0]? with
 | none=>rw [hu] at ht;cases str<;>simp at ht
 | some t=>
  simp only [hu,Option.bind_some] at ht
  simp only [evOp] at hr
  have slc : ∀ {base:Option Addr} {n cap:Nat},a.eval x = .slice base n cap→(∃ e,P.underlying t=some (.slice e)) →
    (execOp a.eval ⟨dst,.call { callee:=.builtin .len,args := #[x],argTypes:=ats },ty,pos,after,guard⟩).run P w = .ok (.value (.int .i64 n)) w:=fun he ⟨e,hh⟩=>by
   simp [execOp,resolve,invoke,builtin,Builtin.len_,hu,he,run_underlying hh,goInt]
  split at hr
  ·rename_i b hv
   obtain rfl:=Option.some.inj hr
   rw [hv] at hx
   simp only [if_true] at ht
   exact aj hH ah (v:=.int .i64 b.size) (by simp [execOp,resolve,invoke,builtin,Builtin.len_,hu,bh hx,run_underlying ht,goInt]) (.p (.s _))
  ·rename_i n k hv
   obtain rfl:=Option.some.inj hr
   rw [hv] at hx
   exact aj hH ah (slc (bh hx) (by simpa using ht)) (.p (.s _))
  ·rename_i cs n sz full hv
   obtain rfl:=Option.some.inj hr
   rw [hv] at hx
   obtain ⟨a0,cap,he,_⟩:=hx.pp.sl_at (μ:=μ)
   exact aj hH ah (slc he (by simpa using ht)) (.p (.s _))
  ·rename_i id off n sz cp ex hv
   obtain rfl:=Option.some.inj hr
   rw [hv] at hx
   obtain ⟨b,o,s,o2,cap,hm,he,_⟩:=bF hx
   exact aj hH ah (slc he (by simpa using ht)) (.p (.s _))
  ·cases hr
theorem vF {mx:Bool} : ∀ {l:List LV} {vs:List Value} {x z:LV} {u:Value},mmL mx x l=some z→VR I μ w x u→vs.length=l.length→(∀ (j:Nat) (q:LV) (v:Value),l[j]?=some q→vs[j]?=some v→VR I μ w q v) →
  ∃ v,(vs.foldlM (if mx then Builtin.max2 else Builtin.min2) u).run P w = .ok v w∧VR I μ w z v
 | [],vs,x,z,u,hz,hx,hl,_=>by
  obtain rfl:vs=[]:=List.eq_nil_of_length_eq_zero hl
  simp only [mmL,Option.some.injEq] at hz
  subst hz
  exact ⟨u,by simp,hx⟩
 | y::r,vs,x,z,u,hz,hx,hl,hv=>by
  cases vs with
  | nil=>cases hl
  | cons v vs=>
   simp only [mmL] at hz
   split at hz
   case h_2=>cases hz
   rename_i q hq
   have hy:=hv 0 y v rfl rfl
   have hstep : ∃ v',((if mx then Builtin.max2 else Builtin.min2) u v).run P w = .ok v' w∧VR I μ w q v':=by
    unfold mm2 at hq
    split at hq
    case h_2=>cases hq
    rename_i k m k' n
    obtain rfl:=Option.some.inj hq
    rw [bh hx,bh hy]
    cases mx
    ·exact ⟨_,by simp [Builtin.min2],.p (.s _)⟩
    ·exact ⟨_,by simp [Builtin.max2],.p (.s _)⟩
   obtain ⟨v',h1,h2⟩:=hstep
   obtain ⟨v2,h3,h4⟩:=vF (vs:=vs) hz h2 (by simpa using hl) (fun j q v hj hv'=>hv (j+1) q v hj hv')
   exact ⟨v2,by simp only [List.foldlM_cons,Sem.run_bind,h1,Result.andThen_ok,h3],h4⟩
theorem lP (hH:HR I μ w T (look c.H c.nx h)) (ho:Opds c env a I μ w) {mx:Bool} {xs:Array Operand} {ats:Array TypeId} (hr:evOp c dr env h (.minmax mx (xs.toList.map copd))=some r):
  DoesOp P c h a w I μ r T ⟨dst,.call { callee:=.builtin (if mx then .max else .min),args:=xs,argTypes:=ats },ty,pos,after,guard⟩:=by
 simp only [evOp,List.map_map] at hr
 split at hr
 case h_1=>cases hr
 rename_i x l hxl
 split at hr
 case h_2=>cases hr
 rename_i z hz
 obtain rfl:=Option.some.inj hr
 obtain ⟨h1,h2⟩:=eZ ho xs
 have hfun:(fun x=>opd c env (copd x))=opd c env ∘ copd:=rfl
 rw [hfun,hxl] at h1 h2
 cases hvs:(xs.map a.eval).toList with
 | nil=>
  have:(xs.map a.eval).size=0:=by rw [←Array.length_toList,hvs];rfl
  rw [this] at h1;cases h1
 | cons u vs=>
  have hlen:vs.length=l.length:=by
   have:(xs.map a.eval).size=vs.length+1:=by rw [←Array.length_toList,hvs];rfl
   rw [this] at h1;simpa using h1
  have hget : ∀ j:Nat,(xs.map a.eval)[j]?=(u::vs)[j]?:=fun j=>by rw [←Array.getElem?_toList,hvs]
  obtain ⟨v,g1,g2⟩:=vF (P:=P) hz (h2 0 x u rfl (by rw [hget];rfl)) hlen (fun j q v hj hv=>h2 (j+1) q v hj (by rw [hget];exact hv))
  refine aj hH ah (v:=v) ?_ g2
  cases mx
  ·simp only [execOp,resolve,Sem.run_bind,Sem.run_pure,Result.andThen_ok,invoke,builtin,Bool.false_eq_true,if_false,Builtin.min_,hvs]
   simp only [Bool.false_eq_true,if_false] at g1
   simp [g1]
  ·simp only [execOp,resolve,Sem.run_bind,Sem.run_pure,Result.andThen_ok,invoke,builtin,if_true,Builtin.max_,hvs]
   simp only [if_true] at g1
   simp [g1]
theorem eK : ∀ {cs:List LV} {l:List UInt8} {vs:List Value},bytesL cs=some l→vs.length=cs.length→(∀ (j:Nat) (q:LV) (v:Value),cs[j]?=some q→vs[j]?=some v→VR I μ w q v) →
  ∃ ns:List Int,vs=ns.map (Value.int .u8)∧l=ns.map (fun n=>UInt8.ofNat n.toNat)
 | [],l,vs,h,hl,_=>by
  obtain rfl:vs=[]:=List.eq_nil_of_length_eq_zero hl
  simp only [bytesL,Option.some.injEq] at h
  exact ⟨[],rfl,by simp [←h]⟩
 | x::r,l,vs,h,hl,hv=>by
  cases vs with
  | nil=>cases hl
  | cons v vs=>
   unfold bytesL at h
   split at h
   ·rename_i h';cases h'
   ·rename_i n r' h'
    obtain ⟨rfl,rfl⟩:=List.cons.inj h'
    split at h
    case h_2=>cases h
    rename_i l' hl'
    obtain rfl:=Option.some.inj h
    obtain ⟨ns,h1,h2⟩:=eK (vs:=vs) hl' (by simpa using hl) (fun j q v hj hv'=>hv (j+1) q v hj hv')
    refine ⟨n::ns,?_,?_⟩
    ·rw [bh (hv 0 _ v rfl rfl),h1];rfl
    ·rw [h2];rfl
   ·cases h
theorem AZ : ∀ (x y:List UInt8),Extern.BytealgCompare.cmp ⟨x.toArray⟩ ⟨y.toArray⟩=cmpL x y:=by
 have g : ∀ (l:List UInt8) (j:Nat),((⟨l.toArray⟩:ByteArray)[j]!)=(l[j]?).getD 0:=fun l j=>by
  by_cases h:j<l.length
  ·rw [getElem!_pos (⟨l.toArray⟩:ByteArray) j h]
   show l.toArray[j]=_
   simp [h]
  ·rw [getElem!_neg (⟨l.toArray⟩:ByteArray) j h,List.getElem?_eq_none (by omega)]
   rfl
 have e : ∀ (x y:List UInt8),Extern.BytealgCompare.cmp ⟨x.toArray⟩ ⟨y.toArray⟩=(match (List.range (min x.length y.length)).find? fun i=>(x[i]?).getD 0 != (y[i]?).getD 0 with
   | some i=>if (x[i]?).getD 0<(y[i]?).getD 0 then -1 else 1
   | none=>if x.length<y.length then -1 else if x.length>y.length then 1 else 0):=fun x y=>by
  unfold Extern.BytealgCompare.cmp
  simp only [g]
  rfl
 intro x
 induction x with
 | nil=>intro y;rw [e];cases y<;>simp [cmpL]
 | cons a x ih=>
  intro y
  cases y with
  | nil=>rw [e];simp [cmpL]
  | cons b y=>
   have ih:=ih y
   rw [e] at ih ⊢
   have hm:min (a::x).length (b::y).length=min x.length y.length+1:=by simp only [List.length_cons];omega
   rw [hm,List.range_succ_eq_map,List.find?_cons]
   simp only [List.getElem?_cons_zero,Option.getD_some]
   by_cases h:a=b
   ·subst h
    simp only [bne_self_eq_false,Bool.false_eq_true,if_false,cmpL,if_true]
    rw [List.find?_map,←ih]
    have hf:((fun i=>((a::x)[i]?).getD 0 != ((a::y)[i]?).getD 0) ∘ Nat.succ)=fun i=>(x[i]?).getD 0 != (y[i]?).getD 0:=by funext i;simp
    rw [hf]
    cases (List.range (min x.length y.length)).find? fun i=>(x[i]?).getD 0 != (y[i]?).getD 0 with
    | none=>simp
    | some i=>simp
   ·have hb:(a != b)=true:=by simpa using h
    simp only [hb,if_true,cmpL,if_neg h,List.getElem?_cons_zero,Option.getD_some]
theorem kV {lv:LV} {v:Value} {cs:List LV} {n:Nat} {l:List UInt8} (hH:HR I μ w T (look c.H c.nx h)) (hs:slCells c.H c.nx h lv=some (cs,n)) (hT : ∀ id∈ids lv,T id) (hv:VR I μ w lv v) (hn:cs.length=n) (hl:bytesL cs=some l):
  (Extern.Bytes.bytesOf v).run P w = .ok ⟨l.toArray⟩ w:=by
 have fin : ∀ (b o m:Nat) (vs:List Value),vs.length=cs.length→m=cs.length→(∀ (j:Nat) v,vs[j]?=some v→w.cell? ⟨b,o+j,none⟩=some v)→(∀ (j:Nat) l v,cs[j]?=some l→vs[j]?=some v→VR I μ w l v) →
   (Extern.Bytes.loadBytes ⟨b,o,none⟩ m .empty).run P w = .ok ⟨l.toArray⟩ w:=by
  intro b o m vs h1 hm h2 h3
  obtain ⟨ns,rfl,rfl⟩:=eK hl h1 h3
  rw [List.length_map] at h1
  have:=Lib.run_loadBytesX (P:=P) w ns ⟨b,o,none⟩ .empty (fun j x hj=>by
   rw [bX]
   exact h2 j _ (by rw [List.getElem?_map,hj];rfl))
  rw [show ns.length=m by omega] at this
  rw [this]
  congr 1
  apply ByteArray.ext
  simp [Lib.bytesOf]
 unfold slCells at hs
 split at hs
 ·simp only [Option.some.injEq,Prod.mk.injEq] at hs
  obtain ⟨rfl,rfl⟩:=hs
  obtain rfl:=bh hv
  simp only [bytesL,Option.some.injEq] at hl
  subst hl
  simp [Extern.Bytes.bytesOf]
  rfl
 ·rename_i b
  simp only [Option.some.injEq,Prod.mk.injEq] at hs
  obtain ⟨rfl,rfl⟩:=hs
  obtain rfl:=bh hv
  have : ∀ q:List UInt8,bytesL (q.map fun x=>LV.int .u8 x.toNat)=some q:=by
   intro q
   induction q with
   | nil=>rfl
   | cons a r ih=>simp [bytesL,ih]
  rw [this] at hl
  obtain rfl:=Option.some.inj hl
  simp [Extern.Bytes.bytesOf]
 ·rename_i zs len sz' full
  simp only [Option.some.injEq,Prod.mk.injEq] at hs
  obtain ⟨rfl,rfl⟩:=hs
  obtain ⟨a0,cap,rfl,⟨rfl,rfl⟩|⟨b,o,rfl,_,hat⟩,_⟩:=hv.pp.sl_at (μ:=μ)
  ·simp only [List.map_nil,bytesL,Option.some.injEq] at hl
   subst hl
   simp [Extern.Bytes.bytesOf,Extern.Bytes.loadBytes]
   rfl
  ·obtain ⟨vs,h1,h2,h3,h4⟩:=hat.vals
   exact fin b o len vs h1 hn.symm h3 h4
 ·rename_i id off len sz' cp ex
  split at hs
  case h_2=>cases hs
  rename_i zs hlk
  split at hs
  case isFalse=>cases hs
  rename_i hle
  simp only [Option.some.injEq,Prod.mk.injEq] at hs
  obtain ⟨rfl,rfl⟩:=hs
  obtain ⟨b,o,s,e,hm,_,_,_,hat⟩:=hH.obj id _ (hT id (by simp [ids])) hlk
  obtain ⟨b',o',s',o2,cap,hm',rfl,hoo,hlen,_⟩:=bF hv
  rw [hm] at hm'
  obtain ⟨rfl,rfl,rfl⟩:b=b'∧o=o'∧s=s':=by simpa using hm'
  obtain ⟨vs,h1,h2,h3,h4⟩:=((At.drop (I:=I) (μ:=μ) (w:=w) (b:=b) (o:=o) (cs:=zs) hat off).take (len*sz')).vals
  rcases hoo with h0|h0
  ·have hl0:len=0:=by omega
   subst hl0
   simp only [Nat.zero_mul,List.take_zero,bytesL,Option.some.injEq] at hl
   subst hl
   simp [Extern.Bytes.bytesOf,Extern.Bytes.loadBytes]
   rfl
  ·subst h0
   exact fin b (o+off) len vs h1 hn.symm h3 h4
 ·cases hs
theorem vh {fn:Func} (h:cmpOk fn=true):Extern.findNext fn=none∧Extern.find fn=some Extern.BytealgCompare.compare∧fn.body.isNone=true∧fn.name ≠ "runtime.NumGoroutine":=by
 simp only [cmpOk,Bool.and_eq_true,beq_iff_eq,Option.isNone_iff_eq_none] at h
 obtain ⟨⟨h1,h2⟩,h3⟩:=h
 have e0:Extern.allGenericRows.lookup "internal/bytealg.Compare" = none:=by kernel_rfl
 have e1:Extern.allTypedRows.lookup "internal/bytealg.Compare" = none:=by kernel_rfl
 have e2:Extern.allRows.lookup "internal/bytealg.Compare" = some Extern.BytealgCompare.compare:=by kernel_rfl
 have e3:Extern.allNextRows.lookup "internal/bytealg.Compare" = none:=by kernel_rfl
 refine ⟨?_,?_,by rw [h1];rfl,by rw [h2];decide⟩
 ·simp only [Extern.findNext,h2,e3,h3,Option.map_none]
  rfl
 ·simp only [Extern.find,h2,e0,e1,e2,Option.map_none]
  rfl
theorem yf (hH:HR I μ w T (look c.H c.nx h)) (ho:Opds c env a I μ w) (hT : ∀ id∈r.tch,T id) {fn:Func} {f:FuncId} (hf:P.funcs[f]?=some fn) (hk:cmpOk fn=true) {x y:Operand} {ats:Array TypeId}
  (hr:evOp c dr env h (.cmpB (copd x) (copd y))=some r):
  DoesOp P c h a w I μ r T ⟨dst,.call { callee:=.value (.func f),args := #[x,y],argTypes:=ats },ty,pos,after,guard⟩:=by
 obtain ⟨k1,k2,k3,k4⟩:=vh hk
 have hx:=ho x
 have hy:=ho y
 simp only [evOp] at hr
 split at hr
 case h_2=>cases hr
 rename_i c1 n1 c2 n2 hc1 hc2
 split at hr
 case isFalse=>cases hr
 rename_i hn
 split at hr
 case h_2=>cases hr
 rename_i l1 l2 hl1 hl2
 obtain rfl:=Option.some.inj hr
 have r1:=kV (P:=P) hH hc1 (fun id hi=>hT id (by simp [hi])) hx hn.1 hl1
 have r2:=kV (P:=P) hH hc2 (fun id hi=>hT id (by simp [hi])) hy hn.2 hl2
 have hc:=run_callFunc_extern (P:=P) hf (by simpa using k4) k3 k1 k2 #[a.eval x,a.eval y] w
 have hrun:(Extern.BytealgCompare.compare #[a.eval x,a.eval y]).run P w = .ok (.int .i64 (cmpL l1 l2)) w:=by
  have q:Extern.BytealgCompare.compare #[a.eval x,a.eval y]=(do pure (goInt (Extern.BytealgCompare.cmp (← Extern.Bytes.bytesOf (a.eval x)) (← Extern.Bytes.bytesOf (a.eval y))))):=rfl
  rw [q]
  simp only [Sem.run_bind,r1,r2,Result.andThen_ok,Sem.run_pure,AZ]
  rfl
 rw [hrun] at hc
 simp only [Result.andThen_ok] at hc
 have hev:a.eval (.func f) = .func (.func f) #[] #[]:=rfl
 refine aj hH ah (v:=.int .i64 (cmpL l1 l2)) ?_ (.p (.s _))
 simp [execOp,resolve,hev,Deferred.ofValue,invoke,hc]
theorem jd : ∀ (ns:List Int) (s:ByteArray),ns.foldl (fun r n=>r.push (UInt8.ofNat n.toNat)) s=⟨s.data++(ns.map (fun n=>UInt8.ofNat n.toNat)).toArray⟩
 | [],s=>by simp
 | n::ns,s=>by
  rw [List.foldl_cons,jd ns]
  congr 1
  apply Array.ext'
  simp [ByteArray.push]
theorem pU (hH:HR I μ w T (look c.H c.nx h)) (ho:Opds c env a I μ w) (hμ : ∀ id,newN c h r.h id→μ id=none) (hT : ∀ id∈r.tch,T id) {src d:TypeId} {x:Operand} (hr:evOp c dr env h (cop P imT (.convert src d x))=some r):
  DoesOp P c h a w I μ r T ⟨dst,.convert src d x,ty,pos,after,guard⟩:=by
 have hx:=ho x
 simp only [cop] at hr
 split at hr
 ·rename_i k k' hs hd
  simp only [evOp] at hr
  split at hr
  case h_2=>cases hr
  rename_i k2 n hv
  obtain rfl:=Option.some.inj hr
  rw [hv] at hx
  exact aj hH ah (v:=.int k' (k'.wrap n)) (by simp [execOp,convert,run_underlying hs,run_underlying hd,bh hx,Conv.intToInt]) (.p (.s _))
 ·rename_i hs hd
  simp only [evOp] at hr
  split at hr
  case h_2=>cases hr
  rename_i b hv
  obtain rfl:=Option.some.inj hr
  rw [hv] at hx
  exact aj hH ah (v:=.string b) (by simp [execOp,convert,run_underlying hs,run_underlying hd,bh hx]) (.p (.s _))
 ·rename_i e hs hd
  split at hr
  case h_2=>simp [evOp] at hr
  rename_i he
  simp only [evOp] at hr
  split at hr
  case h_2=>cases hr
  rename_i b hv
  rw [hv] at hx
  have hcap:b.size≤grownCap w b.size 0 e:=by unfold grownCap Question.cut;exact Nat.le_add_right _ _
  have hbs:b.data.size=b.size:=rfl
  have hrun:(execOp a.eval ⟨dst,.convert src d x,ty,pos,after,guard⟩).run P w = .ok (.value (.slice (some ⟨w.heap.size,0,none⟩) b.size (grownCap w b.size 0 e)))
    (w.drew.alloc (.cells (bytesRow b (grownCap w b.size 0 e)) e ((bytesRow b (grownCap w b.size 0 e)).size,(bytesRow b (grownCap w b.size 0 e)).size+1))):=by
   have:=run_bytes_of_string (P:=P) w src d e b hs hd he
   simp only [execOp,bh hx,Sem.run_bind,this,Result.andThen_ok]
   rfl
  have hrow:bytesRow b (grownCap w b.size 0 e)=(b.data.map fun b=>Value.int .u8 b.toNat)++Array.replicate (grownCap w b.size 0 e-b.size) (.int .u8 0):=rfl
  rw [hrow] at hrun
  ·obtain rfl:=Option.some.inj hr
   refine kY hH ah w.drew (.inr rfl) (cs:=b.data.toList.map fun x=>.s (.int .u8 x.toNat)) _ e _ (by simp only [List.length_map,Array.length_toList,Array.size_append,Array.size_map];omega) (fun j u hj hu => ?_) (fun j l u hl hu => ?_) hrun fun I' w' hb hat => ?_
   ·simp at hj
    rw [Array.getElem?_append_left (by simpa using hj),Array.getElem?_map,Option.map_eq_some_iff] at hu
    obtain ⟨q,_,rfl⟩:=hu;rfl
   ·rw [List.getElem?_map,Option.map_eq_some_iff] at hl
    obtain ⟨q,hq,rfl⟩:=hl
    have hj:j<b.data.size:=by simpa using (List.getElem?_eq_some_iff.1 hq).1
    rw [Array.getElem?_append_left (by simpa using hj),Array.getElem?_map,Option.map_eq_some_iff] at hu
    obtain ⟨q',hq',rfl⟩:=hu
    rw [Array.getElem?_toList] at hq
    obtain rfl:q=q':=Option.some.inj (hq.symm.trans hq')
    exact .s _
   ·exact .p (oJ hb hat b.size 1 _ false hcap (fun h=>by cases h))
 ·rename_i e hs hd
  split at hr
  case h_2=>simp [evOp] at hr
  rename_i he
  simp only [evOp] at hr
  split at hr
  case h_1=>cases hr
  rename_i hns
  split at hr
  case h_2=>cases hr
  rename_i cs n hcs
  split at hr
  case isFalse=>cases hr
  rename_i hcn
  split at hr
  case h_2=>cases hr
  rename_i l hl
  obtain rfl:=Option.some.inj hr
  obtain ⟨vals,g1,g2,g3,g4,g5⟩:=fQ (P:=P) (sz:=1) hH hcs hT hx (by omega)
  obtain ⟨ns,h1,h2⟩:=eK hl (by omega) g3
  have hsl : ∃ base len cap,a.eval x = .slice base len cap∧len=n∧(base=none→len=0):=by
   generalize opd c env (copd x)=lv at*
   unfold slCells at hcs
   split at hcs
   ·simp only [Option.some.injEq,Prod.mk.injEq] at hcs
    exact ⟨none,0,0,bh hx,hcs.2,fun _=>rfl⟩
   ·exact absurd rfl (hns _)
   ·simp only [Option.some.injEq,Prod.mk.injEq] at hcs
    obtain ⟨a0,cap,he,_⟩:=hx.pp.sl_at (μ:=μ)
    exact ⟨_,_,cap,he,hcs.2,fun h=>by cases h⟩
   ·split at hcs
    case h_2=>cases hcs
    split at hcs
    case isFalse=>cases hcs
    simp only [Option.some.injEq,Prod.mk.injEq] at hcs
    obtain ⟨b,o,s,o2,cap,hm,he,_⟩:=bF hx
    exact ⟨_,_,cap,he,hcs.2,fun h=>by cases h⟩
   ·cases hcs
  obtain ⟨base,len,cap,hev,rfl,hb0⟩:=hsl
  refine aj hH ah (v:=.string ⟨l.toArray⟩) ?_ (.p (.s _))
  have hconv:(Conv.bytesToString (.slice base len cap)).run P w = .ok (.string ⟨l.toArray⟩) w:=by
   cases base with
   | none=>
    have:l=[]:=by
     have:=hb0 rfl
     have hl0:vals.length=0:=by omega
     have:ns=[]:=List.eq_nil_of_length_eq_zero (by rw [h1] at hl0;simpa using hl0)
     rw [h2,this];rfl
    subst this
    simp [Conv.bytesToString]
    rfl
   | some ad=>
    have hf:=g5 w rfl len (Nat.le_refl _)
    rw [hev] at hf
    simp only [Builtin.firstCells,Nat.mul_one] at hf
    rw [List.take_of_length_le (by omega),h1] at hf
    rw [run_bytesToString w ad len cap ns hf,jd,h2]
    simp
  have:=run_convert_bytes_string (P:=P) w src d e base len cap hs he hd
  simp only [execOp,Sem.run_bind,hev,this,hconv,Result.andThen_ok]
  rfl
 ·simp [evOp] at hr
theorem bD {o:Option Operand} {n:Option Nat} (ho:Opds c env a I μ w) (h:optMap (opd c env) (o.map copd)=some n):
  (o=none∧n=none)∨∃ x m k,o=some x∧n=some m∧a.eval x = .int k (m:Int):=by
 cases o with
 | none=>simp [optMap] at h;exact .inl ⟨rfl,h.symm⟩
 | some x=>
  simp only [Option.map_some,optMap] at h
  split at h
  case h_2=>cases h
  rename_i m hm
  obtain ⟨k,hk⟩:=bI hm (ho x)
  exact .inr ⟨x,m,k,rfl,(Option.some.inj h).symm,hk⟩
theorem gf {isS:Bool} {len cap:Nat} {lo hi mx:Option Operand} {l m n:Option Nat} (hl:(lo=none∧l=none)∨∃ x m k,lo=some x∧l=some m∧a.eval x = .int k (m:Int))
  (hm:(hi=none∧m=none)∨∃ x q k,hi=some x∧m=some q∧a.eval x = .int k (q:Int)) (hn:(mx=none∧n=none)∨∃ x q k,mx=some x∧n=some q∧a.eval x = .int k (q:Int))
  (h1:l.getD 0≤m.getD len) (h2:m.getD len≤n.getD cap) (h3:n.getD cap≤cap) (h4:n.isSome→m.isSome):
  (Instr.sliceBounds isS len cap (lo.map a.eval) (hi.map a.eval) (mx.map a.eval)).run P w = .ok (l.getD 0,m.getD len,n.getD cap) w:=by
 rcases hl with ⟨rfl,rfl⟩|⟨xl,ml,kl,rfl,rfl,el⟩<;>rcases hm with ⟨rfl,rfl⟩|⟨xm,mm,km,rfl,rfl,em⟩<;>rcases hn with ⟨rfl,rfl⟩|⟨xn,mn,kn,rfl,rfl,en⟩ <;>
  simp_all [Instr.sliceBounds,Instr.sliceBound,asIntOf]<;>omega
theorem vW (hH:HR I μ w T (look c.H c.nx h)) (ho:Opds c env a I μ w) (hT : ∀ id∈r.tch,T id) {t:TypeId} {x:Operand} {lo hi mx:Option Operand} (hr:evOp c dr env h (cop P imT (.slice t x lo hi mx))=some r):
  DoesOp P c h a w I μ r T ⟨dst,.slice t x lo hi mx,ty,pos,after,guard⟩:=by
 have hx:=ho x
 simp only [cop] at hr
 split at hr
 ·rename_i hu
  split at hr
  case isTrue=>simp [evOp] at hr
  rename_i hmx
  have hmx':mx=none:=by cases mx<;>simp at hmx ⊢
  subst hmx'
  simp only [evOp] at hr
  split at hr
  case h_2=>cases hr
  rename_i b l m hv hl hm
  split at hr
  case isFalse=>cases hr
  rename_i hc
  obtain rfl:=Option.some.inj hr
  rw [hv] at hx
  have hb:=gf (P:=P) (w:=w) (isS:=false) (len:=b.size) (cap:=b.size) (mx:=none) (n:=none) (bD ho hl) (bD ho hm) (.inl ⟨rfl,rfl⟩) hc.1 (by simpa using hc.2) (by simp) (by simp)
  refine aj hH ah (v:=.string (b.extract (l.getD 0) (m.getD b.size))) ?_ (.p (.s _))
  simp only [Option.map_none] at hb
  simp [execOp,Instr.sliceAt,Instr.slice,run_underlying hu,bh hx,hb]
 ·rename_i e hu
  split at hr
  case h_2=>simp [evOp] at hr
  rename_i s hs
  simp only [evOp] at hr
  split at hr
  case h_2=>cases hr
  rename_i l m n hl hm hn
  split at hr
  case h_2=>cases hr
  rename_i v hsl
  obtain rfl:=Option.some.inj hr
  have hrun : ∀ {base:Option Addr} {len cap:Nat},a.eval x = .slice base len cap→l.getD 0≤m.getD len→m.getD len≤n.getD cap→n.getD cap≤cap→(n.isSome→m.isSome) →
    (execOp a.eval ⟨dst,.slice t x lo hi mx,ty,pos,after,guard⟩).run P w = .ok (.value (.slice (if n.getD cap=l.getD 0 then base else base.map (·.add (l.getD 0*s))) (m.getD len-l.getD 0) (n.getD cap-l.getD 0))) w:=fun he q1 q2 q3 q4=>by
   have hb:=gf (P:=P) (w:=w) (isS:=true) (bD ho hl) (bD ho hm) (bD ho hn) q1 q2 q3 q4
   simp [execOp,Instr.sliceAt,Instr.slice,run_underlying hu,he,hb,cA hs]
  unfold sliceO at hsl
  split at hsl
  ·rename_i hv
   split at hsl
   case isFalse=>cases hsl
   rename_i hc
   obtain rfl:=Option.some.inj hsl
   rw [hv] at hx
   refine aj hH ah (v:=.slice none 0 0) ?_ (.p (.s _))
   have hl0:l.getD 0=0:=hc.1
   have hm0:m.getD 0=0:=hc.2.1
   have hn0:n.getD 0=0:=hc.2.2.1
   have:=hrun (bh hx) (by omega) (by omega) (by omega) hc.2.2.2
   rw [this,hl0,hm0,hn0]
   simp
  ·rename_i cs len s' full hv
   split at hsl
   case isFalse=>cases hsl
   rename_i hc
   obtain ⟨rfl,hcl⟩:=hc
   rw [hv] at hx
   obtain ⟨a0,cap,he,hor,hlen,hfull⟩:=hx.pp.sl_at (μ:=μ)
   have mk : ∀ (l h k:Nat) (fl:Bool),l≤h→h≤k→h≤len→k≤cap→(fl=true→k=h) →
     VR I μ w (.p (.sl ((cs.drop (l*s')).take ((h-l)*s')) (h-l) s' fl)) (.slice (if k=l then some a0 else (some a0).map (·.add (l*s'))) (h-l) (k-l)):=by
    intro l h k fl h1 h2 h3 h4 h5
    rcases hor with ⟨rfl,rfl⟩|⟨b,o,rfl,hb,hat⟩
    ·obtain ⟨rfl,rfl⟩:l=0∧h=0:=by omega
     simp only [List.drop_nil,List.take_nil,Nat.zero_sub]
     have ha : ∀ x:Option Addr,x.isSome→VR I μ w (.p (.sl [] 0 s' fl)) (.slice x 0 (k-0)):=by
      intro x hx
      obtain ⟨y,rfl⟩:=Option.isSome_iff_exists.1 hx
      exact .p (.sl0 _ _ _ _ (fun hf=>by have:=h5 hf;omega))
     exact ha _ (by split<;>rfl)
    by_cases hk:k=l
    ·rw [if_pos hk]
     have:h-l=0:=by omega
     rw [this,Nat.zero_mul,List.take_zero]
     exact .p (oJ (μ:=μ) hb (fun j l hj=>by simp at hj) _ _ _ _ (by omega) (fun hf=>by omega))
    ·rw [if_neg hk,Option.map_some,bX]
     refine .p (oJ (μ:=μ) hb ?_ _ _ _ _ (by omega) (fun hf=>by have:=h5 hf;omega))
     rw [List.map_take,List.map_drop]
     exact (hat.drop _).take _
   cases n with
   | none=>
    simp only [] at hsl
    split at hsl
    case isFalse=>cases hsl
    rename_i hq
    obtain rfl:=Option.some.inj hsl
    have:=hrun he hq.1 (by simpa using (by omega:m.getD len≤cap)) (by simp) (by simp)
    exact aj hH ah this (mk _ _ _ _ hq.1 (by simp;omega) hq.2 (by simp) (fun hf=>by simp at hf ⊢;rw [hfull hf.1,hf.2]))
   | some k=>
    simp only [] at hsl
    split at hsl
    case isFalse=>cases hsl
    rename_i hq
    obtain rfl:=Option.some.inj hsl
    have:=hrun he hq.1 (by simpa using hq.2.1) (by simp;omega) (fun _=>hq.2.2.2)
    exact aj hH ah this (mk _ _ _ _ hq.1 (by simpa using hq.2.1) (by omega) (by simp;omega) (fun hf=>by simp at hf ⊢;exact hf.symm))
  ·rename_i id off len s' cp ex hv
   split at hsl
   case isFalse=>cases hsl
   rename_i hc
   subst hc
   rw [hv] at hx
   obtain ⟨b,o,S,o2,cap,hm',he,hoo,hlen,hex,hroom,hcp,hlcp⟩:=bF hx
   have mk : ∀ (l h k cp':Nat) (ex':Bool),l≤h→h≤cp'+l→cp'≤k-l→k≤cap→h≤k→(ex'=true→k-l=cp') →
     VR I μ w (.arr id (off+l*s') (h-l) s' cp' ex') (.slice (if k=l then some ⟨b,o2,none⟩ else (some (⟨b,o2,none⟩:Addr)).map (·.add (l*s'))) (h-l) (k-l)):=by
    intro l h k cp' ex' h1 h2 h3 h4 h6 h5
    have hmul:l*s'+(k-l)*s'≤cap*s':=by rw [←Nat.add_mul];exact Nat.mul_le_mul_right _ (by omega)
    by_cases hk:k=l
    ·rw [if_pos hk]
     exact .arr id _ _ _ _ _ b o S o2 _ hm' (.inl (by omega)) (by omega) h3 h5 (by omega)
    ·rw [if_neg hk,Option.map_some,bX]
     exact .arr id _ _ _ _ _ b o S _ _ hm' (.inr (by have:=hoo.resolve_left (by omega);omega)) (by omega) h3 h5 (by omega)
   cases n with
   | none=>
    simp only [] at hsl
    split at hsl
    case isFalse=>cases hsl
    rename_i hq
    obtain rfl:=Option.some.inj hsl
    have:=hrun he hq.1 (by simpa using (by omega:m.getD len≤cap)) (by simp) (by simp)
    exact aj hH ah this (mk _ _ _ _ _ hq.1 (by omega) (by simp;omega) (by simp) (by simp;omega) (fun hf=>by simp [hex hf]))
   | some k=>
    simp only [] at hsl
    split at hsl
    case isFalse=>cases hsl
    rename_i hq
    obtain rfl:=Option.some.inj hsl
    have:=hrun he hq.1 (by simpa using hq.2.1) (by simp;omega) (fun _=>hq.2.2.2)
    exact aj hH ah this (mk _ _ _ _ _ hq.1 (by omega) (by simp) (by simp;omega) (by simpa using hq.2.1) (fun hf=>by simp))
  ·cases hsl
 ·rename_i n e hu
  split at hr
  case h_2=>simp [evOp] at hr
  rename_i s hs
  simp only [evOp] at hr
  split at hr
  case h_2=>cases hr
  rename_i id off l m hv hl hm hn
  split at hr
  case h_2=>cases hr
  rename_i cs hlk
  split at hr
  case isFalse=>cases hr
  rename_i hfit
  split at hr
  case h_2=>cases hr
  rename_i v hsl
  obtain rfl:=Option.some.inj hr
  have hmx:mx=none:=by
   rcases bD ho hn with ⟨h,_⟩|⟨_,_,_,_,h,_⟩
   ·exact h
   ·cases h
  subst hmx
  rw [hv] at hx
  obtain ⟨b,o,S,hm',he⟩:=dh hx
  obtain ⟨b',o',S',e',hm2,hsh,hcs,hfz,hat⟩:=hH.obj id _ (hT id (by simp)) hlk
  rw [hm'] at hm2
  obtain ⟨rfl,rfl,rfl⟩:b=b'∧o=o'∧S=S':=by simpa using hm2
  simp only [sliceO,if_true] at hsl
  split at hsl
  case isFalse=>cases hsl
  rename_i hq
  obtain rfl:=Option.some.inj hsl
  have hb:=gf (P:=P) (w:=w) (isS:=false) (len:=n) (cap:=n) (mx:=none) (n:=none) (bD ho hl) (bD ho hm) (.inl ⟨rfl,rfl⟩) hq.1 (by simpa using hq.2) (by simp) (by simp)
  simp only [Option.map_none,Option.getD_none] at hb
  have hrun:(execOp a.eval ⟨dst,.slice t x lo hi none,ty,pos,after,guard⟩).run P w = .ok (.value (.slice (some (if n=l.getD 0 then ⟨b,o+off,none⟩ else ⟨b,o+off+l.getD 0*s,none⟩)) (m.getD n-l.getD 0) (n-l.getD 0))) w:=by
   simp [execOp,Instr.sliceAt,run_underlying hu,he,Instr.sureAddr,hb,cA hs,bX]
  have hmul:l.getD 0*s+(n-l.getD 0)*s=n*s:=by rw [←Nat.add_mul];congr 1;omega
  refine aj hH ah hrun ?_
  by_cases hk:n=l.getD 0
  ·rw [if_pos hk]
   exact .arr id _ _ _ _ _ b o S _ _ hm' (.inl (by omega)) (by omega) (Nat.le_refl _) (fun _=>rfl) (by omega)
  ·rw [if_neg hk]
   exact .arr id _ _ _ _ _ b o S _ _ hm' (.inr (by omega)) (by omega) (Nat.le_refl _) (fun _=>rfl) (by omega)
 ·simp [evOp] at hr
theorem m5 (hH:HR I μ w T (look c.H c.nx h)) (ho:Opds c env a I μ w) (hμ : ∀ id,newN c h r.h id→μ id=none) {t:TypeId} {x y:Operand} (hr:evOp c dr env h (cop P imT (.makeSlice t x y))=some r):
  DoesOp P c h a w I μ r T ⟨dst,.makeSlice t x y,ty,pos,after,guard⟩:=by
 simp only [cop] at hr
 split at hr
 case h_2=>simp [evOp] at hr
 rename_i e hu
 split at hr
 case h_2=>simp [evOp] at hr
 rename_i s bytes z hs hb hz
 obtain ⟨i,zv,hi,hzv,h1,hzz⟩:=bN hz
 simp only [evOp] at hr
 split at hr
 case h_2=>cases hr
 rename_i len cap hl hc
 split at hr
 case isFalse=>cases hr
 rename_i hcond
 obtain ⟨hle,hby,h62,hzl⟩:=hcond
 obtain rfl:=Option.some.inj hr
 obtain ⟨k1,hx⟩:=bI hl (ho x)
 obtain ⟨k2,hy⟩:=bI hc (ho y)
 obtain ⟨i',hi',hsz⟩:=dg hs
 obtain rfl:i=i':=Option.some.inj (hi.symm.trans hi')
 have hbb:=kD hi hb
 have hzs:zv.cells.size=s:=by rw [hzz] at hzl;simpa using hzl
 have hb':(i.bytes:Int)*(cap:Int)≤281474976710656:=by
  have:((i.bytes*cap:Nat):Int)≤281474976710656:=by rw [hbb,Nat.mul_comm];omega
  rwa [Int.natCast_mul] at this
 have hrun:=run_make (P:=P) w t e i zv hu hi hzv k1 k2 (len:Int) (cap:Int) (by omega) (by omega) hb' (by omega)
 rw [←hx,←hy] at hrun
 simp only [Int.toNat_natCast,hsz] at hrun
 have hmade:=jt (I:=I) (μ:=μ) (w:=w) h1 len (cap*s)
 rw [←hzz] at hmade
 have hms:(madeCells zv.cells (cap*s)).size=cap*s:=size_madeCells _ _
 have hls:len*s≤cap*s:=Nat.mul_le_mul_right _ hle
 refine cx hH (hμ _ (by rw [newN,eh])) w (.inl rfl) (madeCells zv.cells (cap*s)) e (0,0) (by simp) (by simp [hms,hzl];exact hls) (fun j u hj hu' => ?_) hmade.2 (by simp only [execOp,Sem.run_bind,hrun,Result.andThen_ok];rfl) fun I' μ' w' _ hm => ?_
 ·refine hmade.1 u (by rw [←Array.getElem?_toList] at hu';exact List.mem_of_getElem? hu') (.inr fun e => ?_)
  have:(cap*s)=0:=by rw [←hzs,e,Nat.mul_zero]
  have hlt:=(Array.getElem?_eq_some_iff.1 hu').1
  rw [hms] at hlt
  omega
 ·rw [hms] at hm
  exact .arr _ 0 len s cap true w.heap.size 0 _ 0 cap hm (.inr rfl) hle (Nat.le_refl _) (fun _=>rfl) (by omega)
end ops
end Go.Sx
end

section
namespace Go.Sx
open Go
def GOK (G:Nat→Option (List PV)) (I:Nat→Prop) (w:World):Prop:=∀ n cs,G n=some cs→PR I w (.imm cs 0) (.pointer (some ⟨n,0,none⟩))
structure Sim (P:Program) (G:Nat→Option (List PV)) (f:FuncId) (args:List LV) (H:Heap) (nx:Nat) (r:LV) (u:Upd) (n:List (Option Obj)):Prop where
 keys : ∀ id o,findU u id=some o→(H id).isSome=true
 body : ∃ fn,P.funcs[f]?=some fn∧fn.body.isSome=true∧fn.name ≠ "runtime.NumGoroutine"
 call : ∀ (I:Nat→Prop) (μ:Mu) (w:World) (vs:Array Value),HR I μ w (fun _=>True) H→(∀ id o,H id=some o→id<nx)→(∀ id,nx≤id→μ id=none)→GOK G I w →
  vs.size=args.length→(∀ (j:Nat) (l:LV) (v:Value),args[j]?=some l→vs[j]?=some v→VR I μ w l v) →
  Calls P f vs w (fun e w'=>∃ v I' μ',e = .returned v∧Goes I I' μ μ' w w' H (look H nx ⟨u,n⟩) (fun _=>True) (fun id=>nx≤id∧id<nx+n.length)∧VR I' μ' w' r v)
def OSound (P:Program) (G:Nat→Option (List PV)) (O:Oracle):Prop:=∀ f args H nx r u n,O f args H nx=some (r,u,n)→Sim P G f args H nx r u n
theorem bt {nx:Nat} {h:Hp} : ∀ (u:Upd),(setAll nx h u).new.length=h.new.length
 | []=>rfl
 | (id,o)::r=>by rw [setAll,aD,bt r]
theorem je {H:Heap} {nx:Nat} {h:Hp} : ∀ (u:Upd),(∀ id o,findU u id=some o→id<nx+h.new.length)→∀ j,look H nx (setAll nx h u) j=match findU u j with
  | some o=>o
  | none=>look H nx h j
 | [],_,j=>rfl
 | (id,o)::r,hu,j=>by
  have hr : ∀ i p,findU r i=some p→i<nx+h.new.length:=fun i p hi=>by
   by_cases e:i=id
   ·exact hu i o (by simp [findU,e])
   ·exact hu i p (by simp only [findU];rw [if_neg e];exact hi)
  have hid:=hu id o (by simp [findU])
  rw [setAll,bn (by rw [bt];omega),je r hr]
  simp only [findU]
  by_cases e:j=id
  ·rw [if_pos e,if_pos e]
  ·rw [if_neg e,if_neg e]
theorem dV {H:Heap} {nx:Nat} {h:Hp} {u:Upd} {n:List (Option Obj)} (hu : ∀ id o,findU u id=some o→id<nx+h.new.length) (j:Nat):
  look H nx { setAll nx h u with new:=(setAll nx h u).new++n } j=look (look H nx h) (nx+h.new.length) ⟨u,n⟩ j:=by
 have h1:=je (H:=H) u hu j
 by_cases hj:j<nx+h.new.length
 ·have e1:look H nx { setAll nx h u with new:=(setAll nx h u).new++n } j=look H nx (setAll nx h u) j:=by
   unfold look
   by_cases h2:j<nx
   ·rw [if_pos h2,if_pos h2]
   ·rw [if_neg h2,if_neg h2]
    simp only []
    rw [List.getElem?_append_left (by rw [bt];omega)]
  rw [e1,h1]
  conv=>rhs;unfold look
  rw [if_pos hj]
  rfl
 ·unfold look
  rw [if_neg (by omega),if_neg hj]
  simp only []
  rw [List.getElem?_append_right (by rw [bt];omega),bt,show j-nx-h.new.length=j-(nx+h.new.length) by omega]
def cutMu (μ:Mu) (n:Nat):Mu:=fun id=>if id<n then μ id else none
theorem VR.cut {I:Nat→Prop} {μ:Mu} {w:World} {n:Nat} {l:LV} {v:Value} (h:VR I μ w l v):(∀ id∈ids l,id<n)→VR I (cutMu μ n) w l v:=by
 have hidsL : ∀ (cs:List LV) (j:Nat) (l:LV),cs[j]?=some l→∀ id∈ids l,id∈ids.idsL cs:=by
  intro cs
  induction cs with
  | nil=>intro j l hj;simp at hj
  | cons x r ih=>
   intro j l hj id hid
   simp only [ids.idsL,List.mem_append]
   cases j with
   | zero=>simp at hj;subst hj;exact .inl hid
   | succ j=>exact .inr (ih j l (by simpa using hj) id hid)
 induction h with
 | junk v=>exact fun _=>.junk v
 | p h=>exact fun _=>.p h
 | ref id off b o s h=>exact fun hid=>.ref id off b o s (by simp [cutMu,hid id (by simp [ids]),h])
 | arr id off len sz cp ex b o s o' cap h ho hlen hcp hf hs=>exact fun hid=>.arr id off len sz cp ex b o s o' cap (by simp [cutMu,hid id (by simp [ids]),h]) ho hlen hcp hf hs
 | agg cs a hl h1 _ ih=>exact fun hid=>.agg cs a hl h1 fun j l u hj hu=>ih j l u hj hu fun id h=>hid id (by simp only [ids];exact hidsL cs j l hj id h)
 | tuple cs a hl _ ih=>exact fun hid=>.tuple cs a hl fun j l u hj hu=>ih j l u hj hu fun id h=>hid id (by simp only [ids];exact hidsL cs j l hj id h)
 | fn f fs cs fa ca hl hl' _ _ ih ih'=>
  exact fun hid=>.fn f fs cs fa ca hl hl' (fun j l u hj hu=>ih j l u hj hu fun id h=>hid id (by simp only [ids,List.mem_append];exact .inl (hidsL fs j l hj id h)))
   (fun j l u hj hu=>ih' j l u hj hu fun id h=>hid id (by simp only [ids,List.mem_append];exact .inr (hidsL cs j l hj id h)))
theorem cG {cs:List LV} {j:Nat} {l:LV} (hj:cs[j]?=some l) : ∀ id∈ids l,id∈ids.idsL cs:=by
 induction cs generalizing j with
 | nil=>simp at hj
 | cons x r ih=>
  intro id hid
  simp only [ids.idsL,List.mem_append]
  cases j with
  | zero=>simp at hj;subst hj;exact .inl hid
  | succ j=>exact .inr (ih (j:=j) (by simpa using hj) id hid)
theorem kW {I I':Nat→Prop} {μ μ':Mu} {w w':World} {c:Ctx} {h:Hp} {H':Heap} {u:Upd} {n:List (Option Obj)} {T:Nat→Prop}
  (hT : ∀ id,T id→H' id=look c.H c.nx h id) (hT' : ∀ id,¬T id→H' id=none) (hk : ∀ id o,findU u id=some o→(H' id).isSome=true)
  (hμ : ∀ id,c.nx+h.new.length≤id→id<c.nx+h.new.length+n.length→μ id=none)
  (g:Goes I I' (cutMu μ (c.nx+h.new.length)) μ' w w' H' (look H' (c.nx+h.new.length) ⟨u,n⟩) (fun _=>True) (fun id=>c.nx+h.new.length≤id∧id<c.nx+h.new.length+n.length)):
  ∃ μ'',Goes I I' μ μ'' w w' (look c.H c.nx h) (look c.H c.nx { setAll c.nx h u with new:=(setAll c.nx h u).new++n }) T (newN c h { setAll c.nx h u with new:=(setAll c.nx h u).new++n }) ∧
   ∀ l v,VR I' μ' w' l v→VR I' μ'' w' l v:=by
 obtain ⟨n0,hn0⟩ : ∃ n0,n0=c.nx+h.new.length:=⟨_,rfl⟩
 have hlive : ∀ id o,H' id=some o→T id∧look c.H c.nx h id=some o:=fun id o ho=>by
  by_cases ht:T id
  ·exact ⟨ht,by rw [←hT id ht];exact ho⟩
  ·rw [hT' id ht] at ho;cases ho
 have hlt : ∀ id o,H' id=some o→id<n0:=fun id o ho=>by
  rcases Nat.lt_or_ge id n0 with h1|h1
  ·exact h1
  ·have:=(hlive id o ho).2;rw [bm (by omega)] at this;cases this
 have hu : ∀ id o,findU u id=some o→id<c.nx+h.new.length:=fun id o ho=>by
  obtain ⟨x,hx⟩:=Option.isSome_iff_exists.1 (hk id o ho)
  rw [←hn0];exact hlt id x hx
 rw [←hn0] at g hμ
 have hlook : ∀ j,look c.H c.nx { setAll c.nx h u with new:=(setAll c.nx h u).new++n } j=look (look c.H c.nx h) n0 ⟨u,n⟩ j:=fun j=>by rw [hn0];exact dV hu j
 have hN : ∀ id,newN c h { setAll c.nx h u with new:=(setAll c.nx h u).new++n } id↔(n0≤id∧id<n0+n.length):=fun id=>by
  simp only [newN,List.length_append,bt];omega
 have hsame : ∀ j,(T j∨n0≤j)→look (look c.H c.nx h) n0 ⟨u,n⟩ j=look H' n0 ⟨u,n⟩ j:=fun j hj=>by
  unfold look
  by_cases h1:j<n0
  ·rw [if_pos h1,if_pos h1]
   have:=hT j (hj.resolve_right (by omega))
   rw [this];rfl
  ·rw [if_neg h1,if_neg h1]
 have hoff : ∀ j,¬T j→j<n0→look (look c.H c.nx h) n0 ⟨u,n⟩ j=look c.H c.nx h j:=fun j hj h1=>by
  conv=>lhs;unfold look
  rw [if_pos h1]
  cases hf:findU u j with
  | none=>rfl
  | some o=>
   have:=hk j o hf
   rw [hT' j hj] at this
   cases this
 have hmu' : ∀ id,n0+n.length≤id→μ' id=none:=fun id hid=>by
  rw [g.mu id (by omega)];simp only [cutMu];rw [if_neg (by omega)]
 have hmu0 : ∀ id,id<n0→μ' id=μ id:=fun id hid=>by
  rw [g.mu id (by omega)];simp only [cutMu];rw [if_pos hid]
 have hsub : ∀ id x,μ' id=some x→(if id<n0+n.length then μ' id else μ id)=some x:=fun id x hx=>by
  rcases Nat.lt_or_ge id (n0+n.length) with h1|h1
  ·rw [if_pos h1];exact hx
  ·rw [hmu' id h1] at hx;cases hx
 have hown : ∀ b,Own (cutMu μ n0) (fun _=>True) H' b→Own μ T (look c.H c.nx h) b:=fun b ⟨id,o,_,ho,hb⟩=>by
  obtain ⟨h1,h2⟩:=hlive id o ho
  refine ⟨id,o,h1,h2,?_⟩
  simp only [blk,cutMu,if_pos (hlt id o ho)] at hb
  exact hb
 have hblk : ∀ id,id<n0+n.length→blk (fun id=>if id<n0+n.length then μ' id else μ id) id=blk μ' id:=fun id hid=>by simp [blk,hid]
 have hTlt : ∀ id o,(T id∨(n0≤id∧id<n0+n.length))→look H' n0 ⟨u,n⟩ id=some o→id<n0+n.length:=fun id o _ ho=>by
  rcases a7 ho with h1|h1
  ·omega
  ·simp only [] at h1;omega
 refine ⟨fun id=>if id<n0+n.length then μ' id else μ id,Goes.congrN ⟨fun id hn => ?_,fun id hn=>hμ id hn.1 hn.2,g.up,fun b hb=>(g.back b hb).imp (fun h=>h) (Or.imp (fun h=>h) (hown b)),g.stp.mono hown,?_,
  fun id b hn he hb => ?_,fun id ht hn => ?_,fun id hn hl => ?_⟩ hN,fun l v hv=>hv.mono (fun _ h=>h) hsub fun _ _=>rfl⟩
 ·rcases Nat.lt_or_ge id (n0+n.length) with h1|h1
  ·rw [if_pos h1];exact hmu0 id (by omega)
  ·rw [if_neg (by omega)]
 ·have hlk : ∀ id,(T id∨(n0≤id∧id<n0+n.length))→look c.H c.nx { setAll c.nx h u with new:=(setAll c.nx h u).new++n } id=look H' n0 ⟨u,n⟩ id:=fun id hd=>by
   rw [hlook,hsame id (hd.imp (fun h=>h) (fun h=>h.1))]
  refine ⟨fun id o hd ho => ?_,fun id id' o o' hd hd' ho ho' hne => ?_,fun id o b hd ho hb => ?_,g.hr.lt⟩
  ·rw [hlk id hd] at ho
   exact (g.hr.obj id o (.inl trivial) ho).mono (fun _ h=>h) hsub (fun _ _=>rfl) (fun _ _=>rfl)
  ·rw [hlk id hd] at ho
   rw [hlk id' hd'] at ho'
   rw [hblk id (hTlt id o hd ho),hblk id' (hTlt id' o' hd' ho')]
   exact g.hr.inj id id' o o' (.inl trivial) (.inl trivial) ho ho' hne
  ·rw [hlk id hd] at ho
   rw [hblk id (hTlt id o hd ho)]
   exact g.hr.imm id o b (.inl trivial) ho hb
 ·rw [hblk id hn.2] at hb
  obtain ⟨o,ho⟩:=he
  rw [hlook,hsame id (.inr hn.1)] at ho
  exact (g.new id b hn ⟨o,ho⟩ hb).imp (fun h=>h) (hown b)
 ·rw [hlook]
  rcases Nat.lt_or_ge id n0 with h1|h1
  ·exact hoff id ht h1
  ·rw [bm (show c.nx+h.new.length≤id by omega)]
   exact bm (show n0+n.length≤id by omega)
 ·rw [hlook]
  rcases Nat.lt_or_ge id n0 with h1|h1
  ·by_cases ht:T id
   ·rw [hsame id (.inl ht)]
    exact g.alive id (by omega) (by rw [hT id ht];exact hl)
   ·rw [hoff id ht h1];exact hl
  ·exact bm (show n0+n.length≤id by omega)
theorem nO {P:Program} {I:Nat→Prop} {μ:Mu} {w:World} {c:Ctx} {dr:Bool} {h:Hp} {r:Res} {f:FuncId} {args:List LV} {vs:Array Value} (hO:OSound P c.G c.O) (hr:callO c dr h f args=some r)
  (hH:HR I μ w (fun id=>dr=false∨id∈r.tch) (look c.H c.nx h)) (hμ : ∀ id,c.nx+h.new.length≤id→(dr=false∨id<c.nx+r.h.new.length)→μ id=none) (hG:GOK c.G I w)
  (hl:vs.size=args.length) (hv : ∀ (j:Nat) (l:LV) (v:Value),args[j]?=some l→vs[j]?=some v→VR I μ w l v):
  Calls P f vs w (fun e w'=>∃ v I' μ',e = .returned v∧Goes I I' μ μ' w w' (look c.H c.nx h) (look c.H c.nx r.h) (fun id=>dr=false∨id∈r.tch) (newN c h r.h)∧VR I' μ' w' r.v v):=by
 unfold callO at hr
 have hmono : ∀ n,∀ id x,cutMu μ n id=some x→μ id=some x:=fun n id x hx=>by
  simp only [cutMu] at hx
  split at hx
  ·exact hx
  ·cases hx
 split at hr
 ·rename_i hdr
  split at hr
  case h_2=>cases hr
  rename_i S hS
  split at hr
  case isFalse=>cases hr
  rename_i hall
  split at hr
  case h_2=>cases hr
  rename_i rv u n hcall
  obtain rfl:=Option.some.inj hr
  have hs:=hO _ _ _ _ _ _ _ hcall
  rw [List.all_append,Bool.and_eq_true] at hall
  have hargs : ∀ id∈ids.idsL args,id<c.nx+h.new.length:=fun id hid=>by
   have:=List.all_eq_true.1 hall.1 id hid;simpa using this
  have hobjs : ∀ id∈S,∀ o,look c.H c.nx h id=some o→∀ i∈o.ids,i<c.nx+h.new.length:=fun id hid o ho i hi=>by
   have:=List.all_eq_true.1 hall.2 i (List.mem_flatMap.2 ⟨id,hid,by rw [ho];exact hi⟩);simpa using this
  have hHS:HR I (cutMu μ (c.nx+h.new.length)) w (fun _=>True) (fun id=>if S.contains id then look c.H c.nx h id else none):=by
   have hin : ∀ id o,(if S.contains id then look c.H c.nx h id else none)=some o→id∈S∧look c.H c.nx h id=some o∧id<c.nx+h.new.length:=fun id o ho=>by
    split at ho
    ·rename_i hc
     refine ⟨by simpa using hc,ho,?_⟩
     rcases Nat.lt_or_ge id (c.nx+h.new.length) with h1|h1
     ·exact h1
     ·rw [bm h1] at ho;cases ho
    ·cases ho
   have hb : ∀ id,id<c.nx+h.new.length→blk (cutMu μ (c.nx+h.new.length)) id=blk μ id:=fun id hid=>by simp [blk,cutMu,hid]
   refine ⟨fun id o _ ho => ?_,fun id id' o o' _ _ ho ho' hne => ?_,fun id o b _ ho hb' => ?_,hH.lt⟩
   ·obtain ⟨h1,h2,h3⟩:=hin id o ho
    have hor:=hH.obj id o (.inr h1) h2
    cases o with
    | cells cs=>
     obtain ⟨b,o,s,e,hm,hsh,hle,hf,hc⟩:=hor
     refine ⟨b,o,s,e,by simp only [cutMu];rw [if_pos h3];exact hm,hsh,hle,hf,fun j l hj => ?_⟩
     obtain ⟨u,g1,g2,g3⟩:=hc j l hj
     exact ⟨u,g1,g2,g3.cut fun i hi=>hobjs id h1 _ h2 i (cG hj i hi)⟩
    | iter s q=>
     obtain ⟨b,hm,hb⟩:=hor
     exact ⟨b,by simp only [cutMu];rw [if_pos h3];exact hm,hb⟩
   ·obtain ⟨h1,h2,h3⟩:=hin id o ho
    obtain ⟨h1',h2',h3'⟩:=hin id' o' ho'
    rw [hb id h3,hb id' h3']
    exact hH.inj id id' o o' (.inr h1) (.inr h1') h2 h2' hne
   ·obtain ⟨h1,h2,h3⟩:=hin id o ho
    rw [hb id h3]
    exact hH.imm id o b (.inr h1) h2 hb'
  refine (hs.call I (cutMu μ (c.nx+h.new.length)) w vs hHS (fun id o ho => ?_) (fun id hid=>by simp only [cutMu];rw [if_neg (by omega)]) hG hl fun j l v hj hv'=>(hv j l v hj hv').cut fun i hi=>hargs i (cG hj i hi)).mono ?_
  ·split at ho
   ·rcases Nat.lt_or_ge id (c.nx+h.new.length) with h1|h1
    ·exact h1
    ·rw [bm h1] at ho;cases ho
   ·cases ho
  ·rintro e w' ⟨v,I',μ',rfl,hg,hvr⟩
   obtain ⟨μ'',g1,g2⟩:=kW (T:=fun id=>dr=false∨id∈S) (c:=c) (h:=h) (fun id ht=>by
     have hm:id∈S:=by simpa [hdr] using ht
     simp [hm]) (fun id ht=>by
     have hm : ¬id∈S:=by simpa [hdr] using ht
     simp [hm]) hs.keys (fun id h1 h2=>hμ id h1 (.inr (by simp only [List.length_append,bt];omega))) hg
   exact ⟨v,I',μ'',rfl,g1,g2 _ _ hvr⟩
 ·rename_i hdr
  have hdr':dr=false:=by simpa using hdr
  split at hr
  case h_2=>cases hr
  rename_i rv u n hcall
  obtain rfl:=Option.some.inj hr
  have hs:=hO _ _ _ _ _ _ _ hcall
  have hmu:cutMu μ (c.nx+h.new.length)=μ:=funext fun id=>by
   simp only [cutMu]
   split
   ·rfl
   ·exact (hμ id (by omega) (.inl hdr')).symm
  have hHS:HR I μ w (fun _=>True) (look c.H c.nx h):=hH.sub fun id _=>⟨.inl hdr',rfl⟩
  refine (hs.call I μ w vs hHS (fun id o ho => ?_) (fun id hid=>hμ id hid (.inl hdr')) hG hl hv).mono ?_
  ·rcases Nat.lt_or_ge id (c.nx+h.new.length) with h1|h1
   ·exact h1
   ·rw [bm h1] at ho;cases ho
  ·rintro e w' ⟨v,I',μ',rfl,hg,hvr⟩
   obtain ⟨μ'',g1,g2⟩:=kW (T:=fun id=>dr=false∨id∈([]:List Nat)) (c:=c) (h:=h) (H':=look c.H c.nx h) (fun id _=>rfl) (fun id ht=>absurd (.inl hdr') ht) hs.keys
    (fun id h1 _=>hμ id h1 (.inl hdr')) (by rw [hmu];exact hg)
   exact ⟨v,I',μ'',rfl,g1,g2 _ _ hvr⟩
end Go.Sx
end

section
namespace Go.Sx
open Go
def EnvR (I:Nat→Prop) (μ:Mu) (w:World) (env:Env) (a:Act):Prop:=∀ t,VR I μ w (get env t) (a.tmps.getD t undef)
theorem EnvR.opds {c:Ctx} {env:Env} {a:Act} {I:Nat→Prop} {μ:Mu} {w:World} (h:EnvR I μ w env a) (hG:GOK c.G I w):Opds c env a I μ w:=fun x=>by
 cases x with
 | tmp t=>exact h t
 | const v=>exact pS v
 | global g=>
  simp only [copd,opd]
  split
  ·rename_i cs hcs
   exact .p (hG g cs hcs)
  ·exact .junk _
 | func f=>exact .fn f [] [] #[] #[] rfl rfl (by simp) (by simp)
theorem gP {P:Program} {w:World} {f:FuncId} {fn:Func} {args:Array Value} (h1:P.funcs[f]?=some fn) (h2:fn.body.isSome=true) (h3:fn.name ≠ "runtime.NumGoroutine"):
  (callFunc f args).run P w = .ok (.enter f args) w:=by
 have h4:fn.body.isNone=false:=by cases h:fn.body<;>simp [h] at h2 ⊢
 simp [callFunc,h1,h3]
 intro hn
 rw [hn] at h4
 cases h4
theorem ak {P:Program} {o:Oper} {a:Act} {w:World} {I:Nat→Prop} {μ:Mu} {lk lk':Nat→Option Obj} {T N:Nat→Prop} {lv:LV} (h:Does P (execOp a.eval o) w I μ lk lk' T N lv) {next:Act→World→Prop} {Q:Exit→Act→World→Prop}
  (hK : ∀ I' μ' w' v,Goes I I' μ μ' w w' lk lk' T N→VR I' μ' w' lv v→next (a.put o.dst v) w'):o.wp P a w next Q:=by
 obtain ⟨I',μ',w',v,hr,hg,hv⟩:=h
 rcases hr with hr|⟨hr,rfl⟩
 ·unfold Oper.wp;rw [hr];exact hK I' μ' w' v hg hv
 ·unfold Oper.wp;rw [hr];exact hK I' μ' w' undef hg hv
section
variable {P:Program} {imT:TypeId→Bool} {c:Ctx} {dr:Bool} {env:Env} {h:Hp} {a:Act} {w:World} {I:Nat→Prop} {μ:Mu} {r:Res} {T:Nat→Prop}
variable {dst:Option Tmp} {ty:TypeId} {pos:String} {after:Array Edge} {guard:Option (Nat × Bool)}
theorem vV (hH:HR I μ w T (look c.H c.nx h)) (ho:Opds c env a I μ w) (hμ : ∀ id,newN c h r.h id→μ id=none) {t:TypeId} {x:Operand} (hr:evOp c dr env h (cop P imT (.range t x))=some r):
  DoesOp P c h a w I μ r T ⟨dst,.range t x,ty,pos,after,guard⟩:=by
 simp only [cop] at hr
 split at hr
 case h_2=>simp [evOp] at hr
 rename_i ht
 simp only [evOp] at hr
 split at hr
 case h_2=>cases hr
 rename_i b hx
 obtain rfl:=Option.some.inj hr
 have hxv:=ho x
 rw [hx] at hxv
 have he:a.eval x = .string b:=bh hxv
 have hrun:(execOp a.eval ⟨dst,.range t x,ty,pos,after,guard⟩).run P w = .ok (.value (.pointer (some ⟨w.heap.size,0,none⟩))) (w.alloc (.stringIter b 0)):=by
  simp [execOp,he,Instr.range,run_underlying ht]
 have g:=Goes.makeO (w:=w) (I:=I) (μ:=μ) (lk:=look c.H c.nx h) (lk':=look c.H c.nx (push h (.iter b 0))) hH.lt (c.nx+h.new.length) (hμ _ (by rw [newN,eh])) (.stringIter b 0) (.iter b 0)
  (fun j hj=>by rw [ao,if_neg hj]) (by rw [ao,if_pos rfl]) ⟨w.heap.size,by simp,by show (w.heap.push _)[w.heap.size]?=_;simp⟩
 exact ⟨_,_,_,_,.inl hrun,(g.widen hH fun _ h=>h.elim).congrN eh,.ref _ 0 w.heap.size 0 0 (by simp)⟩
theorem yi (hH:HR I μ w T (look c.H c.nx h)) (ho:Opds c env a I μ w) (hT : ∀ id∈r.tch,T id) {x:Operand} {str:Bool} (hr:evOp c dr env h (cop P imT (.next x str))=some r):
  DoesOp P c h a w I μ r T ⟨dst,.next x str,ty,pos,after,guard⟩:=by
 simp only [cop] at hr
 split at hr
 case isFalse=>simp [evOp] at hr
 rename_i hs
 subst hs
 simp only [evOp] at hr
 split at hr
 case h_2=>cases hr
 rename_i id hx
 split at hr
 case h_2=>cases hr
 rename_i b q hl
 have hxv:=ho x
 rw [hx] at hxv
 obtain ⟨bb,o',s',hm',he⟩:=dh hxv
 split at hr
 ·rename_i hq
  obtain rfl:=Option.some.inj hr
  have hTid:=hT id (by simp)
  obtain ⟨b',hm,hb⟩:=hH.obj id _ hTid hl
  rw [hm] at hm'
  obtain ⟨rfl,rfl,rfl⟩:b'=bb∧0=o'∧0=s':=by simpa using hm'
  have hblt:b'<w.heap.size:=(Array.getElem?_eq_some_iff.1 hb).1
  have hrun:(execOp a.eval ⟨dst,.next x true,ty,pos,after,guard⟩).run P w = .ok (.value (.tuple #[.bool true,.int .i64 q,.int .i32 (Utf8.decode b q).1])) (putB w b' (.stringIter b (q+(Utf8.decode b q).2))):=by
   simp [execOp,he,Instr.next,Go.getObj,Go.setObj,Sem.run,hb,hq,goInt,putB]
  have g:=Goes.writeO (o':=.iter b (q+(Utf8.decode b q).2)) (lk':=look c.H c.nx (setObj c.nx h id (some (.iter b (q+(Utf8.decode b q).2))))) hH id hTid hl hm (.stringIter b (q+(Utf8.decode b q).2))
   (fun j hj=>by rw [bn (a7 hl),if_neg hj]) (by rw [bn (a7 hl),if_pos rfl]) (fun _=>⟨b',hm,ua _ _ _ hblt⟩)
  refine ⟨_,_,_,_,.inl hrun,(g.widen hH fun _ h=>h▸hTid).congrN fun id'=>⟨fun h=>by simp [newN,aD] at h;omega,fun h=>h.elim⟩,.tuple _ _ rfl fun j l u h1 h2 => ?_⟩
  match j with
  | 0=>obtain rfl:=Option.some.inj h1;obtain rfl:=Option.some.inj h2;exact .p (.s _)
  | 1=>obtain rfl:=Option.some.inj h1;obtain rfl:=Option.some.inj h2;exact .p (.s _)
  | 2=>obtain rfl:=Option.some.inj h1;obtain rfl:=Option.some.inj h2;exact .p (.s _)
  | j+3=>cases h1
 ·rename_i hq
  obtain rfl:=Option.some.inj hr
  have hTid:=hT id (by simp)
  obtain ⟨b',hm,hb⟩:=hH.obj id _ hTid hl
  rw [hm] at hm'
  obtain ⟨rfl,rfl,rfl⟩:b'=bb∧0=o'∧0=s':=by simpa using hm'
  refine aj hH ah (v:=.tuple #[.bool false]) (by simp [execOp,he,Instr.next,Go.getObj,Sem.run,hb,hq]) (.tuple _ _ rfl fun j l u h1 h2 => ?_)
  match j with
  | 0=>obtain rfl:=Option.some.inj h1;obtain rfl:=Option.some.inj h2;exact .p (.s _)
  | j+1=>cases h1
end
theorem jT {P:Program} {imT:TypeId→Bool} {c:Ctx} {dr:Bool} {env:Env} {h:Hp} {a:Act} {w:World} {I:Nat→Prop} {μ:Mu} {r:Res} {o:Oper} (hO:OSound P c.G c.O) (hr:evOp c dr env h (cop P imT o.op)=some r)
  (hH:HR I μ w (fun id=>dr=false∨id∈r.tch) (look c.H c.nx h)) (hμ : ∀ id,c.nx+h.new.length≤id→(dr=false∨id<c.nx+r.h.new.length)→μ id=none) (hG:GOK c.G I w) (henv:EnvR I μ w env a)
  {next:Act→World→Prop} {Q:Exit→Act→World→Prop}
  (hK : ∀ I' μ' w' v,Goes I I' μ μ' w w' (look c.H c.nx h) (look c.H c.nx r.h) (fun id=>dr=false∨id∈r.tch) (newN c h r.h)→VR I' μ' w' r.v v→next (a.put o.dst v) w'):o.wp P a w next Q:=by
 have ho:=henv.opds (c:=c) hG
 have hT : ∀ id∈r.tch,(dr=false∨id∈r.tch):=fun id h=>.inr h
 have hμ' : ∀ id,newN c h r.h id→μ id=none:=fun id hn=>hμ id hn.1 (.inr hn.2)
 obtain ⟨dst,op,ty,pos,after,guard⟩:=o
 simp only at hr
 have calls : ∀ {f:FuncId} {args:List LV} {vs:Array Value},callO c dr h f args=some r→vs.size=args.length→(∀ (j:Nat) (l:LV) (v:Value),args[j]?=some l→vs[j]?=some v→VR I μ w l v) →
   ((∃ fn,P.funcs[f]?=some fn∧fn.body.isSome=true∧fn.name ≠ "runtime.NumGoroutine")→(execOp a.eval ⟨dst,op,ty,pos,after,guard⟩).run P w = .ok (.enter f vs) w)→Oper.wp P ⟨dst,op,ty,pos,after,guard⟩ a w next Q:=by
  intro f args vs hc hl hv hrun
  have hbody : ∃ fn,P.funcs[f]?=some fn∧fn.body.isSome=true∧fn.name ≠ "runtime.NumGoroutine":=by
   have hc':=hc
   unfold callO at hc'
   split at hc'
   ·split at hc'
    case h_2=>cases hc'
    split at hc'
    case isFalse=>cases hc'
    split at hc'
    case h_2=>cases hc'
    rename_i hcall
    exact (hO _ _ _ _ _ _ _ hcall).body
   ·split at hc'
    case h_2=>cases hc'
    rename_i hcall
    exact (hO _ _ _ _ _ _ _ hcall).body
  unfold Oper.wp
  rw [hrun hbody,Oper.upon_enter]
  refine (nO hO hc hH hμ hG hl hv).mono ?_
  rintro e w' ⟨v,I',μ',rfl,hg,hvr⟩
  exact hK I' μ' w' v hg hvr
 cases op with
 | move x=>exact ak (ss (ty:=ty) (pos:=pos) (after:=after) (guard:=guard) hH ho hr).1 hK
 | assign x=>exact ak (ss (ty:=ty) (pos:=pos) (after:=after) (guard:=guard) hH ho hr).2 hK
 | pick b x y=>exact ak (yj hH ho hr) hK
 | alloc t=>exact ak (vN hH hμ' hr) hK
 | box t x=>exact ak (Ak hH ho hμ' hr) hK
 | build t ps=>exact ak (vO hH ho hr) hK
 | buildSlice t n ps=>exact ak (kK hH ho hμ' hr) hK
 | load t x=>exact ak (yh hH ho hT hr) hK
 | store t x y=>exact ak (vX hH ho hT hr) hK
 | nilCheck x=>exact ak (oT hH ho hr) hK
 | binOp b t x y t'=>
  simp only [cop] at hr
  split at hr
  ·split at hr
   ·rename_i k hk
    exact ak (zt (neg:=false) hH ho hk hr) hK
   ·split at hr
    ·rename_i hk
     exact ak (vR (neg:=false) hH ho hk hr) hK
    ·exact ak (pT hH ho hr) hK
  ·split at hr
   ·rename_i k hk
    exact ak (zt (neg:=true) hH ho hk hr) hK
   ·split at hr
    ·rename_i hk
     exact ak (vR (neg:=true) hH ho hk hr) hK
    ·exact ak (pT hH ho hr) hK
  ·exact ak (pT hH ho hr) hK
 | unOp u t x=>exact ak (Bf hH ho hr) hK
 | convert s d x=>exact ak (pU hH ho hμ' hT hr) hK
 | makeFunc fn fs cs=>
  cases fn with
  | func f=>exact ak (oS hH ho hr) hK
  | _=>simp [cop,evOp] at hr
 | makeSlice t x y=>exact ak (m5 hH ho hμ' hr) hK
 | slice t x lo hi mx=>exact ak (vW hH ho hT hr) hK
 | fieldAddr t x f=>exact ak (mY hH ho hr) hK
 | field t x f=>exact ak (vS hH ho hr) hK
 | indexAddr t x i=>exact ak (mZ hH ho hr) hK
 | index t x i=>exact ak (vT hH ho hr) hK
 | extract x i=>exact ak (pV hH ho hr) hK
 | range t x=>exact ak (vV hH ho hμ' hr) hK
 | next x str=>exact ak (yi hH ho hT hr) hK
 | call cl=>
  obtain ⟨callee,args,ats⟩:=cl
  cases callee with
  | value x=>
   cases x with
   | func f=>
    simp only [cop] at hr
    split at hr
    case h_2=>simp [evOp] at hr
    rename_i fn hfn
    split at hr
    case isFalse=>
     split at hr
     case isFalse=>
      split at hr
      case isFalse=>simp [evOp] at hr
      rename_i hk
      split at hr
      case h_2=>simp [evOp] at hr
      rename_i x y ha
      have:args = #[x,y]:=by rw [←Array.toArray_toList (xs:=args),ha]
      subst this
      exact ak (yf hH ho hT hfn hk hr) hK
     rename_i hk
     split at hr
     case h_2=>simp [evOp] at hr
     rename_i e x y hu ha
     have:args = #[x,y]:=by rw [←Array.toArray_toList (xs:=args),ha]
     subst this
     split at hr
     case h_2=>simp [evOp] at hr
     rename_i s hs
     exact ak (Am hH ho hT hfn hk hu hs hr) hK
    simp only [evOp] at hr
    obtain ⟨h1,h2⟩:=eZ ho args
    rw [List.map_map] at hr
    exact calls hr h1 h2 fun ⟨fn,q1,q2,q3⟩=>by
     have:=gP (w:=w) (args := #[]++args.map a.eval ++ #[]) q1 q2 q3
     simp only [Array.append_empty,Array.empty_append] at this
     simp [execOp,resolve,Act.eval,Deferred.ofValue,invoke,this]
   | tmp t=>
    simp only [cop,evOp] at hr
    split at hr
    case h_2=>cases hr
    rename_i f fs cs hv
    have hx:=ho (.tmp t)
    rw [hv] at hx
    obtain ⟨fa,ca,he,q1,q2,q3,q4⟩:=tc hx
    obtain ⟨h1,h2⟩:=eZ ho args
    rw [List.map_map] at hr
    refine calls (vs:=fa++args.map a.eval++ca) hr ?_ ?_ fun ⟨fn,b1,b2,b3⟩ => ?_
    ·rw [Array.size_append,Array.size_append,List.length_append,List.length_append,q1,q2,h1];rfl
    ·intro j l v hj hvj
     by_cases j1:j<fs.length
     ·rw [List.append_assoc,List.getElem?_append_left j1] at hj
      rw [Array.append_assoc,Array.getElem?_append_left (by omega)] at hvj
      exact q3 j l v hj hvj
     ·rw [List.append_assoc,List.getElem?_append_right (by omega)] at hj
      rw [Array.append_assoc,Array.getElem?_append_right (by omega),q1] at hvj
      by_cases j2:j-fs.length<args.size
      ·rw [List.getElem?_append_left (by simpa using j2)] at hj
       rw [Array.getElem?_append_left (by simpa using j2)] at hvj
       exact h2 _ l v hj hvj
      ·rw [List.getElem?_append_right (by simp;omega)] at hj
       rw [Array.getElem?_append_right (by simp;omega)] at hvj
       simp only [List.length_map,Array.length_toList] at hj
       simp only [Array.size_map] at hvj
       exact q4 _ l v hj hvj
    ·simp [execOp,resolve,he,Deferred.ofValue,invoke,gP b1 b2 b3]
   | const v=>
    simp only [cop,evOp] at hr
    split at hr
    case h_2=>cases hr
    rename_i f fs cs hv
    have hx:=ho (.const v)
    rw [hv] at hx
    exfalso
    simp only [copd,opd] at hv
    cases v<;>simp [ofConst] at hv
    split at hv<;>cases hv
   | global g=>
    simp only [cop,evOp] at hr
    split at hr
    case h_2=>cases hr
    rename_i f fs cs hv
    exfalso
    simp only [copd,opd] at hv
    split at hv<;>cases hv
  | invoke x m=>simp [cop,evOp] at hr
  | builtin b=>
   cases b with
   | len=>
    simp only [cop] at hr
    split at hr
    ·rename_i x hu ha
     have:args = #[x]:=by rw [←Array.toArray_toList (xs:=args),ha]
     subst this
     exact ak (vU (str:=true) hH ho hu hr) hK
    ·rename_i e x hu ha
     have:args = #[x]:=by rw [←Array.toArray_toList (xs:=args),ha]
     subst this
     exact ak (vU (str:=false) hH ho ⟨e,hu⟩ hr) hK
    ·rename_i n e x hu ha
     have:args = #[x]:=by rw [←Array.toArray_toList (xs:=args),ha]
     subst this
     simp only [evOp,Option.some.injEq] at hr
     subst hr
     refine ak (aj hH ah (v:=.int .i64 n) ?_ (.p (.s _))) hK
     cases hq:ats[0]? with
     | none=>rw [hq] at hu;cases hu
     | some t=>
      rw [hq] at hu
      simp only [Option.bind_some] at hu
      simp [execOp,resolve,invoke,builtin,Builtin.len_,hq,run_underlying hu,goInt]
    ·simp [evOp] at hr
   | append=>
    simp only [cop] at hr
    split at hr
    case h_2=>simp [evOp] at hr
    rename_i t u x y hats ha
    have:args = #[x,y]:=by rw [←Array.toArray_toList (xs:=args),ha]
    subst this
    have:ats = #[t,u]:=by rw [←Array.toArray_toList (xs:=ats),hats]
    subst this
    split at hr
    case h_2=>simp [evOp] at hr
    rename_i e tu hu hu2
    split at hr
    case h_4=>simp [evOp] at hr
    ·rename_i s b z e' hs hb hz
     split at hr
     case isTrue=>simp [evOp] at hr
     rename_i hc
     simp only [ne_eq,not_or,Decidable.not_not] at hc
     exact ak (lO hH ho hμ' hT hu (.inr ⟨_,hu2⟩) hs hb hz hc.1 hc.2 hr) hK
    ·rename_i s b z hs hb hz
     split at hr
     case isTrue=>simp [evOp] at hr
     rename_i hc
     simp only [ne_eq,not_or,Decidable.not_not] at hc
     exact ak (lO hH ho hμ' hT hu (.inl hu2) hs hb hz hc.1 hc.2 hr) hK
    ·rename_i s b z k' hs hb hz
     split at hr
     case isTrue=>simp [evOp] at hr
     rename_i hc
     simp only [ne_eq,not_or,Decidable.not_not] at hc
     exact ak (ye hH ho hμ' hT hu hu2 hs hb hz hc.1 hc.2.1 hc.2.2 hr) hK
   | copy=>
    simp only [cop] at hr
    split at hr
    case h_2=>simp [evOp] at hr
    rename_i e x y hu ha
    have:args = #[x,y]:=by rw [←Array.toArray_toList (xs:=args),ha]
    subst this
    split at hr
    case h_2=>simp [evOp] at hr
    rename_i s hs
    split at hr
    ·exact ak (vQ hH ho hT hu hs hr) hK
    ·exact ak (yg hH ho hT hu hs hr) hK
   | cap=>
    simp only [cop] at hr
    split at hr
    case h_2=>simp [evOp] at hr
    rename_i e x hu ha
    have:args = #[x]:=by rw [←Array.toArray_toList (xs:=args),ha]
    subst this
    exact ak (Al hH ho ⟨_,hu⟩ hr) hK
   | clear=>
    simp only [cop] at hr
    split at hr
    case h_2=>simp [evOp] at hr
    rename_i e x hu ha
    have:args = #[x]:=by rw [←Array.toArray_toList (xs:=args),ha]
    subst this
    split at hr
    case h_2=>simp [evOp] at hr
    rename_i s z hs hz
    exact ak (vP hH ho hT hu hs hz hr) hK
   | min=>exact ak (lP (mx:=false) hH ho hr) hK
   | max=>exact ak (lP (mx:=true) hH ho hr) hK
   | _=>simp [cop,evOp] at hr
 | _=>simp [cop,evOp] at hr
end Go.Sx
end

section
namespace Go.Sx
open Go
section
variable {I I':Nat→Prop} {μ μ':Mu} {w w':World} {lk lk':Nat→Option Obj} {T N:Nat→Prop}
theorem Goes.lift (g:Goes I I' μ μ' w w' lk lk' T N) {lk0 lk0':Nat→Option Obj} (h:HR I μ w (fun _=>True) lk0) (hT : ∀ id,T id→lk0 id=lk id) (h1 : ∀ id,T id∨N id→lk0' id=lk' id) (h2 : ∀ id,¬T id→¬N id→lk0' id=lk0 id):
  Goes I I' μ μ' w w' lk0 lk0' (fun _=>True) N:=by
 have hown : ∀ b,Own μ T lk b→Own μ (fun _=>True) lk0 b:=fun b ⟨id,o,ht,hl,hb⟩=>⟨id,o,trivial,by rw [hT id ht];exact hl,hb⟩
 refine ⟨g.mu,g.fresh,g.up,fun b hb=>(g.back b hb).imp (fun h=>h) (Or.imp (fun h=>h) (hown b)),g.stp.mono hown,?_,fun id b hn he hb => ?_,fun id ht=>absurd trivial ht,fun id hn hl => ?_⟩
 ·exact (g.frame h (fun id ht=>⟨trivial,hT id ht⟩) h1 h2)
 ·obtain ⟨o,ho⟩:=he
  exact (g.new id b hn ⟨o,by rw [←h1 id (.inr hn)];exact ho⟩ hb).imp (fun h=>h) (hown b)
 ·by_cases ht:T id
  ·rw [h1 id (.inl ht)]
   exact g.alive id hn (by rw [←hT id ht];exact hl)
  ·rw [h2 id ht hn];exact hl
end
structure Inv (c:Ctx) (I0:Nat→Prop) (μ0:Mu) (w0:World) (nt:Nat) (env:Env) (h:Hp) (a:Act) (w:World) (I:Nat→Prop) (μ:Mu):Prop where
 env:EnvR I μ w env a
 size:nt≤a.tmps.size
 defers:a.defers=[]
 goes:Goes I0 I μ0 μ w0 w c.H (look c.H c.nx h) (fun _=>True) (fun id=>c.nx≤id∧id<c.nx+h.new.length)
 none : ∀ id,c.nx+h.new.length≤id→μ id=none
 glob:GOK c.G I w
 keys : ∀ id o,findU h.upd id=some o→(c.H id).isSome=true
 base:HR I0 μ0 w0 (fun _=>True) c.H
theorem GOK.mono {G:Nat→Option (List PV)} {I I':Nat→Prop} {w w':World} (h:GOK G I w) (hI : ∀ b,I b→I' b) (hw : ∀ b,I b→w'.heap[b]?=w.heap[b]?):GOK G I' w':=fun n cs hn=>(h n cs hn).mono hI hw
theorem gk {u:Upd} {id:Nat} {o:Option Obj} (j:Nat):findU (setU u id o) j=if j=id then some o else findU u j:=by
 induction u with
 | nil=>simp [setU,findU]
 | cons x r ih=>
  obtain ⟨k,p⟩:=x
  simp only [setU]
  by_cases h1:id=k
  ·rw [if_pos h1]
   simp only [findU]
   by_cases h2:j=k
   ·rw [if_pos h2,if_pos (by omega)]
   ·rw [if_neg h2,if_neg (by omega),if_neg h2]
  ·rw [if_neg h1]
   simp only [findU]
   by_cases h2:j=k
   ·rw [if_pos h2,if_neg (by omega),if_pos h2]
   ·rw [if_neg h2,ih,if_neg h2]
def Keys (H:Heap) (h:Hp):Prop:=∀ id o,findU h.upd id=some o→(H id).isSome=true
theorem oF {H:Heap} {nx:Nat} {h:Hp} (hk:Keys H h) {id:Nat} {x:Option Obj} (hl:(look H nx h id).isSome=true):Keys H (setObj nx h id x):=by
 intro j o hj
 unfold setObj at hj
 split at hj
 ·rename_i hlt
  rw [gk] at hj
  split at hj
  ·rename_i e
   subst e
   unfold look at hl
   rw [if_pos hlt] at hl
   split at hl
   ·rename_i o' ho';exact hk _ _ ho'
   ·exact hl
  ·exact hk j o hj
 ·exact hk j o hj
theorem oG {H:Heap} {nx:Nat} {h:Hp} (hk:Keys H h) : ∀ (u:Upd),(∀ id o,findU u id=some o→(look H nx h id).isSome=true)→Keys H (setAll nx h u)
 | [],_=>hk
 | (id,o)::r,hu=>by
  have hfirst:=hu id o (by simp [findU])
  have : ∀ (r:Upd),(∀ i,(∃ p,(i,p)∈r)→(look H nx h i).isSome=true)→Keys H (setAll nx h r):=by
   intro r
   induction r with
   | nil=>exact fun _=>hk
   | cons x r ih=>
    obtain ⟨i,p⟩:=x
    intro hr
    have h1:=ih fun j ⟨q,hq⟩=>hr j ⟨q,List.mem_cons_of_mem _ hq⟩
    intro j q hj
    rw [setAll] at hj
    unfold setObj at hj
    split at hj
    ·rename_i hlt
     rw [gk] at hj
     split at hj
     ·rename_i e
      subst e
      have hl:=hr _ ⟨p,List.mem_cons_self⟩
      unfold look at hl
      rw [if_pos hlt] at hl
      split at hl
      ·rename_i o' ho';exact hk _ _ ho'
      ·exact hl
     ·exact h1 j q hj
    ·exact h1 j q hj
  refine this ((id,o)::r) fun i ⟨p,hp⟩ => ?_
  have hex : ∀ (l:Upd),(i,p)∈l→∃ q,findU l i=some q:=by
   intro l
   induction l with
   | nil=>intro h;cases h
   | cons x l ih=>
    obtain ⟨k,q⟩:=x
    intro hm
    simp only [findU]
    by_cases e:i=k
    ·rw [if_pos e];exact ⟨_,rfl⟩
    ·rw [if_neg e]
     rcases List.mem_cons.1 hm with h' | h'
     ·cases h';exact absurd rfl e
     ·exact ih h'
  obtain ⟨q,hq⟩:=hex _ hp
  exact hu i q hq
end Go.Sx
end

section
namespace Go.Sx
open Go
inductive HpStep (c:Ctx) (dr:Bool) (h:Hp) (r:Res):Prop
 | same (h1:r.h=h)
 | push (o:Obj) (h1:r.h=push h o)
 | set (id:Nat) (x:Option Obj) (h1:r.h=setObj c.nx h id x) (hl:(look c.H c.nx h id).isSome=true) (ht:id∈r.tch) (hm:r.md=true)
 | kp (id:Nat) (o:Obj) (h1:r.h=Sx.push (setObj c.nx h id none) o) (hl:(look c.H c.nx h id).isSome=true) (ht:id∈r.tch) (hm:r.md=true)
 | call (H':Heap) (f:FuncId) (args:List LV) (rv:LV) (u:Upd) (n:List (Option Obj)) (hc:c.O f args H' (c.nx+h.new.length)=some (rv,u,n)) (hH : ∀ id,H' id=none∨H' id=look c.H c.nx h id)
   (hS:dr=true→∀ id,(H' id).isSome=true→id∈r.tch) (h1:r.h = { setAll c.nx h u with new:=(setAll c.nx h u).new++n }) (hm:r.md=!u.isEmpty)
def TchOk (c:Ctx) (dr:Bool) (h:Hp) (r:Res):Prop:=dr=true→∀ id∈r.tch,(look c.H c.nx h id).isSome=true
theorem ci {H:Heap} {nx:Nat} {h:Hp} {v:LV} {x:List LV × Nat} (hs:slCells H nx h v=some x) : ∀ id∈ids v,(look H nx h id).isSome=true:=by
 unfold slCells at hs
 split at hs
 ·intro id hid;simp [ids] at hid
 ·intro id hid;simp [ids] at hid
 ·intro id hid;simp [ids] at hid
 ·intro id hid
  simp [ids] at hid
  subst hid
  split at hs
  ·rename_i cs hl;rw [hl];rfl
  ·cases hs
 ·cases hs
theorem qh {H:Heap} {nx:Nat} {h:Hp} {m sz:Nat} {v:LV} {x:List LV × Nat} (hs:slPart H nx h m sz v=some x) : ∀ id∈ids v,(look H nx h id).isSome=true:=by
 unfold slPart at hs
 split at hs
 ·intro id hid
  simp [ids] at hid
  subst hid
  split at hs
  ·rename_i cs hl;rw [hl];rfl
  ·cases hs
 ·split at hs
  ·rename_i hz;exact ci hz
  ·cases hs
theorem ce {lk:Nat→Option Obj} : ∀ (n:Nat) (todo seen S:List Nat),reach lk n todo seen=some S→(∀ id∈seen,(lk id).isSome=true)→∀ id∈S,(lk id).isSome=true
 | 0,[],seen,S,h,hs=>by simp only [reach,Option.some.injEq] at h;subst h;exact hs
 | 0,_::_,seen,S,h,hs=>by simp [reach] at h
 | n+1,[],seen,S,h,hs=>by simp only [reach,Option.some.injEq] at h;subst h;exact hs
 | n+1,id::todo,seen,S,h,hs=>by
  simp only [reach] at h
  split at h
  ·exact ce n todo seen S h hs
  ·split at h
   ·rename_i o ho
    exact ce n _ _ S h fun i hi=>by
     rcases List.mem_append.1 hi with h' | h'
     ·exact hs i h'
     ·simp at h';subst h';rw [ho];rfl
   ·exact ce n todo seen S h hs
theorem jP {c:Ctx} {dr:Bool} {h:Hp} {f:FuncId} {args:List LV} {r:Res} (hr:callO c dr h f args=some r):HpStep c dr h r∧TchOk c dr h r:=by
 unfold callO at hr
 split at hr
 ·rename_i hdr
  split at hr
  case h_2=>cases hr
  rename_i S hS
  split at hr
  case isFalse=>cases hr
  split at hr
  case h_2=>cases hr
  rename_i rv u n hcall
  obtain rfl:=Option.some.inj hr
  refine ⟨.call _ f args rv u n hcall (fun id => ?_) (fun _ id hid => ?_) rfl rfl,fun _ id hid=>ce 1000 _ _ S hS (by simp) id hid⟩
  ·by_cases hm:id∈S
   ·exact .inr (by simp [hm])
   ·exact .inl (by simp [hm])
  ·by_cases hm:id∈S
   ·exact hm
   ·simp [hm] at hid
 ·rename_i hdr
  split at hr
  case h_2=>cases hr
  rename_i rv u n hcall
  obtain rfl:=Option.some.inj hr
  exact ⟨.call _ f args rv u n hcall (fun id=>.inr rfl) (fun h=>absurd h hdr) rfl rfl,fun h=>absurd h hdr⟩
theorem tp {c:Ctx} {dr:Bool} {h:Hp} {sz bytes:Nat} {x y:LV} {r:Res} (hr:appO c h sz bytes x y=some r):HpStep c dr h r∧TchOk c dr h r:=by
 unfold appO at hr
 split at hr
 case h_1=>cases hr
 rename_i yc n hy
 have hyt:=ci hy
 split at hr
 case isTrue=>cases hr
 split at hr
 ·split at hr
  all_goals first
   | (cases hr;done)
   | (obtain rfl:=Option.some.inj hr;exact ⟨.same rfl,fun _=>hyt⟩)
 ·split at hr
  ·split at hr
   ·obtain rfl:=Option.some.inj hr;exact ⟨.push _ rfl,fun _=>hyt⟩
   ·cases hr
  ·split at hr
   ·obtain rfl:=Option.some.inj hr;exact ⟨.push _ rfl,fun _=>hyt⟩
   ·cases hr
  ·rename_i id off len s' cp ex
   split at hr
   case h_2=>cases hr
   rename_i cs hl
   have hal:(look c.H c.nx h id).isSome=true:=by rw [hl];rfl
   have hall : ∀ i∈id::ids y,(look c.H c.nx h i).isSome=true:=fun i hi=>by
    rcases List.mem_cons.1 hi with rfl|hi
    ·exact hal
    ·exact hyt i hi
   split at hr
   ·cases hr
   ·split at hr
    ·obtain rfl:=Option.some.inj hr;exact ⟨.push _ rfl,fun _=>hall⟩
    ·split at hr
     ·obtain rfl:=Option.some.inj hr;exact ⟨.kp id _ rfl hal (by simp) rfl,fun _=>hall⟩
     ·split at hr
      ·obtain rfl:=Option.some.inj hr;exact ⟨.set id _ rfl hal (by simp) rfl,fun _=>hall⟩
      ·cases hr
  ·cases hr
theorem fC {c:Ctx} {dr:Bool} {env:Env} {h:Hp} {op:IROp} {r:Res} (hr:evOp c dr env h op=some r):HpStep c dr h r∧TchOk c dr h r:=by
 have nt : ∀ {v:LV} {h':Hp} {md:Bool},TchOk c dr h ⟨v,h',[],md⟩:=fun {v h' md} _ id hid=>by cases hid
 cases op
 case app sz b x y=>exact tp hr
 case call f args=>exact jP hr
 case callv x args=>
  simp only [evOp] at hr
  split at hr
  ·exact jP hr
  ·cases hr
 case load sz ag x=>
  simp only [evOp] at hr
  split at hr
  ·split at hr
   ·obtain rfl:=Option.some.inj hr;exact ⟨.same rfl,nt⟩
   ·cases hr
  ·split at hr
   ·rename_i cs hl
    split at hr
    ·obtain rfl:=Option.some.inj hr
     exact ⟨.same rfl,fun _ id hid=>by simp at hid;subst hid;rw [hl];rfl⟩
    ·cases hr
   ·cases hr
  ·cases hr
 case store sz x y=>
  simp only [evOp] at hr
  split at hr
  ·split at hr
   ·rename_i cs hl
    split at hr
    ·obtain rfl:=Option.some.inj hr
     exact ⟨.set _ _ rfl (by rw [hl];rfl) (by simp) rfl,fun _ id hid=>by simp at hid;subst hid;rw [hl];rfl⟩
    ·cases hr
   ·cases hr
  ·cases hr
 case b2s x=>
  simp only [evOp] at hr
  split at hr
  ·cases hr
  ·split at hr
   ·rename_i cs n hs
    split at hr
    ·split at hr
     ·obtain rfl:=Option.some.inj hr
      exact ⟨.same rfl,fun _=>ci hs⟩
     ·cases hr
    ·cases hr
   ·cases hr
 case copy sz x y=>
  simp only [evOp] at hr
  split at hr
  ·split at hr
   ·rename_i cs yc n hl hy
    split at hr
    ·obtain rfl:=Option.some.inj hr
     refine ⟨.set _ _ rfl (by rw [hl];rfl) (by simp) rfl,fun _ id hid => ?_⟩
     rcases List.mem_cons.1 hid with rfl|hid
     ·rw [hl];rfl
     ·exact ci hy id hid
    ·cases hr
   ·cases hr
  ·cases hr
 case copyX sz x y=>
  simp only [evOp] at hr
  split at hr
  ·split at hr
   ·rename_i cs yc n hl hy
    split at hr
    ·obtain rfl:=Option.some.inj hr
     refine ⟨.set _ _ rfl (by rw [hl];rfl) (by simp) rfl,fun _ id hid => ?_⟩
     rcases List.mem_cons.1 hid with rfl|hid
     ·rw [hl];rfl
     ·exact qh hy id hid
    ·cases hr
   ·cases hr
  ·cases hr
 case ovl x y=>
  simp only [evOp] at hr
  split at hr
  ·split at hr
   ·cases hr
   ·split at hr
    ·rename_i c1 c2 hl1 hl2
     obtain rfl:=Option.some.inj hr
     refine ⟨.same rfl,fun _ id hid => ?_⟩
     simp only [List.mem_cons,List.not_mem_nil,or_false] at hid
     rcases hid with rfl|rfl
     ·rw [hl1];rfl
     ·rw [hl2];rfl
    ·cases hr
  ·cases hr
 case appZ sz b z x y=>
  simp only [evOp] at hr
  split at hr
  ·split at hr
   ·rename_i cs hl
    split at hr
    ·obtain rfl:=Option.some.inj hr
     refine ⟨.push _ rfl,fun _ id hid => ?_⟩
     simp only [List.mem_cons,List.not_mem_nil,or_false] at hid
     subst hid
     rw [hl];rfl
    ·cases hr
   ·cases hr
  ·cases hr
 case cmpB x y=>
  simp only [evOp] at hr
  split at hr
  ·rename_i c1 n1 c2 n2 h1 h2
   split at hr
   ·split at hr
    ·obtain rfl:=Option.some.inj hr
     refine ⟨.same rfl,fun _ id hid => ?_⟩
     simp only [List.mem_append] at hid
     rcases hid with hid|hid
     ·exact ci h1 id hid
     ·exact ci h2 id hid
    ·cases hr
   ·cases hr
  ·cases hr
 case cap x=>
  simp only [evOp] at hr
  split at hr
  ·obtain rfl:=Option.some.inj hr;exact ⟨.same rfl,fun _ id hid=>by simp at hid⟩
  ·obtain rfl:=Option.some.inj hr;exact ⟨.same rfl,fun _ id hid=>by simp at hid⟩
  ·cases hr
 case clr sz z x=>
  simp only [evOp] at hr
  split at hr
  ·obtain rfl:=Option.some.inj hr
   exact ⟨.same rfl,nt⟩
  ·split at hr
   ·obtain rfl:=Option.some.inj hr
    exact ⟨.same rfl,nt⟩
   ·split at hr
    ·rename_i cs hl
     split at hr
     ·obtain rfl:=Option.some.inj hr
      exact ⟨.set _ _ rfl (by rw [hl];rfl) (by simp) rfl,fun _ id hid=>by simp at hid;subst hid;rw [hl];rfl⟩
     ·cases hr
    ·cases hr
  ·cases hr
 case slArr n sz x lo hi mx=>
  simp only [evOp] at hr
  split at hr
  ·split at hr
   ·rename_i cs hl
    split at hr
    ·split at hr
     ·obtain rfl:=Option.some.inj hr
      exact ⟨.same rfl,fun _ id hid=>by simp at hid;subst hid;rw [hl];rfl⟩
     ·cases hr
    ·cases hr
   ·cases hr
  ·cases hr
 case nxt x=>
  simp only [evOp] at hr
  split at hr
  ·split at hr
   ·rename_i b q hl
    split at hr
    ·obtain rfl:=Option.some.inj hr
     exact ⟨.set _ _ rfl (by rw [hl];rfl) (by simp) rfl,fun _ id hid=>by simp at hid;subst hid;rw [hl];rfl⟩
    ·obtain rfl:=Option.some.inj hr
     exact ⟨.same rfl,fun _ id hid=>by simp at hid;subst hid;rw [hl];rfl⟩
   ·cases hr
  ·cases hr
 all_goals
  simp only [evOp] at hr
  repeat' split at hr
  all_goals first
   | (cases hr;done)
   | (obtain rfl:=Option.some.inj hr;exact ⟨.same rfl,nt⟩)
   | (obtain rfl:=Option.some.inj hr;exact ⟨.push _ rfl,nt⟩)
theorem HpStep.len {c:Ctx} {dr:Bool} {h:Hp} {r:Res} (s:HpStep c dr h r):h.new.length≤r.h.new.length:=by
 cases s with
 | same h1=>rw [h1];exact Nat.le_refl _
 | push o h1=>rw [h1];simp [Sx.push]
 | set id x h1=>rw [h1,aD];exact Nat.le_refl _
 | kp id o h1=>rw [h1];simp [Sx.push,aD]
 | call H' f args rv u n hc hH hS h1=>rw [h1];simp only [List.length_append,bt];omega
theorem HpStep.keys {P:Program} {c:Ctx} {dr:Bool} {h:Hp} {r:Res} (s:HpStep c dr h r) (hO:OSound P c.G c.O) (hk:Keys c.H h):Keys c.H r.h:=by
 cases s with
 | same h1=>rw [h1];exact hk
 | push o h1=>rw [h1];exact hk
 | set id x h1 hl=>rw [h1];exact oF hk hl
 | kp id o h1 hl=>rw [h1];exact oF (x:=none) hk hl
 | call H' f args rv u n hc hH hS h1=>
  rw [h1]
  refine oG hk u fun id o ho => ?_
  have:=(hO _ _ _ _ _ _ _ hc).keys id o ho
  rcases hH id with h2|h2
  ·rw [h2] at this;cases this
  ·rw [←h2];exact this
theorem HpStep.frame {P:Program} {c:Ctx} {h:Hp} {r:Res} (s:HpStep c true h r) (hO:OSound P c.G c.O) {id:Nat} (hid:id<c.nx+h.new.length) (hn : ¬(r.md=true∧id∈r.tch)):look c.H c.nx r.h id=look c.H c.nx h id:=by
 cases s with
 | same h1=>rw [h1]
 | push o h1=>rw [h1,ao,if_neg (by omega)]
 | set i x h1 hl ht hm=>
  obtain ⟨o,ho⟩:=Option.isSome_iff_exists.1 hl
  rw [h1,bn (a7 ho),if_neg (fun (e:id=i)=>hn ⟨hm,e▸ht⟩)]
 | kp i o h1 hl ht hm=>
  obtain ⟨o',ho⟩:=Option.isSome_iff_exists.1 hl
  rw [h1,ao,if_neg (by rw [aD];omega),bn (a7 ho),if_neg (fun (e:id=i)=>hn ⟨hm,e▸ht⟩)]
 | call H' f args rv u n hc hH hS h1 hm=>
  have hs:=hO _ _ _ _ _ _ _ hc
  have hlt : ∀ i,(H' i).isSome=true→i<c.nx+h.new.length:=fun i hi=>by
   rcases hH i with h2|h2
   ·rw [h2] at hi;cases hi
   ·rcases Nat.lt_or_ge i (c.nx+h.new.length) with h3|h3
    ·exact h3
    ·rw [h2,bm h3] at hi;cases hi
  rw [h1,dV fun i o ho=>hlt i (hs.keys i o ho)]
  conv=>lhs;unfold look
  rw [if_pos hid]
  cases hf:findU u id with
  | none=>rfl
  | some o=>
   have hne:u.isEmpty=false:=by
    cases u with
    | nil=>cases hf
    | cons _ _=>rfl
   exact absurd ⟨by rw [hm,hne];rfl,hS rfl id (hs.keys id o hf)⟩ hn
theorem fJ {c:Ctx} {e1 e2:Env} {x:Opd} (h : ∀ t∈x.slots,get e1 t=get e2 t):opd c e1 x=opd c e2 x:=by
 cases x with
 | t s=>exact h s (by simp [Opd.slots])
 | c v=>rfl
 | g n=>rfl
theorem pW {c:Ctx} {e1 e2:Env} {xs:List Opd} (h : ∀ t∈xs.flatMap Opd.slots,get e1 t=get e2 t):xs.map (opd c e1)=xs.map (opd c e2):=
 List.map_congr_left fun x hx=>fJ fun t ht=>h t (List.mem_flatMap.2 ⟨x,hx,ht⟩)
theorem m6 {c:Ctx} {e1 e2:Env} {x:Option Opd} (h : ∀ t∈oslots x,get e1 t=get e2 t):optMap (opd c e1) x=optMap (opd c e2) x:=by
 cases x with
 | none=>rfl
 | some x=>simp only [optMap,fJ (c:=c) (x:=x) h]
theorem oW {c:Ctx} {e1 e2:Env} {ps:List (Nat × Nat × Opd)} (h : ∀ t∈ps.flatMap (fun (_,_,x)=>x.slots),get e1 t=get e2 t):
  (ps.map fun (o,s,x)=>(o,s,opd c e1 x))=ps.map fun (o,s,x)=>(o,s,opd c e2 x):=
 List.map_congr_left fun ⟨o,s,x⟩ hx=>by
  simp only [fJ (c:=c) (x:=x) fun t ht=>h t (List.mem_flatMap.2 ⟨(o,s,x),hx,ht⟩)]
theorem pM {c:Ctx} {dr:Bool} {e1 e2:Env} {h:Hp} {op:IROp} (he : ∀ t∈op.slots,get e1 t=get e2 t):evOp c dr e1 h op=evOp c dr e2 h op:=by
 have s1 : ∀ x:Opd,(∀ t∈x.slots,t∈op.slots)→opd c e1 x=opd c e2 x:=fun x hx=>fJ fun t ht=>he t (hx t ht)
 have s2 : ∀ x:Option Opd,(∀ t∈oslots x,t∈op.slots)→optMap (opd c e1) x=optMap (opd c e2) x:=fun x hx=>m6 fun t ht=>he t (hx t ht)
 have s3 : ∀ xs:List Opd,(∀ t∈xs.flatMap Opd.slots,t∈op.slots)→xs.map (opd c e1)=xs.map (opd c e2):=fun xs hx=>pW fun t ht=>he t (hx t ht)
 have s4 : ∀ ps:List (Nat × Nat × Opd),(∀ t∈ps.flatMap (fun (_,_,x)=>x.slots),t∈op.slots)→(ps.map fun (o,s,x)=>(o,s,opd c e1 x))=ps.map fun (o,s,x)=>(o,s,opd c e2 x):=fun ps hx=>oW fun t ht=>he t (hx t ht)
 cases op
 case mv x=>simp only [evOp,s1 x (fun t h=>by simpa [IROp.slots] using h)]
 case pick a b d=>simp only [evOp,s1 a (fun t h=>by simp [IROp.slots,h]),s1 b (fun t h=>by simp [IROp.slots,h]),s1 d (fun t h=>by simp [IROp.slots,h])]
 case build z ps=>simp only [evOp,s4 ps (fun t h=>by simpa [IROp.slots] using h)]
 case mkSl im n s z ps=>simp only [evOp,s4 ps (fun t h=>by simpa [IROp.slots] using h)]
 case store s x y=>simp only [evOp,s1 x (fun t h=>by simp [IROp.slots,h]),s1 y (fun t h=>by simp [IROp.slots,h])]
 case bin b x y=>simp only [evOp,s1 x (fun t h=>by simp [IROp.slots,h]),s1 y (fun t h=>by simp [IROp.slots,h])]
 case eq n k x y=>simp only [evOp,s1 x (fun t h=>by simp [IROp.slots,h]),s1 y (fun t h=>by simp [IROp.slots,h])]
 case idxASl s x y=>simp only [evOp,s1 x (fun t h=>by simp [IROp.slots,h]),s1 y (fun t h=>by simp [IROp.slots,h])]
 case idxAArr n s x y=>simp only [evOp,s1 x (fun t h=>by simp [IROp.slots,h]),s1 y (fun t h=>by simp [IROp.slots,h])]
 case idxStr x y=>simp only [evOp,s1 x (fun t h=>by simp [IROp.slots,h]),s1 y (fun t h=>by simp [IROp.slots,h])]
 case idxArr n s g x y=>simp only [evOp,s1 x (fun t h=>by simp [IROp.slots,h]),s1 y (fun t h=>by simp [IROp.slots,h])]
 case app s b x y=>simp only [evOp,s1 x (fun t h=>by simp [IROp.slots,h]),s1 y (fun t h=>by simp [IROp.slots,h])]
 case copyX s x y=>simp only [evOp,s1 x (fun t h=>by simp [IROp.slots,h]),s1 y (fun t h=>by simp [IROp.slots,h])]
 case appZ s b z x y=>simp only [evOp,s1 x (fun t h=>by simp [IROp.slots,h]),s1 y (fun t h=>by simp [IROp.slots,h])]
 case cmpB x y=>simp only [evOp,s1 x (fun t h=>by simp [IROp.slots,h]),s1 y (fun t h=>by simp [IROp.slots,h])]
 case ovl x y=>simp only [evOp,s1 x (fun t h=>by simp [IROp.slots,h]),s1 y (fun t h=>by simp [IROp.slots,h])]
 case cap x=>simp only [evOp,s1 x (fun t h=>by simpa [IROp.slots] using h)]
 case copy s x y=>simp only [evOp,s1 x (fun t h=>by simp [IROp.slots,h]),s1 y (fun t h=>by simp [IROp.slots,h])]
 case mkSlice s b z x y=>simp only [evOp,s1 x (fun t h=>by simp [IROp.slots,h]),s1 y (fun t h=>by simp [IROp.slots,h])]
 case slStr x a b=>simp only [evOp,s1 x (fun t h=>by simp [IROp.slots,h]),s2 a (fun t h=>by simp [IROp.slots,h]),s2 b (fun t h=>by simp [IROp.slots,h])]
 case slSl s x a b d=>simp only [evOp,s1 x (fun t h=>by simp [IROp.slots,h]),s2 a (fun t h=>by simp [IROp.slots,h]),s2 b (fun t h=>by simp [IROp.slots,h]),s2 d (fun t h=>by simp [IROp.slots,h])]
 case slArr n s x a b d=>simp only [evOp,s1 x (fun t h=>by simp [IROp.slots,h]),s2 a (fun t h=>by simp [IROp.slots,h]),s2 b (fun t h=>by simp [IROp.slots,h]),s2 d (fun t h=>by simp [IROp.slots,h])]
 case minmax m xs=>simp only [evOp,s3 xs (fun t h=>by simpa [IROp.slots] using h)]
 case call f xs=>simp only [evOp,s3 xs (fun t h=>by simpa [IROp.slots] using h)]
 case callv x xs=>simp only [evOp,s1 x (fun t h=>by simp [IROp.slots,h]),s3 xs (fun t h=>by simp only [IROp.slots,List.mem_append];exact .inr h)]
 case mkFn f a b=>simp only [evOp,s3 a (fun t h=>by simp only [IROp.slots,List.mem_append];exact .inl h),s3 b (fun t h=>by simp only [IROp.slots,List.mem_append];exact .inr h)]
 case clr s z x=>simp only [evOp,s1 x (fun t h=>by simpa [IROp.slots] using h)]
 case ext x i=>simp only [evOp,s1 x (fun t h=>by simpa [IROp.slots] using h)]
 case alloc=>rfl
 case bad=>rfl
 all_goals
  rename_i x
  first
   | simp only [evOp,s1 x (fun t h=>by simpa [IROp.slots] using h)]
   | skip
end Go.Sx
end

section
namespace Go.Sx
open Go
theorem mP {env:Env} {d:Option Nat} {v:LV} {t:Nat} : get (putD env d v) t=if d=some t then v else get env t:=by
 cases d with
 | none=>rfl
 | some d=>
  simp only [putD,get,Option.some.injEq]
  by_cases h:t=d
  ·rw [if_pos h,if_pos h.symm]
  ·rw [if_neg h,if_neg (fun e=>h e.symm)]
theorem EnvR.put {I:Nat→Prop} {μ:Mu} {w:World} {env:Env} {a:Act} (h:EnvR I μ w env a) {d:Option Nat} {lv:LV} {v:Value} (hv:VR I μ w lv v) (hd : ∀ t,d=some t→t<a.tmps.size):EnvR I μ w (putD env d lv) (a.put d v):=by
 intro t
 rw [mP]
 cases d with
 | none=>exact h t
 | some d=>
  simp only [Act.put,Option.some.injEq]
  by_cases e:d=t
  ·subst e
   rw [if_pos rfl,Array.getD_eq_getD_getElem?,Array.getElem?_setIfInBounds_self_of_lt (hd d rfl)]
   exact hv
  ·rw [if_neg e,Array.getD_eq_getD_getElem?,Array.getElem?_setIfInBounds_ne e,←Array.getD_eq_getD_getElem?]
   exact h t
theorem EnvR.mono {I I':Nat→Prop} {μ μ':Mu} {w w':World} {env:Env} {a:Act} (h:EnvR I μ w env a) (hm : ∀ l v,VR I μ w l v→VR I' μ' w' l v):EnvR I' μ' w' env a:=fun t=>hm _ _ (h t)
theorem cU {I:Nat→Prop} {μ:Mu} {w:World} {env:Env} {a:Act} {ops:Array Oper} {o:Oper} {g:Option (Nat × Bool)} {b:Bool} (henv:EnvR I μ w env a) (hg:guardOf ops o.guard=some g) (hw:wants env g=some b):
  Region.wanted o (yielded ops a.tmps)=b:=by
 unfold guardOf at hg
 split at hg
 ·rename_i h0
  obtain rfl:=Option.some.inj hg
  simp only [wants,Option.some.injEq] at hw
  subst hw
  simp [Region.wanted,h0]
 ·rename_i j q h0
  split at hg
  case h_2=>cases hg
  rename_i t ht
  obtain rfl:=Option.some.inj hg
  have hv:=henv t
  simp only [wants] at hw
  simp only [Region.wanted,h0]
  unfold yielded
  rw [ht]
  simp only [Option.bind_some]
  have hgd:a.tmps.getD t undef=(a.tmps[t]?).getD undef:=Array.getD_eq_getD_getElem? ..
  split at hw
  ·rename_i x hx
   obtain rfl:=Option.some.inj hw
   rw [hx] at hv
   have:=bh hv
   rw [hgd] at this
   cases hq:a.tmps[t]? with
   | none=>rw [hq] at this;cases this
   | some v=>
    rw [hq] at this
    simp only [Option.getD_some] at this
    subst this
    simp
  ·rename_i x hx
   obtain rfl:=Option.some.inj hw
   rw [hx] at hv
   have:=bh hv
   rw [hgd] at this
   cases hq:a.tmps[t]? with
   | none=>simp
   | some v=>
    rw [hq] at this
    simp only [Option.getD_some] at this
    subst this
    simp
  ·cases hw
theorem jc {P:Program} {imT:An} {nt:Nat} {ops:Array Oper} {o:Oper} : (∃ g,guardOf ops o.guard=some g∧(∀ d,o.dst=some d→d<nt)∧coper P imT nt ops o=⟨o.dst,cop P (imT.imT o.dst) o.op,g⟩)∨coper P imT nt ops o=⟨o.dst,.bad,none⟩:=by
 unfold coper
 split
 ·rename_i g hg
  split
  ·rename_i h
   refine .inl ⟨g,hg,fun d hd => ?_,rfl⟩
   rw [hd] at h
   simpa [dstOk] using h
  ·exact .inr rfl
 ·exact .inr rfl
section
variable {P:Program} {imT:An} {c:Ctx} {I0:Nat→Prop} {μ0:Mu} {w0:World} {nt:Nat}
theorem Inv.hr {env:Env} {h:Hp} {a:Act} {w:World} {I:Nat→Prop} {μ:Mu} (i:Inv c I0 μ0 w0 nt env h a w I μ):HR I μ w (fun _=>True) (look c.H c.nx h):=i.goes.hr.sub fun _ _=>⟨.inl trivial,rfl⟩
theorem Inv.op {env:Env} {h:Hp} {a:Act} {w:World} {I I':Nat→Prop} {μ μ':Mu} {w':World} {r:Res} {d:Option Nat} {v:Value} (hO:OSound P c.G c.O) (i:Inv c I0 μ0 w0 nt env h a w I μ) {dr:Bool} (hs:HpStep c dr h r) (hd : ∀ t,d=some t→t<nt)
  (g:Goes I I' μ μ' w w' (look c.H c.nx h) (look c.H c.nx r.h) (fun _=>True) (newN c h r.h)) (hv:VR I' μ' w' r.v v):Inv c I0 μ0 w0 nt (putD env d r.v) r.h (a.put d v) w' I' μ':=by
 have hlen:=hs.len
 have him:=g.imm_block i.hr
 refine ⟨(i.env.mono fun l v hl=>g.vr i.hr hl).put hv fun t ht=>Nat.lt_of_lt_of_le (hd t ht) i.size,?_,?_,i.goes.trans g fun id => ?_,fun id hid => ?_,i.glob.mono g.up him,hs.keys hO i.keys,i.base⟩
 ·cases d<;>simp [Act.put,i.size]
 ·cases d<;>simp [Act.put,i.defers]
 ·simp only [newN];omega
 ·rw [g.mu id (by simp only [newN];omega)]
  exact i.none id (by omega)
theorem Inv.skip {env:Env} {h:Hp} {a:Act} {w:World} {I:Nat→Prop} {μ:Mu} {d:Option Nat} (i:Inv c I0 μ0 w0 nt env h a w I μ) (hd : ∀ t,d=some t→t<nt):Inv c I0 μ0 w0 nt (putD env d .undef) h (a.put d undef) w I μ:=by
 refine ⟨i.env.put (.p (.s _)) fun t ht=>Nat.lt_of_lt_of_le (hd t ht) i.size,?_,?_,i.goes,i.none,i.glob,i.keys,i.base⟩
 ·cases d<;>simp [Act.put,i.size]
 ·cases d<;>simp [Act.put,i.defers]
theorem Inv.keep {env:Env} {h:Hp} {a:Act} {w:World} {I:Nat→Prop} {μ:Mu} (i:Inv c I0 μ0 w0 nt env h a w I μ) (live:List Nat):Inv c I0 μ0 w0 nt (Sx.keep live env) h a w I μ:=by
 refine ⟨fun t => ?_,i.size,i.defers,i.goes,i.none,i.glob,i.keys,i.base⟩
 have:get (Sx.keep live env) t=get env t∨get (Sx.keep live env) t = .junk:=by
  unfold Sx.keep
  induction live with
  | nil=>exact .inr rfl
  | cons x r ih=>
   simp only [List.map_cons,get]
   by_cases e:t=x
   ·rw [if_pos e];exact .inl (by rw [e])
   ·rw [if_neg e];exact ih
 rcases this with h|h
 ·rw [h];exact i.env t
 ·rw [h];exact .junk _
theorem nn {ops:Array Oper} {Q:Exit→Act→World→Prop} (hO:OSound P c.G c.O) {env':Env} {h':Hp} (hQ : ∀ a' w' I' μ',Inv c I0 μ0 w0 nt env' h' a' w' I' μ'→Q .normal a' w'):
  ∀ (k i:Nat) (env:Env) (h:Hp) (a:Act) (w:World) (I:Nat→Prop) (μ:Mu),i+k=ops.size→runOps c ((ops.toList.map (coper P imT nt ops)).drop i) env h=some (env',h')→Inv c I0 μ0 w0 nt env h a w I μ →
   wpOps P ops Q (List.range' i k) a w
 | 0,i,env,h,a,w,I,μ,hk,hr,hi=>by
  rw [List.drop_eq_nil_of_le (by simp;omega)] at hr
  simp only [runOps,Option.some.injEq,Prod.mk.injEq] at hr
  obtain ⟨rfl,rfl⟩:=hr
  exact hQ a w I μ hi
 | k+1,i,env,h,a,w,I,μ,hk,hr,hi=>by
  have hlt:i<ops.size:=by omega
  have ho:ops[i]?=some ops[i]:=by simp [hlt]
  rw [List.drop_eq_getElem_cons (by simpa using hlt)] at hr
  simp only [List.getElem_map,Array.getElem_toList] at hr
  rw [List.range'_succ,wpOps_cons]
  unfold wpOp
  rw [ho]
  simp only []
  rcases jc (P:=P) (imT:=imT) (nt:=nt) (ops:=ops) (o:=ops[i]) with ⟨g,hg,hd,hc⟩|hc
  ·rw [hc] at hr
   simp only [runOps] at hr
   split at hr
   ·rename_i hw
    split at hr
    case h_2=>cases hr
    rename_i x hx
    rw [cU hi.env hg hw,if_pos rfl]
    refine .inl (jT (dr:=false) hO hx (hi.hr.sub fun _ _=>⟨trivial,rfl⟩) (fun id hid _=>hi.none id hid) hi.glob hi.env fun I' μ' w' v hgo hv => ?_)
    have hgo':=hgo.widen hi.hr fun _ _=>trivial
    exact nn hO hQ k (i+1) _ _ _ _ I' μ' (by omega) hr (hi.op hO (fC hx).1 hd hgo' hv)
   ·rename_i hw
    rw [cU hi.env hg hw,if_neg (by simp)]
    exact nn hO hQ k (i+1) _ _ _ _ I μ (by omega) hr (hi.skip hd)
   ·cases hr
  ·rw [hc] at hr
   simp [runOps,wants,evOp] at hr
end
end Go.Sx
end
