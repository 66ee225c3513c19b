/- A value machine: the model's code, run over values instead of memory. Its definitions.
   Conditions: none (definitions alone). -/
import Derived.WalkKit
namespace Go.Sx
open Go

/-- Values without references to what may still be written. -/
inductive PV where
  | s (v : Value)
  | agg (cs : List PV)
  | imm (cs : List PV) (off : Nat)
  | sl (cs : List PV) (len sz : Nat) (full : Bool)
  deriving Inhabited

/-- Values. -/
inductive LV where
  | junk
  | p (x : PV)
  | ref (id off : Nat)
  | arr (id off len sz cap : Nat) (ex : Bool)
  | agg (cs : List LV)
  | tuple (vs : List LV)
  | fn (f : FuncId) (first captured : List LV)
  deriving Inhabited

/-- What may still be written: rows of cells; where a range over a string stands. -/
inductive Obj where
  | cells (cs : List LV)
  | iter (s : ByteArray) (pos : Nat)
  deriving Inhabited

abbrev LV.int (k : IntKind) (n : Int) : LV := .p (.s (.int k n))
abbrev LV.bool (b : Bool) : LV := .p (.s (.bool b))
abbrev LV.str (b : ByteArray) : LV := .p (.s (.string b))
abbrev LV.undef : LV := .p (.s Go.undef)

def allP : List LV → Option (List PV)
  | [] => some []
  | .p x :: r => match allP r with
    | some l => some (x :: l)
    | none => none
  | _ :: _ => none

def mkAgg (cs : List LV) : LV := match allP cs with
  | some l => .p (.agg l)
  | none => .agg cs

def ofConst : Value → LV
  | .agg cs => if cs.all (·.oneCell') then .p (.agg (cs.toList.map .s)) else .junk
  | v => .p (.s v)

def LV.cells : LV → Option (List LV)
  | .junk => none
  | .tuple _ => none
  | .p (.agg cs) => some (cs.map .p)
  | .agg cs => some cs
  | .p (.s v) => if v.oneCell' then some [.p (.s v)] else none
  | x => some [x]

inductive Opd where
  | t (slot : Nat)
  | c (v : LV)
  | g (n : Nat)
  deriving Inhabited

inductive EK where
  | bool | ptr | slice | func
  deriving DecidableEq, Inhabited

inductive IROp where
  | mv (x : Opd)
  | pick (c a b : Opd)
  | box (im : Bool) (x : Opd)
  | alloc (im : Bool) (zero : List PV)
  | build (zero : List PV) (parts : List (Nat × Nat × Opd))
  | mkSl (len sz : Nat) (zero : List PV) (parts : List (Nat × Nat × Opd))
  | load (sz : Nat) (ag : Bool) (x : Opd)
  | store (sz : Nat) (a x : Opd)
  | nilCk (x : Opd)
  | bin (b : BinOp) (x y : Opd)
  | eq (neg : Bool) (k : EK) (x y : Opd)
  | un (u : UnOp) (x : Opd)
  | cvt (k : IntKind) (x : Opd)
  | strC (x : Opd)
  | s2b (x : Opd)
  | b2s (x : Opd)
  | fieldAddr (off : Nat) (x : Opd)
  | field (off sz : Nat) (ag : Bool) (x : Opd)
  | idxASl (sz : Nat) (x i : Opd)
  | idxAArr (n sz : Nat) (x i : Opd)
  | idxStr (x i : Opd)
  | idxArr (n sz : Nat) (ag : Bool) (x i : Opd)
  | slStr (x : Opd) (lo hi : Option Opd)
  | slSl (sz : Nat) (x : Opd) (lo hi mx : Option Opd)
  | slArr (n sz : Nat) (x : Opd) (lo hi mx : Option Opd)
  | len (str : Bool) (x : Opd)
  | app (sz bytes : Nat) (x y : Opd)
  | copy (sz : Nat) (x y : Opd)
  | minmax (mx : Bool) (xs : List Opd)
  | call (f : FuncId) (args : List Opd)
  | callv (x : Opd) (args : List Opd)
  | ext (x : Opd) (i : Nat)
  | mkFn (f : FuncId) (first captured : List Opd)
  | mkSlice (sz bytes : Nat) (zero : List PV) (len cap : Opd)
  | clr (sz : Nat) (zero : List PV) (x : Opd)
  | rng (x : Opd)
  | nxt (x : Opd)
  | bad
  deriving Inhabited

def Opd.slots : Opd → List Nat
  | .t s => [s]
  | _ => []
def oslots : Option Opd → List Nat
  | some x => x.slots
  | none => []
def IROp.slots : IROp → List Nat
  | .mv x | .box _ x | .load _ _ x | .nilCk x | .un _ x | .cvt _ x | .strC x | .s2b x | .b2s x | .fieldAddr _ x | .field _ _ _ x | .len _ x | .ext x _ | .clr _ _ x | .rng x | .nxt x => x.slots
  | .pick a b c => a.slots ++ b.slots ++ c.slots
  | .alloc _ _ | .bad => []
  | .build _ ps | .mkSl _ _ _ ps => ps.flatMap fun (_, _, x) => x.slots
  | .store _ a x | .bin _ a x | .eq _ _ a x | .idxASl _ a x | .idxAArr _ _ a x | .idxStr a x | .idxArr _ _ _ a x | .app _ _ a x | .copy _ a x | .mkSlice _ _ _ a x => a.slots ++ x.slots
  | .slStr x a b => x.slots ++ oslots a ++ oslots b
  | .slSl _ x a b c | .slArr _ _ x a b c => x.slots ++ oslots a ++ oslots b ++ oslots c
  | .minmax _ xs | .call _ xs => xs.flatMap Opd.slots
  | .callv x xs => x.slots ++ xs.flatMap Opd.slots
  | .mkFn _ a b => a.flatMap Opd.slots ++ b.flatMap Opd.slots

structure IROper where
  dst : Option Nat
  op : IROp
  guard : Option (Nat × Bool)
  deriving Inhabited

inductive IRC where
  | skip
  | region (ops : List IROper) (draw : Option (List Nat)) (live : List Nat)
  | seq (a b : IRC)
  | cond (c : Opd) (a b : IRC)
  | block (id : Nat) (c : IRC)
  | loop (c : IRC)
  | exit (id : Nat)
  | ret
  | bad
  deriving Inhabited

structure IRF where
  params : List Nat
  body : IRC
  results : List (Nat × Option (Nat × Bool))
  own : Bool
  deriving Inhabited

abbrev Env := List (Nat × LV)
abbrev Heap := Nat → Option Obj
abbrev Upd := List (Nat × Option Obj)
abbrev Oracle := FuncId → List LV → Heap → Nat → Option (LV × Upd × List (Option Obj))

structure Hp where
  upd : Upd
  new : List (Option Obj)
  deriving Inhabited

structure Ctx where
  O : Oracle
  G : Nat → Option (List PV)
  H : Heap
  nx : Nat

def get (env : Env) (t : Nat) : LV := match env with
  | [] => .junk
  | (u, v) :: r => if t = u then v else get r t

def findU (u : Upd) (id : Nat) : Option (Option Obj) := match u with
  | [] => none
  | (j, o) :: r => if id = j then some o else findU r id

def setU (u : Upd) (id : Nat) (o : Option Obj) : Upd := match u with
  | [] => [(id, o)]
  | (j, p) :: r => if id = j then (j, o) :: r else (j, p) :: setU r id o

def look (H : Heap) (nx : Nat) (h : Hp) (id : Nat) : Option Obj :=
  if id < nx then (match findU h.upd id with
    | some o => o
    | none => H id)
  else match h.new[id - nx]? with
    | some o => o
    | none => none

def setObj (nx : Nat) (h : Hp) (id : Nat) (o : Option Obj) : Hp :=
  if id < nx then { h with upd := setU h.upd id o } else { h with new := h.new.set (id - nx) o }

def push (h : Hp) (o : Obj) : Hp := { h with new := h.new ++ [some o] }

def setAll (nx : Nat) (h : Hp) : Upd → Hp
  | [] => h
  | (id, o) :: r => setObj nx (setAll nx h r) id o

def opd (c : Ctx) (env : Env) : Opd → LV
  | .t s => get env s
  | .c v => v
  | .g n => match c.G n with
    | some cs => .p (.imm cs 0)
    | none => .junk

/-- The cells of a slice, in their order. -/
def slCells (H : Heap) (nx : Nat) (h : Hp) : LV → Option (List LV × Nat)
  | .p (.s (.slice none 0 0)) => some ([], 0)
  | .p (.s (.string b)) => some (b.data.toList.map (fun x => .int .u8 x.toNat), b.size)
  | .p (.sl cs len _ _) => some (cs.map .p, len)
  | .arr id off len sz _ _ => match look H nx h id with
    | some (.cells cs) => if off + len * sz ≤ cs.length then some ((cs.drop off).take (len * sz), len) else none
    | _ => none
  | _ => none

def fillP (cells : List LV) : List (Nat × Nat × LV) → Option (List LV)
  | [] => some cells
  | (off, sz, v) :: r => match v.cells with
    | some cs => if cs.length = sz ∧ off + sz ≤ cells.length then fillP (cells.take off ++ cs ++ cells.drop (off + sz)) r else none
    | none => none

def splice (cells : List LV) (off : Nat) (cs : List LV) : List LV := cells.take off ++ cs ++ cells.drop (off + cs.length)

def rd (cs : List LV) (off sz : Nat) (ag : Bool) : Option LV :=
  if ag then (if off + sz ≤ cs.length then some (mkAgg ((cs.drop off).take sz)) else none) else cs[off]?

/-- 'x ≤ y', so written that it computes where one side is a literal and the other 'n + literal'. -/
def leI (x y : Int) : Bool := match x, y with
  | .ofNat a, .ofNat b => a.ble b
  | .ofNat _, .negSucc _ => false
  | .negSucc _, .ofNat _ => true
  | .negSucc a, .negSucc b => b.ble a

theorem leI_eq (x y : Int) : leI x y = decide (x ≤ y) := by
  rw [Bool.eq_iff_iff, decide_eq_true_iff]
  cases x <;> cases y <;> simp only [leI, Nat.ble_eq, Bool.false_eq_true, false_iff, true_iff, Int.ofNat_eq_natCast, Int.negSucc_eq] <;> omega

theorem leI_not (x y : Int) : (!decide (y ≤ x)) = decide (x < y) := by
  rw [← decide_not, decide_eq_decide]; omega

def binI (b : BinOp) (k : IntKind) (x y : Int) : Option Value := match b with
  | .add => some (.int k (k.wrap (x + y)))
  | .sub => some (.int k (k.wrap (x - y)))
  | .mul => some (.int k (k.wrap (x * y)))
  | .quo => if y = 0 then none else some (.int k (k.wrap (x.tdiv y)))
  | .rem => if y = 0 then none else some (.int k (x.tmod y))
  | .and => some (.int k (k.wrap (BitVec.ofInt k.bits x &&& BitVec.ofInt k.bits y).toNat))
  | .or => some (.int k (k.wrap (BitVec.ofInt k.bits x ||| BitVec.ofInt k.bits y).toNat))
  | .xor => some (.int k (k.wrap (BitVec.ofInt k.bits x ^^^ BitVec.ofInt k.bits y).toNat))
  | .andNot => some (.int k (k.wrap (BitVec.ofInt k.bits x &&& ~~~ BitVec.ofInt k.bits y).toNat))
  | .eql => some (.bool (x == y))
  | .neq => some (.bool (x != y))
  | .lss => some (.bool (!leI y x))
  | .leq => some (.bool (leI x y))
  | .gtr => some (.bool (!leI x y))
  | .geq => some (.bool (leI y x))
  | _ => none

def shI (b : BinOp) (k : IntKind) (x y : Int) : Option Value := if y < 0 then none else match b with
  | .shl => some (.int k (k.wrap (x * 2 ^ (min y.toNat k.bits))))
  | .shr => some (.int k (x.fdiv (2 ^ (min y.toNat k.bits))))
  | _ => none

def binS (b : BinOp) (x y : ByteArray) : Option Value := match b with
  | .add => if ((x.size + y.size : Nat) : Int) > IntKind.i64.max then none else some (.string (x ++ y))
  | .eql => some (.bool (x.toList == y.toList))
  | .neq => some (.bool (!(x.toList == y.toList)))
  | .lss => some (.bool (Op.bytesLess x.toList y.toList))
  | .leq => some (.bool (Op.bytesLess x.toList y.toList || x.toList == y.toList))
  | .gtr => some (.bool (!(Op.bytesLess x.toList y.toList || x.toList == y.toList)))
  | .geq => some (.bool (!(Op.bytesLess x.toList y.toList)))
  | _ => none

def isSh : BinOp → Bool
  | .shl => true
  | .shr => true
  | _ => false

def binL (b : BinOp) (x y : LV) : Option LV := match x, y with
  | .p (.s (.int k a)), .p (.s (.int k' c)) => (if isSh b then shI b k a c else if k = k' then binI b k a c else none).map (fun v => .p (.s v))
  | .p (.s (.string a)), .p (.s (.string c)) => (binS b a c).map (fun v => .p (.s v))
  | _, _ => none

def eqL (k : EK) (x y : LV) : Option Bool := match k, x, y with
  | .bool, .p (.s (.bool a)), .p (.s (.bool b)) => some (a == b)
  | .ptr, .p (.s (.pointer none)), .p (.s (.pointer none)) => some true
  | .ptr, .p (.s (.pointer none)), .p (.imm _ _) => some false
  | .ptr, .p (.s (.pointer none)), .ref _ _ => some false
  | .ptr, .p (.imm _ _), .p (.s (.pointer none)) => some false
  | .ptr, .ref _ _, .p (.s (.pointer none)) => some false
  | .slice, .p (.s (.slice none _ _)), .p (.s (.slice none _ _)) => some true
  | .slice, .p (.s (.slice none _ _)), .p (.sl _ _ _ _) => some false
  | .slice, .p (.s (.slice none _ _)), .arr _ _ _ _ _ _ => some false
  | .slice, .p (.sl _ _ _ _), .p (.s (.slice none _ _)) => some false
  | .slice, .arr _ _ _ _ _ _, .p (.s (.slice none _ _)) => some false
  | .func, .p (.s .nilFunc), .p (.s .nilFunc) => some true
  | .func, .fn _ _ _, .p (.s .nilFunc) => some false
  | .func, .p (.s .nilFunc), .fn _ _ _ => some false
  | _, _, _ => none

def unL (u : UnOp) (x : LV) : Option LV := match u, x with
  | .neg, .p (.s (.int k n)) => some (.int k (k.wrap (0 - n)))
  | .xor, .p (.s (.int k n)) => some (.int k (k.wrap (BitVec.ofInt k.bits (if k.signed then -1 else k.max) ^^^ BitVec.ofInt k.bits n).toNat))
  | .not, .p (.s (.bool b)) => some (.bool (!b))
  | _, _ => none

def natL : LV → Option Nat
  | .p (.s (.int _ n)) => if 0 ≤ n then some n.toNat else none
  | _ => none

def natO (d : Nat) : Option LV → Option Nat
  | none => some d
  | some v => natL v

def bytesL : List LV → Option (List UInt8)
  | [] => some []
  | .p (.s (.int .u8 n)) :: r => match bytesL r with
    | some l => some (UInt8.ofNat n.toNat :: l)
    | none => none
  | _ :: _ => none

def mm2 (mx : Bool) (x y : LV) : Option LV := match x, y with
  | .p (.s (.int k a)), .p (.s (.int _ b)) => some (.int k (if mx then (if b > a then b else a) else (if b < a then b else a)))
  | _, _ => none

def mmL (mx : Bool) : LV → List LV → Option LV
  | x, [] => some x
  | x, y :: r => match mm2 mx x y with
    | some z => mmL mx z r
    | none => none

/-- The references in a value. -/
def ids : LV → List Nat
  | .ref id _ => [id]
  | .arr id _ _ _ _ _ => [id]
  | .agg cs => idsL cs
  | .tuple cs => idsL cs
  | .fn _ a b => idsL a ++ idsL b
  | _ => []
  where idsL : List LV → List Nat
  | [] => []
  | x :: r => ids x ++ idsL r

def Obj.ids : Obj → List Nat
  | .cells cs => ids.idsL cs
  | .iter _ _ => []

/-- What can be reached: by so many steps. -/
def reach (lk : Nat → Option Obj) : Nat → List Nat → List Nat → Option (List Nat)
  | _, [], seen => some seen
  | 0, _ :: _, _ => none
  | n + 1, id :: todo, seen =>
    if seen.contains id then reach lk n todo seen
    else match lk id with
      | some o => reach lk n (o.ids ++ todo) (seen ++ [id])
      | none => reach lk n todo seen

structure Res where
  v : LV
  h : Hp
  tch : List Nat
  md : Bool
  deriving Inhabited

def callO (c : Ctx) (dr : Bool) (h : Hp) (f : FuncId) (args : List LV) : Option Res :=
  if dr then
    match reach (look c.H c.nx h) 1000 (ids.idsL args) [] with
    | some S =>
      if (ids.idsL args ++ S.flatMap (fun id => match look c.H c.nx h id with
        | some o => o.ids
        | none => [])).all (fun id => decide (id < c.nx + h.new.length)) then
      match c.O f args (fun id => if S.contains id then look c.H c.nx h id else none) (c.nx + h.new.length) with
      | some (r, u, n) => some ⟨r, { setAll c.nx h u with new := (setAll c.nx h u).new ++ n }, S, true⟩
      | none => none
      else none
    | none => none
  else
    match c.O f args (look c.H c.nx h) (c.nx + h.new.length) with
    | some (r, u, n) => some ⟨r, { setAll c.nx h u with new := (setAll c.nx h u).new ++ n }, [], true⟩
    | none => none

def appO (c : Ctx) (h : Hp) (sz bytes : Nat) (x y : LV) : Option Res :=
  match slCells c.H c.nx h y with
  | none => none
  | some (yc, n) =>
    if yc.length ≠ n * sz then none
    else if n = 0 then (match x with
      | .p (.s (.slice none 0 0)) => some ⟨.p (.s (.slice none 0 0)), h, ids y, false⟩
      | .p (.sl _ _ _ _) => some ⟨x, h, ids y, false⟩
      | .arr _ _ _ _ _ _ => some ⟨x, h, ids y, false⟩
      | _ => none)
    else match x with
      | .p (.s (.slice none 0 0)) => if n * bytes ≤ 2 ^ 40 then some ⟨.arr (c.nx + h.new.length) 0 n sz n false, push h (.cells yc), ids y, false⟩ else none
      | .p (.sl cs len sz' full) =>
        if full ∧ cs.length = len * sz ∧ sz' = sz ∧ (len + n) * bytes ≤ 2 ^ 40 then
          some ⟨.arr (c.nx + h.new.length) 0 (len + n) sz (len + n) false, push h (.cells (cs.map .p ++ yc)), ids y, false⟩
        else none
      | .arr id off len sz' cp ex =>
        match look c.H c.nx h id with
        | some (.cells cs) =>
          if sz' ≠ sz ∨ (len + n) * bytes > 2 ^ 40 ∨ off + len * sz > cs.length then none
          else if ex = true ∧ cp = len then
            some ⟨.arr (c.nx + h.new.length) 0 (len + n) sz (len + n) false, push h (.cells ((cs.drop off).take (len * sz) ++ yc)), id :: ids y, false⟩
          else if off + len * sz = cs.length then
            some ⟨.arr (c.nx + h.new.length) 0 (len + n) sz (len + n) false, push (setObj c.nx h id none) (.cells (cs.drop off ++ yc)), id :: ids y, true⟩
          else if off + (len + n) * sz ≤ cs.length ∧ len + n ≤ cp then
            some ⟨.arr id off (len + n) sz cp ex, setObj c.nx h id (some (.cells (splice cs (off + len * sz) yc))), id :: ids y, true⟩
          else none
        | _ => none
      | _ => none

def sliceO (sz : Nat) (x : LV) (lo hi mx : Option Nat) : Option LV :=
  match x with
  | .p (.s (.slice none 0 0)) =>
    if lo.getD 0 = 0 ∧ hi.getD 0 = 0 ∧ mx.getD 0 = 0 ∧ (mx.isSome → hi.isSome) then some (.p (.s (.slice none 0 0))) else none
  | .p (.sl cs len sz' full) =>
    if sz' = sz ∧ cs.length = len * sz then
      let l := lo.getD 0
      let h := hi.getD len
      match mx with
      | none => if l ≤ h ∧ h ≤ len then some (.p (.sl ((cs.drop (l * sz)).take ((h - l) * sz)) (h - l) sz (full && h == len))) else none
      | some m => if l ≤ h ∧ h ≤ m ∧ m ≤ len ∧ hi.isSome then some (.p (.sl ((cs.drop (l * sz)).take ((h - l) * sz)) (h - l) sz (h == m))) else none
    else none
  | .arr id off len sz' cp ex =>
    if sz' = sz then
      let l := lo.getD 0
      let h := hi.getD len
      match mx with
      | none => if l ≤ h ∧ (h ≤ len ∨ h ≤ cp) then some (.arr id (off + l * sz) (h - l) sz (cp - l) ex) else none
      | some m => if l ≤ h ∧ h ≤ m ∧ m ≤ len ∧ hi.isSome then some (.arr id (off + l * sz) (h - l) sz (m - l) true) else none
    else none
  | _ => none

def optMap (f : Opd → LV) : Option Opd → Option (Option Nat)
  | none => some none
  | some x => match natL (f x) with
    | some n => some (some n)
    | none => none

def evOp (c : Ctx) (dr : Bool) (env : Env) (h : Hp) (op : IROp) : Option Res :=
  let ρ := opd c env
  let pure' (v : LV) : Option Res := some ⟨v, h, [], false⟩
  let alloc' (o : Obj) (v : LV) : Option Res := some ⟨v, push h o, [], false⟩
  match op with
  | .mv x => pure' (ρ x)
  | .pick b x y => match ρ b with
    | .p (.s (.bool t)) => pure' (if t then ρ x else ρ y)
    | _ => none
  | .box im x => match (ρ x).cells with
    | some cs => if im then (match allP cs with
        | some ps => pure' (.p (.imm ps 0))
        | none => none)
      else alloc' (.cells cs) (.ref (c.nx + h.new.length) 0)
    | none => none
  | .alloc im zero => if im then pure' (.p (.imm zero 0)) else alloc' (.cells (zero.map .p)) (.ref (c.nx + h.new.length) 0)
  | .build zero parts => match fillP (zero.map .p) (parts.map fun (o, s, x) => (o, s, ρ x)) with
    | some cs => pure' (mkAgg cs)
    | none => none
  | .mkSl len sz zero parts => match fillP (zero.map .p) (parts.map fun (o, s, x) => (o, s, ρ x)) with
    | some cs => alloc' (.cells cs) (.arr (c.nx + h.new.length) 0 len sz len true)
    | none => none
  | .load sz ag x => match ρ x with
    | .p (.imm cs off) => match rd (cs.map .p) off sz ag with
      | some v => pure' v
      | none => none
    | .ref id off => match look c.H c.nx h id with
      | some (.cells cs) => match rd cs off sz ag with
        | some v => some ⟨v, h, [id], false⟩
        | none => none
      | _ => none
    | _ => none
  | .store sz a x => match ρ a, (ρ x).cells with
    | .ref id off, some vs => match look c.H c.nx h id with
      | some (.cells cs) => if vs.length = sz ∧ off + sz ≤ cs.length then some ⟨.undef, setObj c.nx h id (some (.cells (splice cs off vs))), [id], true⟩ else none
      | _ => none
    | _, _ => none
  | .nilCk x => match ρ x with
    | .p (.imm cs o) => pure' (.p (.imm cs o))
    | .ref id o => pure' (.ref id o)
    | .fn f a b => pure' (.fn f a b)
    | _ => none
  | .bin b x y => match binL b (ρ x) (ρ y) with
    | some v => pure' v
    | none => none
  | .eq neg k x y => match eqL k (ρ x) (ρ y) with
    | some t => pure' (.bool (if neg then !t else t))
    | none => none
  | .un u x => match unL u (ρ x) with
    | some v => pure' v
    | none => none
  | .cvt k x => match ρ x with
    | .p (.s (.int _ n)) => pure' (.int k (k.wrap n))
    | _ => none
  | .strC x => match ρ x with
    | .p (.s (.string b)) => pure' (.str b)
    | _ => none
  | .s2b x => match ρ x with
    | .p (.s (.string b)) => alloc' (.cells (b.data.toList.map fun x => .int .u8 x.toNat)) (.arr (c.nx + h.new.length) 0 b.size 1 b.size false)
    | _ => none
  | .b2s x => match ρ x with
    | .p (.s (.string _)) => none
    | v => match slCells c.H c.nx h v with
      | some (cs, n) => if cs.length = n then (match bytesL cs with
        | some l => some ⟨.str ⟨l.toArray⟩, h, ids v, false⟩
        | none => none) else none
      | none => none
  | .fieldAddr off x => match ρ x with
    | .p (.imm cs o) => pure' (.p (.imm cs (o + off)))
    | .ref id o => pure' (.ref id (o + off))
    | _ => none
  | .field off sz ag x => match ρ x with
    | .p (.agg cs) => match rd (cs.map .p) off sz ag with
      | some v => pure' v
      | none => none
    | .agg cs => match rd cs off sz ag with
      | some v => pure' v
      | none => none
    | _ => none
  | .idxASl sz x i => match ρ x, natL (ρ i) with
    | .p (.sl cs len sz' _), some n => if n < len ∧ sz' = sz then pure' (.p (.imm cs (n * sz))) else none
    | .arr id off len sz' _ _, some n => if n < len ∧ sz' = sz then pure' (.ref id (off + n * sz)) else none
    | _, _ => none
  | .idxAArr m sz x i => match ρ x, natL (ρ i) with
    | .p (.imm cs off), some n => if n < m then pure' (.p (.imm cs (off + n * sz))) else none
    | .ref id off, some n => if n < m then pure' (.ref id (off + n * sz)) else none
    | _, _ => none
  | .idxStr x i => match ρ x, natL (ρ i) with
    | .p (.s (.string b)), some n => match b.data[n]? with
      | some u => pure' (.int .u8 u.toNat)
      | none => none
    | _, _ => none
  | .idxArr m sz ag x i => match ρ x, natL (ρ i) with
    | .p (.agg cs), some n => if n < m then (match rd (cs.map .p) (n * sz) sz ag with
      | some v => pure' v
      | none => none) else none
    | _, _ => none
  | .slStr x lo hi => match ρ x, optMap ρ lo, optMap ρ hi with
    | .p (.s (.string b)), some l, some m =>
      if l.getD 0 ≤ m.getD b.size ∧ m.getD b.size ≤ b.size then pure' (.str (b.extract (l.getD 0) (m.getD b.size))) else none
    | _, _, _ => none
  | .slSl sz x lo hi mx => match optMap ρ lo, optMap ρ hi, optMap ρ mx with
    | some l, some m, some n => match sliceO sz (ρ x) l m n with
      | some v => pure' v
      | none => none
    | _, _, _ => none
  | .slArr n sz x lo hi mx => match ρ x, optMap ρ lo, optMap ρ hi, optMap ρ mx with
    | .ref id off, some l, some m, some none => match look c.H c.nx h id with
      | some (.cells cs) => if off + n * sz ≤ cs.length then (match sliceO sz (.arr id off n sz n true) l m none with
        | some v => some ⟨v, h, [id], false⟩
        | none => none) else none
      | _ => none
    | _, _, _, _ => none
  | .len str x => match str, ρ x with
    | true, .p (.s (.string b)) => pure' (.int .i64 b.size)
    | false, .p (.s (.slice none n _)) => pure' (.int .i64 n)
    | false, .p (.sl _ n _ _) => pure' (.int .i64 n)
    | false, .arr _ _ n _ _ _ => pure' (.int .i64 n)
    | _, _ => none
  | .app sz bytes x y => appO c h sz bytes (ρ x) (ρ y)
  | .copy sz x y => match ρ x with
    | .arr id off len sz' _ _ => match look c.H c.nx h id, slCells c.H c.nx h (ρ y) with
      | some (.cells cs), some (yc, n) =>
        if sz' = sz ∧ yc.length = n * sz ∧ off + len * sz ≤ cs.length then
          some ⟨.int .i64 (min n len : Nat), setObj c.nx h id (some (.cells (splice cs off (yc.take (min n len * sz))))), id :: ids (ρ y), true⟩
        else none
      | _, _ => none
    | _ => none
  | .minmax mx xs => match xs.map ρ with
    | [] => none
    | x :: r => match mmL mx x r with
      | some v => pure' v
      | none => none
  | .call f args => callO c dr h f (args.map ρ)
  | .callv x args => match ρ x with
    | .fn f a b => callO c dr h f (a ++ args.map ρ ++ b)
    | _ => none
  | .ext x i => match ρ x with
    | .tuple vs => match vs[i]? with
      | some v => pure' v
      | none => none
    | _ => none
  | .mkFn f a b => pure' (.fn f (a.map ρ) (b.map ρ))
  | .mkSlice sz bytes zero l m => match natL (ρ l), natL (ρ m) with
    | some len, some cap =>
      if len ≤ cap ∧ cap * bytes ≤ 2 ^ 40 ∧ cap < 2 ^ 62 ∧ zero.length = sz then
        alloc' (.cells ((List.replicate len zero).flatten.map .p)) (.arr (c.nx + h.new.length) 0 len sz cap true)
      else none
    | _, _ => none
  | .clr sz zero x => match ρ x with
    | .p (.s (.slice none 0 0)) => pure' (.tuple [])
    | .arr id off len sz' _ _ => if len = 0 then pure' (.tuple []) else match look c.H c.nx h id with
      | some (.cells cs) =>
        if sz' = sz ∧ zero.length = sz ∧ off + len * sz ≤ cs.length then
          some ⟨.tuple [], setObj c.nx h id (some (.cells (splice cs off ((List.replicate len zero).flatten.map .p)))), [id], true⟩
        else none
      | _ => none
    | _ => none
  | .rng x => match ρ x with
    | .p (.s (.string b)) => alloc' (.iter b 0) (.ref (c.nx + h.new.length) 0)
    | _ => none
  | .nxt x => match ρ x with
    | .ref id 0 => match look c.H c.nx h id with
      | some (.iter b q) =>
        if q < b.size then
          some ⟨.tuple [.bool true, .int .i64 q, .int .i32 (Utf8.decode b q).1], setObj c.nx h id (some (.iter b (q + (Utf8.decode b q).2))), [id], true⟩
        else some ⟨.tuple [.bool false], h, [id], false⟩
      | _ => none
    | _ => none
  | .bad => none

/-- Is an operation behind '&&', '||' carried out? -/
def wants (env : Env) : Option (Nat × Bool) → Option Bool
  | none => some true
  | some (t, b) => match get env t with
    | .p (.s (.bool x)) => some (x == b)
    | .p (.s (.tuple _)) => some false
    | _ => none

def putD (env : Env) (d : Option Nat) (v : LV) : Env := match d with
  | some t => (t, v) :: env
  | none => env

structure Tr where
  tch : List Nat
  md : Bool
  lo : Nat
  hi : Nat
  rds : List Nat
  wr : Option Nat
  deriving Inhabited

def gslot : Option (Nat × Bool) → List Nat
  | some (t, _) => [t]
  | none => []

def runOps (c : Ctx) : List IROper → Env → Hp → Option (Env × Hp)
  | [], env, h => some (env, h)
  | o :: r, env, h => match wants env o.guard with
    | some true => match evOp c false env h o.op with
      | some x => runOps c r (putD env o.dst x.v) x.h
      | none => none
    | some false => runOps c r (putD env o.dst .undef) h
    | none => none

def runOpsT (c : Ctx) : List IROper → Env → Hp → Option (List Tr × Env × Hp)
  | [], env, h => some ([], env, h)
  | o :: r, env, h => match wants env o.guard with
    | some true => match evOp c true env h o.op with
      | some x => match runOpsT c r (putD env o.dst x.v) x.h with
        | some (tr, e, h') => some (⟨x.tch, x.md, c.nx + h.new.length, c.nx + x.h.new.length, o.op.slots ++ gslot o.guard, o.dst⟩ :: tr, e, h')
        | none => none
      | none => none
    | some false => match runOpsT c r (putD env o.dst .undef) h with
      | some (tr, e, h') => some (⟨[], false, c.nx + h.new.length, c.nx + h.new.length, gslot o.guard, o.dst⟩ :: tr, e, h')
      | none => none
    | none => none

/-- Two operations, of which neither comes before the other, don't meet. -/
def apartT (a b : Tr) : Bool :=
  (match a.wr with
    | some d => !b.rds.contains d && b.wr != some d
    | none => true) &&
  (match b.wr with
    | some d => !a.rds.contains d
    | none => true) &&
  a.tch.all (fun x => !((a.md || b.md) && b.tch.contains x)) &&
  b.tch.all (fun x => !(decide (a.lo ≤ x) && decide (x < a.hi)))

/-- Of two operations: what hangs on their slots alone. -/
def apartS (a b : IROper) : Bool :=
  (match a.dst with
    | some d => !(b.op.slots ++ gslot b.guard).contains d && b.dst != some d
    | none => true) &&
  (match b.dst with
    | some d => !(a.op.slots ++ gslot a.guard).contains d
    | none => true)

def indepS (ops : List IROper) (before : List Nat) : Bool :=
  (List.range ops.length).all fun j => (List.range j).all fun i => (before.getD j 0).testBit i || apartS (ops.getD i default) (ops.getD j default)

/-- What hangs on the objects that they touch. -/
def apartD (a b : Tr) : Bool :=
  a.tch.all (fun x => !((a.md || b.md) && b.tch.contains x)) &&
  b.tch.all (fun x => !(decide (a.lo ≤ x) && decide (x < a.hi)))

/-- Nothing is written that is known, nothing made. -/
def quickD : List Tr → Bool
  | [] => true
  | t :: r => (!t.md || t.tch.isEmpty) && (t.lo == t.hi) && quickD r

def pairsD (t : Tr) (m : Nat) : Nat → List Tr → Bool
  | _, [] => true
  | i, s :: l => (m.testBit i || apartD s t) && pairsD t m (i + 1) l

def indepR : List Tr → List Tr → List Nat → Bool
  | _, [], _ => true
  | seen, t :: r, [] => pairsD t 0 0 seen && indepR (seen ++ [t]) r []
  | seen, t :: r, b :: bs => pairsD t b 0 seen && indepR (seen ++ [t]) r bs

def indepD (tr : List Tr) (before : List Nat) : Bool := if quickD tr then true else indepR [] tr before

inductive Ex where
  | normal | exit (id : Nat) | ret
  deriving DecidableEq, Inhabited

structure St where
  env : Env
  h : Hp
  deriving Inhabited

def iter (f : St → Option (Ex × St)) : Nat → St → Option (Ex × St)
  | 0, _ => none
  | n + 1, st => match f st with
    | some (.normal, st') => iter f n st'
    | r => r

def keep (live : List Nat) (env : Env) : Env := live.map fun t => (t, get env t)

def runC (c : Ctx) (n : Nat) : IRC → St → Option (Ex × St)
  | .skip, st => some (.normal, st)
  | .region ops none live, st => match runOps c ops st.env st.h with
    | some (env, h) => some (.normal, ⟨keep live env, h⟩)
    | none => none
  | .region ops (some before) live, st => match runOpsT c ops st.env st.h with
    | some (tr, env, h) => if indepD tr before then some (.normal, ⟨keep live env, h⟩) else none
    | none => none
  | .seq a b, st => match runC c n a st with
    | some (.normal, st') => runC c n b st'
    | r => r
  | .cond x a b, st => match opd c st.env x with
    | .p (.s (.bool t)) => if t then runC c n a st else runC c n b st
    | _ => none
  | .block id a, st => match runC c n a st with
    | some (.exit j, st') => if j = id then some (.normal, st') else some (.exit j, st')
    | r => r
  | .loop a, st => iter (runC c n a) n st
  | .exit id, st => some (.exit id, st)
  | .ret, st => some (.ret, st)
  | .bad, _ => none

/-- What a call leaves: the slices in what it returns, as they are; what nobody can reach, dropped. -/
def frzL (nx : Nat) (h : Hp) : Nat → LV → Option PV
  | 0, _ => none
  | _ + 1, .p x => some x
  | _ + 1, .arr id off len sz cp ex => if id < nx then none else match h.new[id - nx]? with
    | some (some (.cells cs)) => if off + len * sz ≤ cs.length then (match allP ((cs.drop off).take (len * sz)) with
      | some l => some (.sl l len sz (ex && cp == len))
      | none => none) else none
    | _ => none
  | n + 1, .agg cs => match go n cs with
    | some l => some (.agg l)
    | none => none
  | _ + 1, _ => none
  where go (n : Nat) : List LV → Option (List PV)
  | [] => some []
  | x :: r => match frzL nx h n x, go n r with
    | some y, some l => some (y :: l)
    | _, _ => none

def frz (nx : Nat) (h : Hp) : LV → Option LV
  | .tuple vs => match go vs with
    | some l => some (.tuple l)
    | none => none
  | x => match frzL nx h 8 x with
    | some y => some (.p y)
    | none => none
  where go : List LV → Option (List LV)
  | [] => some []
  | x :: r => match frzL nx h 8 x, go r with
    | some y, some l => some (.p y :: l)
    | _, _ => none

def renId (nx : Nat) (seen : List Nat) (id : Nat) : Option Nat :=
  if id < nx then some id else match seen.idxOf? id with
    | some k => some (nx + k)
    | none => none

def ren (nx : Nat) (seen : List Nat) : LV → Option LV
  | .junk => some .junk
  | .p x => some (.p x)
  | .ref id off => match renId nx seen id with
    | some j => some (.ref j off)
    | none => none
  | .arr id off len sz cp ex => match renId nx seen id with
    | some j => some (.arr j off len sz cp ex)
    | none => none
  | .agg cs => match go cs with
    | some l => some (.agg l)
    | none => none
  | .tuple cs => match go cs with
    | some l => some (.tuple l)
    | none => none
  | .fn f a b => match go a, go b with
    | some x, some y => some (.fn f x y)
    | _, _ => none
  where go : List LV → Option (List LV)
  | [] => some []
  | x :: r => match ren nx seen x, go r with
    | some y, some l => some (y :: l)
    | _, _ => none

def renO (nx : Nat) (seen : List Nat) : Option Obj → Option (Option Obj)
  | none => some none
  | some (.cells cs) => match ren.go nx seen cs with
    | some l => some (some (.cells l))
    | none => none
  | some (.iter s q) => some (some (.iter s q))

def renU (nx : Nat) (seen : List Nat) : Upd → Option Upd
  | [] => some []
  | (id, o) :: r => match renO nx seen o, renU nx seen r with
    | some p, some l => some ((id, p) :: l)
    | _, _ => none

def renN (H : Heap) (nx : Nat) (h : Hp) (seen : List Nat) : List Nat → Option (List (Option Obj))
  | [] => some []
  | id :: r => match renO nx seen (look H nx h id), renN H nx h seen r with
    | some p, some l => some (p :: l)
    | _, _ => none

def updIds : Upd → List Nat
  | [] => []
  | (_, some o) :: r => o.ids ++ updIds r
  | (_, none) :: r => updIds r

def finish (own : Bool) (H : Heap) (nx : Nat) (r0 : LV) (h : Hp) : Option (LV × Upd × List (Option Obj)) :=
  match (if own then some r0 else frz nx h r0) with
  | none => none
  | some r =>
    match reach (fun id => if id < nx then none else look H nx h id) 1000 (ids r ++ updIds h.upd) [] with
    | none => none
    | some seen =>
      if own || (ids r0).all (fun id => !seen.contains id) then
      match ren nx seen r, renU nx seen h.upd, renN H nx h seen seen with
      | some r', some u, some n => some (r', u, n)
      | _, _, _ => none
      else none

/-- What a result's place holds. -/
def resV (H : Heap) (nx : Nat) (st : St) : Nat × Option (Nat × Bool) → Option LV
  | (t, none) => some (get st.env t)
  | (t, some (sz, ag)) => match get st.env t with
    | .p (.imm cs off) => rd (cs.map .p) off sz ag
    | .ref id off => match look H nx st.h id with
      | some (.cells cs) => rd cs off sz ag
      | _ => none
    | _ => none

def resVs (H : Heap) (nx : Nat) (st : St) : List (Nat × Option (Nat × Bool)) → Option (List LV)
  | [] => some []
  | x :: r => match resV H nx st x, resVs H nx st r with
    | some v, some l => some (v :: l)
    | _, _ => none

def oneL : List LV → LV
  | [x] => x
  | l => .tuple l

def runF (O : Oracle) (G : Nat → Option (List PV)) (n : Nat) (f : IRF) (args : List LV) (H : Heap) (nx : Nat) : Option (LV × Upd × List (Option Obj)) :=
  if args.length = f.params.length then
    match runC ⟨O, G, H, nx⟩ n f.body ⟨f.params.zip args, ⟨[], []⟩⟩ with
    | some (.exit _, _) => none
    | some (_, st) => match resVs H nx st f.results with
      | some l => finish f.own H nx (oneL l) st.h
      | none => none
    | none => none
  else none

def evalN (F : FuncId → Option IRF) (G : Nat → Option (List PV)) (E : Oracle) : Nat → Oracle
  | 0 => fun _ _ _ _ => none
  | n + 1 => fun f args H nx => match F f with
    | some ir => runF (evalN F G E n) G n ir args H nx
    | none => E f args H nx

end Go.Sx
