/- The model's code, turned into the value machine's. -/
import Derived.Test.YtkdimbcfacoboaaGreatDoorSxA
namespace Go.Sx
open Go

def tsz (P : Program) (t : TypeId) : Option Nat := (P.info? t).map (·.size)
def tby (P : Program) (t : TypeId) : Option Nat := (P.info? t).map (·.bytes)
def tag? (P : Program) (t : TypeId) : Option Bool := (P.underlying t).map fun
  | .struct _ | .array _ _ => true
  | _ => false
def tzero (P : Program) (t : TypeId) : Option (List PV) := match P.info? t with
  | some i => match i.zero with
    | some v => if v.cells.all (·.oneCell') then some (v.cells.toList.map .s) else none
    | none => none
  | none => none

def copd : Operand → Opd
  | .tmp t => .t t
  | .const v => .c (ofConst v)
  | .global g => .g g
  | .func f => .c (.fn f [] [])

def cparts (place : Nat → Option (Nat × Nat)) : List (Nat × Operand) → Option (List (Nat × Nat × Opd))
  | [] => some []
  | (i, x) :: r => match place i, cparts place r with
    | some (o, s), some l => some ((o, s, copd x) :: l)
    | _, _ => none

def eqKind (P : Program) (t : TypeId) : Option EK := match P.underlying t with
  | some .bool => some .bool
  | some (.pointer _) => some .ptr
  | some (.slice _) => some .slice
  | some (.func _ _ _) => some .func
  | _ => none

def cop (P : Program) (imT : TypeId → Bool) : Op → IROp
  | .move x => .mv (copd x)
  | .assign x => .mv (copd x)
  | .pick c a b => .pick (copd c) (copd a) (copd b)
  | .alloc t => match tzero P t with
    | some z => .alloc (imT t) z
    | none => .bad
  | .box t x => .box (imT t) (copd x)
  | .build t parts => match P.underlying t, tzero P t with
    | some (.struct fs), some z => match fs.toList.mapM (fun f => (P.info? f.type).map fun i => (f.offset, i.size)) with
      | some places => match cparts (fun i => places.toArray[i]?) parts.toList with
        | some l => .build z l
        | none => .bad
      | none => .bad
    | some (.array _ e), some z => match P.info? e with
      | some ie => match cparts (fun i => some (i * ie.size, ie.size)) parts.toList with
        | some l => .build z l
        | none => .bad
      | none => .bad
    | _, _ => .bad
  | .buildSlice t len parts => match P.underlying t with
    | some (.slice e) => match tsz P e, tzero P e with
      | some s, some z => match cparts (fun i => some (i * s, s)) parts.toList with
        | some l => if len = 0 then (if parts.size = 0 then .mkSl 0 s [] [] else .bad) else if len * s ≤ 2 ^ 24 ∧ z.length = s ∧ len * s ≠ 0 then .mkSl len s ((List.replicate len z).flatten) l else .bad
        | none => .bad
      | _, _ => .bad
    | _ => .bad
  | .load t a => match tsz P t, tag? P t with
    | some s, some g => .load s g (copd a)
    | _, _ => .bad
  | .store t a x => match tsz P t with
    | some s => .store s (copd a) (copd x)
    | none => .bad
  | .nilCheck x => .nilCk (copd x)
  | .binOp op t x y _ => match op with
    | .eql => match eqKind P t with
      | some k => .eq false k (copd x) (copd y)
      | none => .bin .eql (copd x) (copd y)
    | .neq => match eqKind P t with
      | some k => .eq true k (copd x) (copd y)
      | none => .bin .neq (copd x) (copd y)
    | op => .bin op (copd x) (copd y)
  | .unOp u _ x => .un u (copd x)
  | .convert src dst x => match P.underlying src, P.underlying dst with
    | some (.int _), some (.int k) => .cvt k (copd x)
    | some .string, some .string => .strC (copd x)
    | some .string, some (.slice e) => match P.underlying e with
      | some (.int .u8) => .s2b (copd x)
      | _ => .bad
    | some (.slice e), some .string => match P.underlying e with
      | some (.int .u8) => .b2s (copd x)
      | _ => .bad
    | _, _ => .bad
  | .makeFunc (.func f) a b => .mkFn f (a.toList.map copd) (b.toList.map copd)
  | .makeSlice t l c => match P.underlying t with
    | some (.slice e) => match tsz P e, tby P e, tzero P e with
      | some s, some b, some z => .mkSlice s b z (copd l) (copd c)
      | _, _, _ => .bad
    | _ => .bad
  | .slice t x lo hi mx => match P.underlying t with
    | some .string => if mx.isSome then .bad else .slStr (copd x) (lo.map copd) (hi.map copd)
    | some (.slice e) => match tsz P e with
      | some s => .slSl s (copd x) (lo.map copd) (hi.map copd) (mx.map copd)
      | none => .bad
    | some (.array n e) => match tsz P e with
      | some s => .slArr n s (copd x) (lo.map copd) (hi.map copd) (mx.map copd)
      | none => .bad
    | _ => .bad
  | .fieldAddr t x f => match P.underlying t with
    | some (.struct fs) => match fs[f]? with
      | some fd => match tsz P fd.type with
        | some s => if s = 0 then .bad else .fieldAddr fd.offset (copd x)
        | none => .bad
      | none => .bad
    | _ => .bad
  | .field t x f => match P.underlying t with
    | some (.struct fs) => match fs[f]? with
      | some fd => match tsz P fd.type, tag? P fd.type with
        | some s, some g => .field fd.offset s g (copd x)
        | _, _ => .bad
      | none => .bad
    | _ => .bad
  | .indexAddr t x i => match P.underlying t with
    | some (.slice e) => match tsz P e with
      | some s => .idxASl s (copd x) (copd i)
      | none => .bad
    | some (.array n e) => match tsz P e with
      | some s => .idxAArr n s (copd x) (copd i)
      | none => .bad
    | _ => .bad
  | .index t x i => match P.underlying t with
    | some .string => .idxStr (copd x) (copd i)
    | some (.array n e) => match tsz P e, tag? P e with
      | some s, some g => .idxArr n s g (copd x) (copd i)
      | _, _ => .bad
    | _ => .bad
  | .extract x i => .ext (copd x) i
  | .call c => match c.callee with
    | .value (.func f) => match P.funcs[f]? with
      | some fn => if fn.body.isSome ∧ fn.name ≠ "runtime.NumGoroutine" then .call f (c.args.toList.map copd) else .bad
      | none => .bad
    | .value x => .callv (copd x) (c.args.toList.map copd)
    | .builtin .len => match (c.argTypes[0]?).bind (P.underlying ·), c.args.toList with
      | some .string, [x] => .len true (copd x)
      | some (.slice _), [x] => .len false (copd x)
      | some (.array n _), [_] => .mv (.c (.int .i64 n))
      | _, _ => .bad
    | .builtin .append => match c.argTypes.toList, c.args.toList with
      | [t, u], [x, y] => match P.underlying t, P.underlying u with
        | some (.slice e), some ty => match tsz P e, tby P e, tzero P e, ty with
          | some s, some b, some z, .slice _ => if b = 0 ∨ z.length ≠ s then .bad else .app s b (copd x) (copd y)
          | some s, some b, some z, .string => if b = 0 ∨ z.length ≠ s then .bad else .app s b (copd x) (copd y)
          | _, _, _, _ => .bad
        | _, _ => .bad
      | _, _ => .bad
    | .builtin .copy => match (c.argTypes[0]?).bind (P.underlying ·), c.args.toList with
      | some (.slice e), [x, y] => match tsz P e with
        | some s => .copy s (copd x) (copd y)
        | none => .bad
      | _, _ => .bad
    | .builtin .clear => match (c.argTypes[0]?).bind (P.underlying ·), c.args.toList with
      | some (.slice e), [x] => match tsz P e, tzero P e with
        | some s, some z => .clr s z (copd x)
        | _, _ => .bad
      | _, _ => .bad
    | .builtin .min => .minmax false (c.args.toList.map copd)
    | .builtin .max => .minmax true (c.args.toList.map copd)
    | _ => .bad
  | .range t x => match P.underlying t with
    | some .string => .rng (copd x)
    | _ => .bad
  | .next x str => if str then .nxt (copd x) else .bad
  | _ => .bad

def guardOf (ops : Array Oper) : Option (Nat × Bool) → Option (Option (Nat × Bool))
  | none => some none
  | some (j, b) => match (ops[j]?).bind (·.dst) with
    | some t => some (some (t, b))
    | none => none

def dstOk (d : Option Nat) (nt : Nat) : Bool := match d with
  | some d => decide (d < nt)
  | none => true

def coper (P : Program) (imT : TypeId → Bool) (nt : Nat) (ops : Array Oper) (o : Oper) : IROper :=
  match guardOf ops o.guard with
  | some g => if dstOk o.dst nt then ⟨o.dst, cop P imT o.op, g⟩ else ⟨o.dst, .bad, none⟩
  | none => ⟨o.dst, .bad, none⟩

/- Which slots are read later: it need not be right; where it isn't, the machine stops. -/
def ins (t : Nat) : List Nat → List Nat
  | [] => [t]
  | x :: r => if t < x then t :: x :: r else if t = x then x :: r else x :: ins t r
def uni (a b : List Nat) : List Nat := a.foldl (fun l t => ins t l) b
def del (t : Nat) (l : List Nat) : List Nat := l.filter (· != t)
def liveOps : List IROper → List Nat → List Nat
  | [], after => after
  | o :: r, after =>
    let l := liveOps r after
    let l := match o.dst with
      | some d => del d l
      | none => l
    let l := uni o.op.slots l
    match o.guard with
    | some (t, _) => ins t l
    | none => l

abbrev LCtx := List (Nat × List Nat)

def cc (P : Program) (imT : TypeId → Bool) (nt : Nat) (res : List Nat) (x : LCtx) : Code → List Nat → IRC × List Nat
  | .skip, a => (.skip, a)
  | .region _ ops draw, a =>
    let l := ops.toList.map (coper P imT nt ops)
    (if draw && !((ops.zipIdx.all fun (o, i) => o.after.all fun e => !Region.binds .any e || decide (e.on < i)) && indepS l (Region.before ops).toList) then .bad
      else .region l (if draw then some (Region.before ops).toList else none) a, liveOps l a)
  | .seq c d, a =>
    let (d', a') := cc P imT nt res x d a
    let (c', a'') := cc P imT nt res x c a'
    (.seq c' d', a'')
  | .cond o c d, a =>
    let (c', l) := cc P imT nt res x c a
    let (d', m) := cc P imT nt res x d a
    (.cond (copd o) c' d', uni (copd o).slots (uni l m))
  | .block id c, a =>
    let (c', l) := cc P imT nt res ((id, a) :: x) c a
    (.block id c', l)
  | .loop c, _ =>
    let (_, l) := cc P imT nt res x c []
    let (_, l) := cc P imT nt res x c l
    let (c', l) := cc P imT nt res x c l
    (.loop c', l)
  | .exit id, _ => (.exit id, (x.find? (·.1 == id)).elim [] (·.2))
  | .ret, _ => (.ret, res)
  | _, _ => (.bad, [])

def resSlots (P : Program) : List ResultVar → Option (List (Nat × Option (Nat × Bool)))
  | [] => some []
  | .tmp t :: r => match resSlots P r with
    | some l => some ((t, none) :: l)
    | none => none
  | .cell a t :: r => match tsz P t, tag? P t, resSlots P r with
    | some s, some g, some l => some ((a, some (s, g)) :: l)
    | _, _, _ => none

def cF (P : Program) (imT : TypeId → Bool) (own : Bool) (fn : Func) : Option IRF :=
  match fn.body, resSlots P fn.results.toList with
  | some c, some rs => some ⟨List.range (fn.params.size + fn.nfree), (cc P imT fn.ntmps (uni (rs.map (·.1)) []) [] c (uni (rs.map (·.1)) [])).1, rs, own⟩
  | _, _ => none

end Go.Sx
