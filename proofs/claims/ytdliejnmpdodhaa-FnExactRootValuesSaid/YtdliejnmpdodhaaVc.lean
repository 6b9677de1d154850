/-
  Abstract operations: what an operation gives on abstract values, and that the model's operation gives just that. Plain lemmas, about no function of the program.
  Conditions: those typed in each theorem.
-/
import Derived.Test.YtdliejnmpdodhaaVb
namespace Go.Proofs.Ytdliejnmpdodhaa
open Go.RowKit Go.ChangeShapes Go.WideShapes
set_option linter.unusedVariables false

def St.get (σ : St) (t : Nat) : V := (σ.tmps[t]?).getD .any
def St.put (σ : St) (dst : Option Nat) (x : V) : St :=
  match dst with
  | some d => { σ with tmps := σ.tmps.set d x }
  | none => σ
def ofCell : Value → V
  | .int k x => .d (.int k x)
  | .bool b => .d (.bool b)
  | _ => .any
def St.eval (σ : St) : Operand → V
  | .tmp t => σ.get t
  | .const v => ofCell v
  | .func f => .fn f []
  | .global _ => .any

/-! ### Types -/
def elemOf (P : Program) (t : TypeId) : Option TypeId :=
  match P.underlying t with
  | some (.slice e) => some e
  | _ => none
def aggT (P : Program) (t : TypeId) : Bool :=
  match P.underlying t with
  | some (.struct _) | some (.array _ _) => true
  | _ => false
/-- A field's place in a struct: its first cell, its type. -/
def fieldOf (P : Program) (t : TypeId) (f : Nat) : Option (Nat × TypeId) :=
  match P.underlying t with
  | some (.struct fs) => (fs[f]?).map fun x => (x.offset, x.type)
  | _ => none
/-- A type of one cell, with its zero value. -/
def zero1 (P : Program) (t : TypeId) : Option V :=
  match P.underlying t with
  | some (.int k) => some (.d (.int k 0))
  | some .bool => some (.d (.bool false))
  | some (.slice e) => some (.nil e)
  | _ => none
def cellOk : V → Value → Bool
  | .d (.int k x), .int k' x' => decide (k = k') && decide (x = x')
  | .d (.bool b), .bool b' => b == b'
  | .nil _, .slice none 0 0 => true
  | _, _ => false
def cellsOk : List V → List Value → Bool
  | [], [] => true
  | x :: xs, v :: vs => cellOk x v && cellsOk xs vs
  | _, _ => false
/-- The zero value's cells by the type's fields. -/
def zeros (P : Program) (t : TypeId) : Option (List V) :=
  match P.underlying t with
  | some (.struct fs) => fs.toList.mapM fun f => zero1 P f.type
  | _ => (zero1 P t).map ([·])
/-- The zero value's cells, held against the program's table. -/
def zeroV (P : Program) (t : TypeId) : Option (List V) :=
  match zeros P t, P.info? t with
  | some xs, some i => match i.zero with
    | some z => if cellsOk xs z.cells.toList = true ∧ i.size = xs.length ∧ (z.cells.size = i.size) then some xs else none
    | none => none
  | _, _ => none
/-- A constant at its type. -/
def evalT (P : Program) (t : TypeId) (σ : St) (x : Operand) : V :=
  match x with
  | .const (.slice none 0 0) => match elemOf P t with | some e => .nil e | none => .any
  | .const (.agg cs) => match zeroV P t with
    | some xs => if cellsOk xs cs.toList = true then .agg xs else .any
    | none => .any
  | x => σ.eval x

/-! ### Operations on numbers -/
def abin (P : Program) (t : TypeId) (op : BinOp) (x y : V) : Option V :=
  match x, y with
  | .d (.int k a), .d (.int k' b) =>
    match op with
    | .shl => if 0 ≤ b then some (.d (.int k (k.wrap (a * 2 ^ min b.toNat k.bits)))) else none
    | .shr => if 0 ≤ b then some (.d (.int k (a.fdiv (2 ^ min b.toNat k.bits)))) else none
    | _ => if k = k' then
      match op with
      | .add => some (.d (.int k (k.wrap (a + b))))
      | .sub => some (.d (.int k (k.wrap (a - b))))
      | .mul => some (.d (.int k (k.wrap (a * b))))
      | .quo => if b = 0 then none else some (.d (.int k (k.wrap (a.tdiv b))))
      | .rem => if b = 0 then none else some (.d (.int k (a.tmod b)))
      | .and => some (.d (.int k (k.wrap (BitVec.ofInt k.bits a &&& BitVec.ofInt k.bits b).toNat)))
      | .or => some (.d (.int k (k.wrap (BitVec.ofInt k.bits a ||| BitVec.ofInt k.bits b).toNat)))
      | .xor => some (.d (.int k (k.wrap (BitVec.ofInt k.bits a ^^^ BitVec.ofInt k.bits b).toNat)))
      | .andNot => some (.d (.int k (k.wrap (BitVec.ofInt k.bits a &&& ~~~BitVec.ofInt k.bits b).toNat)))
      | .eql => some (.d (.bool (a == b)))
      | .neq => some (.d (.bool (a != b)))
      | .lss => some (.d (.bool (decide (a < b))))
      | .leq => some (.d (.bool (decide (a ≤ b))))
      | .gtr => some (.d (.bool (decide (a > b))))
      | .geq => some (.d (.bool (decide (a ≥ b))))
      | _ => none
      else none
  | .d (.bool a), .d (.bool b) =>
    match P.underlying t with
    | some .bool => match op with
      | .eql => some (.d (.bool (a == b)))
      | .neq => some (.d (.bool (!(a == b))))
      | _ => none
    | _ => none
  | _, _ => none
def aun (op : UnOp) (x : V) : Option V :=
  match op, x with
  | .neg, .d (.int k n) => some (.d (.int k (k.wrap (0 - n))))
  | .not, .d (.bool b) => some (.d (.bool (!b)))
  | _, _ => none
def pickV (t : Bool) (a b : V) : V :=
  match a, b with
  | .d (.bool x), .d (.bool y) => .d (.bool (bif t then x else y))
  | a, b => bif t then a else b
/-- A slice's length. -/
def lenV (sl : List Slot) (x : V) : Option Nat :=
  match x with
  | .nil _ => some 0
  | .d (.sl _ es) => some es.length
  | .lit s n => match sl[s]? with
    | some (.var _ _) => some n
    | _ => none
  | .ref s => match sl[s]? with
    | some (.arr _ _ es) => some es.length
    | _ => none
  | _ => none
def intOf? (x : V) : Option Int :=
  match x with
  | .d (.int _ n) => some n
  | _ => none
/-- The place of element i. -/
def indexV (P : Program) (t : TypeId) (sl : List Slot) (x : V) (i : Int) : Option V :=
  match elemOf P t with
  | none => none
  | some e => if i < 0 ∨ (P.underlying e).isSome = false then none else
    match x with
    | .d (.sl _ es) => match es[i.toNat]? with
      | some c => if c.length = P.cellsOf e then some (.cptr c) else none
      | none => none
    | .ref s => match sl[s]? with
      | some (.arr _ _ es) => match es[i.toNat]? with
        | some _ => some (.eptr s (P.cellsOf e) i.toNat 0)
        | none => none
      | _ => none
    | .lit s n => match sl[s]? with
      | some (.var _ _) => if i.toNat < n then some (.ptr s (i.toNat * P.cellsOf e)) else none
      | _ => none
    | _ => none
/-- Some cells from a list of data: as a struct's value or as one value. -/
def takeD (agg : Bool) (n : Nat) (ds : List D) : Option V :=
  if agg then (if n ≤ ds.length then some (.agg ((ds.take n).map .d)) else none)
  else match ds with
    | d :: _ => some (.d d)
    | [] => none
def takeV (agg : Bool) (n : Nat) (xs : List V) : Option V :=
  if agg then (if n ≤ xs.length then some (.agg (xs.take n)) else none)
  else match xs with
    | x :: _ => some x
    | [] => none
def flatD (x : D) : Bool :=
  match x with
  | .int _ _ | .bool _ => true
  | .sl _ _ => false
def loadV (P : Program) (st : Bool) (t : TypeId) (sl : List Slot) (x : V) : Option V :=
  if (P.underlying t).isSome = false then none else
  match x with
  | .cptr ds => takeD (aggT P t) (P.cellsOf t) ds
  | .ptr s o => match sl[s]? with
    | some (.var _ xs) => takeV (aggT P t) (P.cellsOf t) (xs.drop o)
    | _ => none
  | .eptr s n i j => match sl[s]? with
    | some (.arr t' _ es) => match es[i]? with
      | some e => if n = P.cellsOf t' ∧ (st = false ∨ e.all flatD = true) then takeD (aggT P t) (P.cellsOf t) (e.drop j) else none
      | none => none
    | _ => none
  | _ => none
def fieldAddrV (P : Program) (t : TypeId) (sl : List Slot) (x : V) (f : Nat) : Option V :=
  match fieldOf P t f with
  | none => none
  | some (o, ft) => if P.cellsOf ft = 0 then none else match x with
    | .cptr ds => some (.cptr (ds.drop o))
    | .ptr s p => match sl[s]? with
      | some (.var _ _) => some (.ptr s (p + o))
      | _ => none
    | .eptr s n i j => match sl[s]? with
      | some (.arr _ _ _) => some (.eptr s n i (j + o))
      | _ => none
    | _ => none
def fieldV (P : Program) (t : TypeId) (x : V) (f : Nat) : Option V :=
  match fieldOf P t f with
  | none => none
  | some (o, ft) => if (P.underlying ft).isSome = false then none else match x with
    | .agg xs => takeV (aggT P ft) (P.cellsOf ft) (xs.drop o)
    | _ => none
/-- Some cells put into others. -/
def putAt {α : Type} (xs : List α) (o : Nat) (ys : List α) : List α := xs.take o ++ ys ++ xs.drop (o + ys.length)
def cellsV (x : V) : List V :=
  match x with
  | .agg xs => xs
  | x => [x]
/-- Parts put into cells, each at its place. -/
def fillV (place : Nat → Option (Nat × Nat)) (cells : List V) : List (Nat × V) → Option (List V)
  | [] => some cells
  | (f, x) :: rest => match place f with
    | none => none
    | some (o, n) => if (cellsV x).length = n ∧ o + n ≤ cells.length ∧ (cellsV x).all V.cell = true then fillV place (putAt cells o (cellsV x)) rest else none
def placeOf (P : Program) (t : TypeId) (f : Nat) : Option (Nat × Nat) := (fieldOf P t f).map fun p => (p.1, P.cellsOf p.2)

/-- len, max, min. -/
def abuiltin (P : Program) (sl : List Slot) (b : Builtin) (xs : List V) (ts : List TypeId) : Option V :=
  match b with
  | .len => match xs, ts with
    | [x], [t] => match elemOf P t with
      | some _ => (lenV sl x).map fun (n : Nat) => V.d (.int .i64 (n : Int))
      | none => none
    | _, _ => none
  | .max => match xs with
    | [.d (.int k a), .d (.int _ b)] => some (.d (.int k (if b > a then b else a)))
    | _ => none
  | .min => match xs with
    | [.d (.int k a), .d (.int _ b)] => some (.d (.int k (if b < a then b else a)))
    | _ => none
  | _ => none
/-- Bounds of a slice operation. -/
def boundV (σ : St) (x : Option Operand) (d : Nat) : Option Nat :=
  match x with
  | none => some d
  | some x => match intOf? (σ.eval x) with
    | some n => if 0 ≤ n then some n.toNat else none
    | none => none
/-- A part of data. -/
def partV (P : Program) (t : TypeId) (x : V) (lo hi : Option Nat) : Option V :=
  match elemOf P t with
  | none => none
  | some e => if (P.underlying e).isSome = false then none else match x, lo, hi with
    | .d (.sl t' es), some lo, some hi => if lo ≤ hi ∧ hi ≤ es.length ∧ (es.all fun c => c.length == P.cellsOf e) = true then some (.d (.sl t' ((es.take hi).drop lo))) else none
    | _, _, _ => none
/-- The operations that only reckon or read: what they give. -/
def apure (P : Program) (st : Bool) (σ : St) (o : Oper) : Option V :=
  match o.op with
  | .move x | .assign x => some (evalT P o.type σ x)
  | .pick c a b => match σ.eval c with
    | .d (.bool t) => some (pickV t (σ.eval a) (σ.eval b))
    | _ => none
  | .binOp op t x y _ => abin P t op (σ.eval x) (σ.eval y)
  | .unOp op _ x => aun op (σ.eval x)
  | .convert s d x => match P.underlying s, P.underlying d, σ.eval x with
    | some _, some (.int k), .d (.int _ n) => some (.d (.int k (k.wrap n)))
    | _, _, _ => none
  | .call c => match c.callee with
    | .builtin b => abuiltin P σ.slots b (c.args.toList.map σ.eval) c.argTypes.toList
    | _ => none
  | .indexAddr t x i => match intOf? (σ.eval i) with
    | some n => indexV P t σ.slots (σ.eval x) n
    | none => none
  | .load t x => loadV P st t σ.slots (σ.eval x)
  | .fieldAddr t x f => fieldAddrV P t σ.slots (σ.eval x) f
  | .field t x f => fieldV P t (σ.eval x) f
  | .extract x i => match σ.eval x with
    | .tup xs => xs[i]?
    | _ => none
  | .nilCheck x => match σ.eval x with
    | .ptr s p => match σ.slots[s]? with
      | some (.var _ _) => some (.ptr s p)
      | _ => none
    | .cptr ds => some (.cptr ds)
    | _ => none
  | .build t ps => match P.underlying t, zeroV P t with
    | some (.struct _), some z => (fillV (placeOf P t) z (ps.toList.map fun p => (p.1, σ.eval p.2))).map .agg
    | _, _ => none
  | .makeFunc (.func f) first caps => if first.isEmpty = true then some (.fn f (caps.toList.map σ.eval)) else none
  | .slice t x lo hi none => match lenV σ.slots (σ.eval x) with
    | some n => partV P t (σ.eval x) (boundV σ lo 0) (boundV σ hi n)
    | none => none
  | _ => none
end Go.Proofs.Ytdliejnmpdodhaa
