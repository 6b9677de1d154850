/-
  Abstract walks: what code gives from an abstract state; and that the model's code gives just that. Plain lemmas, about no function of the program.
  Conditions: those typed in each theorem.
-/
import Derived.Test.YtdliejnmpdodhaaVj
namespace Go.Proofs.Ytdliejnmpdodhaa
open Go.RowKit Go.ChangeShapes Go.WideShapes
set_option linter.unusedVariables false

/-! ### Fewer slots, under other numbers -/
def ren0 (π : List Nat) (x : V) : Option V :=
  match x with
  | .ref k => (π[k]?).map .ref
  | .lit k n => (π[k]?).map (.lit · n)
  | .ptr k o => (π[k]?).map (.ptr · o)
  | .eptr k n i j => (π[k]?).map (.eptr · n i j)
  | .nil t => some (.nil t)
  | .d x => some (.d x)
  | .cptr ds => some (.cptr ds)
  | .any => some .any
  | _ => none
def ren0s (π : List Nat) : List V → Option (List V)
  | [] => some []
  | x :: xs => match ren0 π x, ren0s π xs with
    | some y, some ys => some (y :: ys)
    | _, _ => none
def ren (π : List Nat) (x : V) : Option V :=
  match x with
  | .agg xs => (ren0s π xs).map .agg
  | .fn f xs => (ren0s π xs).map (.fn f)
  | x => ren0 π x
def rens (π : List Nat) : List V → Option (List V)
  | [] => some []
  | x :: xs => match ren π x, rens π xs with
    | some y, some ys => some (y :: ys)
    | _, _ => none
def renT (π : List Nat) (x : V) : Option V :=
  match x with
  | .tup xs => (rens π xs).map .tup
  | x => ren π x
def renS (π : List Nat) (x : Slot) : Option Slot :=
  match x with
  | .arr t ow es => some (.arr t ow es)
  | .var t xs => (ren0s π xs).map (.var t)
  | .dead => some .dead
  | .unborn => none
def renSs (π : List Nat) : List Slot → Option (List Slot)
  | [] => some []
  | x :: xs => match renS π x, renSs π xs with
    | some y, some ys => some (y :: ys)
    | _, _ => none
/-- y says no more than x does (π: the slots that are kept; st: nothing becomes data). -/
def le0 (st : Bool) (sl : List Slot) (π : List Nat) (x y : V) : Prop :=
  y = .any ∨ ren0 π y = some x ∨ ∃ d, y = .d d ∧ st = false ∧ presD sl x = some d ∧ ∀ s, x = .ref s → s ∉ π
def le0s (st : Bool) (sl : List Slot) (π : List Nat) : List V → List V → Prop
  | [], [] => True
  | x :: xs, y :: ys => le0 st sl π x y ∧ le0s st sl π xs ys
  | _, _ => False
def leV (st : Bool) (sl : List Slot) (π : List Nat) (x y : V) : Prop :=
  match y with
  | .agg ys => ∃ xs, x = .agg xs ∧ le0s st sl π xs ys
  | .fn f ys => ∃ xs, x = .fn f xs ∧ le0s st sl π xs ys
  | y => le0 st sl π x y
def leTmps (st : Bool) (sl : List Slot) (π : List Nat) : List V → List V → Prop
  | [], [] => True
  | x :: xs, y :: ys => leV st sl π x y ∧ leTmps st sl π xs ys
  | _, _ => False
def leT (st : Bool) (sl : List Slot) (π : List Nat) (x y : V) : Prop :=
  match y with
  | .tup ys => ∃ xs, x = .tup xs ∧ leTmps st sl π xs ys
  | y => leV st sl π x y
def leS (st : Bool) (sl : List Slot) (π : List Nat) (x y : Slot) : Prop :=
  match y with
  | .dead => True
  | .unborn => False
  | .arr t ow es => x = .arr t ow es ∨ (ow = false ∧ st = false ∧ x = .arr t true es)
  | .var t ys => ∃ xs, x = .var t xs ∧ le0s st sl π xs ys
def leSlots (st : Bool) (sl : List Slot) (π : List Nat) : List Nat → List Slot → Prop
  | [], [] => True
  | k :: ks, y :: ys => (∃ x, sl[k]? = some x ∧ leS st sl π x y) ∧ leSlots st sl π ks ys
  | _, _ => False
/-- The first n names stay. -/
def isPin : Nat → List Nat → Nat → Bool
  | 0, _, _ => true
  | n + 1, k :: ks, i => k == i && isPin n ks (i + 1)
  | _ + 1, [], _ => false
/-- How code is walked: how many slots keep their names; whether no rows are read as data; whether calls may turn slots. -/
structure Mode where
  pin : Nat
  st : Bool
  tc : Bool
/-- σ' says no more than σ; its slots are π's among σ's. -/
def Le (m : Mode) (σ σ' : St) : Prop := ∃ π : List Nat, π.Nodup ∧ isPin m.pin π 0 = true ∧ leSlots m.st σ.slots π π σ'.slots ∧ leTmps m.st σ.slots π σ.tmps σ'.tmps

/-! ### Calls that turn slots -/
def laters : List Slot → List Slot → Prop
  | [], _ => True
  | x :: xs, y :: ys => Later x y ∧ laters xs ys
  | _ :: _, [] => False
/-- A contract over slots: the arguments, the slots that they name; the result, the slots afterwards (those of before at their places, then new ones). -/
def ConT (P : Program) (f : FuncId) (xs : List V) (sl : List Slot) (r : V) (sl' : List Slot) : Prop :=
  callable P f = true ∧ laters sl sl' ∧ ∀ (w : World) (φ : Hdrs) (Fs : List (List Nat)) (R : Nat → Prop) (hR : false = false → ∀ b, (b ∈ Fs.flatten ∨ w.heap.size ≤ b) → R b) (vs : List Value),
    MemR P ⟨w, top φ sl, (· ∈ Fs.flatten), φ, R, false, hR⟩ φ sl w Fs → vs.length = xs.length → (∀ (i : Nat) (x : V) (v : Value), xs[i]? = some x → vs[i]? = some v → VR w (good R φ sl w) φ sl x v) →
    Calls P f vs.toArray w fun e w' => ∃ v φ' Fs', e = .returned v ∧ MemR P ⟨w, top φ sl, (· ∈ Fs.flatten), φ, R, false, hR⟩ φ' sl' w' Fs' ∧ VR w' (good R φ' sl' w') φ' sl' r v
/-- A value, where the slots ks have become data. -/
def view0 (sl : List Slot) (ks : List Nat) (x : V) : V :=
  match x with
  | .ref s => if s ∈ ks then match sl[s]? with
    | some (.arr t _ es) => .d (.sl t es)
    | _ => .ref s
    else .ref s
  | x => x
def viewV (sl : List Slot) (ks : List Nat) (x : V) : V :=
  match x with
  | .agg xs => .agg (xs.map (view0 sl ks))
  | .fn f xs => .fn f (xs.map (view0 sl ks))
  | x => view0 sl ks x
def arrsOk (sl : List Slot) : List Nat → Prop
  | [] => True
  | k :: ks => (∃ t ow es, sl[k]? = some (.arr t ow es)) ∧ arrsOk sl ks
def setAll {α : Type} : List α → List Nat → List α → List α
  | sl, k :: ks, y :: ys => setAll (sl.set k y) ks ys
  | sl, _, _ => sl
/-- What goes on behind a call that turned slots. -/
def backT (sl : List Slot) (π : List Nat) (r : V) (slc' : List Slot) (K : V → List Slot → Prop) : Prop :=
  ∃ r' ys, renT (π ++ List.range' sl.length (slc'.length - π.length)) r = some r' ∧ renSs (π ++ List.range' sl.length (slc'.length - π.length)) slc' = some ys ∧ K r' (setAll sl π (ys.take π.length) ++ ys.drop π.length)
def lives : List Slot → Prop
  | [] => True
  | x :: xs => x.live ∧ lives xs
def CallT (P : Program) (m : Mode) (sl : List Slot) (f : FuncId) (xs : List V) (K : V → List Slot → Prop) : Prop :=
  m.tc = true ∧ m.st = false ∧ ∃ (ks π : List Nat) (args : List V) (slc : List Slot) (r : V) (slc' : List Slot),
    ConT P f args slc r slc' ∧ lives slc ∧ ks.Nodup ∧ arrsOk sl ks ∧ π.Nodup ∧ leSlots true (kill ks sl) π π slc ∧ leTmps true (kill ks sl) π (xs.map (viewV sl ks)) args ∧ backT (kill ks sl) π r slc' K
def give1 (sl : List Slot) (v : V) : Option (X × List Nat) :=
  match v with
  | .agg vs => (takeC sl vs).map fun p => (.agg p.1, p.2)
  | v => match takeC sl [v] with
    | some ([x], ks) => some (.d x, ks)
    | _ => none
def give1s (sl : List Slot) : List V → Option (List X × List Nat)
  | [] => some ([], [])
  | v :: vs => match give1 sl v, give1s sl vs with
    | some (x, k), some (xs, ks) => if k.all (fun q => !ks.contains q) = true then some (x :: xs, k ++ ks) else none
    | _, _ => none
/-- A function that writes over what its arguments own, and returns this number. -/
def ConK (P : Program) (f : FuncId) (xs : List X) (n : Int) : Prop :=
  callable P f = true ∧ ∀ (w : World) (vs : List Value) (Gs : List (List Nat)), vs.length = xs.length → Gs.length = xs.length → (∀ (i : Nat) (x : X) (v : Value) (F : List Nat), xs[i]? = some x → vs[i]? = some v → Gs[i]? = some F → XOwn P w x v F) → Gs.flatten.Nodup →
    Calls P f vs.toArray w fun e w' => e = .returned (.int .i64 n) ∧ Only Gs.flatten w w'
/-- A function that writes over a row in place, beginning with the number k, and returns the number n. -/
def ConM (P : Program) (f : FuncId) (t : TypeId) (es : List (List D)) (k n : Int) (es' : List (List D)) : Prop :=
  callable P f = true ∧ es'.length = es.length ∧ ∀ (w : World) (A : Option Nat) (c : Nat) (F : List Nat), RowOf P w (Owns P w) t es A c F → F.Nodup →
    Calls P f #[.slice (hdr A) es.length c, .int .i64 k] w fun e w' => e = .returned (.int .i64 n) ∧ RowOf P w' (Owns P w') t es' A c F ∧ Only F w w'
/-- Owned rows, of the same types and lengths. -/
def arrLike : Slot → Slot → Prop
  | .arr t true es, .arr t' true es' => t' = t ∧ es'.length = es.length
  | _, _ => False
def allLike : List Slot → List Slot → Prop
  | [], [] => True
  | x :: xs, y :: ys => arrLike x y ∧ allLike xs ys
  | _, _ => False
/-- A function that writes over the rows that its arguments name, in place, and returns the number n. -/
def ConW (P : Program) (f : FuncId) (xs : List V) (sl : List Slot) (n : Int) (sl' : List Slot) : Prop :=
  callable P f = true ∧ allLike sl sl' ∧ ∀ (w : World) (φ : Hdrs) (Fs : List (List Nat)) (R : Nat → Prop) (hR : ∀ b, R b → b < w.heap.size ∧ b ∉ Fs.flatten) (vs : List Value),
    MemR P ⟨w, (· ∈ Fs.flatten), (· ∈ Fs.flatten), φ, R, true, by simp⟩ φ sl w Fs → vs.length = xs.length → (∀ (i : Nat) (x : V) (v : Value), xs[i]? = some x → vs[i]? = some v → VR w (good R φ sl w) φ sl x v) →
    Calls P f vs.toArray w fun e w' => e = .returned (.int .i64 n) ∧ ∃ Fs', MemR P ⟨w, (· ∈ Fs.flatten), (· ∈ Fs.flatten), φ, R, true, by simp⟩ φ sl' w' Fs'
/-- What may be read as data lies apart from what the slots own; what is owned may be written. -/
def Base.Apart (w0 : Base) : Prop := (∀ b, w0.R b → b < w0.w.heap.size ∧ ¬ w0.B b) ∧ ∀ b, w0.B b → w0.T b
theorem Base.Apart.no {w0 : Base} (h : w0.Apart) {b : Nat} (hb : w0.B b ∨ w0.w.heap.size ≤ b) (hr : w0.R b) : False := by
  obtain ⟨h1, h2⟩ := h.1 b hr
  rcases hb with hb | hb
  · exact h2 hb
  · omega
theorem Base.Apart.old {w0 : Base} (h : w0.Apart) {b : Nat} (hb : w0.B b ∨ w0.w.heap.size ≤ b) : w0.T b ∨ w0.w.heap.size ≤ b := hb.imp_left (h.2 b)
/-- A call that writes over what slots own, where nothing of them is read as data: the slots of its arguments die; or its row goes on with what it wrote. -/
def CallS (P : Program) (m : Mode) (sl : List Slot) (f : FuncId) (xs : List V) (K : V → List Slot → Prop) : Prop :=
  m.tc = true ∧ m.st = true ∧ ((∃ (ys : List X) (ks : List Nat) (n : Int), give1s sl xs = some (ys, ks) ∧ ConK P f ys n ∧ K (.d (.int .i64 n)) (kill ks sl)) ∨
    (∃ (s : Nat) (t : TypeId) (es : List (List D)) (k n : Int) (es' : List (List D)), xs = [.ref s, .d (.int .i64 k)] ∧ sl[s]? = some (.arr t true es) ∧ ConM P f t es k n es' ∧ K (.d (.int .i64 n)) (sl.set s (.arr t true es'))) ∨
    ∃ (π : List Nat) (args : List V) (slc slc' : List Slot) (n : Int), ConW P f args slc n slc' ∧ π.Nodup ∧ leSlots true sl π π slc ∧ leTmps true sl π xs args ∧ K (.d (.int .i64 n)) (setAll sl π slc'))
/-- A part of a slot: from its begin on it goes on as a slot of its own; elsewhere it becomes data. -/
def sliceT (P : Program) (t : TypeId) (sl : List Slot) (s : Nat) (lo hi : Option Operand) (l h : Option Nat) : Option (V × List Slot) :=
  match elemOf P t, sl[s]?, l, h with
  | some e, some (.arr t' ow es), some l, some h =>
    if (P.underlying e).isSome = true ∧ l ≤ h ∧ h ≤ es.length ∧ (es.all fun c => c.length == P.cellsOf e) = true then
      match lo with
      | none => some (.ref sl.length, kill [s] sl ++ [.arr t' ow (es.take h)])
      | some _ => some (.d (.sl t' ((es.take h).drop l)), kill [s] sl)
    else none
  | _, _, _, _ => none

/-! ### Walks -/
def AOp (P : Program) (m : Mode) (o : Oper) (K : St → Prop) (σ : St) : Prop :=
  match o.op with
  | .store t p y => ∃ sl', storeV P m.st t σ.slots (σ.eval p) (evalT P t σ y) = some sl' ∧ K (St.put ⟨σ.tmps, sl'⟩ o.dst .any)
  | .call c => match c.callee with
    | .builtin .append => match c.args.toList, c.argTypes.toList with
      | [x, y], [t, t'] => t' = t ∧ AAppend P m.st σ.slots t (evalT P t σ x) (evalT P t σ y) fun z sl' => K (St.put ⟨σ.tmps, sl'⟩ o.dst z)
      | _, _ => False
    | .value v => (∃ x news, AQ P m.st σ.slots.length σ o x news ∧ K (St.put ⟨σ.tmps, σ.slots ++ news⟩ o.dst x)) ∨
        (match σ.eval v with
          | .fn f caps => CallT P m σ.slots f (c.args.toList.map σ.eval ++ caps) (fun z sl' => K (St.put ⟨σ.tmps, sl'⟩ o.dst z)) ∨ CallS P m σ.slots f (c.args.toList.map σ.eval ++ caps) fun z sl' => K (St.put ⟨σ.tmps, sl'⟩ o.dst z)
          | _ => False)
    | _ => ∃ x news, AQ P m.st σ.slots.length σ o x news ∧ K (St.put ⟨σ.tmps, σ.slots ++ news⟩ o.dst x)
  | .slice t x lo hi none => match σ.eval x with
    | .ref s => m.tc = true ∧ m.st = false ∧ ∃ n z sl', lenV σ.slots (.ref s) = some n ∧ sliceT P t σ.slots s lo hi (boundV σ lo 0) (boundV σ hi n) = some (z, sl') ∧ K (St.put ⟨σ.tmps, sl'⟩ o.dst z)
    | _ => ∃ x news, AQ P m.st σ.slots.length σ o x news ∧ K (St.put ⟨σ.tmps, σ.slots ++ news⟩ o.dst x)
  | _ => ∃ x news, AQ P m.st σ.slots.length σ o x news ∧ K (St.put ⟨σ.tmps, σ.slots ++ news⟩ o.dst x)
def AOps (P : Program) (m : Mode) (ops : Array Oper) (K : St → Prop) : List Oper → St → Prop
  | [], σ => K σ
  | o :: rest, σ => match o.guard with
    | none => AOp P m o (AOps P m ops K rest) σ
    | some (j, b) => match (ops[j]?).bind (·.dst) with
      | none => False
      | some d => match σ.get d with
        | .d (.bool t) => (t = b → AOp P m o (AOps P m ops K rest) (σ.put (some d) (.d (.bool b)))) ∧ (t = !b → AOps P m ops K rest ((σ.put (some d) (.d (.bool (!b)))).put o.dst (.tup [])))
        | .tup [] => AOps P m ops K rest (σ.put o.dst (.tup []))
        | _ => False
def thenA (K : St → Prop) (Q : Exit → St → Prop) : Exit → St → Prop
  | .normal, σ => K σ
  | e, σ => Q e σ
def inBlockA (id : Nat) (Q : Exit → St → Prop) : Exit → St → Prop
  | .exit id', σ => if id' = id then Q .normal σ else Q (.exit id') σ
  | e, σ => Q e σ
/-! ### Regions whose order is drawn -/
def quietOp (o : Oper) : Bool :=
  match o.op with
  | .store .. => false
  | .call c => match c.callee with
    | .builtin .append => false
    | _ => true
  | _ => true
/-- The temporaries that an operation reads. -/
def readsT (o : Oper) : List Nat := o.op.operands.toList.filterMap fun | .tmp t => some t | _ => none
def plainEdge (e : Edge) : Bool :=
  match e.ground with
  | .textOnly _ | .gcOnly _ => false
  | _ => true
def textEdge (e : Edge) : Bool :=
  match e.ground with
  | .textOnly _ => true
  | _ => false
def depsOf (o : Oper) : List Nat := (o.after.toList.filter plainEdge).map (·.on)
/-- An edge that binds in one mode alone: it points back; or to one that waits for earlier ones alone. -/
def softOk (l : List Oper) (j : Nat) (e : Edge) : Bool :=
  decide (e.on < j) || (!textEdge e && match l[e.on]? with
    | some q => q.after.toList.all fun e' => textEdge e' || decide (e'.on < j)
    | none => false)
/-- The ancestors, as bits. -/
def bitsOf (bm : List Nat) (o : Oper) : Nat := (depsOf o).foldl (fun s d => s ||| 2 ^ d ||| bm.getD d 0) 0
def bitsAll (l : List Oper) : List Nat := l.foldl (fun bm o => bm ++ [bitsOf bm o]) []
/-- Operations i < j that share a name are bound to each other. -/
def clash (oi oj : Oper) : Bool :=
  match oi.dst, oj.dst with
  | some a, some b => a == b || (readsT oj).contains a || (readsT oi).contains b
  | some a, none => (readsT oj).contains a
  | none, some b => (readsT oi).contains b
  | none, none => false
def edgesOk (l : List Oper) : Bool := l.zipIdx.all fun (o, j) => o.after.toList.all fun e => if plainEdge e then decide (e.on < j) else softOk l j e
def clashOk (l : List Oper) : Bool := l.zipIdx.all fun (oj, j) => (l.take j).zipIdx.all fun (oi, i) => !clash oi oj || (depsOf oj).contains i
def guardOk (l : List Oper) : Bool := l.zipIdx.all fun (o, j) =>
  match o.guard with
  | none => true
  | some (g, _) => decide (g < j) && (depsOf o).contains g && (l.zipIdx.all fun (o2, i) => match l[g]? with
    | some og => decide (i = g) || og.dst.isNone || !(o2.dst == og.dst)
    | none => false)
/-- How many operations there are ahead of the first one that turns a slot. -/
def quietLen (l : List Oper) : Nat := (l.takeWhile quietOp).length
/-- From the first one on that turns a slot, the order is one. -/
def tailOk (l : List Oper) : Bool := (bitsAll l).zipIdx.all fun (b, j) => decide (j < quietLen l) || (List.range j).all fun i => b.testBit i
/-- A check of a region whose order is drawn. -/
def drawOk (ops : Array Oper) : Bool := edgesOk ops.toList && clashOk ops.toList && guardOk ops.toList && tailOk ops.toList
/-- A walk where no call may turn a slot. -/
def Mode.still (m : Mode) : Mode := { m with tc := false }
def AWp (P : Program) (m : Mode) : Code → (Exit → St → Prop) → St → Prop
  | .skip, Q, σ => Q .normal σ
  | .region _ ops draw, Q, σ => if draw = true then drawOk ops = true ∧ AOps P m.still ops (Q .normal) ops.toList σ else AOps P m ops (Q .normal) ops.toList σ
  | .seq a b, Q, σ => AWp P m a (thenA (AWp P m b Q) Q) σ
  | .cond c x y, Q, σ => match σ.eval c with
    | .d (.bool t) => (t = true → AWp P m x Q σ) ∧ (t = false → AWp P m y Q σ)
    | _ => False
  | .block id c, Q, σ => AWp P m c (inBlockA id Q) σ
  | .loop c, Q, σ => ∃ (ι : Type) (I : ι → Prop) (S : ι → St) (μ : ι → Nat) (i0 : ι), I i0 ∧ Le m σ (S i0) ∧ ∀ i, I i → AWp P m c (thenA (fun σ' => ∃ j, I j ∧ μ j < μ i ∧ Le m σ' (S j)) Q) (S i)
  | .exit id, Q, σ => Q (.exit id) σ
  | .ret, Q, σ => Q .ret σ
  | _, _, _ => False

end Go.Proofs.Ytdliejnmpdodhaa
