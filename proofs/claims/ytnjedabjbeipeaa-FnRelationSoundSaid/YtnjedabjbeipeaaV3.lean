/-
  Abstract walks: what code gives from an abstract state; and that the model's code gives just that. Plain lemmas, about no function of the program.
  Conditions: those typed in each theorem.
-/
import Derived.Test.YtnjedabjbeipeaaV2
/-
  Abstract walks: what code gives from an abstract state; and that the model's code gives just that. Plain lemmas, about no function of the program.
  Conditions: those typed in each theorem.
-/
namespace Go.Proofs.Ytnjedabjbeipeaa
open Go.RowKit Go.ChangeShapes Go.WideShapes
set_option linter.unusedVariables false
set_option linter.unusedSimpArgs false
def ren0 (π:List Nat) (x:V):Option V :=
 match x with
 | .ref k=>(π[k]?).map .ref
 | .lit k n=>(π[k]?).map (.lit · n)
 | .ptr k o=>(π[k]?).map (.ptr · o)
 | .eptr k n i j=>(π[k]?).map (.eptr · n i j)
 | .nil t=>some (.nil t)
 | .d x=>some (.d x)
 | .cptr ds=>some (.cptr ds)
 | .any=>some .any
 | .nilp=>some .nilp
 | _=>none
def ren0s (π:List Nat):List V→Option (List V)
 | []=>some []
 | x::xs=>match ren0 π x,ren0s π xs with
   | some y,some ys=>some (y::ys)
   | _,_=>none
def ren (π:List Nat) (x:V):Option V :=
 match x with
 | .agg xs=>(ren0s π xs).map .agg
 | .fn f xs=>(ren0s π xs).map (.fn f)
 | x=>ren0 π x
def rens (π:List Nat):List V→Option (List V)
 | []=>some []
 | x::xs=>match ren π x,rens π xs with
   | some y,some ys=>some (y::ys)
   | _,_=>none
def renT (π:List Nat) (x:V):Option V :=
 match x with
 | .tup xs=>(rens π xs).map .tup
 | x=>ren π x
def renS (π:List Nat) (x:Slot):Option Slot :=
 match x with
 | .arr t ow es=>some (.arr t ow es)
 | .var t xs=>(ren0s π xs).map (.var t)
 | .blk k=>some (.blk k)
 | .dead=>some .dead
 | .unborn=>none
def renSs (π:List Nat):List Slot→Option (List Slot)
 | []=>some []
 | x::xs=>match renS π x,renSs π xs with
   | some y,some ys=>some (y::ys)
   | _,_=>none
def le0 (st:Bool) (sl:List Slot) (π:List Nat) (x y:V):Prop :=
 y=.any∨ren0 π y=some x∨∃ d,y=.d d∧st=false∧presD sl x=some d∧∀ s,x=.ref s→s∉π
def le0s (st:Bool) (sl:List Slot) (π:List Nat):List V→List V→Prop
 | [],[]=>True
 | x::xs,y::ys=>le0 st sl π x y∧le0s st sl π xs ys
 | _,_=>False
def leV (st:Bool) (sl:List Slot) (π:List Nat) (x y:V):Prop :=
 match y with
 | .agg ys=>∃ xs,x=.agg xs∧le0s st sl π xs ys
 | .fn f ys=>∃ xs,x=.fn f xs∧le0s st sl π xs ys
 | y=>le0 st sl π x y
def leTmps (st:Bool) (sl:List Slot) (π:List Nat):List V→List V→Prop
 | [],[]=>True
 | x::xs,y::ys=>leV st sl π x y∧leTmps st sl π xs ys
 | _,_=>False
def leT (st:Bool) (sl:List Slot) (π:List Nat) (x y:V):Prop :=
 match y with
 | .tup ys=>∃ xs,x=.tup xs∧leTmps st sl π xs ys
 | y=>leV st sl π x y
def leS (st:Bool) (sl:List Slot) (π:List Nat) (x y:Slot):Prop :=
 match y with
 | .dead=>True
 | .unborn=>False
 | .arr t ow es=>x=.arr t ow es∨(ow=false∧st=false∧x=.arr t true es)
 | .var t ys=>∃ xs,x=.var t xs∧le0s st sl π xs ys
 | .blk k=>x=.blk k∨st=false∧∃ t n es,k=.que t n es∧x=.arr t true es∧es≠[]∧(∀ c∈es,c.length=n∧∀ d∈c,flatD d=true)
def leSlots (st:Bool) (sl:List Slot) (π:List Nat):List Nat→List Slot→Prop
 | [],[]=>True
 | k::ks,y::ys=>(∃ x,sl[k]? = some x∧leS st sl π x y)∧leSlots st sl π ks ys
 | _,_=>False
def isPin:Nat→List Nat→Nat→Bool
 | 0,_,_=>true
 | n+1,k::ks,i=>k==i&&isPin n ks (i+1)
 | _+1,[],_=>false
structure Mode where
 pin:Nat
 st:Bool
 tc:Bool
 dr:Bool
def Le (m:Mode) (σ σ':St):Prop:=∃ π:List Nat,π.Nodup∧isPin m.pin π 0=true∧leSlots m.st σ.slots π π σ'.slots∧leTmps m.st σ.slots π σ.tmps σ'.tmps
def laters:List Slot→List Slot→Prop
 | [],_=>True
 | x::xs,y::ys=>Later x y∧laters xs ys
 | _::_,[]=>False
def ConT (P:Program) (f:FuncId) (xs:List V) (sl:List Slot) (r:V) (sl':List Slot):Prop :=
 callable P f=true∧laters sl sl'∧∀ (w:World) (φ:Hdrs) (Fs:List (List Nat)) (R:Nat→Prop) (hR:false=false→∀ b,(b∈Fs.flatten∨w.heap.size≤b)→R b) (vs:List Value),
  MemR P ⟨w,top φ sl,(·∈Fs.flatten),φ,R,false,hR⟩ φ sl w Fs→vs.length=xs.length→(∀ (i:Nat) (x:V) (v:Value),xs[i]? = some x→vs[i]? = some v→VR w (good R φ sl w) φ sl x v) →
  Calls P f vs.toArray w fun e w'=>∃ v φ' Fs',e=.returned v∧MemR P ⟨w,top φ sl,(·∈Fs.flatten),φ,R,false,hR⟩ φ' sl' w' Fs'∧VR w' (good R φ' sl' w') φ' sl' r v
def view0 (sl:List Slot) (ks:List Nat) (x:V):V :=
 match x with
 | .ref s=>if s∈ks then match sl[s]? with
   | some (.arr t _ es)=>.d (.sl t es)
   | _=>.ref s
   else .ref s
 | x=>x
def viewV (sl:List Slot) (ks:List Nat) (x:V):V :=
 match x with
 | .agg xs=>.agg (xs.map (view0 sl ks))
 | .fn f xs=>.fn f (xs.map (view0 sl ks))
 | x=>view0 sl ks x
def arrsOk (sl:List Slot):List Nat→Prop
 | []=>True
 | k::ks=>(∃ t ow es,sl[k]? = some (.arr t ow es))∧arrsOk sl ks
def setAll {α:Type}:List α→List Nat→List α→List α
 | sl,k::ks,y::ys=>setAll (sl.set k y) ks ys
 | sl,_,_=>sl
def backT (sl:List Slot) (π:List Nat) (r:V) (slc':List Slot) (K:V→List Slot→Prop):Prop :=
 ∃ r' ys,renT (π++List.range' sl.length (slc'.length - π.length)) r=some r'∧renSs (π++List.range' sl.length (slc'.length - π.length)) slc'=some ys∧K r' (setAll sl π (ys.take π.length)++ys.drop π.length)
def lives:List Slot→Prop
 | []=>True
 | x::xs=>x.live∧lives xs
def CallT (P:Program) (m:Mode) (sl:List Slot) (f:FuncId) (xs:List V) (K:V→List Slot→Prop):Prop :=
 m.tc=true∧m.st=false∧∃ (ks π:List Nat) (args:List V) (slc:List Slot) (r:V) (slc':List Slot),
  ConT P f args slc r slc'∧lives slc∧ks.Nodup∧arrsOk sl ks∧π.Nodup∧leSlots true (kill ks sl) π π slc∧leTmps true (kill ks sl) π (xs.map (viewV sl ks)) args∧backT (kill ks sl) π r slc' K
def give1 (sl:List Slot) (v:V):Option (X×List Nat) :=
 match v with
 | .agg vs=>(takeC sl vs).map fun p=>(.agg p.1,p.2)
 | v=>match takeC sl [v] with
   | some ([x],ks)=>some (.d x,ks)
   | _=>none
def give1s (sl:List Slot):List V→Option (List X×List Nat)
 | []=>some ([],[])
 | v::vs=>match give1 sl v,give1s sl vs with
   | some (x,k),some (xs,ks)=>if k.all (fun q=>!ks.contains q)=true then some (x::xs,k++ks) else none
   | _,_=>none
def Base.Apart (w0:Base):Prop:=(∀ b,w0.R b→b<w0.w.heap.size∧¬ w0.B b)∧∀ b,w0.B b→w0.T b
theorem Base.Apart.no {w0:Base} (h:w0.Apart) {b:Nat} (hb:w0.B b∨w0.w.heap.size≤b) (hr:w0.R b):False:=by
 obtain⟨h1,h2⟩:=h.1 b hr
 rcases hb with hb|hb
 · exact h2 hb
 · omega
theorem Base.Apart.old {w0:Base} (h:w0.Apart) {b:Nat} (hb:w0.B b∨w0.w.heap.size≤b):w0.T b∨w0.w.heap.size≤b:=hb.imp_left (h.2 b)
def CallS (P:Program) (m:Mode) (sl:List Slot) (f:FuncId) (xs:List V) (K:V→List Slot→Prop):Prop :=
 m.tc=true∧m.st=true∧False
def sliceT (P:Program) (t:TypeId) (sl:List Slot) (s:Nat) (lo hi:Option Operand) (l h:Option Nat):Option (V×List Slot) :=
 match elemOf P t,sl[s]?,l,h with
 | some e,some (.arr t' ow es),some l,some h =>
   if (P.underlying e).isSome=true∧l≤h∧h≤es.length∧(es.all fun c=>c.length==P.cellsOf e)=true then
    match lo with
    | none=>some (.ref sl.length,kill [s] sl++[.arr t' ow (es.take h)])
    | some _=>some (.d (.sl t' ((es.take h).drop l)),kill [s] sl)
   else none
 | some e,some (.blk (.que t' n es)),some l,some h=>if (P.underlying e).isSome=true∧n=P.cellsOf e∧l≤h∧h=es.length then some (.ref sl.length,kill [s] sl++[.blk (.que t' n (es.drop l))]) else none
 | _,_,_,_=>none
def AAppX (P:Program) (m:Mode) (sl:List Slot) (t:TypeId) (x y:V) (K:V→List Slot→Prop):Prop:=AAppend P m.st sl t x y K∨(m.tc=true∧m.st=false∧(AQue P sl t x y K∨AMov P sl t x y K))
def AOp (P:Program) (m:Mode) (o:Oper) (K:St→Prop) (σ:St):Prop :=
 match o.op with
 | .store t p y=>∃ sl',storeV P m.st t σ.slots (σ.eval p) (evalT P t σ y)=some sl'∧K (St.put ⟨σ.tmps,sl'⟩ o.dst .any)
 | .mapUpdate t x k y=>m.tc=true∧∃ s es ky v,mapV σ.slots (σ.eval x)=some (s,t,es)∧kyOf (σ.eval k)=some ky∧vlOf (σ.eval y)=some v∧KeyIn P t ky∧K (St.put ⟨σ.tmps,σ.slots.set s (.blk (.mp t (setM es ky v)))⟩ o.dst .any)
 | .call c=>match c.callee with
   | .builtin .append=>match c.args.toList,c.argTypes.toList with
     | [x,y],[t,t']=>t'=t∧AAppX P m σ.slots t (evalT P t σ x) (evalT P t σ y) fun z sl'=>K (St.put ⟨σ.tmps,sl'⟩ o.dst z)
     | _,_=>False
   | .value v=>(∃ x news,AQ P m.st σ.slots.length σ o x news∧K (St.put ⟨σ.tmps,σ.slots++news⟩ o.dst x)) ∨
      (match σ.eval v with
        | .fn f caps=>CallT P m σ.slots f (c.args.toList.map σ.eval++caps) (fun z sl'=>K (St.put ⟨σ.tmps,sl'⟩ o.dst z))∨CallS P m σ.slots f (c.args.toList.map σ.eval++caps) fun z sl'=>K (St.put ⟨σ.tmps,sl'⟩ o.dst z)
        | _=>False)
   | _=>∃ x news,AQ P m.st σ.slots.length σ o x news∧K (St.put ⟨σ.tmps,σ.slots++news⟩ o.dst x)
 | .slice t x lo hi none=>match σ.eval x with
   | .ref s=>m.tc=true∧m.st=false∧∃ n z sl',lenV σ.slots (.ref s)=some n∧sliceT P t σ.slots s lo hi (boundV σ lo 0) (boundV σ hi n)=some (z,sl')∧K (St.put ⟨σ.tmps,sl'⟩ o.dst z)
   | _=>∃ x news,AQ P m.st σ.slots.length σ o x news∧K (St.put ⟨σ.tmps,σ.slots++news⟩ o.dst x)
 | .buildSlice t len ps=>match adoptV P (m.tc&&!m.st) σ.slots t len (ps.toList.map fun p=>(p.1,σ.eval p.2)) with
   | some (y,ks)=>K (St.put ⟨σ.tmps,kill ks σ.slots++[y]⟩ o.dst (.ref σ.slots.length))
   | none=>∃ x news,AQ P m.st σ.slots.length σ o x news∧K (St.put ⟨σ.tmps,σ.slots++news⟩ o.dst x)
 | _=>∃ x news,AQ P m.st σ.slots.length σ o x news∧K (St.put ⟨σ.tmps,σ.slots++news⟩ o.dst x)
def AOps (P:Program) (m:Mode) (ops:Array Oper) (K:St→Prop):List Oper→St→Prop
 | [],σ=>K σ
 | o::rest,σ=>match o.guard with
   | none=>AOp P m o (AOps P m ops K rest) σ
   | some (j,b)=>match (ops[j]?).bind (·.dst) with
     | none=>False
     | some d=>match σ.get d with
       | .d (.bool t)=>(t=b→AOp P m o (AOps P m ops K rest) (σ.put (some d) (.d (.bool b))))∧(t=!b→AOps P m ops K rest ((σ.put (some d) (.d (.bool (!b)))).put o.dst (.tup [])))
       | .tup []=>AOps P m ops K rest (σ.put o.dst (.tup []))
       | _=>False
def thenA (K:St→Prop) (Q:Exit→St→Prop):Exit→St→Prop
 | .normal,σ=>K σ
 | e,σ=>Q e σ
def inBlockA (id:Nat) (Q:Exit→St→Prop):Exit→St→Prop
 | .exit id',σ=>if id'=id then Q .normal σ else Q (.exit id') σ
 | e,σ=>Q e σ
def quietOp (o:Oper):Bool :=
 match o.op with
 | .store ..=>false
 | .mapUpdate ..=>false
 | .call c=>match c.callee with
   | .builtin .append=>false
   | _=>true
 | _=>true
def readsT (o:Oper):List Nat:=o.op.operands.toList.filterMap fun | .tmp t=>some t|_=>none
def plainEdge (e:Edge):Bool :=
 match e.ground with
 | .textOnly _ | .gcOnly _=>false
 | _=>true
def textEdge (e:Edge):Bool :=
 match e.ground with
 | .textOnly _=>true
 | _=>false
def depsOf (o:Oper):List Nat:=(o.after.toList.filter plainEdge).map (·.on)
def softN (l:List Oper):Nat→Nat→Nat→Bool
 | 0,_,_=>false
 | n+1,j,i=>match l[i]? with
   | some q=>q.after.toList.all fun e=>textEdge e||decide (e.on<j)||softN l n j e.on
   | none=>false
def softOk (l:List Oper) (j:Nat) (e:Edge):Bool:=decide (e.on<j)||(!textEdge e&&softN l 4 j e.on)
def bitsOf (bm:List Nat) (o:Oper):Nat:=(depsOf o).foldl (fun s d=>s ||| 2 ^ d ||| bm.getD d 0) 0
def bitsAll (l:List Oper):List Nat:=l.foldl (fun bm o=>bm++[bitsOf bm o]) []
def clash (oi oj:Oper):Bool :=
 match oi.dst,oj.dst with
 | some a,some b=>a==b||(readsT oj).contains a||(readsT oi).contains b
 | some a,none=>(readsT oj).contains a
 | none,some b=>(readsT oi).contains b
 | none,none=>false
def edgesOk (l:List Oper):Bool:=l.zipIdx.all fun (o,j)=>o.after.toList.all fun e=>if plainEdge e then decide (e.on<j) else softOk l j e
def clashOk (l:List Oper):Bool:=l.zipIdx.all fun (oj,j)=>(l.take j).zipIdx.all fun (oi,i)=>!clash oi oj||(depsOf oj).contains i
def guardOk (l:List Oper):Bool:=l.zipIdx.all fun (o,j) =>
 match o.guard with
 | none=>true
 | some (g,_)=>decide (g<j)&&(depsOf o).contains g&&(l.zipIdx.all fun (o2,i)=>match l[g]? with
   | some og=>decide (i=g)||og.dst.isNone||!(o2.dst==og.dst)
   | none=>false)
def quietLen (l:List Oper):Nat:=(l.takeWhile quietOp).length
def tailOk (l:List Oper):Bool:=(bitsAll l).zipIdx.all fun (b,j)=>decide (j<quietLen l)||(List.range j).all fun i=>b.testBit i
def drawOk (ops:Array Oper):Bool:=edgesOk ops.toList&&clashOk ops.toList&&guardOk ops.toList&&tailOk ops.toList
def drawAt (ops:Array Oper) (q:Nat):Bool:=edgesOk ops.toList&&clashOk ops.toList&&guardOk ops.toList&&((bitsAll ops.toList).zipIdx.all fun (b,j)=>decide (j<q)||(List.range j).all fun i=>b.testBit i)&&decide (q≤ops.toList.length)&&(ops.toList.take q).all quietOp
def Mode.still (m:Mode):Mode:={ m with tc:=false }
def names0 (x:V):List Nat :=
 match x with
 | .ref s | .lit s _ | .ptr s _ | .eptr s _ _ _=>[s]
 | _=>[]
def names1 (x:V):List Nat :=
 match x with
 | .agg xs=>xs.flatMap names0
 | x=>names0 x
def namesV (x:V):List Nat :=
 match x with
 | .fn _ xs=>xs.flatMap names1
 | x=>names1 x
def isT (ts:List (Nat×List Nat)) (i:Nat):Bool:=ts.any fun p=>p.1==i
def loose (ts:List (Nat×List Nat)) (i:Nat):Bool:=ts.any fun p=>p.2.contains i
def pickE (ts:List (Nat×List Nat)):Nat→List Oper→List (Nat×Oper)
 | _,[]=>[]
 | i,o::l=>if isT ts i=true then pickE ts (i+1) l else (i,o)::pickE ts (i+1) l
def pickT (l:List Oper):List (Nat×List Nat)→List (Oper×List Nat)
 | []=>[]
 | (t,ns)::ts=>match l[t]? with
   | some o=>(o,ns)::pickT l ts
   | none=>[]
def namesOf (o:Oper) (σ:St):List Nat :=
 match o.op with
 | .move _=>[]
 | op=>op.operands.toList.flatMap fun x=>namesV (σ.eval x)
def sameAt (sl sl':List Slot):List Nat→Prop
 | []=>True
 | s::ss=>sl'[s]? = sl[s]?∧sameAt sl sl' ss
def stableN (sl sl':List Slot) (ns:List Nat):List (Nat×List Nat)→Prop
 | []=>True
 | (i,ss)::N=>(if ns.contains i=true then sameAt sl sl' ss else True)∧stableN sl sl' ns N
def AOpsE (P:Program) (m:Mode) (ops:Array Oper) (ts:List (Nat×List Nat)) (K:List (Nat×List Nat)→St→Prop):List (Nat×Oper)→List (Nat×List Nat)→St→Prop
 | [],N,σ=>K N σ
 | (i,o)::rest,N,σ=>AOps P m ops (AOpsE P m ops ts K rest (if loose ts i=true then (i,namesOf o σ)::N else N)) [o] σ
def nearTo (sl:List Slot) (xs:List V) (k:Nat):Prop:=k∈xs.flatMap namesV∨∃ s∈xs.flatMap namesV,∃ (t:TypeId) (cells:List V),sl[s]? = some (.var t cells)∧k∈cells.flatMap names0
def isFnO (v:Operand):Bool :=
 match v with
 | .func _=>true
 | .tmp _=>true
 | _=>false
def isCallT (o:Oper):Bool :=
 match o.op with
 | .call c=>match c.callee with
   | .value v=>isFnO v&&o.guard.isNone
   | _=>false
 | _=>false
def StepC (P:Program) (m:Mode) (o:Oper) (σ:St) (z:V) (r:List Slot):Prop :=
 m.st=false∧∃ (v:Operand) (f:FuncId) (caps:List V) (c:Call),o.op=.call c∧c.callee=.value v∧σ.eval v=.fn f caps ∧
  ∃ (ks π:List Nat) (args:List V) (slc:List Slot) (q:V) (slc':List Slot),ConT P f args slc q slc'∧lives slc∧ks.Nodup∧arrsOk σ.slots ks∧π.Nodup∧leSlots true (kill ks σ.slots) π π slc ∧
    leTmps true (kill ks σ.slots) π ((c.args.toList.map σ.eval++caps).map (viewV σ.slots ks)) args∧(∀ k∈ks++π,nearTo σ.slots (.fn f caps::c.args.toList.map σ.eval) k)∧backT (kill ks σ.slots) π q slc' fun z' r'=>z'=z∧r'=r
def AOpsT (P:Program) (m:Mode) (ops:Array Oper) (N:List (Nat×List Nat)) (sl0:List Slot) (K:St→Prop):List (Oper×List Nat)→St→Prop
 | [],σ=>K σ
 | (o,ns)::rest,σ=>if isCallT o=true then ∃ z r,StepC P m o σ z r∧stableN sl0 r ns N∧AOpsT P m ops N sl0 K rest (St.put ⟨σ.tmps,r⟩ o.dst z)
   else AOps P m ops (fun σ'=>stableN sl0 σ'.slots ns N∧AOpsT P m ops N sl0 K rest σ') [o] σ
def ordT (bm:List Nat):List (Nat×List Nat)→Bool
 | []=>true
 | p::ts=>(ts.all fun q=>decide (p.1<q.1)&&(bm.getD q.1 0).testBit p.1)&&ordT bm ts
def drawEOk (ops:Array Oper) (ts:List (Nat×List Nat)):Bool:=edgesOk ops.toList&&clashOk ops.toList&&guardOk ops.toList&&(ops.toList.zipIdx.all fun (o,i)=>isT ts i||(quietOp o&&(depsOf o).all fun d=>!isT ts d))&&(ts.all fun p=>decide (p.1<ops.toList.length)) &&
 ordT (bitsAll ops.toList) ts&&(ts.all fun p=>(List.range ops.toList.length).all fun i=>isT ts i||((bitsAll ops.toList).getD p.1 0).testBit i||p.2.contains i)
def readyX (bm:List Nat) (ts:List (Nat×List Nat)) (p:Nat×List Nat):Bool:=ts.all fun q=>!((bm.getD p.1 0).testBit q.1)
def AOpsX (P:Program) (m:Mode) (ops:Array Oper) (N:List (Nat×List Nat)) (sl0:List Slot) (K:St→Prop):Nat→List (Nat×List Nat)→St→Prop
 | 0,_,σ=>K σ
 | n+1,ts,σ=>∀ p∈ts,readyX (bitsAll ops.toList) ts p=true→AOpsT P m ops N sl0 (AOpsX P m ops N sl0 K n (ts.erase p)) (pickT ops.toList [p]) σ
def drawXOk (ops:Array Oper) (ts:List (Nat×List Nat)):Bool:=edgesOk ops.toList&&clashOk ops.toList&&guardOk ops.toList&&(ops.toList.zipIdx.all fun (o,i)=>isT ts i||(quietOp o&&(depsOf o).all fun d=>!isT ts d))&&(ts.all fun p=>decide (p.1<ops.toList.length)) &&
 decide (ts.map (·.1)).Nodup&&(ts.all fun p=>(List.range ops.toList.length).all fun i=>isT ts i||((bitsAll ops.toList).getD p.1 0).testBit i||p.2.contains i)
def drawE (P:Program) (m:Mode) (ops:Array Oper) (Q:Exit→St→Prop) (σ:St):Prop :=
 ∃ ts,drawEOk ops ts=true∧AOpsE P m.still ops ts (fun N σ'=>AOpsT P m.still ops N σ'.slots (Q .normal) (pickT ops.toList ts) σ') (pickE ts 0 ops.toList) [] σ
def drawX (P:Program) (m:Mode) (ops:Array Oper) (Q:Exit→St→Prop) (σ:St):Prop :=
 ∃ ts,drawXOk ops ts=true∧AOpsE P m.still ops ts (fun N σ'=>AOpsX P m.still ops N σ'.slots (Q .normal) ts.length ts σ') (pickE ts 0 ops.toList) [] σ
def drawD1 (P:Program) (m:Mode) (ops:Array Oper) (Q:Exit→St→Prop) (σ:St):Prop :=
 (∃ q,drawAt ops q=true∧AOps P m.still ops (AOps P m ops (Q .normal) (ops.toList.drop q)) (ops.toList.take q) σ)∨drawE P m ops Q σ∨drawX P m ops Q σ
def shiftE (q:Nat) (e:Edge):Edge:=⟨e.on - q,e.ground⟩
def shiftAf (q:Nat) (af:Array Edge):Array Edge:=(af.filter fun e=>decide (q≤e.on)).map (shiftE q)
def shiftO (q:Nat) (o:Oper):Oper:=⟨o.dst,o.op,o.type,o.pos,shiftAf q o.after,o.guard.map fun p=>(p.1 - q,p.2)⟩
def headA (q:Nat) (ops:Array Oper):Array Oper:=ops.extract 0 q
def tailA (q:Nat) (ops:Array Oper):Array Oper:=((ops.toList.drop q).map (shiftO q)).toArray
def barOk (ops:Array Oper) (q:Nat):Bool:=edgesOk ops.toList&&clashOk ops.toList&&guardOk ops.toList&&decide (q≤ops.size) &&
 ((ops.toList.take q).all fun o=>o.after.toList.all fun e=>decide (e.on<q)) &&
 ((bitsAll ops.toList).zipIdx.all fun (b,j)=>decide (j<q)||(List.range q).all fun i=>b.testBit i) &&
 ((ops.toList.drop q).all fun o=>match o.guard with|none=>true|some (j,_)=>decide (q≤j))
def readyO (m:Region.Mode) (ops:Array Oper) (listed:Array Bool) (i:Nat):Bool :=
 !listed.getD i true&&((ops[i]?).map (·.after.all fun e=>!Region.binds m e||listed.getD e.on false)).getD false
def orders (m:Region.Mode) (ops:Array Oper):Nat→Array Bool→List (List Nat)
 | 0,_=>[[]]
 | f+1,listed=>if ((List.range ops.size).filter (readyO m ops listed)).isEmpty=true then [[]] else ((List.range ops.size).filter (readyO m ops listed)).flatMap fun i=>(orders m ops f (listed.setIfInBounds i true)).map (i::·)
def bumpOrders:List (List Nat):=[[0,1,2,3,4],[0,2,1,3,4],[0,2,3,1,4],[2,0,1,3,4],[2,0,3,1,4],[2,3,0,1,4]]
def bumpOk (ops:Array Oper):Bool:=[Region.Mode.text,.gc,.any].all fun m=>(orders m ops ops.size (Array.replicate ops.size false)).all fun l=>bumpOrders.contains l
def partsO (o:Oper):Option Nat×Op×Option (Nat×Bool):=(o.dst,o.op,o.guard)
def forget (T:List V) (d0 d1 d2 d3:Nat):List V:=(((T.set d0 .any).set d1 .any).set d2 .any).set d3 .any
def bumpA (P:Program) (m:Mode) (ops:Array Oper) (Q:Exit→St→Prop) (σ:St):Prop :=
 m.tc=true∧bumpOk ops=true∧∃ (d0 d1 d2 d3:Nat) (t ty:TypeId) (x y:Operand) (neg:Bool) (s0:TypeId) (s:Nat) (es:List (Ky×Vl)) (ky:Ky) (v:Int),
  ops.toList.map partsO=[(some d0,.lookup t x y false,none),(some d1,.binOp (if neg=true then .sub else .add) ty (.tmp d0) (.const (.int .i64 1)) s0,none),(some d2,.mapEntry t x y,none),(some d3,.extract (.tmp d2) 1,none),(none,.entryStore t x (.tmp d3) (.tmp d1),none)] ∧
  [d0,d1,d2,d3].Nodup∧(∀ d∈[d0,d1,d2,d3],d<σ.tmps.length∧x≠.tmp d∧y≠.tmp d)∧mapV σ.slots (σ.eval x)=some (s,t,es)∧kyOf (σ.eval y)=some ky∧zeroVl P t=some (0,none)∧KeyIn P t ky∧(getM es ky).getD (0,none)=(v,none) ∧
  Q .normal ⟨forget σ.tmps d0 d1 d2 d3,σ.slots.set s (.blk (.mp t (setM es ky (IntKind.i64.wrap (if neg=true then v - 1 else v+1),none))))⟩
def shiftGo:List Nat→List Nat→Bool
 | done,[]=>done.contains 7
 | done,i::l=>!done.contains 7&&(match i with
    | 0=>true
    | 1=>true
    | 2=>done.contains 1
    | 3=>done.contains 0&&done.contains 2
    | 4=>true
    | 5=>true
    | 6=>done.contains 4&&done.contains 5
    | 7=>done.contains 3&&done.contains 6
    | _=>false)&&shiftGo (i::done) l
def shiftOk (ops:Array Oper):Bool:=[Region.Mode.text,.gc,.any].all fun m=>(orders m ops ops.size (Array.replicate ops.size false)).all fun l=>shiftGo [] l
def forgetL (T:List V) (ds:List Nat):List V:=ds.foldl (fun T d=>T.set d .any) T
def shiftL (es:List (List D)) (at':Nat):List (List D):=es.take (at'+1)++(es.drop at').take (es.length - at' - 1)
def shiftA (P:Program) (m:Mode) (ops:Array Oper) (Q:Exit→St→Prop) (σ:St):Prop :=
 m.tc=true∧shiftOk ops=true∧∃ (dA dB dC dD dE dF dG dH:Nat) (t ti tj:TypeId) (x y:Operand) (k:Nat) (e:TypeId) (es:List (List D)) (at':Nat),
  ops.toList.map partsO=[(some dA,.move x,none),(some dB,.move y,none),(some dC,.binOp .add ti (.tmp dB) (.const (.int .i64 1)) tj,none),(some dD,.slice t (.tmp dA) (some (.tmp dC)) none none,none),(some dE,.move x,none),(some dF,.move y,none),
   (some dG,.slice t (.tmp dE) (some (.tmp dF)) none none,none),(some dH,.call { callee:=.builtin .copy,args:=#[.tmp dD,.tmp dG],argTypes:=#[t,t] },none)] ∧
  [dA,dB,dC,dD,dE,dF,dG,dH].Nodup∧(∀ d∈[dA,dB,dC,dD,dE,dF,dG,dH],d<σ.tmps.length∧x≠.tmp d∧y≠.tmp d)∧σ.eval x=.ref k∧σ.slots[k]? = some (.arr e false es)∧elemOf P t=some e∧(P.underlying e).isSome=true∧P.cellsOf e=1∧(P.info? e).map (·.size)=some 1 ∧
  σ.eval y=.d (.int .i64 at')∧at'<es.length ∧
  Q .normal ⟨forgetL σ.tmps [dA,dB,dC,dD,dE,dF,dG,dH],σ.slots.set k (.arr e false (shiftL es at'))⟩
def drawD (P:Program) (m:Mode) (ops:Array Oper) (Q:Exit→St→Prop) (σ:St):Prop :=
 drawD1 P m ops Q σ∨(∃ q,barOk ops q=true∧drawD1 P m (headA q ops) (fun e σ1=>e=.normal∧drawD1 P m (tailA q ops) Q σ1) σ)∨(∃ q,barOk ops q=true∧drawD1 P m (headA q ops) (fun e σ1=>e=.normal∧bumpA P m (tailA q ops) Q σ1) σ)∨shiftA P m ops Q σ
def AWp (P:Program) (m:Mode):Code→(Exit→St→Prop)→St→Prop
 | .skip,Q,σ=>Q .normal σ
 | .region _ ops draw,Q,σ=>if draw=true then (if m.dr=true then drawD P m ops Q σ else drawOk ops=true∧AOps P m.still ops (Q .normal) ops.toList σ) else AOps P m ops (Q .normal) ops.toList σ
 | .seq a b,Q,σ=>AWp P m a (thenA (AWp P m b Q) Q) σ
 | .cond c x y,Q,σ=>match σ.eval c with
   | .d (.bool t)=>(t=true→AWp P m x Q σ)∧(t=false→AWp P m y Q σ)
   | _=>False
 | .block id c,Q,σ=>AWp P m c (inBlockA id Q) σ
 | .loop c,Q,σ=>∃ (ι:Type) (I:ι→Prop) (S:ι→St) (μ:ι→Nat) (i0:ι),I i0∧Le m σ (S i0)∧∀ i,I i→AWp P m c (thenA (fun σ'=>∃ j,I j∧μ j<μ i∧Le m σ' (S j)) Q) (S i)
 | .exit id,Q,σ=>Q (.exit id) σ
 | .ret,Q,σ=>Q .ret σ
 | _,_,_=>False
end Go.Proofs.Ytnjedabjbeipeaa
/-
  Regions whose order is drawn: the abstract operations do not mind which other slots there are; new slots are listed where they belong. Plain lemmas, about no function of the program.
  Conditions: those typed in each theorem.
-/
namespace Go.Proofs.Ytnjedabjbeipeaa
open Go.RowKit Go.ChangeShapes Go.WideShapes
set_option linter.unusedVariables false
set_option linter.unusedSimpArgs false
section
variable {P:Program} {w0:Base} {st:Bool} {w w':World} {φ φ':Hdrs} {σ σ':St} {a:Act} {sl sl':List Slot} {Fs Fs':List (List Nat)}
def Known (sl sl':List Slot) (ns:List Nat):Prop:=∀ s∈ns,∀ y,sl[s]? = some y→sl'[s]? = some y
theorem lenV_mono {x:V} {n:Nat} (h:lenV sl x=some n) (hk:Known sl sl' (names0 x)):lenV sl' x=some n:=by
 unfold lenV at h ⊢
 split at h
 · exact h
 · exact h
 · split at h
   · rename_i hs;rw[hk _ (by simp[names0]) _ hs];exact h
   · cases h
 · split at h
   · rename_i hs;rw[hk _ (by simp[names0]) _ hs];exact h
   · rename_i hs;rw[hk _ (by simp[names0]) _ hs];exact h
   · cases h
 · cases h
theorem indexV_mono {t:TypeId} {x y:V} {i:Int} (h:indexV P t sl x i=some y) (hk:Known sl sl' (names0 x)):indexV P t sl' x i=some y:=by
 unfold indexV at h ⊢
 split at h
 · cases h
 split at h
 · cases h
 rename_i hi
 rw[if_neg hi]
 split at h
 · exact h
 · split at h
   · rename_i hs;rw[hk _ (by simp[names0]) _ hs];exact h
   · rename_i hs;rw[hk _ (by simp[names0]) _ hs];exact h
   · cases h
 · split at h
   · rename_i hs;rw[hk _ (by simp[names0]) _ hs];exact h
   · cases h
 · cases h
theorem loadV_mono {t:TypeId} {x y:V} (h:loadV P st t sl x=some y) (hk:Known sl sl' (names0 x)):loadV P st t sl' x=some y:=by
 unfold loadV at h ⊢
 split at h
 · cases h
 rename_i hi
 rw[if_neg hi]
 split at h
 · exact h
 · split at h
   · rename_i hs;rw[hk _ (by simp[names0]) _ hs];exact h
   · cases h
 · split at h
   · rename_i hs;rw[hk _ (by simp[names0]) _ hs];exact h
   · rename_i hs;rw[hk _ (by simp[names0]) _ hs];exact h
   · cases h
 · cases h
theorem fieldAddrV_mono {t:TypeId} {x y:V} {f:Nat} (h:fieldAddrV P t sl x f=some y) (hk:Known sl sl' (names0 x)):fieldAddrV P t sl' x f=some y:=by
 unfold fieldAddrV at h ⊢
 split at h
 · cases h
 split at h
 · cases h
 rename_i hi
 rw[if_neg hi]
 split at h
 · exact h
 · split at h
   · rename_i hs;rw[hk _ (by simp[names0]) _ hs];exact h
   · cases h
 · split at h
   · rename_i hs;rw[hk _ (by simp[names0]) _ hs];exact h
   · cases h
 · cases h
theorem presD_mono {x:V} {d:D} (h:presD sl x=some d) (hk:Known sl sl' (names0 x)):presD sl' x=some d:=by
 unfold presD at h ⊢
 split at h
 · exact h
 · exact h
 · split at h
   · rename_i hs;rw[hk _ (by simp[names0]) _ hs];exact h
   · cases h
 · cases h
theorem presDs_mono:∀ {xs:List V} {ds:List D},presDs sl xs=some ds→Known sl sl' (xs.flatMap names0)→presDs sl' xs=some ds
 | [],ds,h,_=>h
 | x::xs,ds,h,hk=>by
   unfold presDs at h ⊢
   split at h
   · rename_i d ds' h1 h2
     rw[presD_mono h1 (fun s hs=>hk s (by simp[hs])),presDs_mono h2 (fun s hs=>hk s (by simp only[List.flatMap_cons,List.mem_append];exact .inr hs))]
     exact h
   · cases h
theorem pres_mono {x:V} {r:X} (h:pres sl x=some r) (hk:Known sl sl' (names1 x)):pres sl' x=some r:=by
 unfold pres at h ⊢
 split at h
 · rw[Option.map_eq_some_iff] at h
   obtain⟨ds,h1,rfl⟩:=h
   rw[presDs_mono h1 hk]
   rfl
 · rename_i hna
   rw[Option.map_eq_some_iff] at h
   obtain⟨d,h1,rfl⟩:=h
   have:names1 x=names0 x:=by
    unfold names1
    split
    · exact absurd rfl (hna _)
    · rfl
   rw[this] at hk
   rw[presD_mono h1 hk]
   rfl
theorem presAll_mono:∀ {xs:List V} {rs:List X},presAll sl xs=some rs→Known sl sl' (xs.flatMap names1)→presAll sl' xs=some rs
 | [],ds,h,_=>h
 | x::xs,ds,h,hk=>by
   unfold presAll at h ⊢
   split at h
   · rename_i d ds' h1 h2
     rw[pres_mono h1 (fun s hs=>hk s (by simp only[List.flatMap_cons,List.mem_append];exact .inl hs)),presAll_mono h2 (fun s hs=>hk s (by simp only[List.flatMap_cons,List.mem_append];exact .inr hs))]
     exact h
   · cases h
structure SameFor (o:Oper) (σ σ':St):Prop where
 ev:∀ x∈o.op.operands.toList,σ'.eval x=σ.eval x
 kn:∀ x∈o.op.operands.toList,Known σ.slots σ'.slots (namesV (σ.eval x))
theorem names0_sub (x:V):∀ s∈names0 x,s∈namesV x:=by
 intro s hs
 cases x<;>simp_all [names0,names1,namesV]
theorem names1_sub (x:V):∀ s∈names1 x,s∈namesV x:=by
 intro s hs
 cases x<;>simp_all [names0,names1,namesV]
theorem boundV_mono {x:Option Operand} {d:Nat} (h:∀ y,x=some y→σ'.eval y=σ.eval y):boundV σ' x d=boundV σ x d:=by
 cases x with
 | none=>rfl
 | some y=>simp only[boundV,h y rfl]
theorem abinS_mono {t:TypeId} {op:BinOp} {x y z:V} (h:abinS P sl t op x y=some z) (hk:Known sl sl' (names0 x)):abinS P sl' t op x y=some z:=by
 unfold abinS at h ⊢
 split at h
 · have e:∀ b,nilEq sl x .nilp=some b→nilEq sl' x .nilp=some b:=fun b hb=>by
    unfold nilEq at hb ⊢
    split at hb
    · exact hb
    · rename_i s _ h2
      split at hb
      · rename_i hs
        rw[hk _ (by simp[names0]) _ hs]
        exact hb
      · cases hb
    · cases hb
   split at h
   · rename_i ht hb
     rw[ht,e _ hb];exact h
   · rename_i ht hb
     rw[ht,e _ hb];exact h
   · cases h
 · exact h
theorem mapV_mono {x:V} {s:Nat} {t:TypeId} {es:List (Ky×Vl)} (h:mapV sl x=some (s,t,es)) (hk:Known sl sl' (names0 x)):mapV sl' x=some (s,t,es):=by
 unfold mapV at h ⊢
 split at h
 · split at h
   · rename_i hs;rw[hk _ (by simp[names0]) _ hs];exact h
   · cases h
 · cases h
theorem apure_mono {o:Oper} {y:V} (h:apure P st σ o=some y) (hs:SameFor o σ σ'):apure P st σ' o=some y:=by
 have hev:=hs.ev
 have hkn:∀ x∈o.op.operands.toList,Known σ.slots σ'.slots (names0 (σ.eval x)):=fun x hx s hn=>hs.kn x hx s (names0_sub _ s hn)
 unfold apure at h ⊢
 split at h
 · rename_i x ho
   rw[ho] at hev
   have e:evalT P o.type σ' x=evalT P o.type σ x:=by
    unfold evalT
    split<;>first | rfl|exact hev _ (by simp[Op.operands])
   rw[e];exact h
 · rename_i x ho
   rw[ho] at hev
   have e:evalT P o.type σ' x=evalT P o.type σ x:=by
    unfold evalT
    split<;>first | rfl|exact hev _ (by simp[Op.operands])
   rw[e];exact h
 · rename_i c x y ho
   rw[ho] at hev
   rw[hev c (by simp[Op.operands]),hev x (by simp[Op.operands]),hev y (by simp[Op.operands])];exact h
 · rename_i op t x y yt ho
   rw[ho] at hev hkn
   rw[hev x (by simp[Op.operands]),hev y (by simp[Op.operands])];exact abinS_mono h (hkn x (by simp[Op.operands]))
 · rename_i op t x ho
   rw[ho] at hev
   rw[hev x (by simp[Op.operands])];exact h
 · rename_i s d x ho
   rw[ho] at hev
   rw[hev x (by simp[Op.operands])];exact h
 · rename_i c ho
   rw[ho] at hev hkn
   split at h
   · rename_i b hb
     have hmem:∀ x∈c.args.toList,x∈(Op.call c).operands.toList:=fun x hx=>by simp only[Op.operands,Call.operands,hb];simpa using hx
     have e:c.args.toList.map σ'.eval=c.args.toList.map σ.eval:=List.map_congr_left fun x hx=>hev x (hmem x hx)
     rw[e]
     generalize hxs:c.args.toList.map σ.eval=xs at *
     have hk2:∀ x∈xs,Known σ.slots σ'.slots (names0 x):=by
      intro x hx
      rw[←hxs] at hx
      obtain⟨y,hy,rfl⟩:=List.mem_map.1 hx
      exact hkn y (hmem y hy)
     unfold abuiltin at h ⊢
     split at h
     · split at h
       · split at h
         · rename_i e' he
           rw[Option.map_eq_some_iff] at h
           obtain⟨n,hn,rfl⟩:=h
           rw[lenV_mono hn (hk2 _ (by simp))]
           rfl
         · cases h
       · cases h
     · exact h
     · exact h
     · cases h
   · cases h
 · rename_i t x i ho
   rw[ho] at hev hkn
   rw[hev i (by simp[Op.operands]),hev x (by simp[Op.operands])]
   split at h
   · exact indexV_mono h (hkn x (by simp[Op.operands]))
   · cases h
 · rename_i t x ho
   rw[ho] at hev hkn
   rw[hev x (by simp[Op.operands])]
   exact loadV_mono h (hkn x (by simp[Op.operands]))
 · rename_i t x f ho
   rw[ho] at hev hkn
   rw[hev x (by simp[Op.operands])]
   exact fieldAddrV_mono h (hkn x (by simp[Op.operands]))
 · rename_i t x f ho
   rw[ho] at hev
   rw[hev x (by simp[Op.operands])];exact h
 · rename_i x i ho
   rw[ho] at hev
   rw[hev x (by simp[Op.operands])];exact h
 · rename_i x ho
   rw[ho] at hev hkn
   rw[hev x (by simp[Op.operands])]
   have hk:=hkn x (by simp[Op.operands])
   split at h
   · rename_i s p hx
     rw[hx] at hk
     split at h
     · rename_i hsl;rw[hk s (by simp[names0]) _ hsl];exact h
     · cases h
   · exact h
   · cases h
 · rename_i t ps ho
   rw[ho] at hev
   have e:ps.toList.map (fun p=>(p.1,σ'.eval p.2))=ps.toList.map (fun p=>(p.1,σ.eval p.2)):=List.map_congr_left fun p hp=>by
    rw[hev p.2 (by simp only[Op.operands];simpa using ⟨p.1,by simpa using hp⟩)]
   rw[e];exact h
 · rename_i f first caps ho
   rw[ho] at hev
   have e:caps.toList.map σ'.eval=caps.toList.map σ.eval:=List.map_congr_left fun x hx=>hev x (by simp only[Op.operands];simp;exact .inr (by simpa using hx))
   rw[e];exact h
 · rename_i t x lo hi ho
   rw[ho] at hev hkn
   rw[hev x (by simp[Op.operands])]
   have e1:boundV σ' lo 0=boundV σ lo 0:=boundV_mono fun y hy=>hev y (by simp[Op.operands,hy])
   have e2:∀ n,boundV σ' hi n=boundV σ hi n:=fun n=>boundV_mono fun y hy=>hev y (by simp[Op.operands,hy])
   split at h
   · rename_i n hn
     rw[lenV_mono hn (hkn x (by simp[Op.operands]))]
     simp only
     rw[e1,e2]
     exact h
   · cases h
 · cases h
theorem aq_mono {n:Nat} {o:Oper} {x:V} {news:List Slot} (h:AQ P st n σ o x news) (hs:SameFor o σ σ'):AQ P st n σ' o x news:=by
 have hp:apure P st σ o=some x∧news=[]→apure P st σ' o=some x∧news=[]:=fun h=>⟨apure_mono h.1 hs,h.2⟩
 have hev:=hs.ev
 have hkn:=hs.kn
 unfold AQ at h ⊢
 split at h
 · exact h
 · exact h
 · rename_i t m k ok ho
   rw[ho] at hev hkn
   obtain⟨s,es,ky,z,h1,h2⟩:=h
   rw[hev m (by simp[Op.operands]),hev k (by simp[Op.operands])]
   exact⟨s,es,ky,z,mapV_mono h1 fun s hs=>hkn m (by simp[Op.operands]) s (names0_sub _ s hs),h2⟩
 · rename_i t y ho
   rw[ho] at hev
   rw[hev y (by simp[Op.operands])];exact h
 · rename_i t len ps ho
   rw[ho] at hev
   have e:ps.toList.map (fun p=>(p.1,σ'.eval p.2))=ps.toList.map (fun p=>(p.1,σ.eval p.2)):=List.map_congr_left fun p hp=>by
    rw[hev p.2 (by simp only[Op.operands];simpa using ⟨p.1,by simpa using hp⟩)]
   rw[e];exact h
 · rename_i t l c ho
   rw[ho] at hev
   rw[hev l (by simp[Op.operands]),hev c (by simp[Op.operands])];exact h
 · rename_i c ho
   rw[ho] at hev hkn
   split at h
   · rename_i g hf
     have hg:g∈(Op.call c).operands.toList:=by simp[Op.operands,Call.operands,hf]
     rw[hev g hg]
     split at h
     · rename_i f caps hfc
       obtain⟨r,⟨xs,h1,h3⟩,h2⟩:=h
       have hmem:∀ x∈c.args.toList,x∈(Op.call c).operands.toList:=fun x hx=>by simp only[Op.operands,Call.operands,hf];simp;exact .inr (by simpa using hx)
       have e:c.args.toList.map σ'.eval=c.args.toList.map σ.eval:=List.map_congr_left fun x hx=>hev x (hmem x hx)
       refine⟨r,⟨xs,?_,h3⟩,h2⟩
       rw[e]
       refine presAll_mono h1 fun s hs=>?_
       obtain⟨y,hy,hs⟩:=List.mem_flatMap.1 hs
       rcases List.mem_append.1 hy with hy|hy
       · obtain⟨z,hz,rfl⟩:=List.mem_map.1 hy
         exact hkn z (hmem z hz) s (names1_sub _ s hs)
       · exact hkn g hg s (by rw[hfc];exact List.mem_flatMap.2 ⟨y,hy,hs⟩)
     · exact h
   · exact hp h
 · exact hp h
theorem turn_born (hm:MemR P w0 φ sl w Fs) {n:Nat} {x:V} {news:List Slot} {v:Value} (h:QPost w0.R P n φ sl w x news v w') (hn:n+news.length≤sl.length) (hub:∀ i,i<news.length→sl[n+i]? = some .unborn) :
 ∃ φ',Turn P w0 φ sl w φ' (putAt sl n news) w'∧VR w' (good w0.R φ' (putAt sl n news) w') φ' (putAt sl n news) x v:=by
 obtain⟨ψ,Fn,hmade,hq⟩:=h
 have hnφ:n+ψ.length≤φ.length:=by rw[hmade.plen,hm.flen];exact hn
 have hnF:n+Fn.length≤Fs.length:=by rw[hmade.Flen,hm.Flen];exact hn
 have hO:Only [] w w':=Only.of_below hmade.below
 have old:∀ {i:Nat},¬ (n≤i∧i<n+news.length)→(putAt sl n news)[i]? = sl[i]?∧(putAt φ n ψ)[i]? = φ[i]?∧(putAt Fs n Fn)[i]? = Fs[i]?:=by
  intro i hi
  rw[putAt_at hn,putAt_at hnφ,putAt_at hnF,hmade.plen,hmade.Flen]
  by_cases h1:i<n
  · simp[h1]
  · have h2:¬ i<n+news.length:=fun h=>hi ⟨by omega,h⟩
    simp[h1,h2]
 have new:∀ {i:Nat},i<news.length→(putAt sl n news)[n+i]? = news[i]?∧(putAt φ n ψ)[n+i]? = ψ[i]?∧(putAt Fs n Fn)[n+i]? = Fn[i]?:=by
  intro i hi
  rw[putAt_at hn,putAt_at hnφ,putAt_at hnF,hmade.plen,hmade.Flen]
  have h1:¬ n+i<n:=by omega
  have h2:n+i<n+news.length:=by omega
  simp[h1,h2]
 have split:∀ i:Nat,(∃ j,j<news.length∧i=n+j)∨¬ (n≤i∧i<n+news.length):=by
  intro i
  by_cases h:n≤i∧i<n+news.length
  · exact .inl ⟨i - n,by omega,by omega⟩
  · exact .inr h
 have hs:∀ (s:Nat) (x:Slot),sl[s]? = some x→∃ x',(putAt sl n news)[s]? = some x'∧Later x x':=by
  intro s x hx
  rcases split s with ⟨j,hj,rfl⟩|hn'
  · rw[hub j hj] at hx
    cases hx
    exact⟨news[j],by rw[(new hj).1];exact List.getElem?_eq_getElem hj,by simp[Later]⟩
  · exact⟨x,by rw[(old hn').1];exact hx,Later.refl x⟩
 have hp:∀ (s:Nat) (h:Option Nat×Nat),φ[s]? = some h→sl[s]?≠some .unborn→(putAt φ n ψ)[s]? = some h:=by
  intro s h hh hu
  rcases split s with ⟨j,hj,rfl⟩|hn'
  · exact absurd (hub j hj) hu
  · rw[(old hn').2.1];exact hh
 have hT:∀ b,top (putAt φ n ψ) (putAt sl n news) b→w.heap.size≤b∨top φ sl b:=by
  rintro b ⟨s,x,c,h1,h2,h3⟩
  rcases split s with ⟨j,hj,rfl⟩|hn'
  · rw[(new hj).2.1] at h3
    exact .inl (hmade.hd _ b c h3)
  · rw[(old hn').1] at h1
    rw[(old hn').2.1] at h3
    exact .inr ⟨s,x,c,h1,h2,h3⟩
 have he:Ext w0.R φ sl w (putAt φ n ψ) (putAt sl n news) w':=⟨good_mono hO (by simp) hT,hs,hp⟩
 obtain⟨q1,q2⟩:=hq _ _ he (fun i hi=>⟨(new hi).1,(new hi).2.1⟩)
 have hcnt:∀ q,cnt q (putAt Fs n Fn)≤cnt q Fs+Fn.flatten.count q:=by
  intro q
  have h1:cnt q Fs=cnt q (Fs.take n)+cnt q ((Fs.drop n).take Fn.length)+cnt q (Fs.drop (n+Fn.length)):=by
   have e1:cnt q (Fs.take n++Fs.drop n)=cnt q Fs:=by rw[List.take_append_drop]
   have e2:cnt q ((Fs.drop n).take Fn.length++(Fs.drop n).drop Fn.length)=cnt q (Fs.drop n):=by rw[List.take_append_drop]
   rw[List.drop_drop] at e2
   simp only[cnt,List.flatten_append,List.count_append] at e1 e2 ⊢
   omega
  have h2:cnt q (putAt Fs n Fn)=cnt q (Fs.take n)+Fn.flatten.count q+cnt q (Fs.drop (n+Fn.length)):=by
   simp[cnt,putAt,Nat.add_assoc]
  omega
 refine⟨putAt φ n ψ,hm.turn (Fs':=putAt Fs n Fn) hO (by simp) (by rw[putAt_length hnφ,putAt_length hn,hm.flen]) (by rw[putAt_length hnF,putAt_length hn,hm.Flen]) ?_ ?_ hs hp hT ?_,q2⟩
 · rw[List.nodup_iff_count]
   intro q
   have h1:=hcnt q
   have h2:=List.nodup_iff_count.1 hm.nd q
   have h3:=List.nodup_iff_count.1 hmade.nd q
   simp only[cnt] at h1
   by_cases hq1:q∈Fn.flatten
   · have h4:=hmade.ge q hq1
     have h5:Fs.flatten.count q=0:=List.count_eq_zero.2 fun h=>by have:=hm.lt q h;omega
     omega
   · have h5:Fn.flatten.count q=0:=List.count_eq_zero.2 hq1
     omega
 · intro q hq
   have h1:=hcnt q
   have h2:=List.count_pos_iff.2 hq
   simp only[cnt] at h1
   by_cases hq1:q∈Fn.flatten
   · have:=hmade.ge q hq1
     have:=hm.only.size
     exact .inr (by omega)
   · have h5:Fn.flatten.count q=0:=List.count_eq_zero.2 hq1
     exact hm.ge q (List.count_pos_iff.1 (by omega))
 · intro s x h F h1 h2 h3
   rcases split s with ⟨j,hj,rfl⟩|hn'
   · rw[(new hj).1] at h1
     rw[(new hj).2.1] at h2
     rw[(new hj).2.2] at h3
     exact .inr (q1 j x h F h1 h2 h3)
   · rw[(old hn').1] at h1
     rw[(old hn').2.1] at h2
     rw[(old hn').2.2] at h3
     exact .inl ⟨h1,h2,h3,by simp⟩
end
end Go.Proofs.Ytnjedabjbeipeaa
/-
  Regions whose order is drawn: whatever the order, the state at the end is the one of the text's order. Plain lemmas, about no function of the program.
  Conditions: those typed in each theorem.
-/
namespace Go.Proofs.Ytnjedabjbeipeaa
open Go.RowKit Go.ChangeShapes Go.WideShapes
set_option linter.unusedVariables false
set_option linter.unusedSimpArgs false
structure Tr where
 dst:Option Nat
 x:V
 news:List Slot
def putL (T:List V) (d:Option Nat) (x:V):List V :=
 match d with
 | some d=>T.set d x
 | none=>T
section
variable (tr:List Tr) (T0:List V) (S0:List Slot) (c:Nat→Bool)
def TT:Nat→List V
 | 0=>T0
 | i+1=>match tr[i]? with
   | some e=>if c i=true then putL (TT i) e.dst e.x else TT i
   | none=>TT i
def SS:Nat→List Slot
 | 0=>S0
 | i+1=>match tr[i]? with
   | some e=>SS i++(if c i=true then e.news else List.replicate e.news.length .unborn)
   | none=>SS i
end
def always (_:Nat):Bool:=true
def plus (c:Nat→Bool) (i:Nat) (j:Nat):Bool:=j==i||c j
section
variable {tr:List Tr} {T0:List V} {S0:List Slot} {c c':Nat→Bool}
theorem putL_len (T:List V) (d:Option Nat) (x:V):(putL T d x).length=T.length:=by cases d<;>simp[putL]
theorem TT_len:∀ i,(TT tr T0 c i).length=T0.length
 | 0=>rfl
 | i+1=>by
   unfold TT
   split
   · split
     · rw[putL_len,TT_len i]
     · exact TT_len i
   · exact TT_len i
theorem putL_other {T:List V} {d:Option Nat} {x:V} {t:Nat} (h:d≠some t):(putL T d x)[t]? = T[t]?:=by
 cases d with
 | none=>rfl
 | some d=>exact List.getElem?_set_ne (fun e=>h (by rw[e]))
theorem TT_congr {t:Nat}:∀ i,(∀ j,j<i→∀ e,tr[j]? = some e→e.dst=some t→c j=c' j)→(TT tr T0 c i)[t]? = (TT tr T0 c' i)[t]?
 | 0,_=>rfl
 | i+1,h=>by
   have ih:=TT_congr i (fun j hj=>h j (by omega))
   unfold TT
   split
   · rename_i e he
     by_cases hd:e.dst=some t
     · rw[←h i (by omega) e he hd]
       split
       · rw[hd]
         by_cases hl:t<T0.length
         · have e1:t<(TT tr T0 c i).length:=by rw[TT_len];exact hl
           have e2:t<(TT tr T0 c' i).length:=by rw[TT_len];exact hl
           simp only[putL]
           rw[List.getElem?_set_self e1,List.getElem?_set_self e2]
         · rw[List.getElem?_eq_none (by rw[putL_len,TT_len];omega),List.getElem?_eq_none (by rw[putL_len,TT_len];omega)]
       · exact ih
     · split<;>split<;>simp only[putL_other hd,ih]
   · exact ih
theorem TT_same:∀ i,(∀ j,j<i→c j=c' j)→TT tr T0 c i=TT tr T0 c' i
 | 0,_=>rfl
 | i+1,h=>by
   unfold TT
   rw[TT_same i (fun j hj=>h j (by omega)),h i (by omega)]
theorem TT_stop {i:Nat}:∀ k,i≤k→(∀ j,i≤j→j<k→c j=false)→TT tr T0 c k=TT tr T0 c i
 | 0,h,_=>by rw[Nat.le_zero.1 h]
 | k+1,h,hc=>by
   by_cases hk:i=k+1
   · rw[hk]
   · conv=>lhs;unfold TT
     rw[hc k (by omega) (by omega)]
     have ih:=TT_stop k (by omega) (fun j h1 h2=>hc j h1 (by omega))
     split<;>simpa using ih
theorem SS_len:∀ i,(SS tr S0 c i).length=(SS tr S0 always i).length
 | 0=>rfl
 | i+1=>by
   unfold SS
   split
   · simp only[List.length_append,SS_len i]
     split<;>simp[always]
   · exact SS_len i
theorem SS_mono:∀ {i k:Nat},i≤k→∃ rest,SS tr S0 c k=SS tr S0 c i++rest
 | i,0,h=>⟨[],by rw[Nat.le_zero.1 h];simp⟩
 | i,k+1,h=>by
   by_cases hk:i=k+1
   · exact⟨[],by rw[hk];simp⟩
   · obtain⟨r,hr⟩:=SS_mono (i:=i) (k:=k) (by omega)
     conv=>enter [1,rest,1];unfold SS
     split
     · rw[hr,List.append_assoc];exact⟨_,rfl⟩
     · exact⟨r,hr⟩
theorem SS_known:∀ {i:Nat} {s:Nat} {y:Slot},(SS tr S0 always i)[s]? = some y→(SS tr S0 c i)[s]? = some y∨(SS tr S0 c i)[s]? = some .unborn
 | 0,s,y,h=>.inl h
 | i+1,s,y,h=>by
   have hlen:=SS_len (tr:=tr) (S0:=S0) (c:=c) i
   unfold SS at h ⊢
   split at h
   · rename_i e he
     by_cases hs:s<(SS tr S0 always i).length
     · rw[List.getElem?_append_left hs] at h
       rw[List.getElem?_append_left (by omega)]
       exact SS_known h
     · rw[List.getElem?_append_right (by omega)] at h
       rw[List.getElem?_append_right (by omega),hlen]
       simp only[always,if_true] at h
       split
       · exact .inl h
       · right
         rw[List.getElem?_replicate,if_pos (List.getElem?_eq_some_iff.1 h).1]
   · exact SS_known h
theorem SS_known' {i k s:Nat} {y:Slot} (hik:i≤k) (h:(SS tr S0 always i)[s]? = some y):(SS tr S0 c k)[s]? = some y∨(SS tr S0 c k)[s]? = some .unborn:=by
 obtain⟨r,hr⟩:=SS_mono (tr:=tr) (S0:=S0) (c:=c) hik
 have hl:=(List.getElem?_eq_some_iff.1 h).1
 rw[hr,List.getElem?_append_left (by rw[SS_len];exact hl)]
 exact SS_known h
theorem SS_same:∀ i,(∀ j,j<i→c j=c' j)→SS tr S0 c i=SS tr S0 c' i
 | 0,_=>rfl
 | i+1,h=>by
   unfold SS
   rw[SS_same i (fun j hj=>h j (by omega)),h i (by omega)]
theorem SS_seg {i k:Nat} {e:Tr} (hik:i<k) (he:tr[i]? = some e):∃ rest,SS tr S0 c k=SS tr S0 c i++((if c i=true then e.news else List.replicate e.news.length .unborn)++rest):=by
 obtain⟨r,hr⟩:=SS_mono (tr:=tr) (S0:=S0) (c:=c) (i:=i+1) (k:=k) hik
 refine⟨r,?_⟩
 rw[hr,SS,he,List.append_assoc]
theorem SS_rest:∀ {i k:Nat},i≤k→(∀ j,i≤j→j<k→c j=c' j)→∃ rest,SS tr S0 c k=SS tr S0 c i++rest∧SS tr S0 c' k=SS tr S0 c' i++rest
 | i,0,h,_=>⟨[],by rw[Nat.le_zero.1 h];simp⟩
 | i,k+1,h,hc=>by
   by_cases hk:i=k+1
   · exact⟨[],by rw[hk];simp⟩
   · obtain⟨r,h1,h2⟩:=SS_rest (i:=i) (k:=k) (by omega) (fun j h1 h2=>hc j h1 (by omega))
     cases ht:tr[k]? with
     | none=>exact⟨r,by rw[SS,ht];exact h1,by rw[SS,ht];exact h2⟩
     | some e =>
       refine⟨r++(if c k=true then e.news else List.replicate e.news.length .unborn),?_,?_⟩
       · rw[SS,ht];simp only[h1,List.append_assoc]
       · rw[SS,ht];simp only[h2,List.append_assoc,hc k (by omega) (by omega)]
theorem SS_put {i k:Nat} {e:Tr} (hik:i<k) (he:tr[i]? = some e) (hc:c i=false):putAt (SS tr S0 c k) (SS tr S0 always i).length e.news=SS tr S0 (plus c i) k∧(SS tr S0 always i).length+e.news.length≤(SS tr S0 c k).length ∧
 ∀ q,q<e.news.length→(SS tr S0 c k)[(SS tr S0 always i).length+q]? = some .unborn:=by
 obtain⟨r,h1,h2⟩:=SS_rest (tr:=tr) (S0:=S0) (c:=c) (c':=plus c i) (i:=i+1) (k:=k) hik (fun j h1 _=>by
  have:(j==i)=false:=by simp;omega
  simp[plus,this])
 have hpre:SS tr S0 (plus c i) i=SS tr S0 c i:=SS_same i fun j hj=>by
  have:(j==i)=false:=by simp;omega
  simp[plus,this]
 rw[SS,he] at h1 h2
 simp only[hc,Bool.false_eq_true,if_false,hpre] at h1 h2
 have hpi:plus c i i=true:=by simp[plus]
 simp only[hpi,if_true] at h2
 rw[←SS_len (c:=c)]
 refine⟨?_,?_,fun q hq=>?_⟩
 · rw[h1,h2]
   unfold putAt
   rw[List.append_assoc,List.append_assoc,List.take_left',List.append_assoc]
   · congr 2
     rw[←List.drop_drop,List.drop_left',List.drop_left']
     · simp
     · rfl
   · rfl
 · rw[h1];simp
 · rw[h1,List.append_assoc,List.getElem?_append_right (by omega),Nat.add_sub_cancel_left,List.getElem?_append_left (by simpa using hq),List.getElem?_replicate,if_pos hq]
theorem TT_put {i k:Nat} {e:Tr} (hik:i<k) (he:tr[i]? = some e) (hlate:∀ j,i<j→j<k→∀ e',tr[j]? = some e'→e'.dst=e.dst→e.dst≠none→c j=false):putL (TT tr T0 c k) e.dst e.x=TT tr T0 (plus c i) k:=by
 apply List.ext_getElem?
 intro t
 by_cases hd:e.dst=some t
 · have e1:(TT tr T0 (plus c i) k)[t]? = (TT tr T0 (fun j=>plus c i j&&decide (j≤i)) k)[t]?:=TT_congr k fun j hj e' he' hd'=>by
    by_cases hji:j≤i
    · simp[hji]
    · have h1:=hlate j (by omega) hj e' he' (by rw[hd',hd]) (by rw[hd];simp)
      have h2:(j==i)=false:=by simp;omega
      simp[plus,h1,h2]
   have e2:TT tr T0 (fun j=>plus c i j&&decide (j≤i)) k=TT tr T0 (fun j=>plus c i j&&decide (j≤i)) (i+1):=TT_stop k hik fun j h1 _=>by
    have:¬ j≤i:=by omega
    simp[this]
   rw[e1,e2,TT,he]
   have hpi:(plus c i i&&decide (i≤i))=true:=by simp[plus]
   simp only[hpi,if_true,hd]
   by_cases hl:t<T0.length
   · simp only[putL]
     rw[List.getElem?_set_self (by rw[TT_len];exact hl),List.getElem?_set_self (by rw[TT_len];exact hl)]
   · rw[List.getElem?_eq_none (by rw[putL_len,TT_len];omega),List.getElem?_eq_none (by rw[putL_len,TT_len];omega)]
 · rw[putL_other hd]
   refine TT_congr k fun j hj e' he' hd'=>?_
   have:(j==i)=false:=by
    simp only[beq_eq_false_iff_ne]
    intro e1
    subst e1
    rw[he] at he'
    cases he'
    exact hd hd'
   simp[plus,this]
theorem TT_append {e:Tr}:∀ {i:Nat},i≤tr.length→TT (tr++[e]) T0 c i=TT tr T0 c i
 | 0,_=>rfl
 | i+1,h=>by
   unfold TT
   rw[List.getElem?_append_left (by omega),TT_append (by omega)]
theorem SS_append {e:Tr}:∀ {i:Nat},i≤tr.length→SS (tr++[e]) S0 c i=SS tr S0 c i
 | 0,_=>rfl
 | i+1,h=>by
   unfold SS
   rw[List.getElem?_append_left (by omega),SS_append (by omega)]
end
def guardA (ops:Array Oper) (T:List V) (o:Oper):Option Bool :=
 match o.guard with
 | none=>some true
 | some (j,b)=>match (ops[j]?).bind (·.dst) with
   | some d=>match (T[d]?).getD .any with
     | .d (.bool t)=>some (t==b)
     | .tup []=>some false
     | _=>none
   | none=>none
def Canon (P:Program) (m:Mode) (ops:Array Oper) (l:List Oper) (tr:List Tr) (T0:List V) (S0:List Slot):Prop :=
 tr.length≤l.length∧∀ i o e,l[i]? = some o→tr[i]? = some e→e.dst=o.dst ∧
  ((guardA ops (TT tr T0 always i) o=some true∧AQ P m.st (SS tr S0 always i).length ⟨TT tr T0 always i,SS tr S0 always i⟩ o e.x e.news)∨(guardA ops (TT tr T0 always i) o=some false∧e.x=.tup []∧e.news=[]))
theorem put_same {σ:St} {d:Nat} {x:V} (hx:σ.get d=x) (hd:x≠.any):σ.put (some d) x=σ:=by
 unfold St.put
 unfold St.get at hx
 cases hd':σ.tmps[d]? with
 | none=>rw[hd'] at hx;exact absurd hx.symm hd
 | some y =>
   rw[hd'] at hx
   simp at hx
   subst hx
   have hl:=(List.getElem?_eq_some_iff.1 hd').1
   have:σ.tmps.set d y=σ.tmps:=by
    apply List.ext_getElem?
    intro i
    by_cases hi:d=i
    · subst hi;rw[List.getElem?_set_self hl,hd']
    · rw[List.getElem?_set_ne hi]
   simp only[this]
theorem put_putL (T:List V) (S:List Slot) (d:Option Nat) (x:V):St.put ⟨T,S⟩ d x=⟨putL T d x,S⟩:=by cases d<;>rfl
section
variable {P:Program} {m:Mode} {ops:Array Oper} {K:St→Prop}
theorem aop_quiet {o:Oper} {K:St→Prop} {σ:St} (htc:m.tc=false) (hq:quietOp o=true) (h:AOp P m o K σ):∃ x news,AQ P m.st σ.slots.length σ o x news∧K (St.put ⟨σ.tmps,σ.slots++news⟩ o.dst x):=by
 unfold AOp at h
 unfold quietOp at hq
 split at h
 · rename_i ho;rw[ho] at hq;cases hq
 · rename_i ho;rw[ho] at hq;cases hq
 · rename_i c ho
   rw[ho] at hq
   simp only at hq
   split at h
   · rename_i hc;rw[hc] at hq;cases hq
   · rcases h with h|h
     · exact h
     · split at h
       · rcases h with h|h<;>(have:=h.1;rw[htc] at this;cases this)
       · exact h.elim
   · exact h
 · split at h
   · have:=h.1;rw[htc] at this;cases this
   · exact h
 · rw[htc] at h
   simp only[Bool.false_and,adoptV_off] at h
   exact h
 · exact h
theorem canon_of (htc:m.tc=false) {l:List Oper} {T0:List V} {S0:List Slot} (h:AOps P m ops K l ⟨T0,S0⟩):∀ k,k≤l.length→(∀ i o,i<k→l[i]? = some o→quietOp o=true) →
 ∃ tr:List Tr,tr.length=k∧Canon P m ops l tr T0 S0∧AOps P m ops K (l.drop k) ⟨TT tr T0 always k,SS tr S0 always k⟩
 | 0,_,_=>⟨[],rfl,⟨by simp,fun i o e _ he=>by simp at he⟩,h⟩
 | k+1,hk,hq=>by
   obtain⟨tr,h1,⟨h2,h3⟩,h4⟩:=canon_of htc h k (by omega) (fun i o hi=>hq i o (by omega))
   have ho:l[k]? = some (l[k]'(by omega)):=List.getElem?_eq_getElem _
   generalize hoo:l[k]'(by omega)=o at ho
   have hd:l.drop k=o::l.drop (k+1):=by rw[←hoo];exact List.drop_eq_getElem_cons (by omega)
   rw[hd] at h4
   have more:∀ (x:V) (news:List Slot),((guardA ops (TT tr T0 always k) o=some true∧AQ P m.st (SS tr S0 always k).length ⟨TT tr T0 always k,SS tr S0 always k⟩ o x news)∨(guardA ops (TT tr T0 always k) o=some false∧x=.tup []∧news=[])) →
    AOps P m ops K (l.drop (k+1)) (St.put ⟨TT tr T0 always k,SS tr S0 always k++news⟩ o.dst x)→∃ tr:List Tr,tr.length=k+1∧Canon P m ops l tr T0 S0∧AOps P m ops K (l.drop (k+1)) ⟨TT tr T0 always (k+1),SS tr S0 always (k+1)⟩:=by
    intro x news hor hnext
    have hat:(tr++[⟨o.dst,x,news⟩]:List Tr)[k]? = some ⟨o.dst,x,news⟩:=by rw[List.getElem?_append_right (by omega),h1];simp
    refine⟨tr++[⟨o.dst,x,news⟩],by simp[h1],⟨by simp;omega,fun i o' e ho' he=>?_⟩,?_⟩
    · by_cases hi:i<tr.length
      · rw[List.getElem?_append_left hi] at he
        rw[TT_append (by omega),SS_append (by omega)]
        exact h3 i o' e ho' he
      · have hik:i=k:=by have:=(List.getElem?_eq_some_iff.1 he).1;simp at this;omega
        subst hik
        rw[hat] at he
        cases he
        rw[ho] at ho'
        cases ho'
        rw[TT_append (by omega),SS_append (by omega)]
        exact⟨rfl,hor⟩
    · rw[TT,SS,hat]
      simp only[always,if_true]
      rw[TT_append (by omega),SS_append (by omega)]
      rw[put_putL] at hnext
      exact hnext
   unfold AOps at h4
   split at h4
   · rename_i hg
     obtain⟨x,news,h5,h6⟩:=aop_quiet htc (hq k o (by omega) ho) h4
     exact more x news (.inl ⟨by simp[guardA,hg],h5⟩) h6
   · rename_i j b hg
     split at h4
     · exact h4.elim
     rename_i d hdd
     split at h4
     · rename_i t ht
       have hgA:guardA ops (TT tr T0 always k) o=some (t==b):=by
        unfold guardA
        rw[hg]
        simp only[hdd]
        have:((TT tr T0 always k)[d]?).getD .any=.d (.bool t):=ht
        rw[this]
       have hsame:=put_same ht (by simp)
       by_cases htb:t=b
       · subst htb
         have h5:=h4.1 rfl
         rw[hsame] at h5
         obtain⟨x,news,h6,h7⟩:=aop_quiet htc (hq k o (by omega) ho) h5
         exact more x news (.inl ⟨by rw[hgA];simp,h6⟩) h7
       · have htn:t=!b:=by cases t<;>cases b<;>simp_all
         have h5:=h4.2 htn
         rw[←htn,hsame] at h5
         refine more (.tup []) [] (.inr ⟨by rw[hgA];simp[htb],rfl,rfl⟩) ?_
         rw[List.append_nil]
         exact h5
     · rename_i ht
       have hgA:guardA ops (TT tr T0 always k) o=some false:=by
        unfold guardA
        rw[hg]
        simp only[hdd]
        have:((TT tr T0 always k)[d]?).getD .any=.tup []:=ht
        rw[this]
       refine more (.tup []) [] (.inr ⟨hgA,rfl,rfl⟩) ?_
       rw[List.append_nil]
       exact h4
     · exact h4.elim
end
end Go.Proofs.Ytnjedabjbeipeaa
/-
  Regions whose order is drawn: every schedule. Plain lemmas, about no function of the program.
  Conditions: those typed in each theorem.
-/
namespace Go.Proofs.Ytnjedabjbeipeaa
open Go.RowKit Go.ChangeShapes Go.WideShapes
set_option linter.unusedVariables false
set_option linter.unusedSimpArgs false
theorem zip_all {α:Type} {l:List α} {p:α×Nat→Bool} (h:l.zipIdx.all p=true) {i:Nat} {o:α} (ho:l[i]? = some o):p (o,i)=true:=by
 rw[List.all_eq_true] at h
 exact h (o,i) (List.mem_zipIdx_iff_getElem?.2 ho)
section
variable {P:Program} {m:Mode} {w0:Base} {w w':World} {φ φ':Hdrs} {σ σ':St} {a:Act} {sl sl':List Slot} {Fs Fs':List (List Nat)} {ops:Array Oper} {l:List Oper}
structure DrawnB (l:List Oper):Prop where
 edge:∀ {j:Nat} {o:Oper},l[j]? = some o→∀ e∈o.after.toList,plainEdge e=true→e.on<j
 soft:∀ {j:Nat} {o:Oper},l[j]? = some o→∀ e∈o.after.toList,plainEdge e=false→softOk l j e=true
 clash:∀ {i j:Nat} {oi oj:Oper},i<j→l[i]? = some oi→l[j]? = some oj→clash oi oj=true→i∈depsOf oj
 guard:∀ {j g:Nat} {b:Bool} {o:Oper},l[j]? = some o→o.guard=some (g,b)→g<j∧g∈depsOf o∧∀ {og:Oper},l[g]? = some og→∀ {i:Nat} {o2:Oper},l[i]? = some o2→o2.dst=og.dst→og.dst≠none→i=g
structure Drawn (l:List Oper) (q:Nat):Prop extends DrawnB l where
 tail:∀ {i j:Nat},q≤j→j<l.length→i<j→((bitsAll l).getD j 0).testBit i=true
 le:q≤l.length
 quiet:∀ {i:Nat} {o:Oper},i<q→l[i]? = some o→quietOp o=true
theorem bits_step (l:List Oper) (o:Oper):bitsAll (l++[o])=bitsAll l++[bitsOf (bitsAll l) o]:=by simp[bitsAll]
theorem bits_len:∀ (n:Nat) (l:List Oper),l.length=n→(bitsAll l).length=n
 | 0,l,h=>by rw[List.eq_nil_of_length_eq_zero h];rfl
 | n+1,l,h=>by
   obtain⟨l',o,rfl⟩:∃ l' o,l=l'++[o]:=⟨l.dropLast,l.getLast (by intro e;rw[e] at h;cases h),(List.dropLast_concat_getLast _).symm⟩
   rw[bits_step,List.length_append,bits_len n l' (by simpa using h)]
   rfl
theorem bits_pre (l':List Oper):∀ (n:Nat) (l:List Oper),l.length=n→∃ r,bitsAll (l'++l)=bitsAll l'++r
 | 0,l,h=>⟨[],by rw[List.eq_nil_of_length_eq_zero h];simp⟩
 | n+1,l,h=>by
   obtain⟨l2,o,rfl⟩:∃ l2 o,l=l2++[o]:=⟨l.dropLast,l.getLast (by intro e;rw[e] at h;cases h),(List.dropLast_concat_getLast _).symm⟩
   obtain⟨r,hr⟩:=bits_pre l' n l2 (by simpa using h)
   rw[←List.append_assoc,bits_step,hr,List.append_assoc]
   exact⟨_,rfl⟩
theorem bits_at {j:Nat} {o:Oper} (h:l[j]? = some o):(bitsAll l).getD j 0=bitsOf (bitsAll (l.take j)) o∧∀ d,d<j→(bitsAll (l.take j)).getD d 0=(bitsAll l).getD d 0:=by
 have hj:=(List.getElem?_eq_some_iff.1 h).1
 have e:l=l.take j++o::l.drop (j+1):=by
  have:=List.drop_eq_getElem_cons hj
  rw[List.getElem?_eq_getElem hj] at h
  rw[Option.some.inj h] at this
  rw[←this,List.take_append_drop]
 have hlen:(bitsAll (l.take j)).length=j:=bits_len j _ (by simp;omega)
 obtain⟨r,hr⟩:=bits_pre (l.take j++[o]) _ (l.drop (j+1)) rfl
 have e2:bitsAll l=bitsAll (l.take j)++([bitsOf (bitsAll (l.take j)) o]++r):=by
  conv=>lhs;rw[e]
  rw[show l.take j++o::l.drop (j+1)=(l.take j++[o])++l.drop (j+1) by simp,hr,bits_step,List.append_assoc]
 constructor
 · rw[e2,List.getD_eq_getElem?_getD,List.getElem?_append_right (by omega),hlen]
   simp
 · intro d hd
   rw[e2,List.getD_eq_getElem?_getD,List.getD_eq_getElem?_getD,List.getElem?_append_left (by omega)]
theorem bits_test {bm:List Nat} {o:Oper} {i:Nat} (h:(bitsOf bm o).testBit i=true):∃ d∈depsOf o,d=i∨(bm.getD d 0).testBit i=true:=by
 unfold bitsOf at h
 have key:∀ (ds:List Nat) (s:Nat),((ds.foldl (fun s d=>s ||| 2 ^ d ||| bm.getD d 0) s).testBit i=true)→s.testBit i=true∨∃ d∈ds,d=i∨(bm.getD d 0).testBit i=true:=by
  intro ds
  induction ds with
  | nil=>intro s h;exact .inl h
  | cons d ds ih =>
    intro s h
    rw[List.foldl_cons] at h
    rcases ih _ h with h1|⟨d',hd',h1⟩
    · rw[Nat.testBit_or,Nat.testBit_or,Bool.or_eq_true,Bool.or_eq_true] at h1
      rcases h1 with (h1|h1)|h1
      · exact .inl h1
      · rw[Nat.testBit_two_pow] at h1
        exact .inr ⟨d,by simp,.inl (by simpa using h1)⟩
      · exact .inr ⟨d,by simp,.inr h1⟩
    · exact .inr ⟨d',by simp[hd'],h1⟩
 rcases key _ _ h with h1|h1
 · simp at h1
 · exact h1
theorem bits_in (hd:∀ {j:Nat} {o:Oper},l[j]? = some o→∀ d∈depsOf o,d<j) {c:Nat→Bool} (hc:∀ {j:Nat} {o:Oper},c j=true→l[j]? = some o→∀ d∈depsOf o,c d=true):∀ (j:Nat) {o:Oper} {i:Nat},l[j]? = some o→(∀ d∈depsOf o,c d=true)→((bitsAll l).getD j 0).testBit i=true→c i=true:=by
 intro j
 induction j using Nat.strongRecOn with
 | _ j ih =>
   intro o i ho hdep hb
   obtain⟨h1,h2⟩:=bits_at ho
   rw[h1] at hb
   obtain⟨d,hdm,hd'⟩:=bits_test hb
   have hlt:=hd ho d hdm
   rcases hd' with rfl|hb2
   · exact hdep _ hdm
   · rw[h2 d hlt] at hb2
     have hdl:l[d]? = some (l[d]'(by have:=(List.getElem?_eq_some_iff.1 ho).1;omega)):=List.getElem?_eq_getElem _
     exact ih d hlt hdl (hc (hdep d hdm) hdl) hb2
theorem quiet_of {i:Nat} {o:Oper} (h:i<quietLen l) (ho:l[i]? = some o):quietOp o=true:=by
 unfold quietLen at h
 have h1:(l.takeWhile quietOp)[i]? = some o:=by
  have hp:=List.takeWhile_prefix (p:=quietOp) (l:=l)
  obtain⟨r,hr⟩:=hp
  rw[←hr,List.getElem?_append_left h] at ho
  exact ho
 exact List.all_eq_true.1 List.all_takeWhile _ (List.mem_of_getElem? h1)
theorem quietLen_le:quietLen l≤l.length:=by
 unfold quietLen
 exact (List.takeWhile_prefix (p:=quietOp) (l:=l)).length_le
theorem drawn_at {q:Nat} (h:drawAt ops q=true):Drawn ops.toList q:=by
 unfold drawAt at h
 simp only[Bool.and_eq_true] at h
 obtain⟨⟨⟨⟨⟨h1,h2⟩,h3⟩,h4⟩,h5⟩,h6⟩:=h
 refine⟨⟨fun {j o} ho e he hp=>?_,fun {j o} ho e he hp=>?_,fun {i j oi oj} hij hi hj hcl=>?_,fun {j g b o} ho hg=>?_⟩,fun {i j} hk hj hij=>?_,of_decide_eq_true h5,fun {i o} hi ho=>List.all_eq_true.1 h6 o (List.mem_of_getElem? (by rw[List.getElem?_take,if_pos hi];exact ho))⟩
 · have:=zip_all h1 ho
   simp only[List.all_eq_true] at this
   have:=this e he
   rw[if_pos hp] at this
   simpa using this
 · have:=zip_all h1 ho
   simp only[List.all_eq_true] at this
   have:=this e he
   rw[if_neg (by simp[hp])] at this
   exact this
 · have:=zip_all h2 hj
   have h5:(!Go.Proofs.Ytnjedabjbeipeaa.clash oi oj||(depsOf oj).contains i)=true:=zip_all this (i:=i) (o:=oi) (by rw[List.getElem?_take,if_pos hij];exact hi)
   rw[hcl] at h5
   simpa using h5
 · have:=zip_all h3 ho
   simp only[hg,Bool.and_eq_true,decide_eq_true_eq] at this
   obtain⟨⟨k1,k2⟩,k3⟩:=this
   refine⟨k1,by simpa using k2,fun {og} hog {i o2} hi hd hn=>?_⟩
   have:=zip_all k3 hi
   simp only[hog,Bool.or_eq_true,decide_eq_true_eq,Bool.not_eq_true',beq_eq_false_iff_ne,ne_eq] at this
   rcases this with (h|h)|h
   · exact h
   · rw[Option.isNone_iff_eq_none] at h;exact absurd h hn
   · exact absurd hd h
 · have hl:j<(bitsAll ops.toList).length:=by rw[bits_len _ _ rfl];exact hj
   have:=zip_all h4 (i:=j) (o:=(bitsAll ops.toList)[j]) (List.getElem?_eq_getElem hl)
   simp only[Bool.or_eq_true,decide_eq_true_eq,List.all_eq_true,List.mem_range] at this
   rcases this with h|h
   · omega
   · rw[List.getD_eq_getElem?_getD,List.getElem?_eq_getElem hl]
     exact h i hij
theorem drawAt_of (h:drawOk ops=true):drawAt ops (quietLen ops.toList)=true:=by
 unfold drawOk tailOk at h
 unfold drawAt
 rw[h,Bool.true_and,Bool.and_eq_true]
 exact⟨decide_eq_true quietLen_le,List.all_eq_true.2 fun o ho=>by
  obtain⟨i,hi,rfl⟩:=List.mem_iff_getElem.1 ho
  have hi2:i<quietLen ops.toList:=by rw[List.length_take] at hi;omega
  refine quiet_of hi2 ?_
  rw[List.getElem_take]
  exact List.getElem?_eq_getElem _⟩
theorem DrawnB.deps (hd:DrawnB l) {j:Nat} {o:Oper} (ho:l[j]? = some o):∀ d∈depsOf o,d<j:=by
 intro d h
 unfold depsOf at h
 obtain⟨e,he,rfl⟩:=List.mem_map.1 h
 obtain⟨he,hp⟩:=List.mem_filter.1 he
 exact hd.edge ho e he hp
theorem VR.undef {G:Nat→Prop} {v:Value} (h:VR w G φ sl (.tup []) v):v=Go.undef:=by
 cases h with
 | tup hl h =>
   rename_i vs
   obtain rfl:vs=[]:=List.eq_nil_of_length_eq_zero hl
   rfl
theorem vr_undef {G:Nat→Prop}:VR w G φ sl (.tup []) Go.undef:=.tup (vs:=[]) rfl (fun i x v h=>by simp at h)
theorem VR.named {G:Nat→Prop} {x:V} {v:Value} (h:VR w G φ sl x v):∀ s∈namesV x,sl[s]?≠some .unborn:=by
 have one:∀ {x v},VR w G φ sl x v→∀ s∈names0 x,sl[s]?≠some .unborn:=by
  intro x v h s hs e
  cases h with
  | ref h1=>simp[names0] at hs;subst hs;rw[h1] at e;cases e
  | gone h1=>simp[names0] at hs;subst hs;rw[h1] at e;cases e
  | lit h1=>simp[names0] at hs;subst hs;rw[h1] at e;cases e
  | litgone h1=>simp[names0] at hs;subst hs;rw[h1] at e;cases e
  | ptr h1 h2=>simp[names0] at hs;subst hs;rw[h1] at e;cases e;exact h2
  | lost h1=>simp[names0] at hs;subst hs;rw[h1] at e;cases e
  | eptr h1=>simp[names0] at hs;subst hs;rw[h1] at e;cases e
  | elost h1=>simp[names0] at hs;subst hs;rw[h1] at e;cases e
  | blk h1=>simp[names0] at hs;subst hs;rw[h1] at e;cases e
  | qptr h1=>simp[names0] at hs;subst hs;rw[h1] at e;cases e
  | _=>simp[names0] at hs
 have two:∀ {x v},VR w G φ sl x v→∀ s∈names1 x,sl[s]?≠some .unborn:=by
  intro x v h s hs
  cases x with
  | agg xs =>
    cases h with
    | agg hl h1 hv =>
      rename_i vs
      simp only[names1,List.mem_flatMap] at hs
      obtain⟨y,hy,hs⟩:=hs
      obtain⟨i,hi,rfl⟩:=List.mem_iff_getElem.1 hy
      exact one (hv i _ _ (List.getElem?_eq_getElem hi) (List.getElem?_eq_getElem (by omega))) s hs
  | _=>exact one h s hs
 intro s hs
 cases x with
 | fn f xs =>
   cases h with
   | fn hl hv =>
     rename_i vs
     simp only[namesV,List.mem_flatMap] at hs
     obtain⟨y,hy,hs⟩:=hs
     obtain⟨i,hi,rfl⟩:=List.mem_iff_getElem.1 hy
     exact two (hv i _ _ (List.getElem?_eq_getElem hi) (List.getElem?_eq_getElem (by omega))) s hs
 | _=>exact two h s hs
theorem step_quiet (hst:w0.st=m.st) {tr:List Tr} {T0:List V} {S0:List Slot} {k:Nat} {c:Nat→Bool} {i:Nat} {o:Oper} (hops:ops.toList=l) {qn:Nat} (hd:Drawn l qn) (hcan:Canon P m ops l tr T0 S0) (hk:tr.length=k) (hi:i<k) (ho:l[i]? = some o) (hci:c i=false) (hck:∀ j,c j=true→j<k)
 (hclosed:∀ {j:Nat} {o:Oper},c j=true→l[j]? = some o→∀ d∈depsOf o,c d=true) (hready:∀ d∈depsOf o,c d=true) (hr:Rel P w0 φ ⟨TT tr T0 c k,SS tr S0 c k⟩ a w) {KC:Act→World→Prop} {Q:Exit→Act→World→Prop}
 (hK:∀ φ' a' w',Rel P w0 φ' ⟨TT tr T0 (plus c i) k,SS tr S0 (plus c i) k⟩ a' w'→KC a' w') :
 if Region.wanted o (yielded ops a.tmps)=true then o.wp P a w KC Q else KC (a.put o.dst undef) w:=by
 have he:tr[i]? = some (tr[i]'(by omega)):=List.getElem?_eq_getElem _
 generalize tr[i]'(by omega)=e at he
 obtain⟨hdst,hor⟩:=hcan.2 i o e ho he
 have hdi:=hd.deps ho
 have temp:∀ t,(∀ j,j<k→∀ oj,l[j]? = some oj→oj.dst=some t→(c j=true↔j<i))→(TT tr T0 c k)[t]? = (TT tr T0 always i)[t]?:=by
  intro t ht
  have e1:(TT tr T0 c k)[t]? = (TT tr T0 (fun j=>decide (j<i)) k)[t]?:=TT_congr k fun j hj e' he' hd'=>by
   have hjl:l[j]? = some (l[j]'(by have:=hcan.1;omega)):=List.getElem?_eq_getElem _
   obtain⟨hdj,_⟩:=hcan.2 j _ e' hjl he'
   have:=ht j hj _ hjl (by rw[←hdj];exact hd')
   by_cases h:j<i
   · simp[h,this.2 h]
   · have h2:c j=false:=by cases hcj:c j with|false=>rfl|true=>exact absurd (this.1 hcj) h
     simp[h,h2]
  have e2:TT tr T0 (fun j=>decide (j<i)) k=TT tr T0 (fun j=>decide (j<i)) i:=TT_stop k (by omega) fun j h1 _=>by
   have:¬ j<i:=by omega
   simp[this]
  have e3:TT tr T0 (fun j=>decide (j<i)) i=TT tr T0 always i:=TT_same i fun j hj=>by simp[hj,always]
  rw[e1,e2,e3]
 have oper:∀ t,t∈readsT o→(TT tr T0 c k)[t]? = (TT tr T0 always i)[t]?:=by
  intro t ht
  refine temp t fun j hj oj hoj hdj=>?_
  constructor
  · intro hcj
    rcases Nat.lt_trichotomy j i with h|h|h
    · exact h
    · subst h;rw[hci] at hcj;cases hcj
    · have hcl:clash o oj=true:=by
       unfold clash
       cases hod:o.dst with
       | none=>simp only[hdj];simpa using ht
       | some q=>simp only[hdj];simp[ht]
      have:=hclosed hcj hoj i (hd.clash h ho hoj hcl)
      rw[hci] at this;cases this
  · intro hji
    have hcl:clash oj o=true:=by
     unfold clash
     rw[hdj]
     cases hod:o.dst with
     | none=>simpa using ht
     | some q=>simp[ht]
    exact hready j (hd.clash hji hoj ho hcl)
 have hev:∀ x∈o.op.operands.toList,(⟨TT tr T0 c k,SS tr S0 c k⟩:St).eval x=(⟨TT tr T0 always i,SS tr S0 always i⟩:St).eval x:=by
  intro x hx
  cases x with
  | tmp t =>
    show ((TT tr T0 c k)[t]?).getD .any=((TT tr T0 always i)[t]?).getD .any
    rw[oper t (by unfold readsT;exact List.mem_filterMap.2 ⟨.tmp t,hx,rfl⟩)]
  | _=>rfl
 have hguard:guardA ops (TT tr T0 c k) o=guardA ops (TT tr T0 always i) o:=by
  unfold guardA
  cases hg:o.guard with
  | none=>rfl
  | some gb =>
    obtain⟨g,b⟩:=gb
    obtain⟨g1,g2,g3⟩:=hd.guard ho hg
    have hgl:l[g]? = some (l[g]'(by have:=(List.getElem?_eq_some_iff.1 ho).1;omega)):=List.getElem?_eq_getElem _
    generalize l[g]'(by have:=(List.getElem?_eq_some_iff.1 ho).1;omega)=og at hgl
    have hog:ops[g]? = some og:=by rw[←Array.getElem?_toList,hops];exact hgl
    simp only[hog,Option.bind_some]
    cases hod:og.dst with
    | none=>rfl
    | some d =>
      have:=temp d fun j hj oj hoj hdj=>by
       have hjg:=g3 hgl hoj (by rw[hdj,hod]) (by rw[hod];simp)
       subst hjg
       exact⟨fun _=>g1,fun _=>hready j g2⟩
      simp only[this]
 have hwanted:∀ t,guardA ops (TT tr T0 c k) o=some t→Region.wanted o (yielded ops a.tmps)=t:=by
  intro t ht
  unfold guardA at ht
  unfold Region.wanted
  cases hg:o.guard with
  | none=>rw[hg] at ht;simpa using ht
  | some gb =>
    obtain⟨g,b⟩:=gb
    rw[hg] at ht
    simp only at ht ⊢
    split at ht
    · rename_i d hdd
      split at ht
      · rename_i t' ht'
        have hv:=hr.eval (.tmp d)
        have hget:(⟨TT tr T0 c k,SS tr S0 c k⟩:St).eval (.tmp d)=.d (.bool t'):=ht'
        rw[hget] at hv
        have hv':=hv.bool
        have hl:d<a.tmps.size:=by
         rcases Nat.lt_or_ge d a.tmps.size with h|h
         · exact h
         · have:a.eval (.tmp d)=undef:=by show a.tmps.getD d undef=_;simp[Array.getD,Nat.not_lt.2 h]
           rw[this] at hv';cases hv'
        have hy:yielded ops a.tmps g=some t':=by
         unfold yielded
         rw[hdd]
         have:a.tmps[d]? = some (.bool t'):=by
          rw[Array.getElem?_eq_getElem hl]
          have:a.eval (.tmp d)=a.tmps[d]:=by show a.tmps.getD d undef=_;simp[Array.getD,hl]
          rw[←this,hv']
         simp[this]
        rw[hy]
        simpa using ht
      · rename_i ht'
        have hv:=hr.eval (.tmp d)
        have hget:(⟨TT tr T0 c k,SS tr S0 c k⟩:St).eval (.tmp d)=.tup []:=ht'
        rw[hget] at hv
        have hv':=hv.undef
        have hy:yielded ops a.tmps g=none:=by
         unfold yielded
         rw[hdd]
         cases hq:a.tmps[d]? with
         | none=>simp[hq]
         | some u =>
           have:a.eval (.tmp d)=u:=by show a.tmps.getD d undef=_;rw[Array.getD_eq_getD_getElem?,hq];rfl
           rw[this] at hv'
           subst hv'
           simp[hq,undef]
        rw[hy]
        simpa using ht
      · cases ht
    · cases ht
 have hT:putL (TT tr T0 c k) o.dst e.x=TT tr T0 (plus c i) k:=by
  rw[←hdst]
  refine TT_put hi he fun j hij hj e' he' hd' hn=>?_
  cases hcj:c j with
  | false=>rfl
  | true =>
    have hjl:l[j]? = some (l[j]'(by have:=hcan.1;omega)):=List.getElem?_eq_getElem _
    obtain⟨hdj,_⟩:=hcan.2 j _ e' hjl he'
    have hcl:clash o (l[j]'(by have:=hcan.1;omega))=true:=by
     unfold clash
     cases hod:o.dst with
     | none=>rw[hdst,hod] at hn;exact absurd rfl hn
     | some q =>
       have:(l[j]'(by have:=hcan.1;omega)).dst=some q:=by rw[←hdj,hd',hdst,hod]
       simp[this]
    have:=hclosed hcj hjl i (hd.clash hij ho hjl hcl)
    rw[hci] at this;cases this
 obtain⟨hS1,hS2,hS3⟩:=SS_put (S0:=S0) hi he hci
 rcases hor with ⟨hg,haq⟩|⟨hg,hx,hnews⟩
 · rw[if_pos (hwanted true (by rw[hguard];exact hg))]
   have hsame:SameFor o ⟨TT tr T0 always i,SS tr S0 always i⟩ ⟨TT tr T0 c k,SS tr S0 c k⟩:=⟨hev,fun x hx s hs y hy=>by
    rcases SS_known' (c:=c) (Nat.le_of_lt hi) hy with h|h
    · exact h
    · have hv:=hr.eval x
      rw[hev x hx] at hv
      exact absurd h (hv.named s hs)⟩
   refine aq_sound hst (aq_mono haq hsame) hr fun v w' hq=>?_
   obtain⟨Fs,hm⟩:=hr.mem
   obtain⟨φ',ht,hv⟩:=turn_born hm hq hS2 hS3
   have:=hr.turn ht hv o.dst
   rw[put_putL,hT] at this
   simp only[hS1] at this
   exact hK φ' _ _ this
 · rw[if_neg (by rw[hwanted false (by rw[hguard];exact hg)];simp)]
   have:=hr.turn (Turn.refl hr.mem) vr_undef o.dst
   rw[put_putL] at this
   rw[hx] at hT
   rw[hT] at this
   have hS:SS tr S0 c k=SS tr S0 (plus c i) k:=by
    rw[←hS1,hnews]
    simp[putAt]
   simp only[hS] at this
   exact hK φ _ _ this
end
end Go.Proofs.Ytnjedabjbeipeaa
/-
  Regions whose order is drawn: every schedule ends as the text's order does. Plain lemmas, about no function of the program.
  Conditions: those typed in each theorem.
-/
namespace Go.Proofs.Ytnjedabjbeipeaa
open Go.RowKit Go.ChangeShapes Go.WideShapes
set_option linter.unusedVariables false
set_option linter.unusedSimpArgs false
def cntU (L:Nat→Bool):Nat→Nat
 | 0=>0
 | n+1=>cntU L n+(if L n=true then 0 else 1)
theorem cntU_plus {L:Nat→Bool} {i:Nat} (hL:L i=false):∀ {n:Nat},i<n→cntU (plus L i) n+1=cntU L n
 | 0,h=>by omega
 | n+1,h=>by
   unfold cntU
   by_cases hi:i=n
   · subst hi
     have e:∀ m,m≤i→cntU (plus L i) m=cntU L m:=by
      intro m
      induction m with
      | zero=>intro _;rfl
      | succ m ih =>
        intro hm
        unfold cntU
        have:(m==i)=false:=by simp;omega
        rw[ih (by omega)]
        simp[plus,this]
     rw[e i (Nat.le_refl _),hL]
     simp[plus]
   · have:=cntU_plus hL (n:=n) (by omega)
     have h2:(n==i)=false:=by simp;omega
     simp only[plus,h2,Bool.false_or] at this ⊢
     omega
theorem cntU_zero {L:Nat→Bool}:∀ {n:Nat},cntU L n=0→∀ j,j<n→L j=true
 | 0,_,j,h=>by omega
 | n+1,h,j,hj=>by
   unfold cntU at h
   by_cases hn:L n=true
   · by_cases hjn:j=n
     · rw[hjn];exact hn
     · exact cntU_zero (n:=n) (by omega) j (by omega)
   · rw[if_neg hn] at h;omega
theorem cntU_pos {L:Nat→Bool} {n:Nat} (h:0<cntU L n):∃ j,j<n∧L j=false∧∀ i,i<j→L i=true:=by
 have h1:∃ j,j<n∧L j=false:=by
  refine Classical.byContradiction fun hn=>?_
  have:∀ m,m≤n→cntU L m=0:=by
   intro m
   induction m with
   | zero=>intro _;rfl
   | succ m ih =>
     intro hm
     unfold cntU
     rw[ih (by omega)]
     cases hL:L m with
     | true=>rfl
     | false=>exact absurd ⟨m,by omega,hL⟩ hn
  rw[this n (Nat.le_refl _)] at h
  omega
 obtain⟨j,hj,hL⟩:=h1
 induction j using Nat.strongRecOn with
 | _ j ih =>
   by_cases hall:∃ i,i<j∧L i=false
   · obtain⟨i,hi,hLi⟩:=hall
     exact ih i hi (by omega) hLi
   · refine⟨j,hj,hL,fun i hi=>?_⟩
     cases hLi:L i with
     | true=>rfl
     | false=>exact absurd ⟨i,hi,hLi⟩ hall
section
variable {P:Program} {mo:Mode} {w0:Base} {w w':World} {φ φ':Hdrs} {σ σ':St} {a:Act} {ops:Array Oper} {l:List Oper}
def ready (m:Region.Mode) (ops:Array Oper) (listed:Array Bool) (i:Nat):Bool :=
 !listed.getD i true&&((ops[i]?).map (·.after.all fun e=>!Region.binds m e||listed.getD e.on false)).getD false
theorem go_succ (m:Region.Mode) (ops:Array Oper) (fuel t:Nat) (listed:Array Bool) (acc:List Nat):Region.linearise.go m ops (fuel+1) t listed acc =
 match ((List.range ops.size).filter (ready m ops listed))[t % ((List.range ops.size).filter (ready m ops listed)).length]? with
 | some i=>Region.linearise.go m ops fuel (t / ((List.range ops.size).filter (ready m ops listed)).length) (listed.setIfInBounds i true) (i::acc)
 | none=>acc.reverse:=rfl
theorem binds_plain {m:Region.Mode} {e:Edge} (h:plainEdge e=true):Region.binds m e=true:=by
 unfold plainEdge at h
 unfold Region.binds
 cases hg:e.ground<;>rw[hg] at h<;>simp_all
theorem ready_of (hops:ops.toList=l) {m:Region.Mode} {listed:Array Bool} (hsz:listed.size=ops.size) {i:Nat} (hi:i<ops.size) (hL:listed.getD i false=false) (h:∀ o,l[i]? = some o→∀ e∈o.after.toList,Region.binds m e=true→listed.getD e.on false=true):ready m ops listed i=true:=by
 have ho:ops[i]? = some ops[i]:=Array.getElem?_eq_getElem hi
 have hol:l[i]? = some ops[i]:=by rw[←hops,Array.getElem?_toList];exact ho
 have e1:listed.getD i true=listed.getD i false:=by simp[Array.getD,hsz,hi]
 unfold ready
 rw[e1,ho,hL]
 simp only[Option.map_some,Option.getD_some,Bool.and_eq_true,Bool.not_eq_true',Array.all_eq_true_iff_forall_mem]
 refine⟨trivial,fun e he=>?_⟩
 have:=h _ hol e (by simpa using he)
 cases hb:Region.binds m e with
 | false=>rfl
 | true=>simp[this hb]
theorem ready_dep (hops:ops.toList=l) {m:Region.Mode} {listed:Array Bool} (hsz:listed.size=ops.size) {i:Nat} (hi:i<ops.size) (hr:ready m ops listed i=true):listed.getD i false=false∧∀ o,l[i]? = some o→∀ d∈depsOf o,listed.getD d false=true:=by
 have ho:ops[i]? = some ops[i]:=Array.getElem?_eq_getElem hi
 have hol:l[i]? = some ops[i]:=by rw[←hops,Array.getElem?_toList];exact ho
 have e1:listed.getD i true=listed.getD i false:=by simp[Array.getD,hsz,hi]
 unfold ready at hr
 rw[e1,ho] at hr
 simp only[Option.map_some,Option.getD_some,Bool.and_eq_true,Bool.not_eq_true',Array.all_eq_true_iff_forall_mem] at hr
 refine⟨hr.1,fun o ho' d hdm=>?_⟩
 rw[hol] at ho'
 cases ho'
 unfold depsOf at hdm
 obtain⟨e,he,rfl⟩:=List.mem_map.1 hdm
 obtain⟨he,hp⟩:=List.mem_filter.1 he
 have:=hr.2 e (by simpa using he)
 rw[binds_plain hp] at this
 simpa using this
theorem pick_ready (hops:ops.toList=l) (hd:DrawnB l) {m:Region.Mode} {listed:Array Bool} (hsz:listed.size=ops.size) (hc:0<cntU (fun j=>listed.getD j false) ops.size) (t:Nat) :
 ∃ i,((List.range ops.size).filter (ready m ops listed))[t % ((List.range ops.size).filter (ready m ops listed)).length]? = some i∧i<ops.size∧listed.getD i false=false∧∀ o,l[i]? = some o→∀ d∈depsOf o,listed.getD d false=true:=by
 obtain⟨j,hj,hLj,hless⟩:=cntU_pos hc
 have hll:l.length=ops.size:=by rw[←hops];simp
 have hsome:∃ i,i<ops.size∧ready m ops listed i=true:=by
  by_cases hall:∀ o,l[j]? = some o→∀ e∈o.after.toList,Region.binds m e=true→listed.getD e.on false=true
  · exact⟨j,hj,ready_of hops hsz hj hLj hall⟩
  · simp only[Classical.not_forall] at hall
    obtain⟨o,ho,e,he,hb,hn⟩:=hall
    have hn':listed.getD e.on false=false:=by cases h:listed.getD e.on false with|false=>rfl|true=>exact absurd h hn
    have hge:¬ e.on<j:=fun h=>hn (hless _ h)
    have hp:plainEdge e=false:=by cases h:plainEdge e with|false=>rfl|true=>exact absurd (hd.edge ho e he h) hge
    have hs:=hd.soft ho e he hp
    unfold softOk at hs
    simp only[Bool.or_eq_true,decide_eq_true_eq,Bool.and_eq_true,Bool.not_eq_true'] at hs
    rcases hs with h|⟨ht,hq⟩
    · exact absurd h hge
    have hm:m=.gc:=by
     unfold plainEdge at hp
     unfold textEdge at ht
     unfold Region.binds at hb
     cases hg:e.ground<;>rw[hg] at hp ht hb<;>simp_all
    have key:∀ (n i:Nat),softN l n j i=true→listed.getD i false=false→∃ i,i<ops.size∧ready m ops listed i=true:=by
     intro n
     induction n with
     | zero=>intro i h;cases h
     | succ n ih =>
       intro i h hi
       unfold softN at h
       cases hql:l[i]? with
       | none=>rw[hql] at h;cases h
       | some q =>
         rw[hql] at h
         simp only[List.all_eq_true,Bool.or_eq_true,decide_eq_true_eq] at h
         have hlt:i<ops.size:=by have:=(List.getElem?_eq_some_iff.1 hql).1;omega
         by_cases hall:∀ o,l[i]? = some o→∀ e∈o.after.toList,Region.binds m e=true→listed.getD e.on false=true
         · exact⟨i,hlt,ready_of hops hsz hlt hi hall⟩
         · simp only[Classical.not_forall] at hall
           obtain⟨o',ho',e',he',hb',hn'⟩:=hall
           have hn'':listed.getD e'.on false=false:=by cases h:listed.getD e'.on false with|false=>rfl|true=>exact absurd h hn'
           rw[hql] at ho'
           cases ho'
           rcases h e' he' with (h|h)|h
           · unfold textEdge at h
             unfold Region.binds at hb'
             rw[hm] at hb'
             cases hg:e'.ground<;>rw[hg] at h hb'<;>simp_all
           · exact absurd (hless _ h) hn'
           · exact ih _ h hn''
    exact key _ _ hq hn'
 obtain⟨i,hi,hri⟩:=hsome
 have hmem:i∈(List.range ops.size).filter (ready m ops listed):=by
  rw[List.mem_filter,List.mem_range]
  exact⟨hi,hri⟩
 have hlen:0<((List.range ops.size).filter (ready m ops listed)).length:=List.length_pos_of_mem hmem
 have hlt:=Nat.mod_lt t hlen
 refine⟨_,List.getElem?_eq_getElem hlt,?_⟩
 have hin:=List.getElem_mem hlt
 rw[List.mem_filter,List.mem_range] at hin
 exact⟨hin.1,ready_dep hops hsz hin.1 hin.2⟩
theorem listed_set {listed:Array Bool} {n i:Nat} (hsz:listed.size=n) (hi:i<n):(fun j=>(listed.setIfInBounds i true).getD j false)=plus (fun j=>listed.getD j false) i:=by
 funext j
 simp only[plus]
 by_cases hj:j=i
 · subst hj
   simp[Array.getD,hsz,hi]
 · have h1:(j==i)=false:=by simpa using hj
   rw[h1,Bool.false_or]
   simp only[Array.getD_eq_getD_getElem?]
   rw[Array.getElem?_setIfInBounds_ne (fun e=>hj e.symm)]
theorem go_tail (hops:ops.toList=l) {qn:Nat} (hd:Drawn l qn) {m:Region.Mode}:∀ (fuel t:Nat) (listed:Array Bool) (acc:List Nat) (mm:Nat),qn≤mm→mm+fuel=ops.size→listed.size=ops.size→(∀ j,listed.getD j false=decide (j<mm)) →
 Region.linearise.go m ops fuel t listed acc=acc.reverse++List.range' mm fuel
 | 0,t,listed,acc,mm,_,_,_,_=>by simp[Region.linearise.go]
 | fuel+1,t,listed,acc,mm,hk,hn,hsz,hL=>by
   have hc:0<cntU (fun j=>listed.getD j false) ops.size:=by
    rcases Nat.eq_zero_or_pos (cntU (fun j=>listed.getD j false) ops.size) with h|h
    · have:=cntU_zero h mm (by omega)
      simp only[hL] at this
      simp at this
    · exact h
   obtain⟨i,hpick,hi,hLi,hdep⟩:=pick_ready (m:=m) hops hd.toDrawnB hsz hc t
   rw[go_succ,hpick]
   simp only
   have him:i=mm:=by
    rw[hL] at hLi
    have hge:mm≤i:=by simpa using hLi
    rcases Nat.eq_or_lt_of_le hge with h|h
    · exact h.symm
    · have hil:i<l.length:=by rw[←hops];simpa using hi
      have hb:=hd.tail (by omega) hil h
      have hol:l[i]? = some l[i]:=List.getElem?_eq_getElem hil
      have:=bits_in (l:=l) hd.deps (c:=fun j=>decide (j<mm)) (fun {j o} hcj ho d hdm=>by
       have:=hd.deps ho d hdm
       simp only[decide_eq_true_eq] at hcj ⊢
       omega) i hol (fun d hdm=>by rw[←hL];exact hdep _ hol d hdm) hb
      simp at this
   subst him
   rw[go_tail hops hd fuel _ _ _ (i+1) (by omega) (by omega) (by simpa using hsz) (fun j=>by
    have:=congrFun (listed_set hsz hi) j
    rw[this]
    simp only[plus,hL]
    by_cases hj:j=i
    · subst hj;simp
    · have h1:(j==i)=false:=by simpa using hj
      rw[h1,Bool.false_or]
      congr 1
      apply propext
      omega)]
   simp[List.range'_succ]
theorem wpOps_tail {Q:Exit→Act→World→Prop} {k:Nat} (hk:k≤ops.size):wpOps P ops Q (List.range' k (ops.size - k))=wpList P ops Q (ops.toList.drop k):=by
 have:=wpOps_eq_wpList (P:=P) (ops:=ops) (Q:=Q) (ops.toList.drop k) k (fun j=>by rw[List.getElem?_drop,Array.getElem?_toList])
 rw[←this]
 simp
theorem go_sound (hst:w0.st=mo.st) (hops:ops.toList=l) {qn:Nat} (hd:Drawn l qn) {m:Region.Mode} {tr:List Tr} {T0:List V} {S0:List Slot} (hcan:Canon P mo ops l tr T0 S0) (hk:tr.length=qn) {Q:Exit→Act→World→Prop}
 (htail:∀ φ a w,Rel P w0 φ ⟨TT tr T0 always (qn),SS tr S0 always (qn)⟩ a w→wpList P ops Q (l.drop (qn)) a w) :
 ∀ (fuel t:Nat) (listed:Array Bool) (acc:List Nat),listed.size=ops.size→cntU (fun j=>listed.getD j false) ops.size=fuel→(∀ j,listed.getD j false=true→j<qn) →
   (∀ {j:Nat} {o:Oper},listed.getD j false=true→l[j]? = some o→∀ d∈depsOf o,listed.getD d false=true) →
   ∃ suf,Region.linearise.go m ops fuel t listed acc=acc.reverse++suf∧∀ φ a w,Rel P w0 φ ⟨TT tr T0 (fun j=>listed.getD j false) (qn),SS tr S0 (fun j=>listed.getD j false) (qn)⟩ a w→wpOps P ops Q suf a w:=by
 have hlen:l.length=ops.size:=by rw[←hops];simp
 have hql:qn≤ops.size:=by rw[←hlen];exact hd.le
 have full:∀ (fuel t:Nat) (listed:Array Bool) (acc:List Nat),listed.size=ops.size→cntU (fun j=>listed.getD j false) ops.size=fuel→(∀ j,listed.getD j false=true→j<qn)→(∀ j,j<qn→listed.getD j false=true) →
  ∃ suf,Region.linearise.go m ops fuel t listed acc=acc.reverse++suf∧∀ φ a w,Rel P w0 φ ⟨TT tr T0 (fun j=>listed.getD j false) (qn),SS tr S0 (fun j=>listed.getD j false) (qn)⟩ a w→wpOps P ops Q suf a w:=by
  intro fuel t listed acc hsz hc hlt hall
  have hL:∀ j,listed.getD j false=decide (j<qn):=by
   intro j
   by_cases h:j<qn
   · rw[hall j h];simp[h]
   · cases hj:listed.getD j false with
     | true=>exact absurd (hlt j hj) h
     | false=>simp[h]
  have hcount:cntU (fun j=>listed.getD j false) ops.size=ops.size - qn:=by
   have e:∀ n,cntU (fun j=>decide (j<qn)) n=n - qn:=by
    intro n
    induction n with
    | zero=>simp[cntU]
    | succ n ih =>
      unfold cntU
      rw[ih]
      by_cases h:n<qn
      · simp[h];omega
      · simp[h];omega
   have:(fun j=>listed.getD j false)=fun j=>decide (j<qn):=funext hL
   rw[this]
   exact e _
  refine⟨List.range' (qn) (ops.size - qn),?_,fun φ a w hr=>?_⟩
  · rw[go_tail hops hd fuel t listed acc (qn) (Nat.le_refl _) (by omega) hsz hL]
    congr 2
    omega
  · rw[wpOps_tail hql,hops]
    refine htail φ a w ?_
    have e1:TT tr T0 (fun j=>listed.getD j false) (qn)=TT tr T0 always (qn):=TT_same _ fun j hj=>by rw[hL];simp[hj,always]
    have e2:SS tr S0 (fun j=>listed.getD j false) (qn)=SS tr S0 always (qn):=SS_same _ fun j hj=>by rw[hL];simp[hj,always]
    rw[←e1,←e2]
    exact hr
 intro fuel
 induction fuel with
 | zero =>
   intro t listed acc hsz hc hlt hcl
   exact full 0 t listed acc hsz hc hlt fun j hj=>cntU_zero hc j (by omega)
 | succ fuel ih =>
   intro t listed acc hsz hc hlt hcl
   obtain⟨i,hpick,hi,hLi,hdep⟩:=pick_ready (m:=m) hops hd.toDrawnB hsz (by omega) t
   have hil:i<l.length:=by omega
   have hol:l[i]? = some l[i]:=List.getElem?_eq_getElem hil
   by_cases hik:i<qn
   · have hset:=listed_set hsz hi
     have hat:∀ j,(listed.setIfInBounds i true).getD j false=plus (fun j=>listed.getD j false) i j:=fun j=>congrFun hset j
     obtain⟨suf,h1,h2⟩:=ih (t / ((List.range ops.size).filter (ready m ops listed)).length) (listed.setIfInBounds i true) (i::acc) (by simpa using hsz) (by
      rw[hset]
      have:=cntU_plus (L:=fun j=>listed.getD j false) hLi hi
      omega) (fun j hj=>by
      rw[hat] at hj
      simp only[plus,Bool.or_eq_true,beq_iff_eq] at hj
      rcases hj with rfl|hj
      · exact hik
      · exact hlt j hj) (fun {j o} hj ho d hdm=>by
      rw[hat] at hj ⊢
      simp only[plus,Bool.or_eq_true,beq_iff_eq] at hj ⊢
      right
      rcases hj with rfl|hj
      · exact hdep o ho d hdm
      · exact hcl hj ho d hdm)
     refine⟨i::suf,?_,fun φ a w hr=>?_⟩
     · rw[go_succ,hpick]
       simp only
       rw[h1]
       simp
     · have hoo:ops[i]? = some l[i]:=by rw[←Array.getElem?_toList,hops];exact hol
       unfold wpOps
       simp only[hoo]
       have:=step_quiet hst (c:=fun j=>listed.getD j false) (KC:=wpOps P ops Q suf) (Q:=Q) hops hd hcan hk hik hol hLi hlt hcl (hdep _ hol) hr (fun φ' a' w' hr'=>h2 φ' a' w' (by rw[hset];exact hr'))
       split
       · rename_i hw
         rw[if_pos hw] at this
         exact .inl this
       · rename_i hw
         rw[if_neg hw] at this
         exact this
   ·
    refine full (fuel+1) t listed acc hsz hc hlt fun j hj=>?_
    have hb:=hd.tail (i:=j) (j:=i) (by omega) hil (by omega)
    exact bits_in (l:=l) hd.deps (c:=fun j=>listed.getD j false) (fun {j o} h ho d hdm=>hcl h ho d hdm) i hol (hdep _ hol) hb
theorem Rel.drew (h:Rel P w0 φ σ a w):Rel P w0 φ σ a { w with drawn:=w.drawn+1 }:=by
 obtain⟨Fs,hm⟩:=h.mem
 have hO:Only [] w { w with drawn:=w.drawn+1 }:=⟨rfl,rfl,rfl,Nat.le_refl _,fun _ _ _=>rfl⟩
 have ht:Turn P w0 φ σ.slots w φ σ.slots { w with drawn:=w.drawn+1 }:=hm.turn (Fs':=Fs) hO (by simp) hm.flen hm.Flen hm.nd hm.ge (fun s x hx=>⟨x,hx,Later.refl x⟩) (fun _ _ h _=>h) (fun b hb=>.inr hb) (fun s x hd F h1 h2 h3=>.inl ⟨h1,h2,h3,by simp⟩)
 exact h.turn ht (x:=.any) (v:=undef) (.any _) none
theorem SS_none {tr:List Tr} {S0:List Slot}:∀ k,∃ n,SS tr S0 (fun _=>false) k=S0++List.replicate n .unborn
 | 0=>⟨0,by simp[SS]⟩
 | k+1=>by
   obtain⟨n,hn⟩:=SS_none (tr:=tr) (S0:=S0) k
   cases he:tr[k]? with
   | none=>exact⟨n,by rw[SS,he];exact hn⟩
   | some e=>exact⟨n+e.news.length,by rw[SS,he];simp only[hn,Bool.false_eq_true,if_false,List.append_assoc,List.replicate_append_replicate]⟩
theorem Rel.unborn (h:Rel P w0 φ σ a w) (n:Nat):∃ φ',Rel P w0 φ' ⟨σ.tmps,σ.slots++List.replicate n .unborn⟩ a w:=by
 obtain⟨Fs,hm⟩:=h.mem
 have hrep:∀ k:Nat,(List.replicate k ([]:List Nat)).flatten=[]:=fun k=>by induction k with|zero=>rfl|succ k ih=>simp[List.replicate_succ,ih]
 have ht:Turn P w0 φ σ.slots w (φ++List.replicate n (none,0)) (σ.slots++List.replicate n .unborn) w:=by
  refine hm.turn (Fs':=Fs++List.replicate n []) (Only.refl [] w) (by simp) (by simp[hm.flen]) (by simp[hm.Flen]) (by rw[List.flatten_append,hrep,List.append_nil];exact hm.nd) (by rw[List.flatten_append,hrep,List.append_nil];exact hm.ge)
   (fun s x hx=>⟨x,by rw[List.getElem?_append_left (List.getElem?_eq_some_iff.1 hx).1];exact hx,Later.refl x⟩) (fun s h hh _=>by rw[List.getElem?_append_left (List.getElem?_eq_some_iff.1 hh).1];exact hh) ?_ ?_
  · rintro b ⟨s,x,c,h1,h2,h3⟩
    by_cases hs:s<σ.slots.length
    · rw[List.getElem?_append_left hs] at h1
      rw[List.getElem?_append_left (by rw[hm.flen];exact hs)] at h3
      exact .inr ⟨s,x,c,h1,h2,h3⟩
    · rw[List.getElem?_append_right (by omega),List.getElem?_replicate] at h1
      split at h1
      · cases h1;exact h2.elim
      · cases h1
  · intro s x hd F h1 h2 h3
    by_cases hs:s<σ.slots.length
    · rw[List.getElem?_append_left hs] at h1
      rw[List.getElem?_append_left (by rw[hm.flen];exact hs)] at h2
      rw[List.getElem?_append_left (by rw[hm.Flen];exact hs)] at h3
      exact .inl ⟨h1,h2,h3,by simp⟩
    · rw[List.getElem?_append_right (by omega),List.getElem?_replicate] at h1
      rw[List.getElem?_append_right (by rw[hm.Flen];omega),List.getElem?_replicate] at h3
      split at h1
      · cases h1
        split at h3
        · cases h3;exact .inr rfl
        · cases h3
      · cases h1
 exact⟨_,h.turn ht (x:=.any) (v:=undef) (.any _) none⟩
theorem draw_lin (hst:w0.st=mo.st) (htc:mo.tc=false) {qn:Nat} {K:St→Prop} {Q:Exit→Act→World→Prop} (hok:drawAt ops qn=true) (h:AOps P mo ops K (ops.toList.take qn) σ) (hr:Rel P w0 φ σ a w)
 (htail:∀ {φ:Hdrs} {σ:St} {a:Act} {w:World},K σ→Rel P w0 φ σ a w→wpList P ops Q (ops.toList.drop qn) a w):∀ (m:Region.Mode) (t:Nat),wpOps P ops Q (Region.linearise m ops t) a w:=by
 have hd:=drawn_at hok
 obtain⟨T0,S0⟩:=σ
 have hql:(ops.toList.take qn).length=qn:=by rw[List.length_take];exact Nat.min_eq_left hd.le
 obtain⟨tr,h1,h2',h3⟩:=canon_of htc h qn (Nat.le_of_eq hql.symm) (fun i o hi ho=>hd.quiet hi (by rw[List.getElem?_take,if_pos hi] at ho;exact ho))
 have h2:Canon P mo ops ops.toList tr T0 S0:=⟨by rw[h1];exact hd.le,fun i o e ho he=>h2'.2 i o e (by rw[List.getElem?_take,if_pos (by rw[←h1];exact (List.getElem?_eq_some_iff.1 he).1)];exact ho) he⟩
 rw[List.drop_of_length_le (Nat.le_of_eq hql)] at h3
 intro m t
 have hgd:∀ j,(Array.replicate ops.size false).getD j false=false:=fun j=>by
  simp only[Array.getD_eq_getD_getElem?,Array.getElem?_replicate]
  split<;>rfl
 have hfun:(fun j=>(Array.replicate ops.size false).getD j false)=fun _=>false:=funext hgd
 obtain⟨suf,k1,k2⟩:=go_sound hst (m:=m) rfl hd h2 h1 (fun φ a w hr=>htail h3 hr) ops.size t (Array.replicate ops.size false) [] (by simp) (by
  rw[hfun]
  have:∀ n,cntU (fun _=>false) n=n:=fun n=>by induction n with|zero=>rfl|succ n ih=>unfold cntU;rw[ih];simp
  exact this _) (fun j hj=>by rw[hgd] at hj;cases hj) (fun {j o} hj _ _ _=>by rw[hgd] at hj;cases hj)
 have e:Region.linearise m ops t=suf:=by
  unfold Region.linearise
  rw[k1]
  simp
 rw[e]
 obtain⟨n,e2⟩:=SS_none (tr:=tr) (S0:=S0) (qn)
 obtain⟨φ',hr'⟩:=Rel.unborn hr n
 refine k2 φ' a _ ?_
 rw[hfun]
 have e1:TT tr T0 (fun _=>false) (qn)=T0:=TT_stop (i:=0) _ (Nat.zero_le _) fun _ _ _=>rfl
 rw[e1,e2]
 exact hr'
theorem draw_sound (hst:w0.st=mo.st) (htc:mo.tc=false) {id qn:Nat} {K:St→Prop} {Q:Exit→Act→World→Prop} (hok:drawAt ops qn=true) (h:AOps P mo ops K (ops.toList.take qn) σ) (hr:Rel P w0 φ σ a w)
 (htail:∀ {φ:Hdrs} {σ:St} {a:Act} {w:World},K σ→Rel P w0 φ σ a w→wpList P ops Q (ops.toList.drop qn) a w):(Code.region id ops true).wp P Q a w:=by
 refine wp_region_draw fun t=>?_
 unfold Region.schedule
 split
 · exact draw_lin hst htc hok h hr.drew htail _ _
 · exact draw_lin hst htc hok h hr.drew htail _ _
end
end Go.Proofs.Ytnjedabjbeipeaa
