/-
  Abstract walks: what code gives from an abstract state; and that the model's code gives just that. Plain lemmas, about no function of the program.
  Conditions: those typed in each theorem.
-/
import Derived.Test.YtnjedabjbeipeaaV2
namespace Go.Proofs.Ytnjedabjbeipeaa
open Go.RowKit Go.ChangeShapes Go.WideShapes
set_option linter.unusedSimpArgs false
set_option linter.unusedVariables false
set_option maxRecDepth 100000
set_option maxHeartbeats 10000000
def Sw (π:List Nat) (x:V):Option V :=
 match x with
 | .ref k=>(π[k]?).map .ref
 | .lit k n=>(π[k]?).map (.lit · n)
 | .ptr k o=>(π[k]?).map (.ptr · o)
 | .eptr k n i j=>(π[k]?).map (.eptr · n i j)
 | .nil t=>some (.nil t)
 | .d x=>some (.d x)
 | .cptr ds=>some (.cptr ds)
 | .any=>some .any
 | .nilp=>some .nilp
 | _=>none
def Mf (π:List Nat):List V→Option (List V)
 | []=>some []
 | x::xs=>match Sw π x,Mf π xs with
   | some y,some ys=>some (y::ys)
   | _,_=>none
def tT (π:List Nat) (x:V):Option V :=
 match x with
 | .agg xs=>(Mf π xs).map .agg
 | .fn f xs=>(Mf π xs).map (.fn f)
 | x=>Sw π x
def bW (π:List Nat):List V→Option (List V)
 | []=>some []
 | x::xs=>match tT π x,bW π xs with
   | some y,some ys=>some (y::ys)
   | _,_=>none
def aQ (π:List Nat) (x:V):Option V :=
 match x with
 | .tup xs=>(bW π xs).map .tup
 | x=>tT π x
def SY (π:List Nat) (x:Ag):Option Ag :=
 match x with
 | .arr t ow es=>some (.arr t ow es)
 | .var t xs=>(Mf π xs).map (.var t)
 | .blk k=>some (.blk k)
 | .dead=>some .dead
 | .unborn=>none
def Mh (π:List Nat):List Ag→Option (List Ag)
 | []=>some []
 | x::xs=>match SY π x,Mh π xs with
   | some y,some ys=>some (y::ys)
   | _,_=>none
def pN (st:Bool) (sl:List Ag) (π:List Nat) (x y:V):Prop :=
 y=.any∨Sw π y=some x∨∃ d,y=.d d∧st=false∧GT sl x=some d∧∀ s,x=.ref s→s∉π
def To (st:Bool) (sl:List Ag) (π:List Nat):List V→List V→Prop
 | [],[]=>True
 | x::xs,y::ys=>pN st sl π x y∧To st sl π xs ys
 | _,_=>False
def oE (st:Bool) (sl:List Ag) (π:List Nat) (x y:V):Prop :=
 match y with
 | .agg ys=>∃ xs,x=.agg xs∧To st sl π xs ys
 | .fn f ys=>∃ xs,x=.fn f xs∧To st sl π xs ys
 | y=>pN st sl π x y
def Hn (st:Bool) (sl:List Ag) (π:List Nat):List V→List V→Prop
 | [],[]=>True
 | x::xs,y::ys=>oE st sl π x y∧Hn st sl π xs ys
 | _,_=>False
def leT (st:Bool) (sl:List Ag) (π:List Nat) (x y:V):Prop :=
 match y with
 | .tup ys=>∃ xs,x=.tup xs∧Hn st sl π xs ys
 | y=>oE st sl π x y
def nW (st:Bool) (sl:List Ag) (π:List Nat) (x y:Ag):Prop :=
 match y with
 | .dead=>True
 | .unborn=>False
 | .arr t ow es=>x=.arr t ow es∨(ow=false∧st=false∧x=.arr t true es)
 | .var t ys=>∃ xs,x=.var t xs∧To st sl π xs ys
 | .blk k=>x=.blk k∨st=false∧∃ t n es,k=.que t n es∧x=.arr t true es∧es≠[]∧(∀ c∈es,c.length=n∧∀ d∈c,A4 d=true)
def Ed (st:Bool) (sl:List Ag) (π:List Nat):List Nat→List Ag→Prop
 | [],[]=>True
 | k::ks,y::ys=>(∃ x,sl[k]? = some x∧nW st sl π x y)∧Ed st sl π ks ys
 | _,_=>False
def N3:Nat→List Nat→Nat→Bool
 | 0,_,_=>true
 | n+1,k::ks,i=>k==i&&N3 n ks (i+1)
 | _+1,[],_=>false
structure Mode where
 pin:Nat
 st:Bool
 tc:Bool
 dr:Bool
def Le (m:Mode) (σ σ':St):Prop:=∃ π:List Nat,π.Nodup∧N3 m.pin π 0=true∧Ed m.st σ.slots π π σ'.slots∧Hn m.st σ.slots π σ.tmps σ'.tmps
def AZ:List Ag→List Ag→Prop
 | [],_=>True
 | x::xs,y::ys=>Later x y∧AZ xs ys
 | _::_,[]=>False
def BS (P:Program) (f:FuncId) (xs:List V) (sl:List Ag) (r:V) (sl':List Ag):Prop :=
 C5 P f=true∧AZ sl sl'∧∀ (w:World) (φ:B6) (Fs:List (List Nat)) (R:Nat→Prop) (hR:false=false→∀ b,(b∈Fs.flatten∨w.heap.size≤b)→R b) (vs:List Value),
  BM P ⟨w,top φ sl,(·∈Fs.flatten),φ,R,false,hR⟩ φ sl w Fs→vs.length=xs.length→(∀ (i:Nat) (x:V) (v:Value),xs[i]? = some x→vs[i]? = some v→VR w (good R φ sl w) φ sl x v) →
  Calls P f vs.toArray w fun e w'=>∃ v φ' Fs',e=.returned v∧BM P ⟨w,top φ sl,(·∈Fs.flatten),φ,R,false,hR⟩ φ' sl' w' Fs'∧VR w' (good R φ' sl' w') φ' sl' r v
def Kf (sl:List Ag) (ks:List Nat) (x:V):V :=
 match x with
 | .ref s=>if s∈ks then match sl[s]? with
   | some (.arr t _ es)=>.d (.sl t es)
   | _=>.ref s
   else .ref s
 | x=>x
def K0 (sl:List Ag) (ks:List Nat) (x:V):V :=
 match x with
 | .agg xs=>.agg (xs.map (Kf sl ks))
 | .fn f xs=>.fn f (xs.map (Kf sl ks))
 | x=>Kf sl ks x
def I7 (sl:List Ag):List Nat→Prop
 | []=>True
 | k::ks=>(∃ t ow es,sl[k]? = some (.arr t ow es))∧I7 sl ks
def BJ {α:Type}:List α→List Nat→List α→List α
 | sl,k::ks,y::ys=>BJ (sl.set k y) ks ys
 | sl,_,_=>sl
def fY (sl:List Ag) (π:List Nat) (r:V) (slc':List Ag) (K:V→List Ag→Prop):Prop :=
 ∃ r' ys,aQ (π++List.range' sl.length (slc'.length - π.length)) r=some r'∧Mh (π++List.range' sl.length (slc'.length - π.length)) slc'=some ys∧K r' (BJ sl π (ys.take π.length)++ys.drop π.length)
def Bi:List Ag→Prop
 | []=>True
 | x::xs=>x.live∧Bi xs
def YQ (P:Program) (m:Mode) (sl:List Ag) (f:FuncId) (xs:List V) (K:V→List Ag→Prop):Prop :=
 m.tc=true∧m.st=false∧∃ (ks π:List Nat) (args:List V) (slc:List Ag) (r:V) (slc':List Ag),
  BS P f args slc r slc'∧Bi slc∧ks.Nodup∧I7 sl ks∧π.Nodup∧Ed true (kill ks sl) π π slc∧Hn true (kill ks sl) π (xs.map (K0 sl ks)) args∧fY (kill ks sl) π r slc' K
def JW (sl:List Ag) (v:V):Option (X×List Nat) :=
 match v with
 | .agg vs=>(CT sl vs).map fun p=>(.agg p.1,p.2)
 | v=>match CT sl [v] with
   | some ([x],ks)=>some (.d x,ks)
   | _=>none
def Ni (sl:List Ag):List V→Option (List X×List Nat)
 | []=>some ([],[])
 | v::vs=>match JW sl v,Ni sl vs with
   | some (x,k),some (xs,ks)=>if k.all (fun q=>!ks.contains q)=true then some (x::xs,k++ks) else none
   | _,_=>none
def DP.Apart (w0:DP):Prop:=(∀ b,w0.R b→b<w0.w.heap.size∧¬ w0.B b)∧∀ b,w0.B b→w0.T b
theorem DP.Apart.no {w0:DP} (h:w0.Apart) {b:Nat} (hb:w0.B b∨w0.w.heap.size≤b) (hr:w0.R b):False:=by
 obtain⟨h1,h2⟩:=h.1 b hr;rcases hb with hb|hb
 · exact h2 hb
 · omega
theorem DP.Apart.old {w0:DP} (h:w0.Apart) {b:Nat} (hb:w0.B b∨w0.w.heap.size≤b):w0.T b∨w0.w.heap.size≤b:=hb.imp_left (h.2 b)
def cL (P:Program) (m:Mode) (sl:List Ag) (f:FuncId) (xs:List V) (K:V→List Ag→Prop):Prop :=
 m.tc=true∧m.st=true∧False
def Pu (P:Program) (t:TypeId) (sl:List Ag) (s:Nat) (lo hi:Option Operand) (l h:Option Nat):Option (V×List Ag) :=
 match Bt P t,sl[s]?,l,h with
 | some e,some (.arr t' ow es),some l,some h =>
   if (P.underlying e).isSome=true∧l≤h∧h≤es.length∧(es.all fun c=>c.length==P.cellsOf e)=true then
    match lo with
    | none=>some (.ref sl.length,kill [s] sl++[.arr t' ow (es.take h)])
    | some _=>some (.d (.sl t' ((es.take h).drop l)),kill [s] sl)
   else none
 | some e,some (.blk (.que t' n es)),some l,some h=>if (P.underlying e).isSome=true∧n=P.cellsOf e∧l≤h∧h=es.length then some (.ref sl.length,kill [s] sl++[.blk (.que t' n (es.drop l))]) else none
 | _,_,_,_=>none
def nY (P:Program) (m:Mode) (sl:List Ag) (t:TypeId) (x y:V) (K:V→List Ag→Prop):Prop:=IV P m.st sl t x y K∨(m.tc=true∧m.st=false∧(xD P sl t x y K∨vV P sl t x y K))
def VT (P:Program) (m:Mode) (o:Oper) (K:St→Prop) (σ:St):Prop :=
 match o.op with
 | .store t p y=>∃ sl',H8 P m.st t σ.slots (σ.eval p) (evalT P t σ y)=some sl'∧K (St.put ⟨σ.tmps,sl'⟩ o.dst .any)
 | .mapUpdate t x k y=>m.tc=true∧∃ s es ky v,IK σ.slots (σ.eval x)=some (s,t,es)∧Oi (σ.eval k)=some ky∧Zf (σ.eval y)=some v∧Fi P t ky∧K (St.put ⟨σ.tmps,σ.slots.set s (.blk (.mp t (GJ es ky v)))⟩ o.dst .any)
 | .call c=>match c.callee with
   | .builtin .append=>match c.args.toList,c.argTypes.toList with
     | [x,y],[t,t']=>t'=t∧nY P m σ.slots t (evalT P t σ x) (evalT P t σ y) fun z sl'=>K (St.put ⟨σ.tmps,sl'⟩ o.dst z)
     | _,_=>False
   | .value v=>(∃ x news,AQ P m.st σ.slots.length σ o x news∧K (St.put ⟨σ.tmps,σ.slots++news⟩ o.dst x)) ∨
      (match σ.eval v with
        | .fn f caps=>YQ P m σ.slots f (c.args.toList.map σ.eval++caps) (fun z sl'=>K (St.put ⟨σ.tmps,sl'⟩ o.dst z))∨cL P m σ.slots f (c.args.toList.map σ.eval++caps) fun z sl'=>K (St.put ⟨σ.tmps,sl'⟩ o.dst z)
        | _=>False)
   | _=>∃ x news,AQ P m.st σ.slots.length σ o x news∧K (St.put ⟨σ.tmps,σ.slots++news⟩ o.dst x)
 | .slice t x lo hi none=>match σ.eval x with
   | .ref s=>m.tc=true∧m.st=false∧∃ n z sl',Jx σ.slots (.ref s)=some n∧Pu P t σ.slots s lo hi (Dh σ lo 0) (Dh σ hi n)=some (z,sl')∧K (St.put ⟨σ.tmps,sl'⟩ o.dst z)
   | _=>∃ x news,AQ P m.st σ.slots.length σ o x news∧K (St.put ⟨σ.tmps,σ.slots++news⟩ o.dst x)
 | .buildSlice t len ps=>match JP P (m.tc&&!m.st) σ.slots t len (ps.toList.map fun p=>(p.1,σ.eval p.2)) with
   | some (y,ks)=>K (St.put ⟨σ.tmps,kill ks σ.slots++[y]⟩ o.dst (.ref σ.slots.length))
   | none=>∃ x news,AQ P m.st σ.slots.length σ o x news∧K (St.put ⟨σ.tmps,σ.slots++news⟩ o.dst x)
 | _=>∃ x news,AQ P m.st σ.slots.length σ o x news∧K (St.put ⟨σ.tmps,σ.slots++news⟩ o.dst x)
def Bb (P:Program) (m:Mode) (ops:Array Oper) (K:St→Prop):List Oper→St→Prop
 | [],σ=>K σ
 | o::rest,σ=>match o.guard with
   | none=>VT P m o (Bb P m ops K rest) σ
   | some (j,b)=>match (ops[j]?).bind (·.dst) with
     | none=>False
     | some d=>match σ.get d with
       | .d (.bool t)=>(t=b→VT P m o (Bb P m ops K rest) (σ.put (some d) (.d (.bool b))))∧(t=!b→Bb P m ops K rest ((σ.put (some d) (.d (.bool (!b)))).put o.dst (.tup [])))
       | .tup []=>Bb P m ops K rest (σ.put o.dst (.tup []))
       | _=>False
def HC (K:St→Prop) (Q:Exit→St→Prop):Exit→St→Prop
 | .normal,σ=>K σ
 | e,σ=>Q e σ
def Hw (id:Nat) (Q:Exit→St→Prop):Exit→St→Prop
 | .exit id',σ=>if id'=id then Q .normal σ else Q (.exit id') σ
 | e,σ=>Q e σ
def DG (o:Oper):Bool :=
 match o.op with
 | .store ..=>false
 | .mapUpdate ..=>false
 | .call c=>match c.callee with
   | .builtin .append=>false
   | _=>true
 | _=>true
def HG (o:Oper):List Nat:=o.op.operands.toList.filterMap fun | .tmp t=>some t|_=>none
def EH (e:Edge):Bool :=
 match e.ground with
 | .textOnly _ | .gcOnly _=>false
 | _=>true
def Ls (e:Edge):Bool :=
 match e.ground with
 | .textOnly _=>true
 | _=>false
def CE (o:Oper):List Nat:=(o.after.toList.filter EH).map (·.on)
def Y2 (l:List Oper):Nat→Nat→Nat→Bool
 | 0,_,_=>false
 | n+1,j,i=>match l[i]? with
   | some q=>q.after.toList.all fun e=>Ls e||decide (e.on<j)||Y2 l n j e.on
   | none=>false
def XS (l:List Oper) (j:Nat) (e:Edge):Bool:=decide (e.on<j)||(!Ls e&&Y2 l 4 j e.on)
def M4 (bm:List Nat) (o:Oper):Nat:=(CE o).foldl (fun s d=>s ||| 2 ^ d ||| bm.getD d 0) 0
def Br (l:List Oper):List Nat:=l.foldl (fun bm o=>bm++[M4 bm o]) []
def clash (oi oj:Oper):Bool :=
 match oi.dst,oj.dst with
 | some a,some b=>a==b||(HG oj).contains a||(HG oi).contains b
 | some a,none=>(HG oj).contains a
 | none,some b=>(HG oi).contains b
 | none,none=>false
def Ko (l:List Oper):Bool:=l.zipIdx.all fun (o,j)=>o.after.toList.all fun e=>if EH e then decide (e.on<j) else XS l j e
def Kn (l:List Oper):Bool:=l.zipIdx.all fun (oj,j)=>(l.take j).zipIdx.all fun (oi,i)=>!clash oi oj||(CE oj).contains i
def Kx (l:List Oper):Bool:=l.zipIdx.all fun (o,j) =>
 match o.guard with
 | none=>true
 | some (g,_)=>decide (g<j)&&(CE o).contains g&&(l.zipIdx.all fun (o2,i)=>match l[g]? with
   | some og=>decide (i=g)||og.dst.isNone||!(o2.dst==og.dst)
   | none=>false)
def Gl (l:List Oper):Nat:=(l.takeWhile DG).length
def dR (l:List Oper):Bool:=(Br l).zipIdx.all fun (b,j)=>decide (j<Gl l)||(List.range j).all fun i=>b.testBit i
def TB (ops:Array Oper):Bool:=Ko ops.toList&&Kn ops.toList&&Kx ops.toList&&dR ops.toList
def Ka (ops:Array Oper) (q:Nat):Bool:=Ko ops.toList&&Kn ops.toList&&Kx ops.toList&&((Br ops.toList).zipIdx.all fun (b,j)=>decide (j<q)||(List.range j).all fun i=>b.testBit i)&&decide (q≤ops.toList.length)&&(ops.toList.take q).all DG
def Mode.still (m:Mode):Mode:={ m with tc:=false }
def AE (x:V):List Nat :=
 match x with
 | .ref s | .lit s _ | .ptr s _ | .eptr s _ _ _=>[s]
 | _=>[]
def DT (x:V):List Nat :=
 match x with
 | .agg xs=>xs.flatMap AE
 | x=>AE x
def DH (x:V):List Nat :=
 match x with
 | .fn _ xs=>xs.flatMap DT
 | x=>DT x
def HK (ts:List (Nat×List Nat)) (i:Nat):Bool:=ts.any fun p=>p.1==i
def NO (ts:List (Nat×List Nat)) (i:Nat):Bool:=ts.any fun p=>p.2.contains i
def KW (ts:List (Nat×List Nat)):Nat→List Oper→List (Nat×Oper)
 | _,[]=>[]
 | i,o::l=>if HK ts i=true then KW ts (i+1) l else (i,o)::KW ts (i+1) l
def Mi (l:List Oper):List (Nat×List Nat)→List (Oper×List Nat)
 | []=>[]
 | (t,ns)::ts=>match l[t]? with
   | some o=>(o,ns)::Mi l ts
   | none=>[]
def Gh (o:Oper) (σ:St):List Nat :=
 match o.op with
 | .move _=>[]
 | op=>op.operands.toList.flatMap fun x=>DH (σ.eval x)
def SD (sl sl':List Ag):List Nat→Prop
 | []=>True
 | s::ss=>sl'[s]? = sl[s]?∧SD sl sl' ss
def EY (sl sl':List Ag) (ns:List Nat):List (Nat×List Nat)→Prop
 | []=>True
 | (i,ss)::N=>(if ns.contains i=true then SD sl sl' ss else True)∧EY sl sl' ns N
def KX (P:Program) (m:Mode) (ops:Array Oper) (ts:List (Nat×List Nat)) (K:List (Nat×List Nat)→St→Prop):List (Nat×Oper)→List (Nat×List Nat)→St→Prop
 | [],N,σ=>K N σ
 | (i,o)::rest,N,σ=>Bb P m ops (KX P m ops ts K rest (if NO ts i=true then (i,Gh o σ)::N else N)) [o] σ
def Bg (sl:List Ag) (xs:List V) (k:Nat):Prop:=k∈xs.flatMap DH∨∃ s∈xs.flatMap DH,∃ (t:TypeId) (cells:List V),sl[s]? = some (.var t cells)∧k∈cells.flatMap AE
def iS (v:Operand):Bool :=
 match v with
 | .func _=>true
 | .tmp _=>true
 | _=>false
def HZ (o:Oper):Bool :=
 match o.op with
 | .call c=>match c.callee with
   | .value v=>iS v&&o.guard.isNone
   | _=>false
 | _=>false
def Rv (P:Program) (m:Mode) (o:Oper) (σ:St) (z:V) (r:List Ag):Prop :=
 m.st=false∧∃ (v:Operand) (f:FuncId) (caps:List V) (c:Call),o.op=.call c∧c.callee=.value v∧σ.eval v=.fn f caps ∧
  ∃ (ks π:List Nat) (args:List V) (slc:List Ag) (q:V) (slc':List Ag),BS P f args slc q slc'∧Bi slc∧ks.Nodup∧I7 σ.slots ks∧π.Nodup∧Ed true (kill ks σ.slots) π π slc ∧
    Hn true (kill ks σ.slots) π ((c.args.toList.map σ.eval++caps).map (K0 σ.slots ks)) args∧(∀ k∈ks++π,Bg σ.slots (.fn f caps::c.args.toList.map σ.eval) k)∧fY (kill ks σ.slots) π q slc' fun z' r'=>z'=z∧r'=r
def Gk (P:Program) (m:Mode) (ops:Array Oper) (N:List (Nat×List Nat)) (sl0:List Ag) (K:St→Prop):List (Oper×List Nat)→St→Prop
 | [],σ=>K σ
 | (o,ns)::rest,σ=>if HZ o=true then ∃ z r,Rv P m o σ z r∧EY sl0 r ns N∧Gk P m ops N sl0 K rest (St.put ⟨σ.tmps,r⟩ o.dst z)
   else Bb P m ops (fun σ'=>EY sl0 σ'.slots ns N∧Gk P m ops N sl0 K rest σ') [o] σ
def UW (bm:List Nat):List (Nat×List Nat)→Bool
 | []=>true
 | p::ts=>(ts.all fun q=>decide (p.1<q.1)&&(bm.getD q.1 0).testBit p.1)&&UW bm ts
def Lw (ops:Array Oper) (ts:List (Nat×List Nat)):Bool:=Ko ops.toList&&Kn ops.toList&&Kx ops.toList&&(ops.toList.zipIdx.all fun (o,i)=>HK ts i||(DG o&&(CE o).all fun d=>!HK ts d))&&(ts.all fun p=>decide (p.1<ops.toList.length)) &&
 UW (Br ops.toList) ts&&(ts.all fun p=>(List.range ops.toList.length).all fun i=>HK ts i||((Br ops.toList).getD p.1 0).testBit i||p.2.contains i)
def OP (bm:List Nat) (ts:List (Nat×List Nat)) (p:Nat×List Nat):Bool:=ts.all fun q=>!((bm.getD p.1 0).testBit q.1)
def RQ (P:Program) (m:Mode) (ops:Array Oper) (N:List (Nat×List Nat)) (sl0:List Ag) (K:St→Prop):Nat→List (Nat×List Nat)→St→Prop
 | 0,_,σ=>K σ
 | n+1,ts,σ=>∀ p∈ts,OP (Br ops.toList) ts p=true→Gk P m ops N sl0 (RQ P m ops N sl0 K n (ts.erase p)) (Mi ops.toList [p]) σ
def Su (ops:Array Oper) (ts:List (Nat×List Nat)):Bool:=Ko ops.toList&&Kn ops.toList&&Kx ops.toList&&(ops.toList.zipIdx.all fun (o,i)=>HK ts i||(DG o&&(CE o).all fun d=>!HK ts d))&&(ts.all fun p=>decide (p.1<ops.toList.length)) &&
 decide (ts.map (·.1)).Nodup&&(ts.all fun p=>(List.range ops.toList.length).all fun i=>HK ts i||((Br ops.toList).getD p.1 0).testBit i||p.2.contains i)
def nV (P:Program) (m:Mode) (ops:Array Oper) (Q:Exit→St→Prop) (σ:St):Prop :=
 ∃ ts,Lw ops ts=true∧KX P m.still ops ts (fun N σ'=>Gk P m.still ops N σ'.slots (Q .normal) (Mi ops.toList ts) σ') (KW ts 0 ops.toList) [] σ
def oN (P:Program) (m:Mode) (ops:Array Oper) (Q:Exit→St→Prop) (σ:St):Prop :=
 ∃ ts,Su ops ts=true∧KX P m.still ops ts (fun N σ'=>RQ P m.still ops N σ'.slots (Q .normal) ts.length ts σ') (KW ts 0 ops.toList) [] σ
def Qr (P:Program) (m:Mode) (ops:Array Oper) (Q:Exit→St→Prop) (σ:St):Prop :=
 (∃ q,Ka ops q=true∧Bb P m.still ops (Bb P m ops (Q .normal) (ops.toList.drop q)) (ops.toList.take q) σ)∨nV P m ops Q σ∨oN P m ops Q σ
def Nb (q:Nat) (e:Edge):Edge:=⟨e.on - q,e.ground⟩
def mX (q:Nat) (af:Array Edge):Array Edge:=(af.filter fun e=>decide (q≤e.on)).map (Nb q)
def Tx (q:Nat) (o:Oper):Oper:=⟨o.dst,o.op,o.type,o.pos,mX q o.after,o.guard.map fun p=>(p.1 - q,p.2)⟩
def Gm (q:Nat) (ops:Array Oper):Array Oper:=ops.extract 0 q
def FQ (q:Nat) (ops:Array Oper):Array Oper:=((ops.toList.drop q).map (Tx q)).toArray
def V3 (ops:Array Oper) (q:Nat):Bool:=Ko ops.toList&&Kn ops.toList&&Kx ops.toList&&decide (q≤ops.size) &&
 ((ops.toList.take q).all fun o=>o.after.toList.all fun e=>decide (e.on<q)) &&
 ((Br ops.toList).zipIdx.all fun (b,j)=>decide (j<q)||(List.range q).all fun i=>b.testBit i) &&
 ((ops.toList.drop q).all fun o=>match o.guard with|none=>true|some (j,_)=>decide (q≤j))
def MI (m:Region.Mode) (ops:Array Oper) (listed:Array Bool) (i:Nat):Bool :=
 !listed.getD i true&&((ops[i]?).map (·.after.all fun e=>!Region.binds m e||listed.getD e.on false)).getD false
def M1 (m:Region.Mode) (ops:Array Oper):Nat→Array Bool→List (List Nat)
 | 0,_=>[[]]
 | f+1,listed=>if ((List.range ops.size).filter (MI m ops listed)).isEmpty=true then [[]] else ((List.range ops.size).filter (MI m ops listed)).flatMap fun i=>(M1 m ops f (listed.setIfInBounds i true)).map (i::·)
def bumpOrders:List (List Nat):=[[0,1,2,3,4],[0,2,1,3,4],[0,2,3,1,4],[2,0,1,3,4],[2,0,3,1,4],[2,3,0,1,4]]
def WA (ops:Array Oper):Bool:=[Region.Mode.text,.gc,.any].all fun m=>(M1 m ops ops.size (Array.replicate ops.size false)).all fun l=>bumpOrders.contains l
def K6 (o:Oper):Option Nat×Op×Option (Nat×Bool):=(o.dst,o.op,o.guard)
def forget (T:List V) (d0 d1 d2 d3:Nat):List V:=(((T.set d0 .any).set d1 .any).set d2 .any).set d3 .any
def oK (P:Program) (m:Mode) (ops:Array Oper) (Q:Exit→St→Prop) (σ:St):Prop :=
 m.tc=true∧WA ops=true∧∃ (d0 d1 d2 d3:Nat) (t ty:TypeId) (x y:Operand) (neg:Bool) (s0:TypeId) (s:Nat) (es:List (Ky×Vl)) (ky:Ky) (v:Int),
  ops.toList.map K6=[(some d0,.lookup t x y false,none),(some d1,.binOp (if neg=true then .sub else .add) ty (.tmp d0) (.const (.int .i64 1)) s0,none),(some d2,.mapEntry t x y,none),(some d3,.extract (.tmp d2) 1,none),(none,.entryStore t x (.tmp d3) (.tmp d1),none)] ∧
  [d0,d1,d2,d3].Nodup∧(∀ d∈[d0,d1,d2,d3],d<σ.tmps.length∧x≠.tmp d∧y≠.tmp d)∧IK σ.slots (σ.eval x)=some (s,t,es)∧Oi (σ.eval y)=some ky∧JI P t=some (0,none)∧Fi P t ky∧(E6 es ky).getD (0,none)=(v,none) ∧
  Q .normal ⟨forget σ.tmps d0 d1 d2 d3,σ.slots.set s (.blk (.mp t (GJ es ky (IntKind.i64.wrap (if neg=true then v - 1 else v+1),none))))⟩
def Jc:List Nat→List Nat→Bool
 | done,[]=>done.contains 7
 | done,i::l=>!done.contains 7&&(match i with
    | 0=>true
    | 1=>true
    | 2=>done.contains 1
    | 3=>done.contains 0&&done.contains 2
    | 4=>true
    | 5=>true
    | 6=>done.contains 4&&done.contains 5
    | 7=>done.contains 3&&done.contains 6
    | _=>false)&&Jc (i::done) l
def SV (ops:Array Oper):Bool:=[Region.Mode.text,.gc,.any].all fun m=>(M1 m ops ops.size (Array.replicate ops.size false)).all fun l=>Jc [] l
def forgetL (T:List V) (ds:List Nat):List V:=ds.foldl (fun T d=>T.set d .any) T
def Ff (es:List (List D)) (at':Nat):List (List D):=es.take (at'+1)++(es.drop at').take (es.length - at' - 1)
def iJ (P:Program) (m:Mode) (ops:Array Oper) (Q:Exit→St→Prop) (σ:St):Prop :=
 m.tc=true∧SV ops=true∧∃ (dA dB dC dD dE dF dG dH:Nat) (t ti tj:TypeId) (x y:Operand) (k:Nat) (e:TypeId) (es:List (List D)) (at':Nat),
  ops.toList.map K6=[(some dA,.move x,none),(some dB,.move y,none),(some dC,.binOp .add ti (.tmp dB) (.const (.int .i64 1)) tj,none),(some dD,.slice t (.tmp dA) (some (.tmp dC)) none none,none),(some dE,.move x,none),(some dF,.move y,none),
   (some dG,.slice t (.tmp dE) (some (.tmp dF)) none none,none),(some dH,.call { callee:=.builtin .copy,args:=#[.tmp dD,.tmp dG],argTypes:=#[t,t] },none)] ∧
  [dA,dB,dC,dD,dE,dF,dG,dH].Nodup∧(∀ d∈[dA,dB,dC,dD,dE,dF,dG,dH],d<σ.tmps.length∧x≠.tmp d∧y≠.tmp d)∧σ.eval x=.ref k∧σ.slots[k]? = some (.arr e false es)∧Bt P t=some e∧(P.underlying e).isSome=true∧P.cellsOf e=1∧(P.info? e).map (·.size)=some 1 ∧
  σ.eval y=.d (.int .i64 at')∧at'<es.length ∧
  Q .normal ⟨forgetL σ.tmps [dA,dB,dC,dD,dE,dF,dG,dH],σ.slots.set k (.arr e false (Ff es at'))⟩
def Rz (P:Program) (m:Mode) (ops:Array Oper) (Q:Exit→St→Prop) (σ:St):Prop :=
 Qr P m ops Q σ∨(∃ q,V3 ops q=true∧Qr P m (Gm q ops) (fun e σ1=>e=.normal∧Qr P m (FQ q ops) Q σ1) σ)∨(∃ q,V3 ops q=true∧Qr P m (Gm q ops) (fun e σ1=>e=.normal∧oK P m (FQ q ops) Q σ1) σ)∨iJ P m ops Q σ
def Ib (P:Program) (m:Mode):Code→(Exit→St→Prop)→St→Prop
 | .skip,Q,σ=>Q .normal σ
 | .region _ ops draw,Q,σ=>if draw=true then (if m.dr=true then Rz P m ops Q σ else TB ops=true∧Bb P m.still ops (Q .normal) ops.toList σ) else Bb P m ops (Q .normal) ops.toList σ
 | .seq a b,Q,σ=>Ib P m a (HC (Ib P m b Q) Q) σ
 | .cond c x y,Q,σ=>match σ.eval c with
   | .d (.bool t)=>(t=true→Ib P m x Q σ)∧(t=false→Ib P m y Q σ)
   | _=>False
 | .block id c,Q,σ=>Ib P m c (Hw id Q) σ
 | .loop c,Q,σ=>∃ (ι:Type) (I:ι→Prop) (S:ι→St) (μ:ι→Nat) (i0:ι),I i0∧Le m σ (S i0)∧∀ i,I i→Ib P m c (HC (fun σ'=>∃ j,I j∧μ j<μ i∧Le m σ' (S j)) Q) (S i)
 | .exit id,Q,σ=>Q (.exit id) σ
 | .ret,Q,σ=>Q .ret σ
 | _,_,_=>False
section
variable {P:Program} {w0:DP} {st:Bool} {w w':World} {φ φ':B6} {σ σ':St} {a:Act} {sl sl':List Ag} {Fs Fs':List (List Nat)}
def H6 (sl sl':List Ag) (ns:List Nat):Prop:=∀ s∈ns,∀ y,sl[s]? = some y→sl'[s]? = some y
theorem Rc {x:V} {n:Nat} (h:Jx sl x=some n) (hk:H6 sl sl' (AE x)):Jx sl' x=some n:=by
 unfold Jx at h ⊢;split at h
 · exact h
 · exact h
 · split at h
   · rename_i hs;rw[hk _ (by simp[AE]) _ hs];exact h
   · cases h
 · split at h
   · rename_i hs;rw[hk _ (by simp[AE]) _ hs];exact h
   · rename_i hs;rw[hk _ (by simp[AE]) _ hs];exact h
   · cases h
 · cases h
theorem VX {t:TypeId} {x y:V} {i:Int} (h:JK P t sl x i=some y) (hk:H6 sl sl' (AE x)):JK P t sl' x i=some y:=by
 unfold JK at h ⊢;split at h
 · cases h
 split at h
 · cases h
 rename_i hi;rw[if_neg hi];split at h
 · exact h
 · split at h
   · rename_i hs;rw[hk _ (by simp[AE]) _ hs];exact h
   · rename_i hs;rw[hk _ (by simp[AE]) _ hs];exact h
   · cases h
 · split at h
   · rename_i hs;rw[hk _ (by simp[AE]) _ hs];exact h
   · cases h
 · cases h
theorem XQ {t:TypeId} {x y:V} (h:HX P st t sl x=some y) (hk:H6 sl sl' (AE x)):HX P st t sl' x=some y:=by
 unfold HX at h ⊢;split at h
 · cases h
 rename_i hi;rw[if_neg hi];split at h
 · exact h
 · split at h
   · rename_i hs;rw[hk _ (by simp[AE]) _ hs];exact h
   · cases h
 · split at h
   · rename_i hs;rw[hk _ (by simp[AE]) _ hs];exact h
   · rename_i hs;rw[hk _ (by simp[AE]) _ hs];exact h
   · cases h
 · cases h
theorem N9 {t:TypeId} {x y:V} {f:Nat} (h:CK P t sl x f=some y) (hk:H6 sl sl' (AE x)):CK P t sl' x f=some y:=by
 unfold CK at h ⊢;split at h
 · cases h
 split at h
 · cases h
 rename_i hi;rw[if_neg hi];split at h
 · exact h
 · split at h
   · rename_i hs;rw[hk _ (by simp[AE]) _ hs];exact h
   · cases h
 · split at h
   · rename_i hs;rw[hk _ (by simp[AE]) _ hs];exact h
   · cases h
 · cases h
theorem P8 {x:V} {d:D} (h:GT sl x=some d) (hk:H6 sl sl' (AE x)):GT sl' x=some d:=by
 unfold GT at h ⊢;split at h
 · exact h
 · exact h
 · split at h
   · rename_i hs;rw[hk _ (by simp[AE]) _ hs];exact h
   · cases h
 · cases h
theorem Nt:∀ {xs:List V} {ds:List D},IU sl xs=some ds→H6 sl sl' (xs.flatMap AE)→IU sl' xs=some ds
 | [],ds,h,_=>h
 | x::xs,ds,h,hk=>by
   unfold IU at h ⊢;split at h
   · rename_i d ds' h1 h2;rw[P8 h1 (fun s hs=>hk s (by simp[hs])),Nt h2 (fun s hs=>hk s (by simp only[List.flatMap_cons,ACE];exact .inr hs))];exact h
   · cases h
theorem bH {x:V} {r:X} (h:Q5 sl x=some r) (hk:H6 sl sl' (DT x)):Q5 sl' x=some r:=by
 unfold Q5 at h ⊢;split at h
 · rw[Option.map_eq_some_iff] at h;obtain⟨ds,h1,rfl⟩:=h;rw[Nt h1 hk];rfl
 · rename_i hna;rw[Option.map_eq_some_iff] at h;obtain⟨d,h1,rfl⟩:=h
   have:DT x=AE x:=by
    unfold DT;split
    · exact absurd rfl (hna _)
    · rfl
   rw[this] at hk;rw[P8 h1 hk];rfl
theorem LB:∀ {xs:List V} {rs:List X},DU sl xs=some rs→H6 sl sl' (xs.flatMap DT)→DU sl' xs=some rs
 | [],ds,h,_=>h
 | x::xs,ds,h,hk=>by
   unfold DU at h ⊢;split at h
   · rename_i d ds' h1 h2;rw[bH h1 (fun s hs=>hk s (by simp only[List.flatMap_cons,ACE];exact .inl hs)),LB h2 (fun s hs=>hk s (by simp only[List.flatMap_cons,ACE];exact .inr hs))];exact h
   · cases h
structure Ou (o:Oper) (σ σ':St):Prop where
 ev:∀ x∈o.op.operands.toList,σ'.eval x=σ.eval x
 kn:∀ x∈o.op.operands.toList,H6 σ.slots σ'.slots (DH (σ.eval x))
theorem FX (x:V):∀ s∈AE x,s∈DH x:=by
 intro s hs
 cases x<;>simp_all [AE,DT,DH]
theorem Qa (x:V):∀ s∈DT x,s∈DH x:=by
 intro s hs
 cases x<;>simp_all [AE,DT,DH]
theorem NT {x:Option Operand} {d:Nat} (h:∀ y,x=some y→σ'.eval y=σ.eval y):Dh σ' x d=Dh σ x d:=by
 cases x with
 | none=>rfl
 | some y=>simp only[Dh,h y rfl]
theorem XP {t:TypeId} {op:BinOp} {x y z:V} (h:GS P sl t op x y=some z) (hk:H6 sl sl' (AE x)):GS P sl' t op x y=some z:=by
 unfold GS at h ⊢;split at h
 · have e:∀ b,QD sl x .nilp=some b→QD sl' x .nilp=some b:=fun b hb=>by
    unfold QD at hb ⊢;split at hb
    · exact hb
    · rename_i s _ h2;split at hb
      · rename_i hs;rw[hk _ (by simp[AE]) _ hs];exact hb
      · cases hb
    · cases hb
   split at h
   · rename_i ht hb;rw[ht,e _ hb];exact h
   · rename_i ht hb;rw[ht,e _ hb];exact h
   · cases h
 · exact h
theorem Z0 {x:V} {s:Nat} {t:TypeId} {es:List (Ky×Vl)} (h:IK sl x=some (s,t,es)) (hk:H6 sl sl' (AE x)):IK sl' x=some (s,t,es):=by
 unfold IK at h ⊢;split at h
 · split at h
   · rename_i hs;rw[hk _ (by simp[AE]) _ hs];exact h
   · cases h
 · cases h
theorem Wt {o:Oper} {y:V} (h:Hv P st σ o=some y) (hs:Ou o σ σ'):Hv P st σ' o=some y:=by
 have hev:=hs.ev;have hkn:∀ x∈o.op.operands.toList,H6 σ.slots σ'.slots (AE (σ.eval x)):=fun x hx s hn=>hs.kn x hx s (FX _ s hn);unfold Hv at h ⊢;split at h
 · rename_i x ho;rw[ho] at hev
   have e:evalT P o.type σ' x=evalT P o.type σ x:=by
    unfold evalT;split<;>first | rfl|exact hev _ (by simp[Op.operands])
   rw[e];exact h
 · rename_i x ho;rw[ho] at hev
   have e:evalT P o.type σ' x=evalT P o.type σ x:=by
    unfold evalT;split<;>first | rfl|exact hev _ (by simp[Op.operands])
   rw[e];exact h
 · rename_i c x y ho;rw[ho] at hev;rw[hev c (by simp[Op.operands]),hev x (by simp[Op.operands]),hev y (by simp[Op.operands])];exact h
 · rename_i op t x y yt ho;rw[ho] at hev hkn;rw[hev x (by simp[Op.operands]),hev y (by simp[Op.operands])];exact XP h (hkn x (by simp[Op.operands]))
 · rename_i op t x ho;rw[ho] at hev;rw[hev x (by simp[Op.operands])];exact h
 · rename_i s d x ho;rw[ho] at hev;rw[hev x (by simp[Op.operands])];exact h
 · rename_i c ho;rw[ho] at hev hkn;split at h
   · rename_i b hb;have hmem:∀ x∈c.args.toList,x∈(Op.call c).operands.toList:=fun x hx=>by simp only[Op.operands,Call.operands,hb];simpa using hx
     have e:c.args.toList.map σ'.eval=c.args.toList.map σ.eval:=List.map_congr_left fun x hx=>hev x (hmem x hx);rw[e];generalize hxs:c.args.toList.map σ.eval=xs at *
     have hk2:∀ x∈xs,H6 σ.slots σ'.slots (AE x):=by
      intro x hx;rw[←hxs] at hx;obtain⟨y,hy,rfl⟩:=ACP.1 hx;exact hkn y (hmem y hy)
     unfold Qi at h ⊢;split at h
     · split at h
       · split at h
         · rename_i e' he;rw[Option.map_eq_some_iff] at h;obtain⟨n,hn,rfl⟩:=h;rw[Rc hn (hk2 _ (by simp))];rfl
         · cases h
       · cases h
     · exact h
     · exact h
     · cases h
   · cases h
 · rename_i t x i ho;rw[ho] at hev hkn;rw[hev i (by simp[Op.operands]),hev x (by simp[Op.operands])];split at h
   · exact VX h (hkn x (by simp[Op.operands]))
   · cases h
 · rename_i t x ho;rw[ho] at hev hkn;rw[hev x (by simp[Op.operands])];exact XQ h (hkn x (by simp[Op.operands]))
 · rename_i t x f ho;rw[ho] at hev hkn;rw[hev x (by simp[Op.operands])];exact N9 h (hkn x (by simp[Op.operands]))
 · rename_i t x f ho;rw[ho] at hev;rw[hev x (by simp[Op.operands])];exact h
 · rename_i x i ho;rw[ho] at hev;rw[hev x (by simp[Op.operands])];exact h
 · rename_i x ho;rw[ho] at hev hkn;rw[hev x (by simp[Op.operands])];have hk:=hkn x (by simp[Op.operands]);split at h
   · rename_i s p hx;rw[hx] at hk;split at h
     · rename_i hsl;rw[hk s (by simp[AE]) _ hsl];exact h
     · cases h
   · exact h
   · cases h
 · rename_i t ps ho;rw[ho] at hev
   have e:ps.toList.map (fun p=>(p.1,σ'.eval p.2))=ps.toList.map (fun p=>(p.1,σ.eval p.2)):=List.map_congr_left fun p hp=>by
    rw[hev p.2 (by simp only[Op.operands];simpa using ⟨p.1,by simpa using hp⟩)]
   rw[e];exact h
 · rename_i f first caps ho;rw[ho] at hev;have e:caps.toList.map σ'.eval=caps.toList.map σ.eval:=List.map_congr_left fun x hx=>hev x (by simp only[Op.operands];simp;exact .inr (by simpa using hx));rw[e];exact h
 · rename_i t x lo hi ho;rw[ho] at hev hkn;rw[hev x (by simp[Op.operands])];have e1:Dh σ' lo 0=Dh σ lo 0:=NT fun y hy=>hev y (by simp[Op.operands,hy]);have e2:∀ n,Dh σ' hi n=Dh σ hi n:=fun n=>NT fun y hy=>hev y (by simp[Op.operands,hy]);split at h
   · rename_i n hn;rw[Rc hn (hkn x (by simp[Op.operands]))];simp only;rw[e1,e2];exact h
   · cases h
 · cases h
theorem SP {n:Nat} {o:Oper} {x:V} {news:List Ag} (h:AQ P st n σ o x news) (hs:Ou o σ σ'):AQ P st n σ' o x news:=by
 have hp:Hv P st σ o=some x∧news=[]→Hv P st σ' o=some x∧news=[]:=fun h=>⟨Wt h.1 hs,h.2⟩;have hev:=hs.ev;have hkn:=hs.kn;unfold AQ at h ⊢;split at h
 · exact h
 · exact h
 · rename_i t m k ok ho;rw[ho] at hev hkn;obtain⟨s,es,ky,z,h1,h2⟩:=h;rw[hev m (by simp[Op.operands]),hev k (by simp[Op.operands])];exact⟨s,es,ky,z,Z0 h1 fun s hs=>hkn m (by simp[Op.operands]) s (FX _ s hs),h2⟩
 · rename_i t y ho;rw[ho] at hev;rw[hev y (by simp[Op.operands])];exact h
 · rename_i t len ps ho;rw[ho] at hev
   have e:ps.toList.map (fun p=>(p.1,σ'.eval p.2))=ps.toList.map (fun p=>(p.1,σ.eval p.2)):=List.map_congr_left fun p hp=>by
    rw[hev p.2 (by simp only[Op.operands];simpa using ⟨p.1,by simpa using hp⟩)]
   rw[e];exact h
 · rename_i t l c ho;rw[ho] at hev;rw[hev l (by simp[Op.operands]),hev c (by simp[Op.operands])];exact h
 · rename_i c ho;rw[ho] at hev hkn;split at h
   · rename_i g hf;have hg:g∈(Op.call c).operands.toList:=by simp[Op.operands,Call.operands,hf]
     rw[hev g hg];split at h
     · rename_i f caps hfc;obtain⟨r,⟨xs,h1,h3⟩,h2⟩:=h;have hmem:∀ x∈c.args.toList,x∈(Op.call c).operands.toList:=fun x hx=>by simp only[Op.operands,Call.operands,hf];simp;exact .inr (by simpa using hx)
       have e:c.args.toList.map σ'.eval=c.args.toList.map σ.eval:=List.map_congr_left fun x hx=>hev x (hmem x hx);refine⟨r,⟨xs,?_,h3⟩,h2⟩;rw[e];refine LB h1 fun s hs=>?_;obtain⟨y,hy,hs⟩:=List.mem_flatMap.1 hs;rcases ACE.1 hy with hy|hy
       · obtain⟨z,hz,rfl⟩:=ACP.1 hy;exact hkn z (hmem z hz) s (Qa _ s hs)
       · exact hkn g hg s (by rw[hfc];exact List.mem_flatMap.2 ⟨y,hy,hs⟩)
     · exact h
   · exact hp h
 · exact hp h
theorem R6 (hm:BM P w0 φ sl w Fs) {n:Nat} {x:V} {news:List Ag} {v:Value} (h:ND w0.R P n φ sl w x news v w') (hn:n+news.length≤sl.length) (hub:∀ i,i<news.length→sl[n+i]? = some .unborn) :
 ∃ φ',Turn P w0 φ sl w φ' (A9 sl n news) w'∧VR w' (good w0.R φ' (A9 sl n news) w') φ' (A9 sl n news) x v:=by
 obtain⟨ψ,Fn,hmade,hq⟩:=h;have hnφ:n+ψ.length≤φ.length:=by rw[hmade.plen,hm.flen];exact hn
 have hnF:n+Fn.length≤Fs.length:=by rw[hmade.Flen,hm.Flen];exact hn
 have hO:CO [] w w':=CO.of_below hmade.below
 have old:∀ {i:Nat},¬ (n≤i∧i<n+news.length)→(A9 sl n news)[i]? = sl[i]?∧(A9 φ n ψ)[i]? = φ[i]?∧(A9 Fs n Fn)[i]? = Fs[i]?:=by
  intro i hi;rw[CS hn,CS hnφ,CS hnF,hmade.plen,hmade.Flen];by_cases h1:i<n
  · simp[h1]
  · have h2:¬ i<n+news.length:=fun h=>hi ⟨by omega,h⟩;simp[h1,h2]
 have new:∀ {i:Nat},i<news.length→(A9 sl n news)[n+i]? = news[i]?∧(A9 φ n ψ)[n+i]? = ψ[i]?∧(A9 Fs n Fn)[n+i]? = Fn[i]?:=by
  intro i hi;rw[CS hn,CS hnφ,CS hnF,hmade.plen,hmade.Flen];have h1:¬ n+i<n:=by omega
  have h2:n+i<n+news.length:=by omega
  simp[h1,h2]
 have split:∀ i:Nat,(∃ j,j<news.length∧i=n+j)∨¬ (n≤i∧i<n+news.length):=by
  intro i;by_cases h:n≤i∧i<n+news.length
  · exact .inl ⟨i - n,by omega,by omega⟩
  · exact .inr h
 have hs:∀ (s:Nat) (x:Ag),sl[s]? = some x→∃ x',(A9 sl n news)[s]? = some x'∧Later x x':=by
  intro s x hx;rcases split s with ⟨j,hj,rfl⟩|hn'
  · rw[hub j hj] at hx
    cases hx
    exact⟨news[j],by rw[(new hj).1];exact zz0 hj,by simp[Later]⟩
  · exact⟨x,by rw[(old hn').1];exact hx,Later.refl x⟩
 have hp:∀ (s:Nat) (h:Option Nat×Nat),φ[s]? = some h→sl[s]?≠some .unborn→(A9 φ n ψ)[s]? = some h:=by
  intro s h hh hu;rcases split s with ⟨j,hj,rfl⟩|hn'
  · exact absurd (hub j hj) hu
  · rw[(old hn').2.1];exact hh
 have hT:∀ b,top (A9 φ n ψ) (A9 sl n news) b→w.heap.size≤b∨top φ sl b:=by
  rintro b ⟨s,x,c,h1,h2,h3⟩;rcases split s with ⟨j,hj,rfl⟩|hn'
  · rw[(new hj).2.1] at h3;exact .inl (hmade.hd _ b c h3)
  · rw[(old hn').1] at h1;rw[(old hn').2.1] at h3;exact .inr ⟨s,x,c,h1,h2,h3⟩
 have he:jZ w0.R φ sl w (A9 φ n ψ) (A9 sl n news) w':=⟨EG hO (by simp) hT,hs,hp⟩;obtain⟨q1,q2⟩:=hq _ _ he (fun i hi=>⟨(new hi).1,(new hi).2.1⟩)
 have hcnt:∀ q,Dj q (A9 Fs n Fn)≤Dj q Fs+Fn.flatten.count q:=by
  intro q
  have h1:Dj q Fs=Dj q (Fs.take n)+Dj q ((Fs.drop n).take Fn.length)+Dj q (Fs.drop (n+Fn.length)):=by
   have e1:Dj q (Fs.take n++Fs.drop n)=Dj q Fs:=by rw[List.take_append_drop]
   have e2:Dj q ((Fs.drop n).take Fn.length++(Fs.drop n).drop Fn.length)=Dj q (Fs.drop n):=by rw[List.take_append_drop]
   rw[List.drop_drop] at e2;simp only[Dj,ACK,List.count_append] at e1 e2 ⊢;omega
  have h2:Dj q (A9 Fs n Fn)=Dj q (Fs.take n)+Fn.flatten.count q+Dj q (Fs.drop (n+Fn.length)):=by
   simp[Dj,A9,Nat.add_assoc]
  omega
 refine⟨A9 φ n ψ,hm.turn (Fs':=A9 Fs n Fn) hO (by simp) (by rw[BV hnφ,BV hn,hm.flen]) (by rw[BV hnF,BV hn,hm.Flen]) ?_ ?_ hs hp hT ?_,q2⟩
 · rw[List.nodup_iff_count];intro q;have h1:=hcnt q;have h2:=List.nodup_iff_count.1 hm.nd q;have h3:=List.nodup_iff_count.1 hmade.nd q;simp only[Dj] at h1;by_cases hq1:q∈Fn.flatten
   · have h4:=hmade.ge q hq1;have h5:Fs.flatten.count q=0:=List.count_eq_zero.2 fun h=>by have:=hm.lt q h;omega
     omega
   · have h5:Fn.flatten.count q=0:=List.count_eq_zero.2 hq1;omega
 · intro q hq;have h1:=hcnt q;have h2:=List.count_pos_iff.2 hq;simp only[Dj] at h1;by_cases hq1:q∈Fn.flatten
   · have:=hmade.ge q hq1;have:=hm.only.size;exact .inr (by omega)
   · have h5:Fn.flatten.count q=0:=List.count_eq_zero.2 hq1;exact hm.ge q (List.count_pos_iff.1 (by omega))
 · intro s x h F h1 h2 h3;rcases split s with ⟨j,hj,rfl⟩|hn'
   · rw[(new hj).1] at h1;rw[(new hj).2.1] at h2;rw[(new hj).2.2] at h3;exact .inr (q1 j x h F h1 h2 h3)
   · rw[(old hn').1] at h1;rw[(old hn').2.1] at h2;rw[(old hn').2.2] at h3;exact .inl ⟨h1,h2,h3,by simp⟩
end
structure Tr where
 dst:Option Nat
 x:V
 news:List Ag
def LR (T:List V) (d:Option Nat) (x:V):List V :=
 match d with
 | some d=>T.set d x
 | none=>T
section
variable (tr:List Tr) (T0:List V) (S0:List Ag) (c:Nat→Bool)
def TT:Nat→List V
 | 0=>T0
 | i+1=>match tr[i]? with
   | some e=>if c i=true then LR (TT i) e.dst e.x else TT i
   | none=>TT i
def SS:Nat→List Ag
 | 0=>S0
 | i+1=>match tr[i]? with
   | some e=>SS i++(if c i=true then e.news else List.replicate e.news.length .unborn)
   | none=>SS i
end
def Ar (_:Nat):Bool:=true
def B9 (c:Nat→Bool) (i:Nat) (j:Nat):Bool:=j==i||c j
section
variable {tr:List Tr} {T0:List V} {S0:List Ag} {c c':Nat→Bool}
theorem JJ (T:List V) (d:Option Nat) (x:V):(LR T d x).length=T.length:=by cases d<;>simp[LR]
theorem Hk:∀ i,(TT tr T0 c i).length=T0.length
 | 0=>rfl
 | i+1=>by
   unfold TT;split
   · split
     · rw[JJ,Hk i]
     · exact Hk i
   · exact Hk i
theorem Pv {T:List V} {d:Option Nat} {x:V} {t:Nat} (h:d≠some t):(LR T d x)[t]? = T[t]?:=by
 cases d with
 | none=>rfl
 | some d=>exact ACT (fun e=>h (by rw[e]))
theorem Gy {t:Nat}:∀ i,(∀ j,j<i→∀ e,tr[j]? = some e→e.dst=some t→c j=c' j)→(TT tr T0 c i)[t]? = (TT tr T0 c' i)[t]?
 | 0,_=>rfl
 | i+1,h=>by
   have ih:=Gy i (fun j hj=>h j (by omega));unfold TT;split
   · rename_i e he;by_cases hd:e.dst=some t
     · rw[←h i (by omega) e he hd];split
       · rw[hd];by_cases hl:t<T0.length
         · have e1:t<(TT tr T0 c i).length:=by rw[Hk];exact hl
           have e2:t<(TT tr T0 c' i).length:=by rw[Hk];exact hl
           simp only[LR];rw[ACf e1,ACf e2]
         · rw[AB8 (by rw[JJ,Hk];omega),AB8 (by rw[JJ,Hk];omega)]
       · exact ih
     · split<;>split<;>simp only[Pv hd,ih]
   · exact ih
theorem Ki:∀ i,(∀ j,j<i→c j=c' j)→TT tr T0 c i=TT tr T0 c' i
 | 0,_=>rfl
 | i+1,h=>by
   unfold TT;rw[Ki i (fun j hj=>h j (by omega)),h i (by omega)]
theorem KA {i:Nat}:∀ k,i≤k→(∀ j,i≤j→j<k→c j=false)→TT tr T0 c k=TT tr T0 c i
 | 0,h,_=>by rw[Nat.le_zero.1 h]
 | k+1,h,hc=>by
   by_cases hk:i=k+1
   · rw[hk]
   · conv=>lhs;unfold TT
     rw[hc k (by omega) (by omega)];have ih:=KA k (by omega) (fun j h1 h2=>hc j h1 (by omega));split<;>simpa using ih
theorem JG:∀ i,(SS tr S0 c i).length=(SS tr S0 Ar i).length
 | 0=>rfl
 | i+1=>by
   unfold SS;split
   · simp only[ACg,JG i];split<;>simp[Ar]
   · exact JG i
theorem Me:∀ {i k:Nat},i≤k→∃ rest,SS tr S0 c k=SS tr S0 c i++rest
 | i,0,h=>⟨[],by rw[Nat.le_zero.1 h];simp⟩
 | i,k+1,h=>by
   by_cases hk:i=k+1
   · exact⟨[],by rw[hk];simp⟩
   · obtain⟨r,hr⟩:=Me (i:=i) (k:=k) (by omega)
     conv=>enter [1,rest,1];unfold SS
     split
     · rw[hr,ACY];exact⟨_,rfl⟩
     · exact⟨r,hr⟩
theorem LE:∀ {i:Nat} {s:Nat} {y:Ag},(SS tr S0 Ar i)[s]? = some y→(SS tr S0 c i)[s]? = some y∨(SS tr S0 c i)[s]? = some .unborn
 | 0,s,y,h=>.inl h
 | i+1,s,y,h=>by
   have hlen:=JG (tr:=tr) (S0:=S0) (c:=c) i;unfold SS at h ⊢;split at h
   · rename_i e he;by_cases hs:s<(SS tr S0 Ar i).length
     · rw[zz4 hs] at h;rw[zz4 (by omega)];exact LE h
     · rw[zz5 (by omega)] at h;rw[zz5 (by omega),hlen];simp only[Ar,if_true] at h;split
       · exact .inl h
       · right;rw[List.getElem?_replicate,if_pos (zz1.1 h).1]
   · exact LE h
theorem bM {i k s:Nat} {y:Ag} (hik:i≤k) (h:(SS tr S0 Ar i)[s]? = some y):(SS tr S0 c k)[s]? = some y∨(SS tr S0 c k)[s]? = some .unborn:=by
 obtain⟨r,hr⟩:=Me (tr:=tr) (S0:=S0) (c:=c) hik;have hl:=(zz1.1 h).1;rw[hr,zz4 (by rw[JG];exact hl)];exact LE h
theorem Oo:∀ i,(∀ j,j<i→c j=c' j)→SS tr S0 c i=SS tr S0 c' i
 | 0,_=>rfl
 | i+1,h=>by
   unfold SS;rw[Oo i (fun j hj=>h j (by omega)),h i (by omega)]
theorem pI {i k:Nat} {e:Tr} (hik:i<k) (he:tr[i]? = some e):∃ rest,SS tr S0 c k=SS tr S0 c i++((if c i=true then e.news else List.replicate e.news.length .unborn)++rest):=by
 obtain⟨r,hr⟩:=Me (tr:=tr) (S0:=S0) (c:=c) (i:=i+1) (k:=k) hik;refine⟨r,?_⟩;rw[hr,SS,he,ACY]
theorem Yt:∀ {i k:Nat},i≤k→(∀ j,i≤j→j<k→c j=c' j)→∃ rest,SS tr S0 c k=SS tr S0 c i++rest∧SS tr S0 c' k=SS tr S0 c' i++rest
 | i,0,h,_=>⟨[],by rw[Nat.le_zero.1 h];simp⟩
 | i,k+1,h,hc=>by
   by_cases hk:i=k+1
   · exact⟨[],by rw[hk];simp⟩
   · obtain⟨r,h1,h2⟩:=Yt (i:=i) (k:=k) (by omega) (fun j h1 h2=>hc j h1 (by omega))
     cases ht:tr[k]? with
     | none=>exact⟨r,by rw[SS,ht];exact h1,by rw[SS,ht];exact h2⟩
     | some e =>
       refine⟨r++(if c k=true then e.news else List.replicate e.news.length .unborn),?_,?_⟩
       · rw[SS,ht];simp only[h1,ACY]
       · rw[SS,ht];simp only[h2,ACY,hc k (by omega) (by omega)]
theorem WL {i k:Nat} {e:Tr} (hik:i<k) (he:tr[i]? = some e) (hc:c i=false):A9 (SS tr S0 c k) (SS tr S0 Ar i).length e.news=SS tr S0 (B9 c i) k∧(SS tr S0 Ar i).length+e.news.length≤(SS tr S0 c k).length ∧
 ∀ q,q<e.news.length→(SS tr S0 c k)[(SS tr S0 Ar i).length+q]? = some .unborn:=by
 obtain⟨r,h1,h2⟩:=Yt (tr:=tr) (S0:=S0) (c:=c) (c':=B9 c i) (i:=i+1) (k:=k) hik (fun j h1 _=>by
  have:(j==i)=false:=by simp;omega
  simp[B9,this])
 have hpre:SS tr S0 (B9 c i) i=SS tr S0 c i:=Oo i fun j hj=>by
  have:(j==i)=false:=by simp;omega
  simp[B9,this]
 rw[SS,he] at h1 h2;simp only[hc,Bool.false_eq_true,if_false,hpre] at h1 h2;have hpi:B9 c i i=true:=by simp[B9]
 simp only[hpi,if_true] at h2;rw[←JG (c:=c)];refine⟨?_,?_,fun q hq=>?_⟩
 · rw[h1,h2];unfold A9;rw[ACY,ACY,List.take_left',ACY]
   · congr 2
     rw[←List.drop_drop,List.drop_left',List.drop_left']
     · simp
     · rfl
   · rfl
 · rw[h1];simp
 · rw[h1,ACY,zz5 (by omega),Nat.add_sub_cancel_left,zz4 (by simpa using hq),List.getElem?_replicate,if_pos hq]
theorem XR {i k:Nat} {e:Tr} (hik:i<k) (he:tr[i]? = some e) (hlate:∀ j,i<j→j<k→∀ e',tr[j]? = some e'→e'.dst=e.dst→e.dst≠none→c j=false):LR (TT tr T0 c k) e.dst e.x=TT tr T0 (B9 c i) k:=by
 apply List.ext_getElem?;intro t;by_cases hd:e.dst=some t
 · have e1:(TT tr T0 (B9 c i) k)[t]? = (TT tr T0 (fun j=>B9 c i j&&decide (j≤i)) k)[t]?:=Gy k fun j hj e' he' hd'=>by
    by_cases hji:j≤i
    · simp[hji]
    · have h1:=hlate j (by omega) hj e' he' (by rw[hd',hd]) (by rw[hd];simp);have h2:(j==i)=false:=by simp;omega
      simp[B9,h1,h2]
   have e2:TT tr T0 (fun j=>B9 c i j&&decide (j≤i)) k=TT tr T0 (fun j=>B9 c i j&&decide (j≤i)) (i+1):=KA k hik fun j h1 _=>by
    have:¬ j≤i:=by omega
    simp[this]
   rw[e1,e2,TT,he];have hpi:(B9 c i i&&decide (i≤i))=true:=by simp[B9]
   simp only[hpi,if_true,hd];by_cases hl:t<T0.length
   · simp only[LR];rw[ACf (by rw[Hk];exact hl),ACf (by rw[Hk];exact hl)]
   · rw[AB8 (by rw[JJ,Hk];omega),AB8 (by rw[JJ,Hk];omega)]
 · rw[Pv hd];refine Gy k fun j hj e' he' hd'=>?_
   have:(j==i)=false:=by
    simp only[beq_eq_false_iff_ne];intro e1;subst e1;rw[he] at he'
    cases he'
    exact hd hd'
   simp[B9,this]
theorem EI {e:Tr}:∀ {i:Nat},i≤tr.length→TT (tr++[e]) T0 c i=TT tr T0 c i
 | 0,_=>rfl
 | i+1,h=>by
   unfold TT;rw[zz4 (by omega),EI (by omega)]
theorem Fv {e:Tr}:∀ {i:Nat},i≤tr.length→SS (tr++[e]) S0 c i=SS tr S0 c i
 | 0,_=>rfl
 | i+1,h=>by
   unfold SS;rw[zz4 (by omega),Fv (by omega)]
end
def B5 (ops:Array Oper) (T:List V) (o:Oper):Option Bool :=
 match o.guard with
 | none=>some true
 | some (j,b)=>match (ops[j]?).bind (·.dst) with
   | some d=>match (T[d]?).getD .any with
     | .d (.bool t)=>some (t==b)
     | .tup []=>some false
     | _=>none
   | none=>none
def U2 (P:Program) (m:Mode) (ops:Array Oper) (l:List Oper) (tr:List Tr) (T0:List V) (S0:List Ag):Prop :=
 tr.length≤l.length∧∀ i o e,l[i]? = some o→tr[i]? = some e→e.dst=o.dst ∧
  ((B5 ops (TT tr T0 Ar i) o=some true∧AQ P m.st (SS tr S0 Ar i).length ⟨TT tr T0 Ar i,SS tr S0 Ar i⟩ o e.x e.news)∨(B5 ops (TT tr T0 Ar i) o=some false∧e.x=.tup []∧e.news=[]))
theorem VY {σ:St} {d:Nat} {x:V} (hx:σ.get d=x) (hd:x≠.any):σ.put (some d) x=σ:=by
 unfold St.put;unfold St.get at hx
 cases hd':σ.tmps[d]? with
 | none=>rw[hd'] at hx;exact absurd hx.symm hd
 | some y =>
   rw[hd'] at hx;simp at hx;subst hx;have hl:=(zz1.1 hd').1
   have:σ.tmps.set d y=σ.tmps:=by
    apply List.ext_getElem?;intro i;by_cases hi:d=i
    · subst hi;rw[ACf hl,hd']
    · rw[ACT hi]
   simp only[this]
theorem EW (T:List V) (S:List Ag) (d:Option Nat) (x:V):St.put ⟨T,S⟩ d x=⟨LR T d x,S⟩:=by cases d<;>rfl
section
variable {P:Program} {m:Mode} {ops:Array Oper} {K:St→Prop}
theorem Ks {o:Oper} {K:St→Prop} {σ:St} (htc:m.tc=false) (hq:DG o=true) (h:VT P m o K σ):∃ x news,AQ P m.st σ.slots.length σ o x news∧K (St.put ⟨σ.tmps,σ.slots++news⟩ o.dst x):=by
 unfold VT at h;unfold DG at hq;split at h
 · rename_i ho;rw[ho] at hq;cases hq
 · rename_i ho;rw[ho] at hq;cases hq
 · rename_i c ho;rw[ho] at hq;simp only at hq;split at h
   · rename_i hc;rw[hc] at hq;cases hq
   · rcases h with h|h
     · exact h
     · split at h
       · rcases h with h|h<;>(have:=h.1;rw[htc] at this;cases this)
       · exact h.elim
   · exact h
 · split at h
   · have:=h.1;rw[htc] at this;cases this
   · exact h
 · rw[htc] at h;simp only[Bool.false_and,WE] at h;exact h
 · exact h
theorem Vk (htc:m.tc=false) {l:List Oper} {T0:List V} {S0:List Ag} (h:Bb P m ops K l ⟨T0,S0⟩):∀ k,k≤l.length→(∀ i o,i<k→l[i]? = some o→DG o=true) →
 ∃ tr:List Tr,tr.length=k∧U2 P m ops l tr T0 S0∧Bb P m ops K (l.drop k) ⟨TT tr T0 Ar k,SS tr S0 Ar k⟩
 | 0,_,_=>⟨[],rfl,⟨by simp,fun i o e _ he=>by simp at he⟩,h⟩
 | k+1,hk,hq=>by
   obtain⟨tr,h1,⟨h2,h3⟩,h4⟩:=Vk htc h k (by omega) (fun i o hi=>hq i o (by omega));have ho:l[k]? = some (l[k]'(by omega)):=zz0 _;generalize hoo:l[k]'(by omega)=o at ho;have hd:l.drop k=o::l.drop (k+1):=by rw[←hoo];exact List.drop_eq_getElem_cons (by omega)
   rw[hd] at h4
   have more:∀ (x:V) (news:List Ag),((B5 ops (TT tr T0 Ar k) o=some true∧AQ P m.st (SS tr S0 Ar k).length ⟨TT tr T0 Ar k,SS tr S0 Ar k⟩ o x news)∨(B5 ops (TT tr T0 Ar k) o=some false∧x=.tup []∧news=[])) →
    Bb P m ops K (l.drop (k+1)) (St.put ⟨TT tr T0 Ar k,SS tr S0 Ar k++news⟩ o.dst x)→∃ tr:List Tr,tr.length=k+1∧U2 P m ops l tr T0 S0∧Bb P m ops K (l.drop (k+1)) ⟨TT tr T0 Ar (k+1),SS tr S0 Ar (k+1)⟩:=by
    intro x news hor hnext;have hat:(tr++[⟨o.dst,x,news⟩]:List Tr)[k]? = some ⟨o.dst,x,news⟩:=by rw[zz5 (by omega),h1];simp
    refine⟨tr++[⟨o.dst,x,news⟩],by simp[h1],⟨by simp;omega,fun i o' e ho' he=>?_⟩,?_⟩
    · by_cases hi:i<tr.length
      · rw[zz4 hi] at he;rw[EI (by omega),Fv (by omega)];exact h3 i o' e ho' he
      · have hik:i=k:=by have:=(zz1.1 he).1;simp at this;omega
        subst hik;rw[hat] at he
        cases he
        rw[ho] at ho'
        cases ho'
        rw[EI (by omega),Fv (by omega)];exact⟨rfl,hor⟩
    · rw[TT,SS,hat];simp only[Ar,if_true];rw[EI (by omega),Fv (by omega)];rw[EW] at hnext;exact hnext
   unfold Bb at h4;split at h4
   · rename_i hg;obtain⟨x,news,h5,h6⟩:=Ks htc (hq k o (by omega) ho) h4;exact more x news (.inl ⟨by simp[B5,hg],h5⟩) h6
   · rename_i j b hg;split at h4
     · exact h4.elim
     rename_i d hdd;split at h4
     · rename_i t ht
       have hgA:B5 ops (TT tr T0 Ar k) o=some (t==b):=by
        unfold B5;rw[hg];simp only[hdd];have:((TT tr T0 Ar k)[d]?).getD .any=.d (.bool t):=ht;rw[this]
       have hsame:=VY ht (by simp);by_cases htb:t=b
       · subst htb;have h5:=h4.1 rfl;rw[hsame] at h5;obtain⟨x,news,h6,h7⟩:=Ks htc (hq k o (by omega) ho) h5;exact more x news (.inl ⟨by rw[hgA];simp,h6⟩) h7
       · have htn:t=!b:=by cases t<;>cases b<;>simp_all
         have h5:=h4.2 htn;rw[←htn,hsame] at h5;refine more (.tup []) [] (.inr ⟨by rw[hgA];simp[htb],rfl,rfl⟩) ?_;rw[List.append_nil];exact h5
     · rename_i ht
       have hgA:B5 ops (TT tr T0 Ar k) o=some false:=by
        unfold B5;rw[hg];simp only[hdd];have:((TT tr T0 Ar k)[d]?).getD .any=.tup []:=ht;rw[this]
       refine more (.tup []) [] (.inr ⟨hgA,rfl,rfl⟩) ?_;rw[List.append_nil];exact h4
     · exact h4.elim
end
theorem Cw {α:Type} {l:List α} {p:α×Nat→Bool} (h:l.zipIdx.all p=true) {i:Nat} {o:α} (ho:l[i]? = some o):p (o,i)=true:=by
 rw[zz8] at h;exact h (o,i) (List.mem_zipIdx_iff_getElem?.2 ho)
section
variable {P:Program} {m:Mode} {w0:DP} {w w':World} {φ φ':B6} {σ σ':St} {a:Act} {sl sl':List Ag} {Fs Fs':List (List Nat)} {ops:Array Oper} {l:List Oper}
structure DrawnB (l:List Oper):Prop where
 edge:∀ {j:Nat} {o:Oper},l[j]? = some o→∀ e∈o.after.toList,EH e=true→e.on<j
 soft:∀ {j:Nat} {o:Oper},l[j]? = some o→∀ e∈o.after.toList,EH e=false→XS l j e=true
 clash:∀ {i j:Nat} {oi oj:Oper},i<j→l[i]? = some oi→l[j]? = some oj→clash oi oj=true→i∈CE oj
 guard:∀ {j g:Nat} {b:Bool} {o:Oper},l[j]? = some o→o.guard=some (g,b)→g<j∧g∈CE o∧∀ {og:Oper},l[g]? = some og→∀ {i:Nat} {o2:Oper},l[i]? = some o2→o2.dst=og.dst→og.dst≠none→i=g
structure Yq (l:List Oper) (q:Nat):Prop extends DrawnB l where
 tail:∀ {i j:Nat},q≤j→j<l.length→i<j→((Br l).getD j 0).testBit i=true
 le:q≤l.length
 quiet:∀ {i:Nat} {o:Oper},i<q→l[i]? = some o→DG o=true
theorem ME (l:List Oper) (o:Oper):Br (l++[o])=Br l++[M4 (Br l) o]:=by simp[Br]
theorem Lm:∀ (n:Nat) (l:List Oper),l.length=n→(Br l).length=n
 | 0,l,h=>by rw[zz7 h];rfl
 | n+1,l,h=>by
   obtain⟨l',o,rfl⟩:∃ l' o,l=l'++[o]:=⟨l.dropLast,l.getLast (by intro e;rw[e] at h;cases h),(List.dropLast_concat_getLast _).symm⟩;rw[ME,ACg,Lm n l' (by simpa using h)];rfl
theorem Vh (l':List Oper):∀ (n:Nat) (l:List Oper),l.length=n→∃ r,Br (l'++l)=Br l'++r
 | 0,l,h=>⟨[],by rw[zz7 h];simp⟩
 | n+1,l,h=>by
   obtain⟨l2,o,rfl⟩:∃ l2 o,l=l2++[o]:=⟨l.dropLast,l.getLast (by intro e;rw[e] at h;cases h),(List.dropLast_concat_getLast _).symm⟩;obtain⟨r,hr⟩:=Vh l' n l2 (by simpa using h);rw[←ACY,ME,hr,ACY];exact⟨_,rfl⟩
theorem mJ {j:Nat} {o:Oper} (h:l[j]? = some o):(Br l).getD j 0=M4 (Br (l.take j)) o∧∀ d,d<j→(Br (l.take j)).getD d 0=(Br l).getD d 0:=by
 have hj:=(zz1.1 h).1
 have e:l=l.take j++o::l.drop (j+1):=by
  have:=List.drop_eq_getElem_cons hj;rw[zz0 hj] at h;rw[ACW h] at this;rw[←this,List.take_append_drop]
 have hlen:(Br (l.take j)).length=j:=Lm j _ (by simp;omega);obtain⟨r,hr⟩:=Vh (l.take j++[o]) _ (l.drop (j+1)) rfl
 have e2:Br l=Br (l.take j)++([M4 (Br (l.take j)) o]++r):=by
  conv=>lhs;rw[e]
  rw[show l.take j++o::l.drop (j+1)=(l.take j++[o])++l.drop (j+1) by simp,hr,ME,ACY]
 constructor
 · rw[e2,List.getD_eq_getElem?_getD,zz5 (by omega),hlen];simp
 · intro d hd;rw[e2,List.getD_eq_getElem?_getD,List.getD_eq_getElem?_getD,zz4 (by omega)]
theorem bJ {bm:List Nat} {o:Oper} {i:Nat} (h:(M4 bm o).testBit i=true):∃ d∈CE o,d=i∨(bm.getD d 0).testBit i=true:=by
 unfold M4 at h
 have key:∀ (ds:List Nat) (s:Nat),((ds.foldl (fun s d=>s ||| 2 ^ d ||| bm.getD d 0) s).testBit i=true)→s.testBit i=true∨∃ d∈ds,d=i∨(bm.getD d 0).testBit i=true:=by
  intro ds
  induction ds with
  | nil=>intro s h;exact .inl h
  | cons d ds ih =>
    intro s h;rw[List.foldl_cons] at h;rcases ih _ h with h1|⟨d',hd',h1⟩
    · rw[Nat.testBit_or,Nat.testBit_or,Bool.or_eq_true,Bool.or_eq_true] at h1;rcases h1 with (h1|h1)|h1
      · exact .inl h1
      · rw[Nat.testBit_two_pow] at h1;exact .inr ⟨d,by simp,.inl (by simpa using h1)⟩
      · exact .inr ⟨d,by simp,.inr h1⟩
    · exact .inr ⟨d',by simp[hd'],h1⟩
 rcases key _ _ h with h1|h1
 · simp at h1
 · exact h1
theorem Ow (hd:∀ {j:Nat} {o:Oper},l[j]? = some o→∀ d∈CE o,d<j) {c:Nat→Bool} (hc:∀ {j:Nat} {o:Oper},c j=true→l[j]? = some o→∀ d∈CE o,c d=true):∀ (j:Nat) {o:Oper} {i:Nat},l[j]? = some o→(∀ d∈CE o,c d=true)→((Br l).getD j 0).testBit i=true→c i=true:=by
 intro j
 induction j using Nat.strongRecOn with
 | _ j ih =>
   intro o i ho hdep hb;obtain⟨h1,h2⟩:=mJ ho;rw[h1] at hb;obtain⟨d,hdm,hd'⟩:=bJ hb;have hlt:=hd ho d hdm;rcases hd' with rfl|hb2
   · exact hdep _ hdm
   · rw[h2 d hlt] at hb2;have hdl:l[d]? = some (l[d]'(by have:=(zz1.1 ho).1;omega)):=zz0 _;exact ih d hlt hdl (hc (hdep d hdm) hdl) hb2
theorem iM {i:Nat} {o:Oper} (h:i<Gl l) (ho:l[i]? = some o):DG o=true:=by
 unfold Gl at h
 have h1:(l.takeWhile DG)[i]? = some o:=by
  have hp:=List.takeWhile_prefix (p:=DG) (l:=l);obtain⟨r,hr⟩:=hp;rw[←hr,zz4 h] at ho;exact ho
 exact zz8.1 List.all_takeWhile _ (zz6 h1)
theorem U3:Gl l≤l.length:=by
 unfold Gl;exact (List.takeWhile_prefix (p:=DG) (l:=l)).length_le
theorem cJ {q:Nat} (h:Ka ops q=true):Yq ops.toList q:=by
 unfold Ka at h;simp only[Bool.and_eq_true] at h;obtain⟨⟨⟨⟨⟨h1,h2⟩,h3⟩,h4⟩,h5⟩,h6⟩:=h;refine⟨⟨fun {j o} ho e he hp=>?_,fun {j o} ho e he hp=>?_,fun {i j oi oj} hij hi hj hcl=>?_,fun {j g b o} ho hg=>?_⟩,fun {i j} hk hj hij=>?_,ACn h5,fun {i o} hi ho=>zz8.1 h6 o (zz6 (by rw[ACi,if_pos hi];exact ho))⟩
 · have:=Cw h1 ho;simp only[zz8] at this;have:=this e he;rw[if_pos hp] at this;simpa using this
 · have:=Cw h1 ho;simp only[zz8] at this;have:=this e he;rw[if_neg (by simp[hp])] at this;exact this
 · have:=Cw h2 hj;have h5:(!Go.Proofs.Ytnjedabjbeipeaa.clash oi oj||(CE oj).contains i)=true:=Cw this (i:=i) (o:=oi) (by rw[ACi,if_pos hij];exact hi);rw[hcl] at h5;simpa using h5
 · have:=Cw h3 ho;simp only[hg,Bool.and_eq_true,decide_eq_true_eq] at this;obtain⟨⟨k1,k2⟩,k3⟩:=this;refine⟨k1,by simpa using k2,fun {og} hog {i o2} hi hd hn=>?_⟩;have:=Cw k3 hi;simp only[hog,Bool.or_eq_true,decide_eq_true_eq,Bool.not_eq_true',beq_eq_false_iff_ne,ne_eq] at this;rcases this with (h|h)|h
   · exact h
   · rw[Option.isNone_iff_eq_none] at h;exact absurd h hn
   · exact absurd hd h
 · have hl:j<(Br ops.toList).length:=by rw[Lm _ _ rfl];exact hj
   have:=Cw h4 (i:=j) (o:=(Br ops.toList)[j]) (zz0 hl);simp only[Bool.or_eq_true,decide_eq_true_eq,zz8,ACJ] at this;rcases this with h|h
   · omega
   · rw[List.getD_eq_getElem?_getD,zz0 hl];exact h i hij
theorem bE (h:TB ops=true):Ka ops (Gl ops.toList)=true:=by
 unfold TB dR at h;unfold Ka;rw[h,Bool.true_and,Bool.and_eq_true]
 exact⟨zz2 U3,zz8.2 fun o ho=>by
  obtain⟨i,hi,rfl⟩:=List.mem_iff_getElem.1 ho;have hi2:i<Gl ops.toList:=by rw[ACL] at hi;omega
  refine iM hi2 ?_;rw[List.getElem_take]
  exact zz0 _⟩
theorem DrawnB.deps (hd:DrawnB l) {j:Nat} {o:Oper} (ho:l[j]? = some o):∀ d∈CE o,d<j:=by
 intro d h;unfold CE at h;obtain⟨e,he,rfl⟩:=ACP.1 h;obtain⟨he,hp⟩:=ACQ.1 he;exact hd.edge ho e he hp
theorem VR.undef {G:Nat→Prop} {v:Value} (h:VR w G φ sl (.tup []) v):v=Go.undef:=by
 cases h with
 | tup hl h =>
   rename_i vs;obtain rfl:vs=[]:=zz7 hl;rfl
theorem Jz {G:Nat→Prop}:VR w G φ sl (.tup []) Go.undef:=.tup (vs:=[]) rfl (fun i x v h=>by simp at h)
theorem VR.named {G:Nat→Prop} {x:V} {v:Value} (h:VR w G φ sl x v):∀ s∈DH x,sl[s]?≠some .unborn:=by
 have one:∀ {x v},VR w G φ sl x v→∀ s∈AE x,sl[s]?≠some .unborn:=by
  intro x v h s hs e
  cases h with
  | ref h1=>simp[AE] at hs;subst hs;rw[h1] at e;cases e
  | gone h1=>simp[AE] at hs;subst hs;rw[h1] at e;cases e
  | lit h1=>simp[AE] at hs;subst hs;rw[h1] at e;cases e
  | litgone h1=>simp[AE] at hs;subst hs;rw[h1] at e;cases e
  | ptr h1 h2=>simp[AE] at hs;subst hs;rw[h1] at e;cases e;exact h2
  | lost h1=>simp[AE] at hs;subst hs;rw[h1] at e;cases e
  | eptr h1=>simp[AE] at hs;subst hs;rw[h1] at e;cases e
  | elost h1=>simp[AE] at hs;subst hs;rw[h1] at e;cases e
  | blk h1=>simp[AE] at hs;subst hs;rw[h1] at e;cases e
  | qptr h1=>simp[AE] at hs;subst hs;rw[h1] at e;cases e
  | _=>simp[AE] at hs
 have two:∀ {x v},VR w G φ sl x v→∀ s∈DT x,sl[s]?≠some .unborn:=by
  intro x v h s hs
  cases x with
  | agg xs =>
    cases h with
    | agg hl h1 hv =>
      rename_i vs;simp only[DT,List.mem_flatMap] at hs;obtain⟨y,hy,hs⟩:=hs;obtain⟨i,hi,rfl⟩:=List.mem_iff_getElem.1 hy;exact one (hv i _ _ (zz0 hi) (zz0 (by omega))) s hs
  | _=>exact one h s hs
 intro s hs
 cases x with
 | fn f xs =>
   cases h with
   | fn hl hv =>
     rename_i vs;simp only[DH,List.mem_flatMap] at hs;obtain⟨y,hy,hs⟩:=hs;obtain⟨i,hi,rfl⟩:=List.mem_iff_getElem.1 hy;exact two (hv i _ _ (zz0 hi) (zz0 (by omega))) s hs
 | _=>exact two h s hs
theorem WH (hst:w0.st=m.st) {tr:List Tr} {T0:List V} {S0:List Ag} {k:Nat} {c:Nat→Bool} {i:Nat} {o:Oper} (hops:ops.toList=l) {qn:Nat} (hd:Yq l qn) (hcan:U2 P m ops l tr T0 S0) (hk:tr.length=k) (hi:i<k) (ho:l[i]? = some o) (hci:c i=false) (hck:∀ j,c j=true→j<k)
 (hclosed:∀ {j:Nat} {o:Oper},c j=true→l[j]? = some o→∀ d∈CE o,c d=true) (hready:∀ d∈CE o,c d=true) (hr:Dk P w0 φ ⟨TT tr T0 c k,SS tr S0 c k⟩ a w) {KC:Act→World→Prop} {Q:Exit→Act→World→Prop}
 (hK:∀ φ' a' w',Dk P w0 φ' ⟨TT tr T0 (B9 c i) k,SS tr S0 (B9 c i) k⟩ a' w'→KC a' w') :
 if Region.wanted o (yielded ops a.tmps)=true then o.wp P a w KC Q else KC (a.put o.dst undef) w:=by
 have he:tr[i]? = some (tr[i]'(by omega)):=zz0 _;generalize tr[i]'(by omega)=e at he;obtain⟨hdst,hor⟩:=hcan.2 i o e ho he;have hdi:=hd.deps ho
 have temp:∀ t,(∀ j,j<k→∀ oj,l[j]? = some oj→oj.dst=some t→(c j=true↔j<i))→(TT tr T0 c k)[t]? = (TT tr T0 Ar i)[t]?:=by
  intro t ht
  have e1:(TT tr T0 c k)[t]? = (TT tr T0 (fun j=>decide (j<i)) k)[t]?:=Gy k fun j hj e' he' hd'=>by
   have hjl:l[j]? = some (l[j]'(by have:=hcan.1;omega)):=zz0 _;obtain⟨hdj,_⟩:=hcan.2 j _ e' hjl he';have:=ht j hj _ hjl (by rw[←hdj];exact hd');by_cases h:j<i
   · simp[h,this.2 h]
   · have h2:c j=false:=by cases hcj:c j with|false=>rfl|true=>exact absurd (this.1 hcj) h
     simp[h,h2]
  have e2:TT tr T0 (fun j=>decide (j<i)) k=TT tr T0 (fun j=>decide (j<i)) i:=KA k (by omega) fun j h1 _=>by
   have:¬ j<i:=by omega
   simp[this]
  have e3:TT tr T0 (fun j=>decide (j<i)) i=TT tr T0 Ar i:=Ki i fun j hj=>by simp[hj,Ar]
  rw[e1,e2,e3]
 have oper:∀ t,t∈HG o→(TT tr T0 c k)[t]? = (TT tr T0 Ar i)[t]?:=by
  intro t ht;refine temp t fun j hj oj hoj hdj=>?_;constructor
  · intro hcj;rcases Nat.lt_trichotomy j i with h|h|h
    · exact h
    · subst h;rw[hci] at hcj;cases hcj
    · have hcl:clash o oj=true:=by
       unfold clash
       cases hod:o.dst with
       | none=>simp only[hdj];simpa using ht
       | some q=>simp only[hdj];simp[ht]
      have:=hclosed hcj hoj i (hd.clash h ho hoj hcl);rw[hci] at this;cases this
  · intro hji
    have hcl:clash oj o=true:=by
     unfold clash;rw[hdj]
     cases hod:o.dst with
     | none=>simpa using ht
     | some q=>simp[ht]
    exact hready j (hd.clash hji hoj ho hcl)
 have hev:∀ x∈o.op.operands.toList,(⟨TT tr T0 c k,SS tr S0 c k⟩:St).eval x=(⟨TT tr T0 Ar i,SS tr S0 Ar i⟩:St).eval x:=by
  intro x hx
  cases x with
  | tmp t =>
    show ((TT tr T0 c k)[t]?).getD .any=((TT tr T0 Ar i)[t]?).getD .any;rw[oper t (by unfold HG;exact List.mem_filterMap.2 ⟨.tmp t,hx,rfl⟩)]
  | _=>rfl
 have hguard:B5 ops (TT tr T0 c k) o=B5 ops (TT tr T0 Ar i) o:=by
  unfold B5
  cases hg:o.guard with
  | none=>rfl
  | some gb =>
    obtain⟨g,b⟩:=gb;obtain⟨g1,g2,g3⟩:=hd.guard ho hg;have hgl:l[g]? = some (l[g]'(by have:=(zz1.1 ho).1;omega)):=zz0 _;generalize l[g]'(by have:=(zz1.1 ho).1;omega)=og at hgl;have hog:ops[g]? = some og:=by rw[←Array.getElem?_toList,hops];exact hgl
    simp only[hog,Option.bind_some]
    cases hod:og.dst with
    | none=>rfl
    | some d =>
      have:=temp d fun j hj oj hoj hdj=>by
       have hjg:=g3 hgl hoj (by rw[hdj,hod]) (by rw[hod];simp);subst hjg;exact⟨fun _=>g1,fun _=>hready j g2⟩
      simp only[this]
 have hwanted:∀ t,B5 ops (TT tr T0 c k) o=some t→Region.wanted o (yielded ops a.tmps)=t:=by
  intro t ht;unfold B5 at ht;unfold Region.wanted
  cases hg:o.guard with
  | none=>rw[hg] at ht;simpa using ht
  | some gb =>
    obtain⟨g,b⟩:=gb;rw[hg] at ht;simp only at ht ⊢;split at ht
    · rename_i d hdd;split at ht
      · rename_i t' ht';have hv:=hr.eval (.tmp d);have hget:(⟨TT tr T0 c k,SS tr S0 c k⟩:St).eval (.tmp d)=.d (.bool t'):=ht';rw[hget] at hv;have hv':=hv.bool
        have hl:d<a.tmps.size:=by
         rcases Nat.lt_or_ge d a.tmps.size with h|h
         · exact h
         · have:a.eval (.tmp d)=undef:=by show a.tmps.getD d undef=_;simp[Array.getD,Nat.not_lt.2 h]
           rw[this] at hv';cases hv'
        have hy:yielded ops a.tmps g=some t':=by
         unfold yielded;rw[hdd]
         have:a.tmps[d]? = some (.bool t'):=by
          rw[Array.getElem?_eq_getElem hl];have:a.eval (.tmp d)=a.tmps[d]:=by show a.tmps.getD d undef=_;simp[Array.getD,hl]
          rw[←this,hv']
         simp[this]
        rw[hy];simpa using ht
      · rename_i ht';have hv:=hr.eval (.tmp d);have hget:(⟨TT tr T0 c k,SS tr S0 c k⟩:St).eval (.tmp d)=.tup []:=ht';rw[hget] at hv;have hv':=hv.undef
        have hy:yielded ops a.tmps g=none:=by
         unfold yielded;rw[hdd]
         cases hq:a.tmps[d]? with
         | none=>simp[hq]
         | some u =>
           have:a.eval (.tmp d)=u:=by show a.tmps.getD d undef=_;rw[Array.getD_eq_getD_getElem?,hq];rfl
           rw[this] at hv';subst hv';simp[hq,undef]
        rw[hy];simpa using ht
      · cases ht
    · cases ht
 have hT:LR (TT tr T0 c k) o.dst e.x=TT tr T0 (B9 c i) k:=by
  rw[←hdst];refine XR hi he fun j hij hj e' he' hd' hn=>?_
  cases hcj:c j with
  | false=>rfl
  | true =>
    have hjl:l[j]? = some (l[j]'(by have:=hcan.1;omega)):=zz0 _;obtain⟨hdj,_⟩:=hcan.2 j _ e' hjl he'
    have hcl:clash o (l[j]'(by have:=hcan.1;omega))=true:=by
     unfold clash
     cases hod:o.dst with
     | none=>rw[hdst,hod] at hn;exact absurd rfl hn
     | some q =>
       have:(l[j]'(by have:=hcan.1;omega)).dst=some q:=by rw[←hdj,hd',hdst,hod]
       simp[this]
    have:=hclosed hcj hjl i (hd.clash hij ho hjl hcl);rw[hci] at this;cases this
 obtain⟨hS1,hS2,hS3⟩:=WL (S0:=S0) hi he hci;rcases hor with ⟨hg,haq⟩|⟨hg,hx,hnews⟩
 · rw[if_pos (hwanted true (by rw[hguard];exact hg))]
   have hsame:Ou o ⟨TT tr T0 Ar i,SS tr S0 Ar i⟩ ⟨TT tr T0 c k,SS tr S0 c k⟩:=⟨hev,fun x hx s hs y hy=>by
    rcases bM (c:=c) (Nat.le_of_lt hi) hy with h|h
    · exact h
    · have hv:=hr.eval x;rw[hev x hx] at hv
      exact absurd h (hv.named s hs)⟩
   refine Ml hst (SP haq hsame) hr fun v w' hq=>?_;obtain⟨Fs,hm⟩:=hr.mem;obtain⟨φ',ht,hv⟩:=R6 hm hq hS2 hS3;have:=hr.turn ht hv o.dst;rw[EW,hT] at this;simp only[hS1] at this;exact hK φ' _ _ this
 · rw[if_neg (by rw[hwanted false (by rw[hguard];exact hg)];simp)];have:=hr.turn (Turn.refl hr.mem) Jz o.dst;rw[EW] at this;rw[hx] at hT;rw[hT] at this
   have hS:SS tr S0 c k=SS tr S0 (B9 c i) k:=by
    rw[←hS1,hnews];simp[A9]
   simp only[hS] at this;exact hK φ _ _ this
end
def Fa (L:Nat→Bool):Nat→Nat
 | 0=>0
 | n+1=>Fa L n+(if L n=true then 0 else 1)
theorem Kv {L:Nat→Bool} {i:Nat} (hL:L i=false):∀ {n:Nat},i<n→Fa (B9 L i) n+1=Fa L n
 | 0,h=>by omega
 | n+1,h=>by
   unfold Fa;by_cases hi:i=n
   · subst hi
     have e:∀ m,m≤i→Fa (B9 L i) m=Fa L m:=by
      intro m
      induction m with
      | zero=>intro _;rfl
      | succ m ih =>
        intro hm;unfold Fa;have:(m==i)=false:=by simp;omega
        rw[ih (by omega)];simp[B9,this]
     rw[e i (Nat.le_refl _),hL];simp[B9]
   · have:=Kv hL (n:=n) (by omega);have h2:(n==i)=false:=by simp;omega
     simp only[B9,h2,Bool.false_or] at this ⊢;omega
theorem Hc {L:Nat→Bool}:∀ {n:Nat},Fa L n=0→∀ j,j<n→L j=true
 | 0,_,j,h=>by omega
 | n+1,h,j,hj=>by
   unfold Fa at h;by_cases hn:L n=true
   · by_cases hjn:j=n
     · rw[hjn];exact hn
     · exact Hc (n:=n) (by omega) j (by omega)
   · rw[if_neg hn] at h;omega
theorem Vp {L:Nat→Bool} {n:Nat} (h:0<Fa L n):∃ j,j<n∧L j=false∧∀ i,i<j→L i=true:=by
 have h1:∃ j,j<n∧L j=false:=by
  refine Classical.byContradiction fun hn=>?_
  have:∀ m,m≤n→Fa L m=0:=by
   intro m
   induction m with
   | zero=>intro _;rfl
   | succ m ih =>
     intro hm;unfold Fa;rw[ih (by omega)]
     cases hL:L m with
     | true=>rfl
     | false=>exact absurd ⟨m,by omega,hL⟩ hn
  rw[this n (Nat.le_refl _)] at h;omega
 obtain⟨j,hj,hL⟩:=h1
 induction j using Nat.strongRecOn with
 | _ j ih =>
   by_cases hall:∃ i,i<j∧L i=false
   · obtain⟨i,hi,hLi⟩:=hall;exact ih i hi (by omega) hLi
   · refine⟨j,hj,hL,fun i hi=>?_⟩
     cases hLi:L i with
     | true=>rfl
     | false=>exact absurd ⟨i,hi,hLi⟩ hall
section
variable {P:Program} {mo:Mode} {w0:DP} {w w':World} {φ φ':B6} {σ σ':St} {a:Act} {ops:Array Oper} {l:List Oper}
def DD (m:Region.Mode) (ops:Array Oper) (listed:Array Bool) (i:Nat):Bool :=
 !listed.getD i true&&((ops[i]?).map (·.after.all fun e=>!Region.binds m e||listed.getD e.on false)).getD false
theorem IL (m:Region.Mode) (ops:Array Oper) (fuel t:Nat) (listed:Array Bool) (acc:List Nat):Region.linearise.go m ops (fuel+1) t listed acc =
 match ((List.range ops.size).filter (DD m ops listed))[t % ((List.range ops.size).filter (DD m ops listed)).length]? with
 | some i=>Region.linearise.go m ops fuel (t / ((List.range ops.size).filter (DD m ops listed)).length) (listed.setIfInBounds i true) (i::acc)
 | none=>acc.reverse:=rfl
theorem Uz {m:Region.Mode} {e:Edge} (h:EH e=true):Region.binds m e=true:=by
 unfold EH at h;unfold Region.binds
 cases hg:e.ground<;>rw[hg] at h<;>simp_all
theorem U0 (hops:ops.toList=l) {m:Region.Mode} {listed:Array Bool} (hsz:listed.size=ops.size) {i:Nat} (hi:i<ops.size) (hL:listed.getD i false=false) (h:∀ o,l[i]? = some o→∀ e∈o.after.toList,Region.binds m e=true→listed.getD e.on false=true):DD m ops listed i=true:=by
 have ho:ops[i]? = some ops[i]:=Array.getElem?_eq_getElem hi;have hol:l[i]? = some ops[i]:=by rw[←hops,Array.getElem?_toList];exact ho
 have e1:listed.getD i true=listed.getD i false:=by simp[Array.getD,hsz,hi]
 unfold DD;rw[e1,ho,hL];simp only[Option.map_some,Option.getD_some,Bool.and_eq_true,Bool.not_eq_true',Array.all_eq_true_iff_forall_mem];refine⟨trivial,fun e he=>?_⟩;have:=h _ hol e (by simpa using he)
 cases hb:Region.binds m e with
 | false=>rfl
 | true=>simp[this hb]
theorem So (hops:ops.toList=l) {m:Region.Mode} {listed:Array Bool} (hsz:listed.size=ops.size) {i:Nat} (hi:i<ops.size) (hr:DD m ops listed i=true):listed.getD i false=false∧∀ o,l[i]? = some o→∀ d∈CE o,listed.getD d false=true:=by
 have ho:ops[i]? = some ops[i]:=Array.getElem?_eq_getElem hi;have hol:l[i]? = some ops[i]:=by rw[←hops,Array.getElem?_toList];exact ho
 have e1:listed.getD i true=listed.getD i false:=by simp[Array.getD,hsz,hi]
 unfold DD at hr;rw[e1,ho] at hr;simp only[Option.map_some,Option.getD_some,Bool.and_eq_true,Bool.not_eq_true',Array.all_eq_true_iff_forall_mem] at hr;refine⟨hr.1,fun o ho' d hdm=>?_⟩;rw[hol] at ho'
 cases ho'
 unfold CE at hdm;obtain⟨e,he,rfl⟩:=ACP.1 hdm;obtain⟨he,hp⟩:=ACQ.1 he;have:=hr.2 e (by simpa using he);rw[Uz hp] at this;simpa using this
theorem I4 (hops:ops.toList=l) (hd:DrawnB l) {m:Region.Mode} {listed:Array Bool} (hsz:listed.size=ops.size) (hc:0<Fa (fun j=>listed.getD j false) ops.size) (t:Nat) :
 ∃ i,((List.range ops.size).filter (DD m ops listed))[t % ((List.range ops.size).filter (DD m ops listed)).length]? = some i∧i<ops.size∧listed.getD i false=false∧∀ o,l[i]? = some o→∀ d∈CE o,listed.getD d false=true:=by
 obtain⟨j,hj,hLj,hless⟩:=Vp hc;have hll:l.length=ops.size:=by rw[←hops];simp
 have hsome:∃ i,i<ops.size∧DD m ops listed i=true:=by
  by_cases hall:∀ o,l[j]? = some o→∀ e∈o.after.toList,Region.binds m e=true→listed.getD e.on false=true
  · exact⟨j,hj,U0 hops hsz hj hLj hall⟩
  · simp only[Classical.not_forall] at hall;obtain⟨o,ho,e,he,hb,hn⟩:=hall;have hn':listed.getD e.on false=false:=by cases h:listed.getD e.on false with|false=>rfl|true=>exact absurd h hn
    have hge:¬ e.on<j:=fun h=>hn (hless _ h);have hp:EH e=false:=by cases h:EH e with|false=>rfl|true=>exact absurd (hd.edge ho e he h) hge
    have hs:=hd.soft ho e he hp;unfold XS at hs;simp only[Bool.or_eq_true,decide_eq_true_eq,Bool.and_eq_true,Bool.not_eq_true'] at hs;rcases hs with h|⟨ht,hq⟩
    · exact absurd h hge
    have hm:m=.gc:=by
     unfold EH at hp;unfold Ls at ht;unfold Region.binds at hb
     cases hg:e.ground<;>rw[hg] at hp ht hb<;>simp_all
    have key:∀ (n i:Nat),Y2 l n j i=true→listed.getD i false=false→∃ i,i<ops.size∧DD m ops listed i=true:=by
     intro n
     induction n with
     | zero=>intro i h;cases h
     | succ n ih =>
       intro i h hi;unfold Y2 at h
       cases hql:l[i]? with
       | none=>rw[hql] at h;cases h
       | some q =>
         rw[hql] at h;simp only[zz8,Bool.or_eq_true,decide_eq_true_eq] at h;have hlt:i<ops.size:=by have:=(zz1.1 hql).1;omega
         by_cases hall:∀ o,l[i]? = some o→∀ e∈o.after.toList,Region.binds m e=true→listed.getD e.on false=true
         · exact⟨i,hlt,U0 hops hsz hlt hi hall⟩
         · simp only[Classical.not_forall] at hall;obtain⟨o',ho',e',he',hb',hn'⟩:=hall;have hn'':listed.getD e'.on false=false:=by cases h:listed.getD e'.on false with|false=>rfl|true=>exact absurd h hn'
           rw[hql] at ho'
           cases ho'
           rcases h e' he' with (h|h)|h
           · unfold Ls at h;unfold Region.binds at hb';rw[hm] at hb'
             cases hg:e'.ground<;>rw[hg] at h hb'<;>simp_all
           · exact absurd (hless _ h) hn'
           · exact ih _ h hn''
    exact key _ _ hq hn'
 obtain⟨i,hi,hri⟩:=hsome
 have hmem:i∈(List.range ops.size).filter (DD m ops listed):=by
  rw[ACQ,ACJ];exact⟨hi,hri⟩
 have hlen:0<((List.range ops.size).filter (DD m ops listed)).length:=AB9 hmem;have hlt:=Nat.mod_lt t hlen;refine⟨_,zz0 hlt,?_⟩;have hin:=AB7 hlt;rw[ACQ,ACJ] at hin;exact⟨hin.1,So hops hsz hin.1 hin.2⟩
theorem Ev {listed:Array Bool} {n i:Nat} (hsz:listed.size=n) (hi:i<n):(fun j=>(listed.setIfInBounds i true).getD j false)=B9 (fun j=>listed.getD j false) i:=by
 funext j
 simp only[B9];by_cases hj:j=i
 · subst hj;simp[Array.getD,hsz,hi]
 · have h1:(j==i)=false:=by simpa using hj
   rw[h1,Bool.false_or];simp only[Array.getD_eq_getD_getElem?];rw[Array.getElem?_setIfInBounds_ne (fun e=>hj e.symm)]
theorem Y4 (hops:ops.toList=l) {qn:Nat} (hd:Yq l qn) {m:Region.Mode}:∀ (fuel t:Nat) (listed:Array Bool) (acc:List Nat) (mm:Nat),qn≤mm→mm+fuel=ops.size→listed.size=ops.size→(∀ j,listed.getD j false=decide (j<mm)) →
 Region.linearise.go m ops fuel t listed acc=acc.reverse++List.range' mm fuel
 | 0,t,listed,acc,mm,_,_,_,_=>by simp[Region.linearise.go]
 | fuel+1,t,listed,acc,mm,hk,hn,hsz,hL=>by
   have hc:0<Fa (fun j=>listed.getD j false) ops.size:=by
    rcases Nat.eq_zero_or_pos (Fa (fun j=>listed.getD j false) ops.size) with h|h
    · have:=Hc h mm (by omega);simp only[hL] at this;simp at this
    · exact h
   obtain⟨i,hpick,hi,hLi,hdep⟩:=I4 (m:=m) hops hd.toDrawnB hsz hc t;rw[IL,hpick];simp only
   have him:i=mm:=by
    rw[hL] at hLi;have hge:mm≤i:=by simpa using hLi
    rcases Nat.eq_or_lt_of_le hge with h|h
    · exact h.symm
    · have hil:i<l.length:=by rw[←hops];simpa using hi
      have hb:=hd.tail (by omega) hil h;have hol:l[i]? = some l[i]:=zz0 hil
      have:=Ow (l:=l) hd.deps (c:=fun j=>decide (j<mm)) (fun {j o} hcj ho d hdm=>by
       have:=hd.deps ho d hdm;simp only[decide_eq_true_eq] at hcj ⊢
       omega) i hol (fun d hdm=>by rw[←hL];exact hdep _ hol d hdm) hb
      simp at this
   subst him
   rw[Y4 hops hd fuel _ _ _ (i+1) (by omega) (by omega) (by simpa using hsz) (fun j=>by
    have:=congrFun (Ev hsz hi) j;rw[this];simp only[B9,hL];by_cases hj:j=i
    · subst hj;simp
    · have h1:(j==i)=false:=by simpa using hj
      rw[h1,Bool.false_or]
      congr 1
      apply propext
      omega)]
   simp[List.range'_succ]
theorem WO {Q:Exit→Act→World→Prop} {k:Nat} (hk:k≤ops.size):wpOps P ops Q (List.range' k (ops.size - k))=wpList P ops Q (ops.toList.drop k):=by
 have:=wpOps_eq_wpList (P:=P) (ops:=ops) (Q:=Q) (ops.toList.drop k) k (fun j=>by rw[ACj,Array.getElem?_toList]);rw[←this];simp
theorem iI (hst:w0.st=mo.st) (hops:ops.toList=l) {qn:Nat} (hd:Yq l qn) {m:Region.Mode} {tr:List Tr} {T0:List V} {S0:List Ag} (hcan:U2 P mo ops l tr T0 S0) (hk:tr.length=qn) {Q:Exit→Act→World→Prop}
 (htail:∀ φ a w,Dk P w0 φ ⟨TT tr T0 Ar (qn),SS tr S0 Ar (qn)⟩ a w→wpList P ops Q (l.drop (qn)) a w) :
 ∀ (fuel t:Nat) (listed:Array Bool) (acc:List Nat),listed.size=ops.size→Fa (fun j=>listed.getD j false) ops.size=fuel→(∀ j,listed.getD j false=true→j<qn) →
   (∀ {j:Nat} {o:Oper},listed.getD j false=true→l[j]? = some o→∀ d∈CE o,listed.getD d false=true) →
   ∃ suf,Region.linearise.go m ops fuel t listed acc=acc.reverse++suf∧∀ φ a w,Dk P w0 φ ⟨TT tr T0 (fun j=>listed.getD j false) (qn),SS tr S0 (fun j=>listed.getD j false) (qn)⟩ a w→wpOps P ops Q suf a w:=by
 have hlen:l.length=ops.size:=by rw[←hops];simp
 have hql:qn≤ops.size:=by rw[←hlen];exact hd.le
 have full:∀ (fuel t:Nat) (listed:Array Bool) (acc:List Nat),listed.size=ops.size→Fa (fun j=>listed.getD j false) ops.size=fuel→(∀ j,listed.getD j false=true→j<qn)→(∀ j,j<qn→listed.getD j false=true) →
  ∃ suf,Region.linearise.go m ops fuel t listed acc=acc.reverse++suf∧∀ φ a w,Dk P w0 φ ⟨TT tr T0 (fun j=>listed.getD j false) (qn),SS tr S0 (fun j=>listed.getD j false) (qn)⟩ a w→wpOps P ops Q suf a w:=by
  intro fuel t listed acc hsz hc hlt hall
  have hL:∀ j,listed.getD j false=decide (j<qn):=by
   intro j;by_cases h:j<qn
   · rw[hall j h];simp[h]
   · cases hj:listed.getD j false with
     | true=>exact absurd (hlt j hj) h
     | false=>simp[h]
  have hcount:Fa (fun j=>listed.getD j false) ops.size=ops.size - qn:=by
   have e:∀ n,Fa (fun j=>decide (j<qn)) n=n - qn:=by
    intro n
    induction n with
    | zero=>simp[Fa]
    | succ n ih =>
      unfold Fa;rw[ih];by_cases h:n<qn
      · simp[h];omega
      · simp[h];omega
   have:(fun j=>listed.getD j false)=fun j=>decide (j<qn):=funext hL;rw[this];exact e _
  refine⟨List.range' (qn) (ops.size - qn),?_,fun φ a w hr=>?_⟩
  · rw[Y4 hops hd fuel t listed acc (qn) (Nat.le_refl _) (by omega) hsz hL]
    congr 2
    omega
  · rw[WO hql,hops];refine htail φ a w ?_;have e1:TT tr T0 (fun j=>listed.getD j false) (qn)=TT tr T0 Ar (qn):=Ki _ fun j hj=>by rw[hL];simp[hj,Ar]
    have e2:SS tr S0 (fun j=>listed.getD j false) (qn)=SS tr S0 Ar (qn):=Oo _ fun j hj=>by rw[hL];simp[hj,Ar]
    rw[←e1,←e2];exact hr
 intro fuel
 induction fuel with
 | zero =>
   intro t listed acc hsz hc hlt hcl;exact full 0 t listed acc hsz hc hlt fun j hj=>Hc hc j (by omega)
 | succ fuel ih =>
   intro t listed acc hsz hc hlt hcl;obtain⟨i,hpick,hi,hLi,hdep⟩:=I4 (m:=m) hops hd.toDrawnB hsz (by omega) t;have hil:i<l.length:=by omega
   have hol:l[i]? = some l[i]:=zz0 hil;by_cases hik:i<qn
   · have hset:=Ev hsz hi;have hat:∀ j,(listed.setIfInBounds i true).getD j false=B9 (fun j=>listed.getD j false) i j:=fun j=>congrFun hset j
     obtain⟨suf,h1,h2⟩:=ih (t / ((List.range ops.size).filter (DD m ops listed)).length) (listed.setIfInBounds i true) (i::acc) (by simpa using hsz) (by
      rw[hset];have:=Kv (L:=fun j=>listed.getD j false) hLi hi;omega) (fun j hj=>by
      rw[hat] at hj;simp only[B9,Bool.or_eq_true,beq_iff_eq] at hj;rcases hj with rfl|hj
      · exact hik
      · exact hlt j hj) (fun {j o} hj ho d hdm=>by
      rw[hat] at hj ⊢;simp only[B9,Bool.or_eq_true,beq_iff_eq] at hj ⊢;right;rcases hj with rfl|hj
      · exact hdep o ho d hdm
      · exact hcl hj ho d hdm)
     refine⟨i::suf,?_,fun φ a w hr=>?_⟩
     · rw[IL,hpick];simp only;rw[h1];simp
     · have hoo:ops[i]? = some l[i]:=by rw[←Array.getElem?_toList,hops];exact hol
       unfold wpOps;simp only[hoo];have:=WH hst (c:=fun j=>listed.getD j false) (KC:=wpOps P ops Q suf) (Q:=Q) hops hd hcan hk hik hol hLi hlt hcl (hdep _ hol) hr (fun φ' a' w' hr'=>h2 φ' a' w' (by rw[hset];exact hr'));split
       · rename_i hw;rw[if_pos hw] at this;exact .inl this
       · rename_i hw;rw[if_neg hw] at this;exact this
   ·
    refine full (fuel+1) t listed acc hsz hc hlt fun j hj=>?_;have hb:=hd.tail (i:=j) (j:=i) (by omega) hil (by omega);exact Ow (l:=l) hd.deps (c:=fun j=>listed.getD j false) (fun {j o} h ho d hdm=>hcl h ho d hdm) i hol (hdep _ hol) hb
theorem Dk.drew (h:Dk P w0 φ σ a w):Dk P w0 φ σ a { w with drawn:=w.drawn+1 }:=by
 obtain⟨Fs,hm⟩:=h.mem;have hO:CO [] w { w with drawn:=w.drawn+1 }:=⟨rfl,rfl,rfl,Nat.le_refl _,fun _ _ _=>rfl⟩;have ht:Turn P w0 φ σ.slots w φ σ.slots { w with drawn:=w.drawn+1 }:=hm.turn (Fs':=Fs) hO (by simp) hm.flen hm.Flen hm.nd hm.ge (fun s x hx=>⟨x,hx,Later.refl x⟩) (fun _ _ h _=>h) (fun b hb=>.inr hb) (fun s x hd F h1 h2 h3=>.inl ⟨h1,h2,h3,by simp⟩);exact h.turn ht (x:=.any) (v:=undef) (.any _) none
theorem TH {tr:List Tr} {S0:List Ag}:∀ k,∃ n,SS tr S0 (fun _=>false) k=S0++List.replicate n .unborn
 | 0=>⟨0,by simp[SS]⟩
 | k+1=>by
   obtain⟨n,hn⟩:=TH (tr:=tr) (S0:=S0) k
   cases he:tr[k]? with
   | none=>exact⟨n,by rw[SS,he];exact hn⟩
   | some e=>exact⟨n+e.news.length,by rw[SS,he];simp only[hn,Bool.false_eq_true,if_false,ACY,List.replicate_append_replicate]⟩
theorem Dk.unborn (h:Dk P w0 φ σ a w) (n:Nat):∃ φ',Dk P w0 φ' ⟨σ.tmps,σ.slots++List.replicate n .unborn⟩ a w:=by
 obtain⟨Fs,hm⟩:=h.mem;have hrep:∀ k:Nat,(List.replicate k ([]:List Nat)).flatten=[]:=fun k=>by induction k with|zero=>rfl|succ k ih=>simp[List.replicate_succ,ih]
 have ht:Turn P w0 φ σ.slots w (φ++List.replicate n (none,0)) (σ.slots++List.replicate n .unborn) w:=by
  refine hm.turn (Fs':=Fs++List.replicate n []) (CO.refl [] w) (by simp) (by simp[hm.flen]) (by simp[hm.Flen]) (by rw[ACK,hrep,List.append_nil];exact hm.nd) (by rw[ACK,hrep,List.append_nil];exact hm.ge)
   (fun s x hx=>⟨x,by rw[zz4 (zz1.1 hx).1];exact hx,Later.refl x⟩) (fun s h hh _=>by rw[zz4 (zz1.1 hh).1];exact hh) ?_ ?_
  · rintro b ⟨s,x,c,h1,h2,h3⟩;by_cases hs:s<σ.slots.length
    · rw[zz4 hs] at h1;rw[zz4 (by rw[hm.flen];exact hs)] at h3;exact .inr ⟨s,x,c,h1,h2,h3⟩
    · rw[zz5 (by omega),List.getElem?_replicate] at h1;split at h1
      · cases h1;exact h2.elim
      · cases h1
  · intro s x hd F h1 h2 h3;by_cases hs:s<σ.slots.length
    · rw[zz4 hs] at h1;rw[zz4 (by rw[hm.flen];exact hs)] at h2;rw[zz4 (by rw[hm.Flen];exact hs)] at h3;exact .inl ⟨h1,h2,h3,by simp⟩
    · rw[zz5 (by omega),List.getElem?_replicate] at h1;rw[zz5 (by rw[hm.Flen];omega),List.getElem?_replicate] at h3;split at h1
      · cases h1
        split at h3
        · cases h3;exact .inr rfl
        · cases h3
      · cases h1
 exact⟨_,h.turn ht (x:=.any) (v:=undef) (.any _) none⟩
theorem PX (hst:w0.st=mo.st) (htc:mo.tc=false) {qn:Nat} {K:St→Prop} {Q:Exit→Act→World→Prop} (hok:Ka ops qn=true) (h:Bb P mo ops K (ops.toList.take qn) σ) (hr:Dk P w0 φ σ a w)
 (htail:∀ {φ:B6} {σ:St} {a:Act} {w:World},K σ→Dk P w0 φ σ a w→wpList P ops Q (ops.toList.drop qn) a w):∀ (m:Region.Mode) (t:Nat),wpOps P ops Q (Region.linearise m ops t) a w:=by
 have hd:=cJ hok;obtain⟨T0,S0⟩:=σ;have hql:(ops.toList.take qn).length=qn:=by rw[ACL];exact Nat.min_eq_left hd.le
 obtain⟨tr,h1,h2',h3⟩:=Vk htc h qn (Nat.le_of_eq hql.symm) (fun i o hi ho=>hd.quiet hi (by rw[ACi,if_pos hi] at ho;exact ho));have h2:U2 P mo ops ops.toList tr T0 S0:=⟨by rw[h1];exact hd.le,fun i o e ho he=>h2'.2 i o e (by rw[ACi,if_pos (by rw[←h1];exact (zz1.1 he).1)];exact ho) he⟩;rw[List.drop_of_length_le (Nat.le_of_eq hql)] at h3;intro m t
 have hgd:∀ j,(Array.replicate ops.size false).getD j false=false:=fun j=>by
  simp only[Array.getD_eq_getD_getElem?,Array.getElem?_replicate];split<;>rfl
 have hfun:(fun j=>(Array.replicate ops.size false).getD j false)=fun _=>false:=funext hgd
 obtain⟨suf,k1,k2⟩:=iI hst (m:=m) rfl hd h2 h1 (fun φ a w hr=>htail h3 hr) ops.size t (Array.replicate ops.size false) [] (by simp) (by
  rw[hfun];have:∀ n,Fa (fun _=>false) n=n:=fun n=>by induction n with|zero=>rfl|succ n ih=>unfold Fa;rw[ih];simp
  exact this _) (fun j hj=>by rw[hgd] at hj;cases hj) (fun {j o} hj _ _ _=>by rw[hgd] at hj;cases hj)
 have e:Region.linearise m ops t=suf:=by
  unfold Region.linearise;rw[k1];simp
 rw[e];obtain⟨n,e2⟩:=TH (tr:=tr) (S0:=S0) (qn);obtain⟨φ',hr'⟩:=Dk.unborn hr n;refine k2 φ' a _ ?_;rw[hfun];have e1:TT tr T0 (fun _=>false) (qn)=T0:=KA (i:=0) _ (Nat.zero_le _) fun _ _ _=>rfl;rw[e1,e2];exact hr'
theorem Xe (hst:w0.st=mo.st) (htc:mo.tc=false) {id qn:Nat} {K:St→Prop} {Q:Exit→Act→World→Prop} (hok:Ka ops qn=true) (h:Bb P mo ops K (ops.toList.take qn) σ) (hr:Dk P w0 φ σ a w)
 (htail:∀ {φ:B6} {σ:St} {a:Act} {w:World},K σ→Dk P w0 φ σ a w→wpList P ops Q (ops.toList.drop qn) a w):(Code.region id ops true).wp P Q a w:=by
 refine wp_region_draw fun t=>?_;unfold Region.schedule;split
 · exact PX hst htc hok h hr.drew htail _ _
 · exact PX hst htc hok h hr.drew htail _ _
end
end Go.Proofs.Ytnjedabjbeipeaa
