/-
  Abstract walks: what code gives from an abstract state; and that the model's code gives just that. Plain lemmas, about no function of the program.
  Conditions: those typed in each theorem.
-/
import Derived.Test.YtnjedabjbeipeaaGreatV2
namespace Go.Proofs.YtnjedabjbeipeaaGreat
open Go.RowKit Go.ChangeShapes Go.WideShapes
set_option linter.unusedSimpArgs false
set_option linter.unusedVariables false
set_option maxRecDepth 100000
set_option maxHeartbeats 10000000
def Uj (π:List Nat) (x:V):Option V :=
 match x with
 | .ref k=>(π[k]?).map .ref
 | .lit k n=>(π[k]?).map (.lit · n)
 | .ptr k o=>(π[k]?).map (.ptr · o)
 | .eptr k n i j=>(π[k]?).map (.eptr · n i j)
 | .nil t=>some (.nil t)
 | .d x=>some (.d x)
 | .cptr ds=>some (.cptr ds)
 | .any=>some .any
 | .nilp=>some .nilp
 | _=>none
def LP (π:List Nat):List V→Option (List V)
 | []=>some []
 | x::xs=>match Uj π x,LP π xs with
   | some y,some ys=>some (y::ys)
   | _,_=>none
def tY (π:List Nat) (x:V):Option V :=
 match x with
 | .agg xs=>(LP π xs).map .agg
 | .fn f xs=>(LP π xs).map (.fn f)
 | x=>Uj π x
def ZW (π:List Nat):List V→Option (List V)
 | []=>some []
 | x::xs=>match tY π x,ZW π xs with
   | some y,some ys=>some (y::ys)
   | _,_=>none
def bL (π:List Nat) (x:V):Option V :=
 match x with
 | .tup xs=>(ZW π xs).map .tup
 | x=>tY π x
def Tk (π:List Nat) (x:Ah):Option Ah :=
 match x with
 | .arr t ow es=>some (.arr t ow es)
 | .var t xs=>(LP π xs).map (.var t)
 | .blk k=>some (.blk k)
 | .dead=>some .dead
 | .unborn=>none
def Mc (π:List Nat):List Ah→Option (List Ah)
 | []=>some []
 | x::xs=>match Tk π x,Mc π xs with
   | some y,some ys=>some (y::ys)
   | _,_=>none
def pL (st:Bool) (sl:List Ah) (π:List Nat) (x y:V):Prop :=
 y=.any∨Uj π y=some x∨∃ d,y=.d d∧st=false∧GY sl x=some d∧∀ s,x=.ref s→s∉π
def Uo (st:Bool) (sl:List Ah) (π:List Nat):List V→List V→Prop
 | [],[]=>True
 | x::xs,y::ys=>pL st sl π x y∧Uo st sl π xs ys
 | _,_=>False
def nH (st:Bool) (sl:List Ah) (π:List Nat) (x y:V):Prop :=
 match y with
 | .agg ys=>∃ xs,x=.agg xs∧Uo st sl π xs ys
 | .fn f ys=>∃ xs,x=.fn f xs∧Uo st sl π xs ys
 | y=>pL st sl π x y
def HA (st:Bool) (sl:List Ah) (π:List Nat):List V→List V→Prop
 | [],[]=>True
 | x::xs,y::ys=>nH st sl π x y∧HA st sl π xs ys
 | _,_=>False
def leT (st:Bool) (sl:List Ah) (π:List Nat) (x y:V):Prop :=
 match y with
 | .tup ys=>∃ xs,x=.tup xs∧HA st sl π xs ys
 | y=>nH st sl π x y
def nM (st:Bool) (sl:List Ah) (π:List Nat) (x y:Ah):Prop :=
 match y with
 | .dead=>True
 | .unborn=>False
 | .arr t ow es=>x=.arr t ow es∨(ow=false∧st=false∧x=.arr t true es)
 | .var t ys=>∃ xs,x=.var t xs∧Uo st sl π xs ys
 | .blk k=>x=.blk k∨st=false∧∃ t n es,k=.que t n es∧x=.arr t true es∧es≠[]∧(∀ c∈es,c.length=n∧∀ d∈c,AL d=true)
def EA (st:Bool) (sl:List Ah) (π:List Nat):List Nat→List Ah→Prop
 | [],[]=>True
 | k::ks,y::ys=>(∃ x,sl[k]? = some x∧nM st sl π x y)∧EA st sl π ks ys
 | _,_=>False
def NV:Nat→List Nat→Nat→Bool
 | 0,_,_=>true
 | n+1,k::ks,i=>k==i&&NV n ks (i+1)
 | _+1,[],_=>false
structure Mode where
 pin:Nat
 st:Bool
 tc:Bool
 dr:Bool
def Le (m:Mode) (σ σ':St):Prop:=∃ π:List Nat,π.Nodup∧NV m.pin π 0=true∧EA m.st σ.slots π π σ'.slots∧HA m.st σ.slots π σ.tmps σ'.tmps
def Bi:List Ah→List Ah→Prop
 | [],_=>True
 | x::xs,y::ys=>Later x y∧Bi xs ys
 | _::_,[]=>False
def CG (P:Program) (f:FuncId) (xs:List V) (sl:List Ah) (r:V) (sl':List Ah):Prop :=
 DH P f=true∧Bi sl sl'∧∀ (w:World) (φ:Cu) (Fs:List (List Nat)) (R:Nat→Prop) (hR:false=false→∀ b,(b∈Fs.flatten∨w.heap.size≤b)→R b) (vs:List Value),
  Cn P ⟨w,top φ sl,(·∈Fs.flatten),φ,R,false,hR⟩ φ sl w Fs→vs.length=xs.length→(∀ (i:Nat) (x:V) (v:Value),xs[i]? = some x→vs[i]? = some v→VR w (good R φ sl w) φ sl x v) →
  Calls P f vs.toArray w fun e w'=>∃ v φ' Fs',e=.returned v∧Cn P ⟨w,top φ sl,(·∈Fs.flatten),φ,R,false,hR⟩ φ' sl' w' Fs'∧VR w' (good R φ' sl' w') φ' sl' r v
def JV (sl:List Ah) (ks:List Nat) (x:V):V :=
 match x with
 | .ref s=>if s∈ks then match sl[s]? with
   | some (.arr t _ es)=>.d (.sl t es)
   | _=>.ref s
   else .ref s
 | x=>x
def KV (sl:List Ah) (ks:List Nat) (x:V):V :=
 match x with
 | .agg xs=>.agg (xs.map (JV sl ks))
 | .fn f xs=>.fn f (xs.map (JV sl ks))
 | x=>JV sl ks x
def Je (sl:List Ah):List Nat→Prop
 | []=>True
 | k::ks=>(∃ t ow es,sl[k]? = some (.arr t ow es))∧Je sl ks
def BW {α:Type}:List α→List Nat→List α→List α
 | sl,k::ks,y::ys=>BW (sl.set k y) ks ys
 | sl,_,_=>sl
def dS (sl:List Ah) (π:List Nat) (r:V) (slc':List Ah) (K:V→List Ah→Prop):Prop :=
 ∃ r' ys,bL (π++List.range' sl.length (slc'.length - π.length)) r=some r'∧Mc (π++List.range' sl.length (slc'.length - π.length)) slc'=some ys∧K r' (BW sl π (ys.take π.length)++ys.drop π.length)
def BN:List Ah→Prop
 | []=>True
 | x::xs=>x.live∧BN xs
def YT (P:Program) (m:Mode) (sl:List Ah) (f:FuncId) (xs:List V) (K:V→List Ah→Prop):Prop :=
 m.tc=true∧m.st=false∧∃ (ks π:List Nat) (args:List V) (slc:List Ah) (r:V) (slc':List Ah),
  CG P f args slc r slc'∧BN slc∧ks.Nodup∧Je sl ks∧π.Nodup∧EA true (kill ks sl) π π slc∧HA true (kill ks sl) π (xs.map (KV sl ks)) args∧dS (kill ks sl) π r slc' K
def HZ (sl:List Ah) (v:V):Option (X×List Nat) :=
 match v with
 | .agg vs=>(CK sl vs).map fun p=>(.agg p.1,p.2)
 | v=>match CK sl [v] with
   | some ([x],ks)=>some (.d x,ks)
   | _=>none
def M2 (sl:List Ah):List V→Option (List X×List Nat)
 | []=>some ([],[])
 | v::vs=>match HZ sl v,M2 sl vs with
   | some (x,k),some (xs,ks)=>if k.all (fun q=>!ks.contains q)=true then some (x::xs,k++ks) else none
   | _,_=>none
def Ex.Apart (w0:Ex):Prop:=(∀ b,w0.R b→b<w0.w.heap.size∧¬ w0.B b)∧∀ b,w0.B b→w0.T b
theorem Ex.Apart.no {w0:Ex} (h:w0.Apart) {b:Nat} (hb:w0.B b∨w0.w.heap.size≤b) (hr:w0.R b):False:=by
 obtain⟨h1,h2⟩:=h.1 b hr;rcases hb with hb|hb
 · exact h2 hb
 · omega
theorem Ex.Apart.old {w0:Ex} (h:w0.Apart) {b:Nat} (hb:w0.B b∨w0.w.heap.size≤b):w0.T b∨w0.w.heap.size≤b:=hb.imp_left (h.2 b)
def fO (P:Program) (m:Mode) (sl:List Ah) (f:FuncId) (xs:List V) (K:V→List Ah→Prop):Prop :=
 m.tc=true∧m.st=true∧False
def PH (P:Program) (t:TypeId) (sl:List Ah) (s:Nat) (lo hi:Option Operand) (l h:Option Nat):Option (V×List Ah) :=
 match BP P t,sl[s]?,l,h with
 | some e,some (.arr t' ow es),some l,some h =>
   if (P.underlying e).isSome=true∧l≤h∧h≤es.length∧(es.all fun c=>c.length==P.cellsOf e)=true then
    match lo with
    | none=>some (.ref sl.length,kill [s] sl++[.arr t' ow (es.take h)])
    | some _=>some (.d (.sl t' ((es.take h).drop l)),kill [s] sl)
   else none
 | some e,some (.blk (.que t' n es)),some l,some h=>if (P.underlying e).isSome=true∧n=P.cellsOf e∧l≤h∧h=es.length then some (.ref sl.length,kill [s] sl++[.blk (.que t' n (es.drop l))]) else none
 | _,_,_,_=>none
def nO (P:Program) (m:Mode) (sl:List Ah) (t:TypeId) (x y:V) (K:V→List Ah→Prop):Prop:=IE P m.st sl t x y K∨(m.tc=true∧m.st=false∧(wC P sl t x y K∨xD P sl t x y K))
def Vj (P:Program) (m:Mode) (o:Oper) (K:St→Prop) (σ:St):Prop :=
 match o.op with
 | .store t p y=>∃ sl',Ib P m.st t σ.slots (σ.eval p) (evalT P t σ y)=some sl'∧K (St.put ⟨σ.tmps,sl'⟩ o.dst .any)
 | .mapUpdate t x k y=>m.tc=true∧∃ s es ky v,Ja σ.slots (σ.eval x)=some (s,t,es)∧OA (σ.eval k)=some ky∧Zz (σ.eval y)=some v∧FO P t ky∧K (St.put ⟨σ.tmps,σ.slots.set s (.blk (.mp t (GT es ky v)))⟩ o.dst .any)
 | .call c=>match c.callee with
   | .builtin .append=>match c.args.toList,c.argTypes.toList with
     | [x,y],[t,t']=>t'=t∧nO P m σ.slots t (evalT P t σ x) (evalT P t σ y) fun z sl'=>K (St.put ⟨σ.tmps,sl'⟩ o.dst z)
     | _,_=>False
   | .value v=>(∃ x news,AQ P m.st σ.slots.length σ o x news∧K (St.put ⟨σ.tmps,σ.slots++news⟩ o.dst x)) ∨
      (match σ.eval v with
        | .fn f caps=>YT P m σ.slots f (c.args.toList.map σ.eval++caps) (fun z sl'=>K (St.put ⟨σ.tmps,sl'⟩ o.dst z))∨fO P m σ.slots f (c.args.toList.map σ.eval++caps) fun z sl'=>K (St.put ⟨σ.tmps,sl'⟩ o.dst z)
        | _=>False)
   | _=>∃ x news,AQ P m.st σ.slots.length σ o x news∧K (St.put ⟨σ.tmps,σ.slots++news⟩ o.dst x)
 | .slice t x lo hi none=>match σ.eval x with
   | .ref s=>m.tc=true∧m.st=false∧∃ n z sl',Ke σ.slots (.ref s)=some n∧PH P t σ.slots s lo hi (Dn σ lo 0) (Dn σ hi n)=some (z,sl')∧K (St.put ⟨σ.tmps,sl'⟩ o.dst z)
   | _=>∃ x news,AQ P m.st σ.slots.length σ o x news∧K (St.put ⟨σ.tmps,σ.slots++news⟩ o.dst x)
 | .buildSlice t len ps=>match JE P (m.tc&&!m.st) σ.slots t len (ps.toList.map fun p=>(p.1,σ.eval p.2)) with
   | some (y,ks)=>K (St.put ⟨σ.tmps,kill ks σ.slots++[y]⟩ o.dst (.ref σ.slots.length))
   | none=>∃ x news,AQ P m.st σ.slots.length σ o x news∧K (St.put ⟨σ.tmps,σ.slots++news⟩ o.dst x)
 | _=>∃ x news,AQ P m.st σ.slots.length σ o x news∧K (St.put ⟨σ.tmps,σ.slots++news⟩ o.dst x)
def Bh (P:Program) (m:Mode) (ops:Array Oper) (K:St→Prop):List Oper→St→Prop
 | [],σ=>K σ
 | o::rest,σ=>match o.guard with
   | none=>Vj P m o (Bh P m ops K rest) σ
   | some (j,b)=>match (ops[j]?).bind (·.dst) with
     | none=>False
     | some d=>match σ.get d with
       | .d (.bool t)=>(t=b→Vj P m o (Bh P m ops K rest) (σ.put (some d) (.d (.bool b))))∧(t=!b→Bh P m ops K rest ((σ.put (some d) (.d (.bool (!b)))).put o.dst (.tup [])))
       | .tup []=>Bh P m ops K rest (σ.put o.dst (.tup []))
       | _=>False
def GH (K:St→Prop) (Q:Exit→St→Prop):Exit→St→Prop
 | .normal,σ=>K σ
 | e,σ=>Q e σ
def Hr (id:Nat) (Q:Exit→St→Prop):Exit→St→Prop
 | .exit id',σ=>if id'=id then Q .normal σ else Q (.exit id') σ
 | e,σ=>Q e σ
def DY (o:Oper):Bool :=
 match o.op with
 | .store ..=>false
 | .mapUpdate ..=>false
 | .call c=>match c.callee with
   | .builtin .append=>false
   | _=>true
 | _=>true
def Hn (o:Oper):List Nat:=o.op.operands.toList.filterMap fun | .tmp t=>some t|_=>none
def E4 (e:Edge):Bool :=
 match e.ground with
 | .textOnly _ | .gcOnly _=>false
 | _=>true
def Md (e:Edge):Bool :=
 match e.ground with
 | .textOnly _=>true
 | _=>false
def CL (o:Oper):List Nat:=(o.after.toList.filter E4).map (·.on)
def YI (l:List Oper):Nat→Nat→Nat→Bool
 | 0,_,_=>false
 | n+1,j,i=>match l[i]? with
   | some q=>q.after.toList.all fun e=>Md e||decide (e.on<j)||YI l n j e.on
   | none=>false
def Yu (l:List Oper) (j:Nat) (e:Edge):Bool:=decide (e.on<j)||(!Md e&&YI l 4 j e.on)
def Nu (bm:List Nat) (o:Oper):Nat:=(CL o).foldl (fun s d=>s ||| 2 ^ d ||| bm.getD d 0) 0
def BD (l:List Oper):List Nat:=l.foldl (fun bm o=>bm++[Nu bm o]) []
def clash (oi oj:Oper):Bool :=
 match oi.dst,oj.dst with
 | some a,some b=>a==b||(Hn oj).contains a||(Hn oi).contains b
 | some a,none=>(Hn oj).contains a
 | none,some b=>(Hn oi).contains b
 | none,none=>false
def KH (l:List Oper):Bool:=l.zipIdx.all fun (o,j)=>o.after.toList.all fun e=>if E4 e then decide (e.on<j) else Yu l j e
def Kn (l:List Oper):Bool:=l.zipIdx.all fun (oj,j)=>(l.take j).zipIdx.all fun (oi,i)=>!clash oi oj||(CL oj).contains i
def Kp (l:List Oper):Bool:=l.zipIdx.all fun (o,j) =>
 match o.guard with
 | none=>true
 | some (g,_)=>decide (g<j)&&(CL o).contains g&&(l.zipIdx.all fun (o2,i)=>match l[g]? with
   | some og=>decide (i=g)||og.dst.isNone||!(o2.dst==og.dst)
   | none=>false)
def GA (l:List Oper):Nat:=(l.takeWhile DY).length
def iY (l:List Oper):Bool:=(BD l).zipIdx.all fun (b,j)=>decide (j<GA l)||(List.range j).all fun i=>b.testBit i
def TP (ops:Array Oper):Bool:=KH ops.toList&&Kn ops.toList&&Kp ops.toList&&iY ops.toList
def JZ (ops:Array Oper) (q:Nat):Bool:=KH ops.toList&&Kn ops.toList&&Kp ops.toList&&((BD ops.toList).zipIdx.all fun (b,j)=>decide (j<q)||(List.range j).all fun i=>b.testBit i)&&decide (q≤ops.toList.length)&&(ops.toList.take q).all DY
def Mode.still (m:Mode):Mode:={ m with tc:=false }
def AU (x:V):List Nat :=
 match x with
 | .ref s | .lit s _ | .ptr s _ | .eptr s _ _ _=>[s]
 | _=>[]
def Eg (x:V):List Nat :=
 match x with
 | .agg xs=>xs.flatMap AU
 | x=>AU x
def D6 (x:V):List Nat :=
 match x with
 | .fn _ xs=>xs.flatMap Eg
 | x=>Eg x
def HM (ts:List (Nat×List Nat)) (i:Nat):Bool:=ts.any fun p=>p.1==i
def NS (ts:List (Nat×List Nat)) (i:Nat):Bool:=ts.any fun p=>p.2.contains i
def J1 (ts:List (Nat×List Nat)):Nat→List Oper→List (Nat×Oper)
 | _,[]=>[]
 | i,o::l=>if HM ts i=true then J1 ts (i+1) l else (i,o)::J1 ts (i+1) l
def K4 (l:List Oper):List (Nat×List Nat)→List (Oper×List Nat)
 | []=>[]
 | (t,ns)::ts=>match l[t]? with
   | some o=>(o,ns)::K4 l ts
   | none=>[]
def Gu (o:Oper) (σ:St):List Nat :=
 match o.op with
 | .move _=>[]
 | op=>op.operands.toList.flatMap fun x=>D6 (σ.eval x)
def T9 (sl sl':List Ah):List Nat→Prop
 | []=>True
 | s::ss=>sl'[s]? = sl[s]?∧T9 sl sl' ss
def Fm (sl sl':List Ah) (ns:List Nat):List (Nat×List Nat)→Prop
 | []=>True
 | (i,ss)::N=>(if ns.contains i=true then T9 sl sl' ss else True)∧Fm sl sl' ns N
def JS (P:Program) (m:Mode) (ops:Array Oper) (ts:List (Nat×List Nat)) (K:List (Nat×List Nat)→St→Prop):List (Nat×Oper)→List (Nat×List Nat)→St→Prop
 | [],N,σ=>K N σ
 | (i,o)::rest,N,σ=>Bh P m ops (JS P m ops ts K rest (if NS ts i=true then (i,Gu o σ)::N else N)) [o] σ
def A9 (sl:List Ah) (xs:List V) (k:Nat):Prop:=k∈xs.flatMap D6∨∃ s∈xs.flatMap D6,∃ (t:TypeId) (cells:List V),sl[s]? = some (.var t cells)∧k∈cells.flatMap AU
def iV (v:Operand):Bool :=
 match v with
 | .func _=>true
 | .tmp _=>true
 | _=>false
def HV (o:Oper):Bool :=
 match o.op with
 | .call c=>match c.callee with
   | .value v=>iV v&&o.guard.isNone
   | _=>false
 | _=>false
def Sc (P:Program) (m:Mode) (o:Oper) (σ:St) (z:V) (r:List Ah):Prop :=
 m.st=false∧∃ (v:Operand) (f:FuncId) (caps:List V) (c:Call),o.op=.call c∧c.callee=.value v∧σ.eval v=.fn f caps ∧
  ∃ (ks π:List Nat) (args:List V) (slc:List Ah) (q:V) (slc':List Ah),CG P f args slc q slc'∧BN slc∧ks.Nodup∧Je σ.slots ks∧π.Nodup∧EA true (kill ks σ.slots) π π slc ∧
    HA true (kill ks σ.slots) π ((c.args.toList.map σ.eval++caps).map (KV σ.slots ks)) args∧(∀ k∈ks++π,A9 σ.slots (.fn f caps::c.args.toList.map σ.eval) k)∧dS (kill ks σ.slots) π q slc' fun z' r'=>z'=z∧r'=r
def Gb (P:Program) (m:Mode) (ops:Array Oper) (N:List (Nat×List Nat)) (sl0:List Ah) (K:St→Prop):List (Oper×List Nat)→St→Prop
 | [],σ=>K σ
 | (o,ns)::rest,σ=>if HV o=true then ∃ z r,Sc P m o σ z r∧Fm sl0 r ns N∧Gb P m ops N sl0 K rest (St.put ⟨σ.tmps,r⟩ o.dst z)
   else Bh P m ops (fun σ'=>Fm sl0 σ'.slots ns N∧Gb P m ops N sl0 K rest σ') [o] σ
def U1 (bm:List Nat):List (Nat×List Nat)→Bool
 | []=>true
 | p::ts=>(ts.all fun q=>decide (p.1<q.1)&&(bm.getD q.1 0).testBit p.1)&&U1 bm ts
def Mh (ops:Array Oper) (ts:List (Nat×List Nat)):Bool:=KH ops.toList&&Kn ops.toList&&Kp ops.toList&&(ops.toList.zipIdx.all fun (o,i)=>HM ts i||(DY o&&(CL o).all fun d=>!HM ts d))&&(ts.all fun p=>decide (p.1<ops.toList.length)) &&
 U1 (BD ops.toList) ts&&(ts.all fun p=>(List.range ops.toList.length).all fun i=>HM ts i||((BD ops.toList).getD p.1 0).testBit i||p.2.contains i)
def MV (bm:List Nat) (ts:List (Nat×List Nat)) (p:Nat×List Nat):Bool:=ts.all fun q=>!((bm.getD p.1 0).testBit q.1)
def N5 (P:Program) (m:Mode) (ops:Array Oper) (N:List (Nat×List Nat)) (sl0:List Ah) (K:St→Prop):Nat→List (Nat×List Nat)→St→Prop
 | 0,_,σ=>K σ
 | n+1,ts,σ=>∀ p∈ts,MV (BD ops.toList) ts p=true→Gb P m ops N sl0 (N5 P m ops N sl0 K n (ts.erase p)) (K4 ops.toList [p]) σ
def O5 (ops:Array Oper) (ts:List (Nat×List Nat)):Bool:=KH ops.toList&&Kn ops.toList&&Kp ops.toList&&(ops.toList.zipIdx.all fun (o,i)=>HM ts i||(DY o&&(CL o).all fun d=>!HM ts d))&&(ts.all fun p=>decide (p.1<ops.toList.length)) &&
 decide (ts.map (·.1)).Nodup&&(ts.all fun p=>(List.range ops.toList.length).all fun i=>HM ts i||((BD ops.toList).getD p.1 0).testBit i||p.2.contains i)
def oC (P:Program) (m:Mode) (ops:Array Oper) (Q:Exit→St→Prop) (σ:St):Prop :=
 ∃ ts,Mh ops ts=true∧JS P m.still ops ts (fun N σ'=>Gb P m.still ops N σ'.slots (Q .normal) (K4 ops.toList ts) σ') (J1 ts 0 ops.toList) [] σ
def nV (P:Program) (m:Mode) (ops:Array Oper) (Q:Exit→St→Prop) (σ:St):Prop :=
 ∃ ts,O5 ops ts=true∧JS P m.still ops ts (fun N σ'=>N5 P m.still ops N σ'.slots (Q .normal) ts.length ts σ') (J1 ts 0 ops.toList) [] σ
def Pm (P:Program) (m:Mode) (ops:Array Oper) (Q:Exit→St→Prop) (σ:St):Prop :=
 (∃ q,JZ ops q=true∧Bh P m.still ops (Bh P m ops (Q .normal) (ops.toList.drop q)) (ops.toList.take q) σ)∨oC P m ops Q σ∨nV P m ops Q σ
def MY (q:Nat) (e:Edge):Edge:=⟨e.on - q,e.ground⟩
def lD (q:Nat) (af:Array Edge):Array Edge:=(af.filter fun e=>decide (q≤e.on)).map (MY q)
def TX (q:Nat) (o:Oper):Oper:=⟨o.dst,o.op,o.type,o.pos,lD q o.after,o.guard.map fun p=>(p.1 - q,p.2)⟩
def GB (q:Nat) (ops:Array Oper):Array Oper:=ops.extract 0 q
def Gg (q:Nat) (ops:Array Oper):Array Oper:=((ops.toList.drop q).map (TX q)).toArray
def UR (ops:Array Oper) (q:Nat):Bool:=KH ops.toList&&Kn ops.toList&&Kp ops.toList&&decide (q≤ops.size) &&
 ((ops.toList.take q).all fun o=>o.after.toList.all fun e=>decide (e.on<q)) &&
 ((BD ops.toList).zipIdx.all fun (b,j)=>decide (j<q)||(List.range q).all fun i=>b.testBit i) &&
 ((ops.toList.drop q).all fun o=>match o.guard with|none=>true|some (j,_)=>decide (q≤j))
def Nm (m:Region.Mode) (ops:Array Oper) (listed:Array Bool) (i:Nat):Bool :=
 !listed.getD i true&&((ops[i]?).map (·.after.all fun e=>!Region.binds m e||listed.getD e.on false)).getD false
def MZ (m:Region.Mode) (ops:Array Oper):Nat→Array Bool→List (List Nat)
 | 0,_=>[[]]
 | f+1,listed=>if ((List.range ops.size).filter (Nm m ops listed)).isEmpty=true then [[]] else ((List.range ops.size).filter (Nm m ops listed)).flatMap fun i=>(MZ m ops f (listed.setIfInBounds i true)).map (i::·)
def bumpOrders:List (List Nat):=[[0,1,2,3,4],[0,2,1,3,4],[0,2,3,1,4],[2,0,1,3,4],[2,0,3,1,4],[2,3,0,1,4]]
def Ym (ops:Array Oper):Bool:=[Region.Mode.text,.gc,.any].all fun m=>(MZ m ops ops.size (Array.replicate ops.size false)).all fun l=>bumpOrders.contains l
def MU (o:Oper):Option Nat×Op×Option (Nat×Bool):=(o.dst,o.op,o.guard)
def forget (T:List V) (d0 d1 d2 d3:Nat):List V:=(((T.set d0 .any).set d1 .any).set d2 .any).set d3 .any
def nZ (P:Program) (m:Mode) (ops:Array Oper) (Q:Exit→St→Prop) (σ:St):Prop :=
 m.tc=true∧Ym ops=true∧∃ (d0 d1 d2 d3:Nat) (t ty:TypeId) (x y:Operand) (neg:Bool) (s0:TypeId) (s:Nat) (es:List (Ky×Vl)) (ky:Ky) (v:Int),
  ops.toList.map MU=[(some d0,.lookup t x y false,none),(some d1,.binOp (if neg=true then .sub else .add) ty (.tmp d0) (.const (.int .i64 1)) s0,none),(some d2,.mapEntry t x y,none),(some d3,.extract (.tmp d2) 1,none),(none,.entryStore t x (.tmp d3) (.tmp d1),none)] ∧
  [d0,d1,d2,d3].Nodup∧(∀ d∈[d0,d1,d2,d3],d<σ.tmps.length∧x≠.tmp d∧y≠.tmp d)∧Ja σ.slots (σ.eval x)=some (s,t,es)∧OA (σ.eval y)=some ky∧Kj P t=some (0,none)∧FO P t ky∧(Fr es ky).getD (0,none)=(v,none) ∧
  Q .normal ⟨forget σ.tmps d0 d1 d2 d3,σ.slots.set s (.blk (.mp t (GT es ky (IntKind.i64.wrap (if neg=true then v - 1 else v+1),none))))⟩
def Jm:List Nat→List Nat→Bool
 | done,[]=>done.contains 7
 | done,i::l=>!done.contains 7&&(match i with
    | 0=>true
    | 1=>true
    | 2=>done.contains 1
    | 3=>done.contains 0&&done.contains 2
    | 4=>true
    | 5=>true
    | 6=>done.contains 4&&done.contains 5
    | 7=>done.contains 3&&done.contains 6
    | _=>false)&&Jm (i::done) l
def YS (ops:Array Oper):Bool:=[Region.Mode.text,.gc,.any].all fun m=>(MZ m ops ops.size (Array.replicate ops.size false)).all fun l=>Jm [] l
def forgetL (T:List V) (ds:List Nat):List V:=ds.foldl (fun T d=>T.set d .any) T
def Jh (es:List (List D)) (at':Nat):List (List D):=es.take (at'+1)++(es.drop at').take (es.length - at' - 1)
def dO (P:Program) (m:Mode) (ops:Array Oper) (Q:Exit→St→Prop) (σ:St):Prop :=
 m.tc=true∧YS ops=true∧∃ (dA dB dC dD dE dF dG dH:Nat) (t ti tj:TypeId) (x y:Operand) (k:Nat) (e:TypeId) (es:List (List D)) (at':Nat),
  ops.toList.map MU=[(some dA,.move x,none),(some dB,.move y,none),(some dC,.binOp .add ti (.tmp dB) (.const (.int .i64 1)) tj,none),(some dD,.slice t (.tmp dA) (some (.tmp dC)) none none,none),(some dE,.move x,none),(some dF,.move y,none),
   (some dG,.slice t (.tmp dE) (some (.tmp dF)) none none,none),(some dH,.call { callee:=.builtin .copy,args:=#[.tmp dD,.tmp dG],argTypes:=#[t,t] },none)] ∧
  [dA,dB,dC,dD,dE,dF,dG,dH].Nodup∧(∀ d∈[dA,dB,dC,dD,dE,dF,dG,dH],d<σ.tmps.length∧x≠.tmp d∧y≠.tmp d)∧σ.eval x=.ref k∧σ.slots[k]? = some (.arr e false es)∧BP P t=some e∧(P.underlying e).isSome=true∧P.cellsOf e=1∧(P.info? e).map (·.size)=some 1 ∧
  σ.eval y=.d (.int .i64 at')∧at'<es.length ∧
  Q .normal ⟨forgetL σ.tmps [dA,dB,dC,dD,dE,dF,dG,dH],σ.slots.set k (.arr e false (Jh es at'))⟩
def SO (P:Program) (m:Mode) (ops:Array Oper) (Q:Exit→St→Prop) (σ:St):Prop :=
 Pm P m ops Q σ∨(∃ q,UR ops q=true∧Pm P m (GB q ops) (fun e σ1=>e=.normal∧Pm P m (Gg q ops) Q σ1) σ)∨(∃ q,UR ops q=true∧Pm P m (GB q ops) (fun e σ1=>e=.normal∧nZ P m (Gg q ops) Q σ1) σ)∨dO P m ops Q σ
def Ii (P:Program) (m:Mode):Code→(Exit→St→Prop)→St→Prop
 | .skip,Q,σ=>Q .normal σ
 | .region _ ops draw,Q,σ=>if draw=true then (if m.dr=true then SO P m ops Q σ else TP ops=true∧Bh P m.still ops (Q .normal) ops.toList σ) else Bh P m ops (Q .normal) ops.toList σ
 | .seq a b,Q,σ=>Ii P m a (GH (Ii P m b Q) Q) σ
 | .cond c x y,Q,σ=>match σ.eval c with
   | .d (.bool t)=>(t=true→Ii P m x Q σ)∧(t=false→Ii P m y Q σ)
   | _=>False
 | .block id c,Q,σ=>Ii P m c (Hr id Q) σ
 | .loop c,Q,σ=>∃ (ι:Type) (I:ι→Prop) (S:ι→St) (μ:ι→Nat) (i0:ι),I i0∧Le m σ (S i0)∧∀ i,I i→Ii P m c (GH (fun σ'=>∃ j,I j∧μ j<μ i∧Le m σ' (S j)) Q) (S i)
 | .exit id,Q,σ=>Q (.exit id) σ
 | .ret,Q,σ=>Q .ret σ
 | _,_,_=>False
section
variable {P:Program} {w0:Ex} {st:Bool} {w w':World} {φ φ':Cu} {σ σ':St} {a:Act} {sl sl':List Ah} {Fs Fs':List (List Nat)}
def HX (sl sl':List Ah) (ns:List Nat):Prop:=∀ s∈ns,∀ y,sl[s]? = some y→sl'[s]? = some y
theorem R6 {x:V} {n:Nat} (h:Ke sl x=some n) (hk:HX sl sl' (AU x)):Ke sl' x=some n:=by
 unfold Ke at h ⊢;split at h
 · exact h
 · exact h
 · split at h
   · rename_i hs;rw[hk _ (by simp[AU]) _ hs];exact h
   · cases h
 · split at h
   · rename_i hs;rw[hk _ (by simp[AU]) _ hs];exact h
   · rename_i hs;rw[hk _ (by simp[AU]) _ hs];exact h
   · cases h
 · cases h
theorem Wf {t:TypeId} {x y:V} {i:Int} (h:Kh P t sl x i=some y) (hk:HX sl sl' (AU x)):Kh P t sl' x i=some y:=by
 unfold Kh at h ⊢;split at h
 · cases h
 split at h
 · cases h
 rename_i hi;rw[if_neg hi];split at h
 · exact h
 · split at h
   · rename_i hs;rw[hk _ (by simp[AU]) _ hs];exact h
   · rename_i hs;rw[hk _ (by simp[AU]) _ hs];exact h
   · cases h
 · split at h
   · rename_i hs;rw[hk _ (by simp[AU]) _ hs];exact h
   · cases h
 · cases h
theorem Xv {t:TypeId} {x y:V} (h:H0 P st t sl x=some y) (hk:HX sl sl' (AU x)):H0 P st t sl' x=some y:=by
 unfold H0 at h ⊢;split at h
 · cases h
 rename_i hi;rw[if_neg hi];split at h
 · exact h
 · split at h
   · rename_i hs;rw[hk _ (by simp[AU]) _ hs];exact h
   · cases h
 · split at h
   · rename_i hs;rw[hk _ (by simp[AU]) _ hs];exact h
   · rename_i hs;rw[hk _ (by simp[AU]) _ hs];exact h
   · cases h
 · cases h
theorem Oq {t:TypeId} {x y:V} {f:Nat} (h:CZ P t sl x f=some y) (hk:HX sl sl' (AU x)):CZ P t sl' x f=some y:=by
 unfold CZ at h ⊢;split at h
 · cases h
 split at h
 · cases h
 rename_i hi;rw[if_neg hi];split at h
 · exact h
 · split at h
   · rename_i hs;rw[hk _ (by simp[AU]) _ hs];exact h
   · cases h
 · split at h
   · rename_i hs;rw[hk _ (by simp[AU]) _ hs];exact h
   · cases h
 · cases h
theorem Pb {x:V} {d:D} (h:GY sl x=some d) (hk:HX sl sl' (AU x)):GY sl' x=some d:=by
 unfold GY at h ⊢;split at h
 · exact h
 · exact h
 · split at h
   · rename_i hs;rw[hk _ (by simp[AU]) _ hs];exact h
   · cases h
 · cases h
theorem Om:∀ {xs:List V} {ds:List D},IU sl xs=some ds→HX sl sl' (xs.flatMap AU)→IU sl' xs=some ds
 | [],ds,h,_=>h
 | x::xs,ds,h,hk=>by
   unfold IU at h ⊢;split at h
   · rename_i d ds' h1 h2;rw[Pb h1 (fun s hs=>hk s (by simp[hs])),Om h2 (fun s hs=>hk s (by simp only[List.flatMap_cons,ACB];exact .inr hs))];exact h
   · cases h
theorem bX {x:V} {r:X} (h:Q9 sl x=some r) (hk:HX sl sl' (Eg x)):Q9 sl' x=some r:=by
 unfold Q9 at h ⊢;split at h
 · rw[Option.map_eq_some_iff] at h;obtain⟨ds,h1,rfl⟩:=h;rw[Om h1 hk];rfl
 · rename_i hna;rw[Option.map_eq_some_iff] at h;obtain⟨d,h1,rfl⟩:=h
   have:Eg x=AU x:=by
    unfold Eg;split
    · exact absurd rfl (hna _)
    · rfl
   rw[this] at hk;rw[Pb h1 hk];rfl
theorem LU:∀ {xs:List V} {rs:List X},Ei sl xs=some rs→HX sl sl' (xs.flatMap Eg)→Ei sl' xs=some rs
 | [],ds,h,_=>h
 | x::xs,ds,h,hk=>by
   unfold Ei at h ⊢;split at h
   · rename_i d ds' h1 h2;rw[bX h1 (fun s hs=>hk s (by simp only[List.flatMap_cons,ACB];exact .inl hs)),LU h2 (fun s hs=>hk s (by simp only[List.flatMap_cons,ACB];exact .inr hs))];exact h
   · cases h
structure OT (o:Oper) (σ σ':St):Prop where
 ev:∀ x∈o.op.operands.toList,σ'.eval x=σ.eval x
 kn:∀ x∈o.op.operands.toList,HX σ.slots σ'.slots (D6 (σ.eval x))
theorem Gl (x:V):∀ s∈AU x,s∈D6 x:=by
 intro s hs
 cases x<;>simp_all [AU,Eg,D6]
theorem Qa (x:V):∀ s∈Eg x,s∈D6 x:=by
 intro s hs
 cases x<;>simp_all [AU,Eg,D6]
theorem NC {x:Option Operand} {d:Nat} (h:∀ y,x=some y→σ'.eval y=σ.eval y):Dn σ' x d=Dn σ x d:=by
 cases x with
 | none=>rfl
 | some y=>simp only[Dn,h y rfl]
theorem Ya {t:TypeId} {op:BinOp} {x y z:V} (h:Gd P sl t op x y=some z) (hk:HX sl sl' (AU x)):Gd P sl' t op x y=some z:=by
 unfold Gd at h ⊢;split at h
 · have e:∀ b,Qr sl x .nilp=some b→Qr sl' x .nilp=some b:=fun b hb=>by
    unfold Qr at hb ⊢;split at hb
    · exact hb
    · rename_i s _ h2;split at hb
      · rename_i hs;rw[hk _ (by simp[AU]) _ hs];exact hb
      · cases hb
    · cases hb
   split at h
   · rename_i ht hb;rw[ht,e _ hb];exact h
   · rename_i ht hb;rw[ht,e _ hb];exact h
   · cases h
 · exact h
theorem ZU {x:V} {s:Nat} {t:TypeId} {es:List (Ky×Vl)} (h:Ja sl x=some (s,t,es)) (hk:HX sl sl' (AU x)):Ja sl' x=some (s,t,es):=by
 unfold Ja at h ⊢;split at h
 · split at h
   · rename_i hs;rw[hk _ (by simp[AU]) _ hs];exact h
   · cases h
 · cases h
theorem W2 {o:Oper} {y:V} (h:Ho P st σ o=some y) (hs:OT o σ σ'):Ho P st σ' o=some y:=by
 have hev:=hs.ev;have hkn:∀ x∈o.op.operands.toList,HX σ.slots σ'.slots (AU (σ.eval x)):=fun x hx s hn=>hs.kn x hx s (Gl _ s hn);unfold Ho at h ⊢;split at h
 · rename_i x ho;rw[ho] at hev
   have e:evalT P o.type σ' x=evalT P o.type σ x:=by
    unfold evalT;split<;>first | rfl|exact hev _ (by simp[Op.operands])
   rw[e];exact h
 · rename_i x ho;rw[ho] at hev
   have e:evalT P o.type σ' x=evalT P o.type σ x:=by
    unfold evalT;split<;>first | rfl|exact hev _ (by simp[Op.operands])
   rw[e];exact h
 · rename_i c x y ho;rw[ho] at hev;rw[hev c (by simp[Op.operands]),hev x (by simp[Op.operands]),hev y (by simp[Op.operands])];exact h
 · rename_i op t x y yt ho;rw[ho] at hev hkn;rw[hev x (by simp[Op.operands]),hev y (by simp[Op.operands])];exact Ya h (hkn x (by simp[Op.operands]))
 · rename_i op t x ho;rw[ho] at hev;rw[hev x (by simp[Op.operands])];exact h
 · rename_i s d x ho;rw[ho] at hev;rw[hev x (by simp[Op.operands])];exact h
 · rename_i c ho;rw[ho] at hev hkn;split at h
   · rename_i b hb;have hmem:∀ x∈c.args.toList,x∈(Op.call c).operands.toList:=fun x hx=>by simp only[Op.operands,Call.operands,hb];simpa using hx
     have e:c.args.toList.map σ'.eval=c.args.toList.map σ.eval:=List.map_congr_left fun x hx=>hev x (hmem x hx);rw[e];generalize hxs:c.args.toList.map σ.eval=xs at *
     have hk2:∀ x∈xs,HX σ.slots σ'.slots (AU x):=by
      intro x hx;rw[←hxs] at hx;obtain⟨y,hy,rfl⟩:=ABc.1 hx;exact hkn y (hmem y hy)
     unfold Qj at h ⊢;split at h
     · split at h
       · split at h
         · rename_i e' he;rw[Option.map_eq_some_iff] at h;obtain⟨n,hn,rfl⟩:=h;rw[R6 hn (hk2 _ (by simp))];rfl
         · cases h
       · cases h
     · exact h
     · exact h
     · cases h
   · cases h
 · rename_i t x i ho;rw[ho] at hev hkn;rw[hev i (by simp[Op.operands]),hev x (by simp[Op.operands])];split at h
   · exact Wf h (hkn x (by simp[Op.operands]))
   · cases h
 · rename_i t x ho;rw[ho] at hev hkn;rw[hev x (by simp[Op.operands])];exact Xv h (hkn x (by simp[Op.operands]))
 · rename_i t x f ho;rw[ho] at hev hkn;rw[hev x (by simp[Op.operands])];exact Oq h (hkn x (by simp[Op.operands]))
 · rename_i t x f ho;rw[ho] at hev;rw[hev x (by simp[Op.operands])];exact h
 · rename_i x i ho;rw[ho] at hev;rw[hev x (by simp[Op.operands])];exact h
 · rename_i x ho;rw[ho] at hev hkn;rw[hev x (by simp[Op.operands])];have hk:=hkn x (by simp[Op.operands]);split at h
   · rename_i s p hx;rw[hx] at hk;split at h
     · rename_i hsl;rw[hk s (by simp[AU]) _ hsl];exact h
     · cases h
   · exact h
   · cases h
 · rename_i t ps ho;rw[ho] at hev
   have e:ps.toList.map (fun p=>(p.1,σ'.eval p.2))=ps.toList.map (fun p=>(p.1,σ.eval p.2)):=List.map_congr_left fun p hp=>by
    rw[hev p.2 (by simp only[Op.operands];simpa using ⟨p.1,by simpa using hp⟩)]
   rw[e];exact h
 · rename_i f first caps ho;rw[ho] at hev;have e:caps.toList.map σ'.eval=caps.toList.map σ.eval:=List.map_congr_left fun x hx=>hev x (by simp only[Op.operands];simp;exact .inr (by simpa using hx));rw[e];exact h
 · rename_i t x lo hi ho;rw[ho] at hev hkn;rw[hev x (by simp[Op.operands])];have e1:Dn σ' lo 0=Dn σ lo 0:=NC fun y hy=>hev y (by simp[Op.operands,hy]);have e2:∀ n,Dn σ' hi n=Dn σ hi n:=fun n=>NC fun y hy=>hev y (by simp[Op.operands,hy]);split at h
   · rename_i n hn;rw[R6 hn (hkn x (by simp[Op.operands]))];simp only;rw[e1,e2];exact h
   · cases h
 · cases h
theorem Tn {n:Nat} {o:Oper} {x:V} {news:List Ah} (h:AQ P st n σ o x news) (hs:OT o σ σ'):AQ P st n σ' o x news:=by
 have hp:Ho P st σ o=some x∧news=[]→Ho P st σ' o=some x∧news=[]:=fun h=>⟨W2 h.1 hs,h.2⟩;have hev:=hs.ev;have hkn:=hs.kn;unfold AQ at h ⊢;split at h
 · exact h
 · exact h
 · rename_i t m k ok ho;rw[ho] at hev hkn;obtain⟨s,es,ky,z,h1,h2⟩:=h;rw[hev m (by simp[Op.operands]),hev k (by simp[Op.operands])];exact⟨s,es,ky,z,ZU h1 fun s hs=>hkn m (by simp[Op.operands]) s (Gl _ s hs),h2⟩
 · rename_i t y ho;rw[ho] at hev;rw[hev y (by simp[Op.operands])];exact h
 · rename_i t len ps ho;rw[ho] at hev
   have e:ps.toList.map (fun p=>(p.1,σ'.eval p.2))=ps.toList.map (fun p=>(p.1,σ.eval p.2)):=List.map_congr_left fun p hp=>by
    rw[hev p.2 (by simp only[Op.operands];simpa using ⟨p.1,by simpa using hp⟩)]
   rw[e];exact h
 · rename_i t l c ho;rw[ho] at hev;rw[hev l (by simp[Op.operands]),hev c (by simp[Op.operands])];exact h
 · rename_i c ho;rw[ho] at hev hkn;split at h
   · rename_i g hf;have hg:g∈(Op.call c).operands.toList:=by simp[Op.operands,Call.operands,hf]
     rw[hev g hg];split at h
     · rename_i f caps hfc;obtain⟨r,⟨xs,h1,h3⟩,h2⟩:=h;have hmem:∀ x∈c.args.toList,x∈(Op.call c).operands.toList:=fun x hx=>by simp only[Op.operands,Call.operands,hf];simp;exact .inr (by simpa using hx)
       have e:c.args.toList.map σ'.eval=c.args.toList.map σ.eval:=List.map_congr_left fun x hx=>hev x (hmem x hx);refine⟨r,⟨xs,?_,h3⟩,h2⟩;rw[e];refine LU h1 fun s hs=>?_;obtain⟨y,hy,hs⟩:=List.mem_flatMap.1 hs;rcases ACB.1 hy with hy|hy
       · obtain⟨z,hz,rfl⟩:=ABc.1 hy;exact hkn z (hmem z hz) s (Qa _ s hs)
       · exact hkn g hg s (by rw[hfc];exact List.mem_flatMap.2 ⟨y,hy,hs⟩)
     · exact h
   · exact hp h
 · exact hp h
theorem Sz (hm:Cn P w0 φ sl w Fs) {n:Nat} {x:V} {news:List Ah} {v:Value} (h:N8 w0.R P n φ sl w x news v w') (hn:n+news.length≤sl.length) (hub:∀ i,i<news.length→sl[n+i]? = some .unborn) :
 ∃ φ',Turn P w0 φ sl w φ' (Be sl n news) w'∧VR w' (good w0.R φ' (Be sl n news) w') φ' (Be sl n news) x v:=by
 obtain⟨ψ,Fn,hmade,hq⟩:=h;have hnφ:n+ψ.length≤φ.length:=by rw[hmade.plen,hm.flen];exact hn
 have hnF:n+Fn.length≤Fs.length:=by rw[hmade.Flen,hm.Flen];exact hn
 have hO:C1 [] w w':=C1.of_below hmade.below
 have old:∀ {i:Nat},¬ (n≤i∧i<n+news.length)→(Be sl n news)[i]? = sl[i]?∧(Be φ n ψ)[i]? = φ[i]?∧(Be Fs n Fn)[i]? = Fs[i]?:=by
  intro i hi;rw[C3 hn,C3 hnφ,C3 hnF,hmade.plen,hmade.Flen];by_cases h1:i<n
  · simp[h1]
  · have h2:¬ i<n+news.length:=fun h=>hi ⟨by omega,h⟩;simp[h1,h2]
 have new:∀ {i:Nat},i<news.length→(Be sl n news)[n+i]? = news[i]?∧(Be φ n ψ)[n+i]? = ψ[i]?∧(Be Fs n Fn)[n+i]? = Fn[i]?:=by
  intro i hi;rw[C3 hn,C3 hnφ,C3 hnF,hmade.plen,hmade.Flen];have h1:¬ n+i<n:=by omega
  have h2:n+i<n+news.length:=by omega
  simp[h1,h2]
 have split:∀ i:Nat,(∃ j,j<news.length∧i=n+j)∨¬ (n≤i∧i<n+news.length):=by
  intro i;by_cases h:n≤i∧i<n+news.length
  · exact .inl ⟨i - n,by omega,by omega⟩
  · exact .inr h
 have hs:∀ (s:Nat) (x:Ah),sl[s]? = some x→∃ x',(Be sl n news)[s]? = some x'∧Later x x':=by
  intro s x hx;rcases split s with ⟨j,hj,rfl⟩|hn'
  · rw[hub j hj] at hx
    cases hx
    exact⟨news[j],by rw[(new hj).1];exact zz0 hj,by simp[Later]⟩
  · exact⟨x,by rw[(old hn').1];exact hx,Later.refl x⟩
 have hp:∀ (s:Nat) (h:Option Nat×Nat),φ[s]? = some h→sl[s]?≠some .unborn→(Be φ n ψ)[s]? = some h:=by
  intro s h hh hu;rcases split s with ⟨j,hj,rfl⟩|hn'
  · exact absurd (hub j hj) hu
  · rw[(old hn').2.1];exact hh
 have hT:∀ b,top (Be φ n ψ) (Be sl n news) b→w.heap.size≤b∨top φ sl b:=by
  rintro b ⟨s,x,c,h1,h2,h3⟩;rcases split s with ⟨j,hj,rfl⟩|hn'
  · rw[(new hj).2.1] at h3;exact .inl (hmade.hd _ b c h3)
  · rw[(old hn').1] at h1;rw[(old hn').2.1] at h3;exact .inr ⟨s,x,c,h1,h2,h3⟩
 have he:jZ w0.R φ sl w (Be φ n ψ) (Be sl n news) w':=⟨E5 hO (by simp) hT,hs,hp⟩;obtain⟨q1,q2⟩:=hq _ _ he (fun i hi=>⟨(new hi).1,(new hi).2.1⟩)
 have hcnt:∀ q,Dy q (Be Fs n Fn)≤Dy q Fs+Fn.flatten.count q:=by
  intro q
  have h1:Dy q Fs=Dy q (Fs.take n)+Dy q ((Fs.drop n).take Fn.length)+Dy q (Fs.drop (n+Fn.length)):=by
   have e1:Dy q (Fs.take n++Fs.drop n)=Dy q Fs:=by rw[List.take_append_drop]
   have e2:Dy q ((Fs.drop n).take Fn.length++(Fs.drop n).drop Fn.length)=Dy q (Fs.drop n):=by rw[List.take_append_drop]
   rw[List.drop_drop] at e2;simp only[Dy,AB5,List.count_append] at e1 e2 ⊢;omega
  have h2:Dy q (Be Fs n Fn)=Dy q (Fs.take n)+Fn.flatten.count q+Dy q (Fs.drop (n+Fn.length)):=by
   simp[Dy,Be,Nat.add_assoc]
  omega
 refine⟨Be φ n ψ,hm.turn (Fs':=Be Fs n Fn) hO (by simp) (by rw[B5 hnφ,B5 hn,hm.flen]) (by rw[B5 hnF,B5 hn,hm.Flen]) ?_ ?_ hs hp hT ?_,q2⟩
 · rw[List.nodup_iff_count];intro q;have h1:=hcnt q;have h2:=List.nodup_iff_count.1 hm.nd q;have h3:=List.nodup_iff_count.1 hmade.nd q;simp only[Dy] at h1;by_cases hq1:q∈Fn.flatten
   · have h4:=hmade.ge q hq1;have h5:Fs.flatten.count q=0:=List.count_eq_zero.2 fun h=>by have:=hm.lt q h;omega
     omega
   · have h5:Fn.flatten.count q=0:=List.count_eq_zero.2 hq1;omega
 · intro q hq;have h1:=hcnt q;have h2:=List.count_pos_iff.2 hq;simp only[Dy] at h1;by_cases hq1:q∈Fn.flatten
   · have:=hmade.ge q hq1;have:=hm.only.size;exact .inr (by omega)
   · have h5:Fn.flatten.count q=0:=List.count_eq_zero.2 hq1;exact hm.ge q (List.count_pos_iff.1 (by omega))
 · intro s x h F h1 h2 h3;rcases split s with ⟨j,hj,rfl⟩|hn'
   · rw[(new hj).1] at h1;rw[(new hj).2.1] at h2;rw[(new hj).2.2] at h3;exact .inr (q1 j x h F h1 h2 h3)
   · rw[(old hn').1] at h1;rw[(old hn').2.1] at h2;rw[(old hn').2.2] at h3;exact .inl ⟨h1,h2,h3,by simp⟩
end
structure Tr where
 dst:Option Nat
 x:V
 news:List Ah
def L3 (T:List V) (d:Option Nat) (x:V):List V :=
 match d with
 | some d=>T.set d x
 | none=>T
section
variable (tr:List Tr) (T0:List V) (S0:List Ah) (c:Nat→Bool)
def TT:Nat→List V
 | 0=>T0
 | i+1=>match tr[i]? with
   | some e=>if c i=true then L3 (TT i) e.dst e.x else TT i
   | none=>TT i
def SS:Nat→List Ah
 | 0=>S0
 | i+1=>match tr[i]? with
   | some e=>SS i++(if c i=true then e.news else List.replicate e.news.length .unborn)
   | none=>SS i
end
def AD (_:Nat):Bool:=true
def Cj (c:Nat→Bool) (i:Nat) (j:Nat):Bool:=j==i||c j
section
variable {tr:List Tr} {T0:List V} {S0:List Ah} {c c':Nat→Bool}
theorem JJ (T:List V) (d:Option Nat) (x:V):(L3 T d x).length=T.length:=by cases d<;>simp[L3]
theorem HI:∀ i,(TT tr T0 c i).length=T0.length
 | 0=>rfl
 | i+1=>by
   unfold TT;split
   · split
     · rw[JJ,HI i]
     · exact HI i
   · exact HI i
theorem O8 {T:List V} {d:Option Nat} {x:V} {t:Nat} (h:d≠some t):(L3 T d x)[t]? = T[t]?:=by
 cases d with
 | none=>rfl
 | some d=>exact AB6 (fun e=>h (by rw[e]))
theorem GE {t:Nat}:∀ i,(∀ j,j<i→∀ e,tr[j]? = some e→e.dst=some t→c j=c' j)→(TT tr T0 c i)[t]? = (TT tr T0 c' i)[t]?
 | 0,_=>rfl
 | i+1,h=>by
   have ih:=GE i (fun j hj=>h j (by omega));unfold TT;split
   · rename_i e he;by_cases hd:e.dst=some t
     · rw[←h i (by omega) e he hd];split
       · rw[hd];by_cases hl:t<T0.length
         · have e1:t<(TT tr T0 c i).length:=by rw[HI];exact hl
           have e2:t<(TT tr T0 c' i).length:=by rw[HI];exact hl
           simp only[L3];rw[ABo e1,ABo e2]
         · rw[ACE (by rw[JJ,HI];omega),ACE (by rw[JJ,HI];omega)]
       · exact ih
     · split<;>split<;>simp only[O8 hd,ih]
   · exact ih
theorem Kz:∀ i,(∀ j,j<i→c j=c' j)→TT tr T0 c i=TT tr T0 c' i
 | 0,_=>rfl
 | i+1,h=>by
   unfold TT;rw[Kz i (fun j hj=>h j (by omega)),h i (by omega)]
theorem KL {i:Nat}:∀ k,i≤k→(∀ j,i≤j→j<k→c j=false)→TT tr T0 c k=TT tr T0 c i
 | 0,h,_=>by rw[Nat.le_zero.1 h]
 | k+1,h,hc=>by
   by_cases hk:i=k+1
   · rw[hk]
   · conv=>lhs;unfold TT
     rw[hc k (by omega) (by omega)];have ih:=KL k (by omega) (fun j h1 h2=>hc j h1 (by omega));split<;>simpa using ih
theorem JF:∀ i,(SS tr S0 c i).length=(SS tr S0 AD i).length
 | 0=>rfl
 | i+1=>by
   unfold SS;split
   · simp only[AB0,JF i];split<;>simp[AD]
   · exact JF i
theorem LY:∀ {i k:Nat},i≤k→∃ rest,SS tr S0 c k=SS tr S0 c i++rest
 | i,0,h=>⟨[],by rw[Nat.le_zero.1 h];simp⟩
 | i,k+1,h=>by
   by_cases hk:i=k+1
   · exact⟨[],by rw[hk];simp⟩
   · obtain⟨r,hr⟩:=LY (i:=i) (k:=k) (by omega)
     conv=>enter [1,rest,1];unfold SS
     split
     · rw[hr,AB2];exact⟨_,rfl⟩
     · exact⟨r,hr⟩
theorem Mn:∀ {i:Nat} {s:Nat} {y:Ah},(SS tr S0 AD i)[s]? = some y→(SS tr S0 c i)[s]? = some y∨(SS tr S0 c i)[s]? = some .unborn
 | 0,s,y,h=>.inl h
 | i+1,s,y,h=>by
   have hlen:=JF (tr:=tr) (S0:=S0) (c:=c) i;unfold SS at h ⊢;split at h
   · rename_i e he;by_cases hs:s<(SS tr S0 AD i).length
     · rw[zz4 hs] at h;rw[zz4 (by omega)];exact Mn h
     · rw[zz5 (by omega)] at h;rw[zz5 (by omega),hlen];simp only[AD,if_true] at h;split
       · exact .inl h
       · right;rw[List.getElem?_replicate,if_pos (zz1.1 h).1]
   · exact Mn h
theorem Z0 {i k s:Nat} {y:Ah} (hik:i≤k) (h:(SS tr S0 AD i)[s]? = some y):(SS tr S0 c k)[s]? = some y∨(SS tr S0 c k)[s]? = some .unborn:=by
 obtain⟨r,hr⟩:=LY (tr:=tr) (S0:=S0) (c:=c) hik;have hl:=(zz1.1 h).1;rw[hr,zz4 (by rw[JF];exact hl)];exact Mn h
theorem OS:∀ i,(∀ j,j<i→c j=c' j)→SS tr S0 c i=SS tr S0 c' i
 | 0,_=>rfl
 | i+1,h=>by
   unfold SS;rw[OS i (fun j hj=>h j (by omega)),h i (by omega)]
theorem oP {i k:Nat} {e:Tr} (hik:i<k) (he:tr[i]? = some e):∃ rest,SS tr S0 c k=SS tr S0 c i++((if c i=true then e.news else List.replicate e.news.length .unborn)++rest):=by
 obtain⟨r,hr⟩:=LY (tr:=tr) (S0:=S0) (c:=c) (i:=i+1) (k:=k) hik;refine⟨r,?_⟩;rw[hr,SS,he,AB2]
theorem YW:∀ {i k:Nat},i≤k→(∀ j,i≤j→j<k→c j=c' j)→∃ rest,SS tr S0 c k=SS tr S0 c i++rest∧SS tr S0 c' k=SS tr S0 c' i++rest
 | i,0,h,_=>⟨[],by rw[Nat.le_zero.1 h];simp⟩
 | i,k+1,h,hc=>by
   by_cases hk:i=k+1
   · exact⟨[],by rw[hk];simp⟩
   · obtain⟨r,h1,h2⟩:=YW (i:=i) (k:=k) (by omega) (fun j h1 h2=>hc j h1 (by omega))
     cases ht:tr[k]? with
     | none=>exact⟨r,by rw[SS,ht];exact h1,by rw[SS,ht];exact h2⟩
     | some e =>
       refine⟨r++(if c k=true then e.news else List.replicate e.news.length .unborn),?_,?_⟩
       · rw[SS,ht];simp only[h1,AB2]
       · rw[SS,ht];simp only[h2,AB2,hc k (by omega) (by omega)]
theorem Yd {i k:Nat} {e:Tr} (hik:i<k) (he:tr[i]? = some e) (hc:c i=false):Be (SS tr S0 c k) (SS tr S0 AD i).length e.news=SS tr S0 (Cj c i) k∧(SS tr S0 AD i).length+e.news.length≤(SS tr S0 c k).length ∧
 ∀ q,q<e.news.length→(SS tr S0 c k)[(SS tr S0 AD i).length+q]? = some .unborn:=by
 obtain⟨r,h1,h2⟩:=YW (tr:=tr) (S0:=S0) (c:=c) (c':=Cj c i) (i:=i+1) (k:=k) hik (fun j h1 _=>by
  have:(j==i)=false:=by simp;omega
  simp[Cj,this])
 have hpre:SS tr S0 (Cj c i) i=SS tr S0 c i:=OS i fun j hj=>by
  have:(j==i)=false:=by simp;omega
  simp[Cj,this]
 rw[SS,he] at h1 h2;simp only[hc,Bool.false_eq_true,if_false,hpre] at h1 h2;have hpi:Cj c i i=true:=by simp[Cj]
 simp only[hpi,if_true] at h2;rw[←JF (c:=c)];refine⟨?_,?_,fun q hq=>?_⟩
 · rw[h1,h2];unfold Be;rw[AB2,AB2,List.take_left',AB2]
   · congr 2
     rw[←List.drop_drop,List.drop_left',List.drop_left']
     · simp
     · rfl
   · rfl
 · rw[h1];simp
 · rw[h1,AB2,zz5 (by omega),Nat.add_sub_cancel_left,zz4 (by simpa using hq),List.getElem?_replicate,if_pos hq]
theorem XZ {i k:Nat} {e:Tr} (hik:i<k) (he:tr[i]? = some e) (hlate:∀ j,i<j→j<k→∀ e',tr[j]? = some e'→e'.dst=e.dst→e.dst≠none→c j=false):L3 (TT tr T0 c k) e.dst e.x=TT tr T0 (Cj c i) k:=by
 apply List.ext_getElem?;intro t;by_cases hd:e.dst=some t
 · have e1:(TT tr T0 (Cj c i) k)[t]? = (TT tr T0 (fun j=>Cj c i j&&decide (j≤i)) k)[t]?:=GE k fun j hj e' he' hd'=>by
    by_cases hji:j≤i
    · simp[hji]
    · have h1:=hlate j (by omega) hj e' he' (by rw[hd',hd]) (by rw[hd];simp);have h2:(j==i)=false:=by simp;omega
      simp[Cj,h1,h2]
   have e2:TT tr T0 (fun j=>Cj c i j&&decide (j≤i)) k=TT tr T0 (fun j=>Cj c i j&&decide (j≤i)) (i+1):=KL k hik fun j h1 _=>by
    have:¬ j≤i:=by omega
    simp[this]
   rw[e1,e2,TT,he];have hpi:(Cj c i i&&decide (i≤i))=true:=by simp[Cj]
   simp only[hpi,if_true,hd];by_cases hl:t<T0.length
   · simp only[L3];rw[ABo (by rw[HI];exact hl),ABo (by rw[HI];exact hl)]
   · rw[ACE (by rw[JJ,HI];omega),ACE (by rw[JJ,HI];omega)]
 · rw[O8 hd];refine GE k fun j hj e' he' hd'=>?_
   have:(j==i)=false:=by
    simp only[beq_eq_false_iff_ne];intro e1;subst e1;rw[he] at he'
    cases he'
    exact hd hd'
   simp[Cj,this]
theorem E1 {e:Tr}:∀ {i:Nat},i≤tr.length→TT (tr++[e]) T0 c i=TT tr T0 c i
 | 0,_=>rfl
 | i+1,h=>by
   unfold TT;rw[zz4 (by omega),E1 (by omega)]
theorem FF {e:Tr}:∀ {i:Nat},i≤tr.length→SS (tr++[e]) S0 c i=SS tr S0 c i
 | 0,_=>rfl
 | i+1,h=>by
   unfold SS;rw[zz4 (by omega),FF (by omega)]
end
def Ch (ops:Array Oper) (T:List V) (o:Oper):Option Bool :=
 match o.guard with
 | none=>some true
 | some (j,b)=>match (ops[j]?).bind (·.dst) with
   | some d=>match (T[d]?).getD .any with
     | .d (.bool t)=>some (t==b)
     | .tup []=>some false
     | _=>none
   | none=>none
def Wn (P:Program) (m:Mode) (ops:Array Oper) (l:List Oper) (tr:List Tr) (T0:List V) (S0:List Ah):Prop :=
 tr.length≤l.length∧∀ i o e,l[i]? = some o→tr[i]? = some e→e.dst=o.dst ∧
  ((Ch ops (TT tr T0 AD i) o=some true∧AQ P m.st (SS tr S0 AD i).length ⟨TT tr T0 AD i,SS tr S0 AD i⟩ o e.x e.news)∨(Ch ops (TT tr T0 AD i) o=some false∧e.x=.tup []∧e.news=[]))
theorem WL {σ:St} {d:Nat} {x:V} (hx:σ.get d=x) (hd:x≠.any):σ.put (some d) x=σ:=by
 unfold St.put;unfold St.get at hx
 cases hd':σ.tmps[d]? with
 | none=>rw[hd'] at hx;exact absurd hx.symm hd
 | some y =>
   rw[hd'] at hx;simp at hx;subst hx;have hl:=(zz1.1 hd').1
   have:σ.tmps.set d y=σ.tmps:=by
    apply List.ext_getElem?;intro i;by_cases hi:d=i
    · subst hi;rw[ABo hl,hd']
    · rw[AB6 hi]
   simp only[this]
theorem Fh (T:List V) (S:List Ah) (d:Option Nat) (x:V):St.put ⟨T,S⟩ d x=⟨L3 T d x,S⟩:=by cases d<;>rfl
section
variable {P:Program} {m:Mode} {ops:Array Oper} {K:St→Prop}
theorem KG {o:Oper} {K:St→Prop} {σ:St} (htc:m.tc=false) (hq:DY o=true) (h:Vj P m o K σ):∃ x news,AQ P m.st σ.slots.length σ o x news∧K (St.put ⟨σ.tmps,σ.slots++news⟩ o.dst x):=by
 unfold Vj at h;unfold DY at hq;split at h
 · rename_i ho;rw[ho] at hq;cases hq
 · rename_i ho;rw[ho] at hq;cases hq
 · rename_i c ho;rw[ho] at hq;simp only at hq;split at h
   · rename_i hc;rw[hc] at hq;cases hq
   · rcases h with h|h
     · exact h
     · split at h
       · rcases h with h|h<;>(have:=h.1;rw[htc] at this;cases this)
       · exact h.elim
   · exact h
 · split at h
   · have:=h.1;rw[htc] at this;cases this
   · exact h
 · rw[htc] at h;simp only[Bool.false_and,W9] at h;exact h
 · exact h
theorem Vt (htc:m.tc=false) {l:List Oper} {T0:List V} {S0:List Ah} (h:Bh P m ops K l ⟨T0,S0⟩):∀ k,k≤l.length→(∀ i o,i<k→l[i]? = some o→DY o=true) →
 ∃ tr:List Tr,tr.length=k∧Wn P m ops l tr T0 S0∧Bh P m ops K (l.drop k) ⟨TT tr T0 AD k,SS tr S0 AD k⟩
 | 0,_,_=>⟨[],rfl,⟨by simp,fun i o e _ he=>by simp at he⟩,h⟩
 | k+1,hk,hq=>by
   obtain⟨tr,h1,⟨h2,h3⟩,h4⟩:=Vt htc h k (by omega) (fun i o hi=>hq i o (by omega));have ho:l[k]? = some (l[k]'(by omega)):=zz0 _;generalize hoo:l[k]'(by omega)=o at ho;have hd:l.drop k=o::l.drop (k+1):=by rw[←hoo];exact List.drop_eq_getElem_cons (by omega)
   rw[hd] at h4
   have more:∀ (x:V) (news:List Ah),((Ch ops (TT tr T0 AD k) o=some true∧AQ P m.st (SS tr S0 AD k).length ⟨TT tr T0 AD k,SS tr S0 AD k⟩ o x news)∨(Ch ops (TT tr T0 AD k) o=some false∧x=.tup []∧news=[])) →
    Bh P m ops K (l.drop (k+1)) (St.put ⟨TT tr T0 AD k,SS tr S0 AD k++news⟩ o.dst x)→∃ tr:List Tr,tr.length=k+1∧Wn P m ops l tr T0 S0∧Bh P m ops K (l.drop (k+1)) ⟨TT tr T0 AD (k+1),SS tr S0 AD (k+1)⟩:=by
    intro x news hor hnext;have hat:(tr++[⟨o.dst,x,news⟩]:List Tr)[k]? = some ⟨o.dst,x,news⟩:=by rw[zz5 (by omega),h1];simp
    refine⟨tr++[⟨o.dst,x,news⟩],by simp[h1],⟨by simp;omega,fun i o' e ho' he=>?_⟩,?_⟩
    · by_cases hi:i<tr.length
      · rw[zz4 hi] at he;rw[E1 (by omega),FF (by omega)];exact h3 i o' e ho' he
      · have hik:i=k:=by have:=(zz1.1 he).1;simp at this;omega
        subst hik;rw[hat] at he
        cases he
        rw[ho] at ho'
        cases ho'
        rw[E1 (by omega),FF (by omega)];exact⟨rfl,hor⟩
    · rw[TT,SS,hat];simp only[AD,if_true];rw[E1 (by omega),FF (by omega)];rw[Fh] at hnext;exact hnext
   unfold Bh at h4;split at h4
   · rename_i hg;obtain⟨x,news,h5,h6⟩:=KG htc (hq k o (by omega) ho) h4;exact more x news (.inl ⟨by simp[Ch,hg],h5⟩) h6
   · rename_i j b hg;split at h4
     · exact h4.elim
     rename_i d hdd;split at h4
     · rename_i t ht
       have hgA:Ch ops (TT tr T0 AD k) o=some (t==b):=by
        unfold Ch;rw[hg];simp only[hdd];have:((TT tr T0 AD k)[d]?).getD .any=.d (.bool t):=ht;rw[this]
       have hsame:=WL ht (by simp);by_cases htb:t=b
       · subst htb;have h5:=h4.1 rfl;rw[hsame] at h5;obtain⟨x,news,h6,h7⟩:=KG htc (hq k o (by omega) ho) h5;exact more x news (.inl ⟨by rw[hgA];simp,h6⟩) h7
       · have htn:t=!b:=by cases t<;>cases b<;>simp_all
         have h5:=h4.2 htn;rw[←htn,hsame] at h5;refine more (.tup []) [] (.inr ⟨by rw[hgA];simp[htb],rfl,rfl⟩) ?_;rw[List.append_nil];exact h5
     · rename_i ht
       have hgA:Ch ops (TT tr T0 AD k) o=some false:=by
        unfold Ch;rw[hg];simp only[hdd];have:((TT tr T0 AD k)[d]?).getD .any=.tup []:=ht;rw[this]
       refine more (.tup []) [] (.inr ⟨hgA,rfl,rfl⟩) ?_;rw[List.append_nil];exact h4
     · exact h4.elim
end
theorem CD {α:Type} {l:List α} {p:α×Nat→Bool} (h:l.zipIdx.all p=true) {i:Nat} {o:α} (ho:l[i]? = some o):p (o,i)=true:=by
 rw[zz8] at h;exact h (o,i) (List.mem_zipIdx_iff_getElem?.2 ho)
section
variable {P:Program} {m:Mode} {w0:Ex} {w w':World} {φ φ':Cu} {σ σ':St} {a:Act} {sl sl':List Ah} {Fs Fs':List (List Nat)} {ops:Array Oper} {l:List Oper}
structure DrawnB (l:List Oper):Prop where
 edge:∀ {j:Nat} {o:Oper},l[j]? = some o→∀ e∈o.after.toList,E4 e=true→e.on<j
 soft:∀ {j:Nat} {o:Oper},l[j]? = some o→∀ e∈o.after.toList,E4 e=false→Yu l j e=true
 clash:∀ {i j:Nat} {oi oj:Oper},i<j→l[i]? = some oi→l[j]? = some oj→clash oi oj=true→i∈CL oj
 guard:∀ {j g:Nat} {b:Bool} {o:Oper},l[j]? = some o→o.guard=some (g,b)→g<j∧g∈CL o∧∀ {og:Oper},l[g]? = some og→∀ {i:Nat} {o2:Oper},l[i]? = some o2→o2.dst=og.dst→og.dst≠none→i=g
structure YR (l:List Oper) (q:Nat):Prop extends DrawnB l where
 tail:∀ {i j:Nat},q≤j→j<l.length→i<j→((BD l).getD j 0).testBit i=true
 le:q≤l.length
 quiet:∀ {i:Nat} {o:Oper},i<q→l[i]? = some o→DY o=true
theorem Nd (l:List Oper) (o:Oper):BD (l++[o])=BD l++[Nu (BD l) o]:=by simp[BD]
theorem LZ:∀ (n:Nat) (l:List Oper),l.length=n→(BD l).length=n
 | 0,l,h=>by rw[zz7 h];rfl
 | n+1,l,h=>by
   obtain⟨l',o,rfl⟩:∃ l' o,l=l'++[o]:=⟨l.dropLast,l.getLast (by intro e;rw[e] at h;cases h),(List.dropLast_concat_getLast _).symm⟩;rw[Nd,AB0,LZ n l' (by simpa using h)];rfl
theorem WI (l':List Oper):∀ (n:Nat) (l:List Oper),l.length=n→∃ r,BD (l'++l)=BD l'++r
 | 0,l,h=>⟨[],by rw[zz7 h];simp⟩
 | n+1,l,h=>by
   obtain⟨l2,o,rfl⟩:∃ l2 o,l=l2++[o]:=⟨l.dropLast,l.getLast (by intro e;rw[e] at h;cases h),(List.dropLast_concat_getLast _).symm⟩;obtain⟨r,hr⟩:=WI l' n l2 (by simpa using h);rw[←AB2,Nd,hr,AB2];exact⟨_,rfl⟩
theorem mD {j:Nat} {o:Oper} (h:l[j]? = some o):(BD l).getD j 0=Nu (BD (l.take j)) o∧∀ d,d<j→(BD (l.take j)).getD d 0=(BD l).getD d 0:=by
 have hj:=(zz1.1 h).1
 have e:l=l.take j++o::l.drop (j+1):=by
  have:=List.drop_eq_getElem_cons hj;rw[zz0 hj] at h;rw[ABd h] at this;rw[←this,List.take_append_drop]
 have hlen:(BD (l.take j)).length=j:=LZ j _ (by simp;omega);obtain⟨r,hr⟩:=WI (l.take j++[o]) _ (l.drop (j+1)) rfl
 have e2:BD l=BD (l.take j)++([Nu (BD (l.take j)) o]++r):=by
  conv=>lhs;rw[e]
  rw[show l.take j++o::l.drop (j+1)=(l.take j++[o])++l.drop (j+1) by simp,hr,Nd,AB2]
 constructor
 · rw[e2,List.getD_eq_getElem?_getD,zz5 (by omega),hlen];simp
 · intro d hd;rw[e2,List.getD_eq_getElem?_getD,List.getD_eq_getElem?_getD,zz4 (by omega)]
theorem aX {bm:List Nat} {o:Oper} {i:Nat} (h:(Nu bm o).testBit i=true):∃ d∈CL o,d=i∨(bm.getD d 0).testBit i=true:=by
 unfold Nu at h
 have key:∀ (ds:List Nat) (s:Nat),((ds.foldl (fun s d=>s ||| 2 ^ d ||| bm.getD d 0) s).testBit i=true)→s.testBit i=true∨∃ d∈ds,d=i∨(bm.getD d 0).testBit i=true:=by
  intro ds
  induction ds with
  | nil=>intro s h;exact .inl h
  | cons d ds ih =>
    intro s h;rw[List.foldl_cons] at h;rcases ih _ h with h1|⟨d',hd',h1⟩
    · rw[Nat.testBit_or,Nat.testBit_or,Bool.or_eq_true,Bool.or_eq_true] at h1;rcases h1 with (h1|h1)|h1
      · exact .inl h1
      · rw[Nat.testBit_two_pow] at h1;exact .inr ⟨d,by simp,.inl (by simpa using h1)⟩
      · exact .inr ⟨d,by simp,.inr h1⟩
    · exact .inr ⟨d',by simp[hd'],h1⟩
 rcases key _ _ h with h1|h1
 · simp at h1
 · exact h1
theorem OQ (hd:∀ {j:Nat} {o:Oper},l[j]? = some o→∀ d∈CL o,d<j) {c:Nat→Bool} (hc:∀ {j:Nat} {o:Oper},c j=true→l[j]? = some o→∀ d∈CL o,c d=true):∀ (j:Nat) {o:Oper} {i:Nat},l[j]? = some o→(∀ d∈CL o,c d=true)→((BD l).getD j 0).testBit i=true→c i=true:=by
 intro j
 induction j using Nat.strongRecOn with
 | _ j ih =>
   intro o i ho hdep hb;obtain⟨h1,h2⟩:=mD ho;rw[h1] at hb;obtain⟨d,hdm,hd'⟩:=aX hb;have hlt:=hd ho d hdm;rcases hd' with rfl|hb2
   · exact hdep _ hdm
   · rw[h2 d hlt] at hb2;have hdl:l[d]? = some (l[d]'(by have:=(zz1.1 ho).1;omega)):=zz0 _;exact ih d hlt hdl (hc (hdep d hdm) hdl) hb2
theorem gH {i:Nat} {o:Oper} (h:i<GA l) (ho:l[i]? = some o):DY o=true:=by
 unfold GA at h
 have h1:(l.takeWhile DY)[i]? = some o:=by
  have hp:=List.takeWhile_prefix (p:=DY) (l:=l);obtain⟨r,hr⟩:=hp;rw[←hr,zz4 h] at ho;exact ho
 exact zz8.1 List.all_takeWhile _ (zz6 h1)
theorem WU:GA l≤l.length:=by
 unfold GA;exact (List.takeWhile_prefix (p:=DY) (l:=l)).length_le
theorem dK {q:Nat} (h:JZ ops q=true):YR ops.toList q:=by
 unfold JZ at h;simp only[Bool.and_eq_true] at h;obtain⟨⟨⟨⟨⟨h1,h2⟩,h3⟩,h4⟩,h5⟩,h6⟩:=h;refine⟨⟨fun {j o} ho e he hp=>?_,fun {j o} ho e he hp=>?_,fun {i j oi oj} hij hi hj hcl=>?_,fun {j g b o} ho hg=>?_⟩,fun {i j} hk hj hij=>?_,ABp h5,fun {i o} hi ho=>zz8.1 h6 o (zz6 (by rw[ABh,if_pos hi];exact ho))⟩
 · have:=CD h1 ho;simp only[zz8] at this;have:=this e he;rw[if_pos hp] at this;simpa using this
 · have:=CD h1 ho;simp only[zz8] at this;have:=this e he;rw[if_neg (by simp[hp])] at this;exact this
 · have:=CD h2 hj;have h5:(!Go.Proofs.YtnjedabjbeipeaaGreat.clash oi oj||(CL oj).contains i)=true:=CD this (i:=i) (o:=oi) (by rw[ABh,if_pos hij];exact hi);rw[hcl] at h5;simpa using h5
 · have:=CD h3 ho;simp only[hg,Bool.and_eq_true,decide_eq_true_eq] at this;obtain⟨⟨k1,k2⟩,k3⟩:=this;refine⟨k1,by simpa using k2,fun {og} hog {i o2} hi hd hn=>?_⟩;have:=CD k3 hi;simp only[hog,Bool.or_eq_true,decide_eq_true_eq,Bool.not_eq_true',beq_eq_false_iff_ne,ne_eq] at this;rcases this with (h|h)|h
   · exact h
   · rw[Option.isNone_iff_eq_none] at h;exact absurd h hn
   · exact absurd hd h
 · have hl:j<(BD ops.toList).length:=by rw[LZ _ _ rfl];exact hj
   have:=CD h4 (i:=j) (o:=(BD ops.toList)[j]) (zz0 hl);simp only[Bool.or_eq_true,decide_eq_true_eq,zz8,ABw] at this;rcases this with h|h
   · omega
   · rw[List.getD_eq_getElem?_getD,zz0 hl];exact h i hij
theorem Zw (h:TP ops=true):JZ ops (GA ops.toList)=true:=by
 unfold TP iY at h;unfold JZ;rw[h,Bool.true_and,Bool.and_eq_true]
 exact⟨zz2 WU,zz8.2 fun o ho=>by
  obtain⟨i,hi,rfl⟩:=List.mem_iff_getElem.1 ho;have hi2:i<GA ops.toList:=by rw[ACC] at hi;omega
  refine gH hi2 ?_;rw[List.getElem_take]
  exact zz0 _⟩
theorem DrawnB.deps (hd:DrawnB l) {j:Nat} {o:Oper} (ho:l[j]? = some o):∀ d∈CL o,d<j:=by
 intro d h;unfold CL at h;obtain⟨e,he,rfl⟩:=ABc.1 h;obtain⟨he,hp⟩:=ABx.1 he;exact hd.edge ho e he hp
theorem VR.undef {G:Nat→Prop} {v:Value} (h:VR w G φ sl (.tup []) v):v=Go.undef:=by
 cases h with
 | tup hl h =>
   rename_i vs;obtain rfl:vs=[]:=zz7 hl;rfl
theorem J0 {G:Nat→Prop}:VR w G φ sl (.tup []) Go.undef:=.tup (vs:=[]) rfl (fun i x v h=>by simp at h)
theorem VR.named {G:Nat→Prop} {x:V} {v:Value} (h:VR w G φ sl x v):∀ s∈D6 x,sl[s]?≠some .unborn:=by
 have one:∀ {x v},VR w G φ sl x v→∀ s∈AU x,sl[s]?≠some .unborn:=by
  intro x v h s hs e
  cases h with
  | ref h1=>simp[AU] at hs;subst hs;rw[h1] at e;cases e
  | gone h1=>simp[AU] at hs;subst hs;rw[h1] at e;cases e
  | lit h1=>simp[AU] at hs;subst hs;rw[h1] at e;cases e
  | litgone h1=>simp[AU] at hs;subst hs;rw[h1] at e;cases e
  | ptr h1 h2=>simp[AU] at hs;subst hs;rw[h1] at e;cases e;exact h2
  | lost h1=>simp[AU] at hs;subst hs;rw[h1] at e;cases e
  | eptr h1=>simp[AU] at hs;subst hs;rw[h1] at e;cases e
  | elost h1=>simp[AU] at hs;subst hs;rw[h1] at e;cases e
  | blk h1=>simp[AU] at hs;subst hs;rw[h1] at e;cases e
  | qptr h1=>simp[AU] at hs;subst hs;rw[h1] at e;cases e
  | _=>simp[AU] at hs
 have two:∀ {x v},VR w G φ sl x v→∀ s∈Eg x,sl[s]?≠some .unborn:=by
  intro x v h s hs
  cases x with
  | agg xs =>
    cases h with
    | agg hl h1 hv =>
      rename_i vs;simp only[Eg,List.mem_flatMap] at hs;obtain⟨y,hy,hs⟩:=hs;obtain⟨i,hi,rfl⟩:=List.mem_iff_getElem.1 hy;exact one (hv i _ _ (zz0 hi) (zz0 (by omega))) s hs
  | _=>exact one h s hs
 intro s hs
 cases x with
 | fn f xs =>
   cases h with
   | fn hl hv =>
     rename_i vs;simp only[D6,List.mem_flatMap] at hs;obtain⟨y,hy,hs⟩:=hs;obtain⟨i,hi,rfl⟩:=List.mem_iff_getElem.1 hy;exact two (hv i _ _ (zz0 hi) (zz0 (by omega))) s hs
 | _=>exact two h s hs
theorem XI (hst:w0.st=m.st) {tr:List Tr} {T0:List V} {S0:List Ah} {k:Nat} {c:Nat→Bool} {i:Nat} {o:Oper} (hops:ops.toList=l) {qn:Nat} (hd:YR l qn) (hcan:Wn P m ops l tr T0 S0) (hk:tr.length=k) (hi:i<k) (ho:l[i]? = some o) (hci:c i=false) (hck:∀ j,c j=true→j<k)
 (hclosed:∀ {j:Nat} {o:Oper},c j=true→l[j]? = some o→∀ d∈CL o,c d=true) (hready:∀ d∈CL o,c d=true) (hr:DB P w0 φ ⟨TT tr T0 c k,SS tr S0 c k⟩ a w) {KC:Act→World→Prop} {Q:Exit→Act→World→Prop}
 (hK:∀ φ' a' w',DB P w0 φ' ⟨TT tr T0 (Cj c i) k,SS tr S0 (Cj c i) k⟩ a' w'→KC a' w') :
 if Region.wanted o (yielded ops a.tmps)=true then o.wp P a w KC Q else KC (a.put o.dst undef) w:=by
 have he:tr[i]? = some (tr[i]'(by omega)):=zz0 _;generalize tr[i]'(by omega)=e at he;obtain⟨hdst,hor⟩:=hcan.2 i o e ho he;have hdi:=hd.deps ho
 have temp:∀ t,(∀ j,j<k→∀ oj,l[j]? = some oj→oj.dst=some t→(c j=true↔j<i))→(TT tr T0 c k)[t]? = (TT tr T0 AD i)[t]?:=by
  intro t ht
  have e1:(TT tr T0 c k)[t]? = (TT tr T0 (fun j=>decide (j<i)) k)[t]?:=GE k fun j hj e' he' hd'=>by
   have hjl:l[j]? = some (l[j]'(by have:=hcan.1;omega)):=zz0 _;obtain⟨hdj,_⟩:=hcan.2 j _ e' hjl he';have:=ht j hj _ hjl (by rw[←hdj];exact hd');by_cases h:j<i
   · simp[h,this.2 h]
   · have h2:c j=false:=by cases hcj:c j with|false=>rfl|true=>exact absurd (this.1 hcj) h
     simp[h,h2]
  have e2:TT tr T0 (fun j=>decide (j<i)) k=TT tr T0 (fun j=>decide (j<i)) i:=KL k (by omega) fun j h1 _=>by
   have:¬ j<i:=by omega
   simp[this]
  have e3:TT tr T0 (fun j=>decide (j<i)) i=TT tr T0 AD i:=Kz i fun j hj=>by simp[hj,AD]
  rw[e1,e2,e3]
 have oper:∀ t,t∈Hn o→(TT tr T0 c k)[t]? = (TT tr T0 AD i)[t]?:=by
  intro t ht;refine temp t fun j hj oj hoj hdj=>?_;constructor
  · intro hcj;rcases Nat.lt_trichotomy j i with h|h|h
    · exact h
    · subst h;rw[hci] at hcj;cases hcj
    · have hcl:clash o oj=true:=by
       unfold clash
       cases hod:o.dst with
       | none=>simp only[hdj];simpa using ht
       | some q=>simp only[hdj];simp[ht]
      have:=hclosed hcj hoj i (hd.clash h ho hoj hcl);rw[hci] at this;cases this
  · intro hji
    have hcl:clash oj o=true:=by
     unfold clash;rw[hdj]
     cases hod:o.dst with
     | none=>simpa using ht
     | some q=>simp[ht]
    exact hready j (hd.clash hji hoj ho hcl)
 have hev:∀ x∈o.op.operands.toList,(⟨TT tr T0 c k,SS tr S0 c k⟩:St).eval x=(⟨TT tr T0 AD i,SS tr S0 AD i⟩:St).eval x:=by
  intro x hx
  cases x with
  | tmp t =>
    show ((TT tr T0 c k)[t]?).getD .any=((TT tr T0 AD i)[t]?).getD .any;rw[oper t (by unfold Hn;exact List.mem_filterMap.2 ⟨.tmp t,hx,rfl⟩)]
  | _=>rfl
 have hguard:Ch ops (TT tr T0 c k) o=Ch ops (TT tr T0 AD i) o:=by
  unfold Ch
  cases hg:o.guard with
  | none=>rfl
  | some gb =>
    obtain⟨g,b⟩:=gb;obtain⟨g1,g2,g3⟩:=hd.guard ho hg;have hgl:l[g]? = some (l[g]'(by have:=(zz1.1 ho).1;omega)):=zz0 _;generalize l[g]'(by have:=(zz1.1 ho).1;omega)=og at hgl;have hog:ops[g]? = some og:=by rw[←Array.getElem?_toList,hops];exact hgl
    simp only[hog,Option.bind_some]
    cases hod:og.dst with
    | none=>rfl
    | some d =>
      have:=temp d fun j hj oj hoj hdj=>by
       have hjg:=g3 hgl hoj (by rw[hdj,hod]) (by rw[hod];simp);subst hjg;exact⟨fun _=>g1,fun _=>hready j g2⟩
      simp only[this]
 have hwanted:∀ t,Ch ops (TT tr T0 c k) o=some t→Region.wanted o (yielded ops a.tmps)=t:=by
  intro t ht;unfold Ch at ht;unfold Region.wanted
  cases hg:o.guard with
  | none=>rw[hg] at ht;simpa using ht
  | some gb =>
    obtain⟨g,b⟩:=gb;rw[hg] at ht;simp only at ht ⊢;split at ht
    · rename_i d hdd;split at ht
      · rename_i t' ht';have hv:=hr.eval (.tmp d);have hget:(⟨TT tr T0 c k,SS tr S0 c k⟩:St).eval (.tmp d)=.d (.bool t'):=ht';rw[hget] at hv;have hv':=hv.bool
        have hl:d<a.tmps.size:=by
         rcases Nat.lt_or_ge d a.tmps.size with h|h
         · exact h
         · have:a.eval (.tmp d)=undef:=by show a.tmps.getD d undef=_;simp[Array.getD,Nat.not_lt.2 h]
           rw[this] at hv';cases hv'
        have hy:yielded ops a.tmps g=some t':=by
         unfold yielded;rw[hdd]
         have:a.tmps[d]? = some (.bool t'):=by
          rw[Array.getElem?_eq_getElem hl];have:a.eval (.tmp d)=a.tmps[d]:=by show a.tmps.getD d undef=_;simp[Array.getD,hl]
          rw[←this,hv']
         simp[this]
        rw[hy];simpa using ht
      · rename_i ht';have hv:=hr.eval (.tmp d);have hget:(⟨TT tr T0 c k,SS tr S0 c k⟩:St).eval (.tmp d)=.tup []:=ht';rw[hget] at hv;have hv':=hv.undef
        have hy:yielded ops a.tmps g=none:=by
         unfold yielded;rw[hdd]
         cases hq:a.tmps[d]? with
         | none=>simp[hq]
         | some u =>
           have:a.eval (.tmp d)=u:=by show a.tmps.getD d undef=_;rw[Array.getD_eq_getD_getElem?,hq];rfl
           rw[this] at hv';subst hv';simp[hq,undef]
        rw[hy];simpa using ht
      · cases ht
    · cases ht
 have hT:L3 (TT tr T0 c k) o.dst e.x=TT tr T0 (Cj c i) k:=by
  rw[←hdst];refine XZ hi he fun j hij hj e' he' hd' hn=>?_
  cases hcj:c j with
  | false=>rfl
  | true =>
    have hjl:l[j]? = some (l[j]'(by have:=hcan.1;omega)):=zz0 _;obtain⟨hdj,_⟩:=hcan.2 j _ e' hjl he'
    have hcl:clash o (l[j]'(by have:=hcan.1;omega))=true:=by
     unfold clash
     cases hod:o.dst with
     | none=>rw[hdst,hod] at hn;exact absurd rfl hn
     | some q =>
       have:(l[j]'(by have:=hcan.1;omega)).dst=some q:=by rw[←hdj,hd',hdst,hod]
       simp[this]
    have:=hclosed hcj hjl i (hd.clash hij ho hjl hcl);rw[hci] at this;cases this
 obtain⟨hS1,hS2,hS3⟩:=Yd (S0:=S0) hi he hci;rcases hor with ⟨hg,haq⟩|⟨hg,hx,hnews⟩
 · rw[if_pos (hwanted true (by rw[hguard];exact hg))]
   have hsame:OT o ⟨TT tr T0 AD i,SS tr S0 AD i⟩ ⟨TT tr T0 c k,SS tr S0 c k⟩:=⟨hev,fun x hx s hs y hy=>by
    rcases Z0 (c:=c) (Nat.le_of_lt hi) hy with h|h
    · exact h
    · have hv:=hr.eval x;rw[hev x hx] at hv
      exact absurd h (hv.named s hs)⟩
   refine Mi hst (Tn haq hsame) hr fun v w' hq=>?_;obtain⟨Fs,hm⟩:=hr.mem;obtain⟨φ',ht,hv⟩:=Sz hm hq hS2 hS3;have:=hr.turn ht hv o.dst;rw[Fh,hT] at this;simp only[hS1] at this;exact hK φ' _ _ this
 · rw[if_neg (by rw[hwanted false (by rw[hguard];exact hg)];simp)];have:=hr.turn (Turn.refl hr.mem) J0 o.dst;rw[Fh] at this;rw[hx] at hT;rw[hT] at this
   have hS:SS tr S0 c k=SS tr S0 (Cj c i) k:=by
    rw[←hS1,hnews];simp[Be]
   simp only[hS] at this;exact hK φ _ _ this
end
def Fw (L:Nat→Bool):Nat→Nat
 | 0=>0
 | n+1=>Fw L n+(if L n=true then 0 else 1)
theorem Km {L:Nat→Bool} {i:Nat} (hL:L i=false):∀ {n:Nat},i<n→Fw (Cj L i) n+1=Fw L n
 | 0,h=>by omega
 | n+1,h=>by
   unfold Fw;by_cases hi:i=n
   · subst hi
     have e:∀ m,m≤i→Fw (Cj L i) m=Fw L m:=by
      intro m
      induction m with
      | zero=>intro _;rfl
      | succ m ih =>
        intro hm;unfold Fw;have:(m==i)=false:=by simp;omega
        rw[ih (by omega)];simp[Cj,this]
     rw[e i (Nat.le_refl _),hL];simp[Cj]
   · have:=Km hL (n:=n) (by omega);have h2:(n==i)=false:=by simp;omega
     simp only[Cj,h2,Bool.false_or] at this ⊢;omega
theorem Hk {L:Nat→Bool}:∀ {n:Nat},Fw L n=0→∀ j,j<n→L j=true
 | 0,_,j,h=>by omega
 | n+1,h,j,hj=>by
   unfold Fw at h;by_cases hn:L n=true
   · by_cases hjn:j=n
     · rw[hjn];exact hn
     · exact Hk (n:=n) (by omega) j (by omega)
   · rw[if_neg hn] at h;omega
theorem VA {L:Nat→Bool} {n:Nat} (h:0<Fw L n):∃ j,j<n∧L j=false∧∀ i,i<j→L i=true:=by
 have h1:∃ j,j<n∧L j=false:=by
  refine Classical.byContradiction fun hn=>?_
  have:∀ m,m≤n→Fw L m=0:=by
   intro m
   induction m with
   | zero=>intro _;rfl
   | succ m ih =>
     intro hm;unfold Fw;rw[ih (by omega)]
     cases hL:L m with
     | true=>rfl
     | false=>exact absurd ⟨m,by omega,hL⟩ hn
  rw[this n (Nat.le_refl _)] at h;omega
 obtain⟨j,hj,hL⟩:=h1
 induction j using Nat.strongRecOn with
 | _ j ih =>
   by_cases hall:∃ i,i<j∧L i=false
   · obtain⟨i,hi,hLi⟩:=hall;exact ih i hi (by omega) hLi
   · refine⟨j,hj,hL,fun i hi=>?_⟩
     cases hLi:L i with
     | true=>rfl
     | false=>exact absurd ⟨i,hi,hLi⟩ hall
section
variable {P:Program} {mo:Mode} {w0:Ex} {w w':World} {φ φ':Cu} {σ σ':St} {a:Act} {ops:Array Oper} {l:List Oper}
def DU (m:Region.Mode) (ops:Array Oper) (listed:Array Bool) (i:Nat):Bool :=
 !listed.getD i true&&((ops[i]?).map (·.after.all fun e=>!Region.binds m e||listed.getD e.on false)).getD false
theorem IC (m:Region.Mode) (ops:Array Oper) (fuel t:Nat) (listed:Array Bool) (acc:List Nat):Region.linearise.go m ops (fuel+1) t listed acc =
 match ((List.range ops.size).filter (DU m ops listed))[t % ((List.range ops.size).filter (DU m ops listed)).length]? with
 | some i=>Region.linearise.go m ops fuel (t / ((List.range ops.size).filter (DU m ops listed)).length) (listed.setIfInBounds i true) (i::acc)
 | none=>acc.reverse:=rfl
theorem We {m:Region.Mode} {e:Edge} (h:E4 e=true):Region.binds m e=true:=by
 unfold E4 at h;unfold Region.binds
 cases hg:e.ground<;>rw[hg] at h<;>simp_all
theorem VU (hops:ops.toList=l) {m:Region.Mode} {listed:Array Bool} (hsz:listed.size=ops.size) {i:Nat} (hi:i<ops.size) (hL:listed.getD i false=false) (h:∀ o,l[i]? = some o→∀ e∈o.after.toList,Region.binds m e=true→listed.getD e.on false=true):DU m ops listed i=true:=by
 have ho:ops[i]? = some ops[i]:=Array.getElem?_eq_getElem hi;have hol:l[i]? = some ops[i]:=by rw[←hops,Array.getElem?_toList];exact ho
 have e1:listed.getD i true=listed.getD i false:=by simp[Array.getD,hsz,hi]
 unfold DU;rw[e1,ho,hL];simp only[Option.map_some,Option.getD_some,Bool.and_eq_true,Bool.not_eq_true',Array.all_eq_true_iff_forall_mem];refine⟨trivial,fun e he=>?_⟩;have:=h _ hol e (by simpa using he)
 cases hb:Region.binds m e with
 | false=>rfl
 | true=>simp[this hb]
theorem R4 (hops:ops.toList=l) {m:Region.Mode} {listed:Array Bool} (hsz:listed.size=ops.size) {i:Nat} (hi:i<ops.size) (hr:DU m ops listed i=true):listed.getD i false=false∧∀ o,l[i]? = some o→∀ d∈CL o,listed.getD d false=true:=by
 have ho:ops[i]? = some ops[i]:=Array.getElem?_eq_getElem hi;have hol:l[i]? = some ops[i]:=by rw[←hops,Array.getElem?_toList];exact ho
 have e1:listed.getD i true=listed.getD i false:=by simp[Array.getD,hsz,hi]
 unfold DU at hr;rw[e1,ho] at hr;simp only[Option.map_some,Option.getD_some,Bool.and_eq_true,Bool.not_eq_true',Array.all_eq_true_iff_forall_mem] at hr;refine⟨hr.1,fun o ho' d hdm=>?_⟩;rw[hol] at ho'
 cases ho'
 unfold CL at hdm;obtain⟨e,he,rfl⟩:=ABc.1 hdm;obtain⟨he,hp⟩:=ABx.1 he;have:=hr.2 e (by simpa using he);rw[We hp] at this;simpa using this
theorem I9 (hops:ops.toList=l) (hd:DrawnB l) {m:Region.Mode} {listed:Array Bool} (hsz:listed.size=ops.size) (hc:0<Fw (fun j=>listed.getD j false) ops.size) (t:Nat) :
 ∃ i,((List.range ops.size).filter (DU m ops listed))[t % ((List.range ops.size).filter (DU m ops listed)).length]? = some i∧i<ops.size∧listed.getD i false=false∧∀ o,l[i]? = some o→∀ d∈CL o,listed.getD d false=true:=by
 obtain⟨j,hj,hLj,hless⟩:=VA hc;have hll:l.length=ops.size:=by rw[←hops];simp
 have hsome:∃ i,i<ops.size∧DU m ops listed i=true:=by
  by_cases hall:∀ o,l[j]? = some o→∀ e∈o.after.toList,Region.binds m e=true→listed.getD e.on false=true
  · exact⟨j,hj,VU hops hsz hj hLj hall⟩
  · simp only[Classical.not_forall] at hall;obtain⟨o,ho,e,he,hb,hn⟩:=hall;have hn':listed.getD e.on false=false:=by cases h:listed.getD e.on false with|false=>rfl|true=>exact absurd h hn
    have hge:¬ e.on<j:=fun h=>hn (hless _ h);have hp:E4 e=false:=by cases h:E4 e with|false=>rfl|true=>exact absurd (hd.edge ho e he h) hge
    have hs:=hd.soft ho e he hp;unfold Yu at hs;simp only[Bool.or_eq_true,decide_eq_true_eq,Bool.and_eq_true,Bool.not_eq_true'] at hs;rcases hs with h|⟨ht,hq⟩
    · exact absurd h hge
    have hm:m=.gc:=by
     unfold E4 at hp;unfold Md at ht;unfold Region.binds at hb
     cases hg:e.ground<;>rw[hg] at hp ht hb<;>simp_all
    have key:∀ (n i:Nat),YI l n j i=true→listed.getD i false=false→∃ i,i<ops.size∧DU m ops listed i=true:=by
     intro n
     induction n with
     | zero=>intro i h;cases h
     | succ n ih =>
       intro i h hi;unfold YI at h
       cases hql:l[i]? with
       | none=>rw[hql] at h;cases h
       | some q =>
         rw[hql] at h;simp only[zz8,Bool.or_eq_true,decide_eq_true_eq] at h;have hlt:i<ops.size:=by have:=(zz1.1 hql).1;omega
         by_cases hall:∀ o,l[i]? = some o→∀ e∈o.after.toList,Region.binds m e=true→listed.getD e.on false=true
         · exact⟨i,hlt,VU hops hsz hlt hi hall⟩
         · simp only[Classical.not_forall] at hall;obtain⟨o',ho',e',he',hb',hn'⟩:=hall;have hn'':listed.getD e'.on false=false:=by cases h:listed.getD e'.on false with|false=>rfl|true=>exact absurd h hn'
           rw[hql] at ho'
           cases ho'
           rcases h e' he' with (h|h)|h
           · unfold Md at h;unfold Region.binds at hb';rw[hm] at hb'
             cases hg:e'.ground<;>rw[hg] at h hb'<;>simp_all
           · exact absurd (hless _ h) hn'
           · exact ih _ h hn''
    exact key _ _ hq hn'
 obtain⟨i,hi,hri⟩:=hsome
 have hmem:i∈(List.range ops.size).filter (DU m ops listed):=by
  rw[ABx,ABw];exact⟨hi,hri⟩
 have hlen:0<((List.range ops.size).filter (DU m ops listed)).length:=AB4 hmem;have hlt:=Nat.mod_lt t hlen;refine⟨_,zz0 hlt,?_⟩;have hin:=ABt hlt;rw[ABx,ABw] at hin;exact⟨hin.1,R4 hops hsz hin.1 hin.2⟩
theorem EV {listed:Array Bool} {n i:Nat} (hsz:listed.size=n) (hi:i<n):(fun j=>(listed.setIfInBounds i true).getD j false)=Cj (fun j=>listed.getD j false) i:=by
 funext j
 simp only[Cj];by_cases hj:j=i
 · subst hj;simp[Array.getD,hsz,hi]
 · have h1:(j==i)=false:=by simpa using hj
   rw[h1,Bool.false_or];simp only[Array.getD_eq_getD_getElem?];rw[Array.getElem?_setIfInBounds_ne (fun e=>hj e.symm)]
theorem YP (hops:ops.toList=l) {qn:Nat} (hd:YR l qn) {m:Region.Mode}:∀ (fuel t:Nat) (listed:Array Bool) (acc:List Nat) (mm:Nat),qn≤mm→mm+fuel=ops.size→listed.size=ops.size→(∀ j,listed.getD j false=decide (j<mm)) →
 Region.linearise.go m ops fuel t listed acc=acc.reverse++List.range' mm fuel
 | 0,t,listed,acc,mm,_,_,_,_=>by simp[Region.linearise.go]
 | fuel+1,t,listed,acc,mm,hk,hn,hsz,hL=>by
   have hc:0<Fw (fun j=>listed.getD j false) ops.size:=by
    rcases Nat.eq_zero_or_pos (Fw (fun j=>listed.getD j false) ops.size) with h|h
    · have:=Hk h mm (by omega);simp only[hL] at this;simp at this
    · exact h
   obtain⟨i,hpick,hi,hLi,hdep⟩:=I9 (m:=m) hops hd.toDrawnB hsz hc t;rw[IC,hpick];simp only
   have him:i=mm:=by
    rw[hL] at hLi;have hge:mm≤i:=by simpa using hLi
    rcases Nat.eq_or_lt_of_le hge with h|h
    · exact h.symm
    · have hil:i<l.length:=by rw[←hops];simpa using hi
      have hb:=hd.tail (by omega) hil h;have hol:l[i]? = some l[i]:=zz0 hil
      have:=OQ (l:=l) hd.deps (c:=fun j=>decide (j<mm)) (fun {j o} hcj ho d hdm=>by
       have:=hd.deps ho d hdm;simp only[decide_eq_true_eq] at hcj ⊢
       omega) i hol (fun d hdm=>by rw[←hL];exact hdep _ hol d hdm) hb
      simp at this
   subst him
   rw[YP hops hd fuel _ _ _ (i+1) (by omega) (by omega) (by simpa using hsz) (fun j=>by
    have:=congrFun (EV hsz hi) j;rw[this];simp only[Cj,hL];by_cases hj:j=i
    · subst hj;simp
    · have h1:(j==i)=false:=by simpa using hj
      rw[h1,Bool.false_or]
      congr 1
      apply propext
      omega)]
   simp[List.range'_succ]
theorem X3 {Q:Exit→Act→World→Prop} {k:Nat} (hk:k≤ops.size):wpOps P ops Q (List.range' k (ops.size - k))=wpList P ops Q (ops.toList.drop k):=by
 have:=wpOps_eq_wpList (P:=P) (ops:=ops) (Q:=Q) (ops.toList.drop k) k (fun j=>by rw[ABn,Array.getElem?_toList]);rw[←this];simp
theorem iK (hst:w0.st=mo.st) (hops:ops.toList=l) {qn:Nat} (hd:YR l qn) {m:Region.Mode} {tr:List Tr} {T0:List V} {S0:List Ah} (hcan:Wn P mo ops l tr T0 S0) (hk:tr.length=qn) {Q:Exit→Act→World→Prop}
 (htail:∀ φ a w,DB P w0 φ ⟨TT tr T0 AD (qn),SS tr S0 AD (qn)⟩ a w→wpList P ops Q (l.drop (qn)) a w) :
 ∀ (fuel t:Nat) (listed:Array Bool) (acc:List Nat),listed.size=ops.size→Fw (fun j=>listed.getD j false) ops.size=fuel→(∀ j,listed.getD j false=true→j<qn) →
   (∀ {j:Nat} {o:Oper},listed.getD j false=true→l[j]? = some o→∀ d∈CL o,listed.getD d false=true) →
   ∃ suf,Region.linearise.go m ops fuel t listed acc=acc.reverse++suf∧∀ φ a w,DB P w0 φ ⟨TT tr T0 (fun j=>listed.getD j false) (qn),SS tr S0 (fun j=>listed.getD j false) (qn)⟩ a w→wpOps P ops Q suf a w:=by
 have hlen:l.length=ops.size:=by rw[←hops];simp
 have hql:qn≤ops.size:=by rw[←hlen];exact hd.le
 have full:∀ (fuel t:Nat) (listed:Array Bool) (acc:List Nat),listed.size=ops.size→Fw (fun j=>listed.getD j false) ops.size=fuel→(∀ j,listed.getD j false=true→j<qn)→(∀ j,j<qn→listed.getD j false=true) →
  ∃ suf,Region.linearise.go m ops fuel t listed acc=acc.reverse++suf∧∀ φ a w,DB P w0 φ ⟨TT tr T0 (fun j=>listed.getD j false) (qn),SS tr S0 (fun j=>listed.getD j false) (qn)⟩ a w→wpOps P ops Q suf a w:=by
  intro fuel t listed acc hsz hc hlt hall
  have hL:∀ j,listed.getD j false=decide (j<qn):=by
   intro j;by_cases h:j<qn
   · rw[hall j h];simp[h]
   · cases hj:listed.getD j false with
     | true=>exact absurd (hlt j hj) h
     | false=>simp[h]
  have hcount:Fw (fun j=>listed.getD j false) ops.size=ops.size - qn:=by
   have e:∀ n,Fw (fun j=>decide (j<qn)) n=n - qn:=by
    intro n
    induction n with
    | zero=>simp[Fw]
    | succ n ih =>
      unfold Fw;rw[ih];by_cases h:n<qn
      · simp[h];omega
      · simp[h];omega
   have:(fun j=>listed.getD j false)=fun j=>decide (j<qn):=funext hL;rw[this];exact e _
  refine⟨List.range' (qn) (ops.size - qn),?_,fun φ a w hr=>?_⟩
  · rw[YP hops hd fuel t listed acc (qn) (Nat.le_refl _) (by omega) hsz hL]
    congr 2
    omega
  · rw[X3 hql,hops];refine htail φ a w ?_;have e1:TT tr T0 (fun j=>listed.getD j false) (qn)=TT tr T0 AD (qn):=Kz _ fun j hj=>by rw[hL];simp[hj,AD]
    have e2:SS tr S0 (fun j=>listed.getD j false) (qn)=SS tr S0 AD (qn):=OS _ fun j hj=>by rw[hL];simp[hj,AD]
    rw[←e1,←e2];exact hr
 intro fuel
 induction fuel with
 | zero =>
   intro t listed acc hsz hc hlt hcl;exact full 0 t listed acc hsz hc hlt fun j hj=>Hk hc j (by omega)
 | succ fuel ih =>
   intro t listed acc hsz hc hlt hcl;obtain⟨i,hpick,hi,hLi,hdep⟩:=I9 (m:=m) hops hd.toDrawnB hsz (by omega) t;have hil:i<l.length:=by omega
   have hol:l[i]? = some l[i]:=zz0 hil;by_cases hik:i<qn
   · have hset:=EV hsz hi;have hat:∀ j,(listed.setIfInBounds i true).getD j false=Cj (fun j=>listed.getD j false) i j:=fun j=>congrFun hset j
     obtain⟨suf,h1,h2⟩:=ih (t / ((List.range ops.size).filter (DU m ops listed)).length) (listed.setIfInBounds i true) (i::acc) (by simpa using hsz) (by
      rw[hset];have:=Km (L:=fun j=>listed.getD j false) hLi hi;omega) (fun j hj=>by
      rw[hat] at hj;simp only[Cj,Bool.or_eq_true,beq_iff_eq] at hj;rcases hj with rfl|hj
      · exact hik
      · exact hlt j hj) (fun {j o} hj ho d hdm=>by
      rw[hat] at hj ⊢;simp only[Cj,Bool.or_eq_true,beq_iff_eq] at hj ⊢;right;rcases hj with rfl|hj
      · exact hdep o ho d hdm
      · exact hcl hj ho d hdm)
     refine⟨i::suf,?_,fun φ a w hr=>?_⟩
     · rw[IC,hpick];simp only;rw[h1];simp
     · have hoo:ops[i]? = some l[i]:=by rw[←Array.getElem?_toList,hops];exact hol
       unfold wpOps;simp only[hoo];have:=XI hst (c:=fun j=>listed.getD j false) (KC:=wpOps P ops Q suf) (Q:=Q) hops hd hcan hk hik hol hLi hlt hcl (hdep _ hol) hr (fun φ' a' w' hr'=>h2 φ' a' w' (by rw[hset];exact hr'));split
       · rename_i hw;rw[if_pos hw] at this;exact .inl this
       · rename_i hw;rw[if_neg hw] at this;exact this
   ·
    refine full (fuel+1) t listed acc hsz hc hlt fun j hj=>?_;have hb:=hd.tail (i:=j) (j:=i) (by omega) hil (by omega);exact OQ (l:=l) hd.deps (c:=fun j=>listed.getD j false) (fun {j o} h ho d hdm=>hcl h ho d hdm) i hol (hdep _ hol) hb
theorem DB.drew (h:DB P w0 φ σ a w):DB P w0 φ σ a { w with drawn:=w.drawn+1 }:=by
 obtain⟨Fs,hm⟩:=h.mem;have hO:C1 [] w { w with drawn:=w.drawn+1 }:=⟨rfl,rfl,rfl,Nat.le_refl _,fun _ _ _=>rfl⟩;have ht:Turn P w0 φ σ.slots w φ σ.slots { w with drawn:=w.drawn+1 }:=hm.turn (Fs':=Fs) hO (by simp) hm.flen hm.Flen hm.nd hm.ge (fun s x hx=>⟨x,hx,Later.refl x⟩) (fun _ _ h _=>h) (fun b hb=>.inr hb) (fun s x hd F h1 h2 h3=>.inl ⟨h1,h2,h3,by simp⟩);exact h.turn ht (x:=.any) (v:=undef) (.any _) none
theorem Up {tr:List Tr} {S0:List Ah}:∀ k,∃ n,SS tr S0 (fun _=>false) k=S0++List.replicate n .unborn
 | 0=>⟨0,by simp[SS]⟩
 | k+1=>by
   obtain⟨n,hn⟩:=Up (tr:=tr) (S0:=S0) k
   cases he:tr[k]? with
   | none=>exact⟨n,by rw[SS,he];exact hn⟩
   | some e=>exact⟨n+e.news.length,by rw[SS,he];simp only[hn,Bool.false_eq_true,if_false,AB2,List.replicate_append_replicate]⟩
theorem DB.unborn (h:DB P w0 φ σ a w) (n:Nat):∃ φ',DB P w0 φ' ⟨σ.tmps,σ.slots++List.replicate n .unborn⟩ a w:=by
 obtain⟨Fs,hm⟩:=h.mem;have hrep:∀ k:Nat,(List.replicate k ([]:List Nat)).flatten=[]:=fun k=>by induction k with|zero=>rfl|succ k ih=>simp[List.replicate_succ,ih]
 have ht:Turn P w0 φ σ.slots w (φ++List.replicate n (none,0)) (σ.slots++List.replicate n .unborn) w:=by
  refine hm.turn (Fs':=Fs++List.replicate n []) (C1.refl [] w) (by simp) (by simp[hm.flen]) (by simp[hm.Flen]) (by rw[AB5,hrep,List.append_nil];exact hm.nd) (by rw[AB5,hrep,List.append_nil];exact hm.ge)
   (fun s x hx=>⟨x,by rw[zz4 (zz1.1 hx).1];exact hx,Later.refl x⟩) (fun s h hh _=>by rw[zz4 (zz1.1 hh).1];exact hh) ?_ ?_
  · rintro b ⟨s,x,c,h1,h2,h3⟩;by_cases hs:s<σ.slots.length
    · rw[zz4 hs] at h1;rw[zz4 (by rw[hm.flen];exact hs)] at h3;exact .inr ⟨s,x,c,h1,h2,h3⟩
    · rw[zz5 (by omega),List.getElem?_replicate] at h1;split at h1
      · cases h1;exact h2.elim
      · cases h1
  · intro s x hd F h1 h2 h3;by_cases hs:s<σ.slots.length
    · rw[zz4 hs] at h1;rw[zz4 (by rw[hm.flen];exact hs)] at h2;rw[zz4 (by rw[hm.Flen];exact hs)] at h3;exact .inl ⟨h1,h2,h3,by simp⟩
    · rw[zz5 (by omega),List.getElem?_replicate] at h1;rw[zz5 (by rw[hm.Flen];omega),List.getElem?_replicate] at h3;split at h1
      · cases h1
        split at h3
        · cases h3;exact .inr rfl
        · cases h3
      · cases h1
 exact⟨_,h.turn ht (x:=.any) (v:=undef) (.any _) none⟩
theorem PZ (hst:w0.st=mo.st) (htc:mo.tc=false) {qn:Nat} {K:St→Prop} {Q:Exit→Act→World→Prop} (hok:JZ ops qn=true) (h:Bh P mo ops K (ops.toList.take qn) σ) (hr:DB P w0 φ σ a w)
 (htail:∀ {φ:Cu} {σ:St} {a:Act} {w:World},K σ→DB P w0 φ σ a w→wpList P ops Q (ops.toList.drop qn) a w):∀ (m:Region.Mode) (t:Nat),wpOps P ops Q (Region.linearise m ops t) a w:=by
 have hd:=dK hok;obtain⟨T0,S0⟩:=σ;have hql:(ops.toList.take qn).length=qn:=by rw[ACC];exact Nat.min_eq_left hd.le
 obtain⟨tr,h1,h2',h3⟩:=Vt htc h qn (Nat.le_of_eq hql.symm) (fun i o hi ho=>hd.quiet hi (by rw[ABh,if_pos hi] at ho;exact ho));have h2:Wn P mo ops ops.toList tr T0 S0:=⟨by rw[h1];exact hd.le,fun i o e ho he=>h2'.2 i o e (by rw[ABh,if_pos (by rw[←h1];exact (zz1.1 he).1)];exact ho) he⟩;rw[List.drop_of_length_le (Nat.le_of_eq hql)] at h3;intro m t
 have hgd:∀ j,(Array.replicate ops.size false).getD j false=false:=fun j=>by
  simp only[Array.getD_eq_getD_getElem?,Array.getElem?_replicate];split<;>rfl
 have hfun:(fun j=>(Array.replicate ops.size false).getD j false)=fun _=>false:=funext hgd
 obtain⟨suf,k1,k2⟩:=iK hst (m:=m) rfl hd h2 h1 (fun φ a w hr=>htail h3 hr) ops.size t (Array.replicate ops.size false) [] (by simp) (by
  rw[hfun];have:∀ n,Fw (fun _=>false) n=n:=fun n=>by induction n with|zero=>rfl|succ n ih=>unfold Fw;rw[ih];simp
  exact this _) (fun j hj=>by rw[hgd] at hj;cases hj) (fun {j o} hj _ _ _=>by rw[hgd] at hj;cases hj)
 have e:Region.linearise m ops t=suf:=by
  unfold Region.linearise;rw[k1];simp
 rw[e];obtain⟨n,e2⟩:=Up (tr:=tr) (S0:=S0) (qn);obtain⟨φ',hr'⟩:=DB.unborn hr n;refine k2 φ' a _ ?_;rw[hfun];have e1:TT tr T0 (fun _=>false) (qn)=T0:=KL (i:=0) _ (Nat.zero_le _) fun _ _ _=>rfl;rw[e1,e2];exact hr'
theorem XH (hst:w0.st=mo.st) (htc:mo.tc=false) {id qn:Nat} {K:St→Prop} {Q:Exit→Act→World→Prop} (hok:JZ ops qn=true) (h:Bh P mo ops K (ops.toList.take qn) σ) (hr:DB P w0 φ σ a w)
 (htail:∀ {φ:Cu} {σ:St} {a:Act} {w:World},K σ→DB P w0 φ σ a w→wpList P ops Q (ops.toList.drop qn) a w):(Code.region id ops true).wp P Q a w:=by
 refine wp_region_draw fun t=>?_;unfold Region.schedule;split
 · exact PZ hst htc hok h hr.drew htail _ _
 · exact PZ hst htc hok h hr.drew htail _ _
end
end Go.Proofs.YtnjedabjbeipeaaGreat
