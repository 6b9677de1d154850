/-
  An abstract reading of memory: data, values, slots. How they lie in the memory of the model, and what keeps them so. Plain lemmas, about no function of the program.
  Conditions: those typed in each theorem.
-/
import Derived.Test.YtnjedabjbeipeaaMem
namespace Go.Proofs.Ytnjedabjbeipeaa
open Go.RowKit Go.ChangeShapes Go.WideShapes
set_option linter.unusedSimpArgs false
set_option linter.unusedVariables false
set_option maxRecDepth 100000
set_option maxHeartbeats 10000000
inductive D where
 | int (k:IntKind) (x:Int)
 | bool (b:Bool)
 | sl (t:TypeId) (es:List (List D))
inductive V where
 | any
 | nil (t:TypeId)
 | d (x:D)
 | ref (s:Nat)
 | lit (s n:Nat)
 | ptr (s o:Nat)
 | eptr (s n i j:Nat)
 | cptr (ds:List D)
 | agg (xs:List V)
 | tup (xs:List V)
 | fn (f:FuncId) (xs:List V)
 | nilp
abbrev Ky:=Int×(Bool ⊕ Int)
abbrev Vl:=Int×Option Bool
def DO (k:Ky):Value :=
 match k.2 with
 | .inl b=>.agg #[.int .i64 k.1,.bool b]
 | .inr c=>.agg #[.int .i64 k.1,.int .i64 c]
def DC (x:Vl):Value :=
 match x.2 with
 | none=>.int .i64 x.1
 | some b=>.agg #[.int .i64 x.1,.bool b]
inductive Bk where
 | mp (t:TypeId) (es:List (Ky×Vl))
 | que (t:TypeId) (n:Nat) (es:List (List D))
inductive Ag where
 | dead
 | unborn
 | arr (t:TypeId) (ow:Bool) (es:List (List D))
 | var (t:TypeId) (xs:List V)
 | blk (k:Bk)
structure St where
 tmps:List V
 slots:List Ag
inductive Rd (w:World) (G:Nat→Prop):D→Value→Prop
 | int (k:IntKind) (x:Int):Rd w G (.int k x) (.int k x)
 | bool (b:Bool):Rd w G (.bool b) (.bool b)
 | nil (t:TypeId) (A:Option Addr) (c:Nat):Rd w G (.sl t []) (.slice A 0 c)
 | sl (t:TypeId) (es:List (List D)) (b o c s:Nat) (u:Nat→Nat→Value) (hn:es.length≤9223372036854775807) (hcap:es.length≤c) (hG:G b) (hs:∀ e∈es,e.length=s)
    (hc:∀ i e j d,es[i]? = some e→e[j]? = some d→w.cell? ⟨b,o+i*s+j,none⟩=some (u i j)) (hr:∀ i e j d,es[i]? = some e→e[j]? = some d→Rd w G d (u i j)) :
    Rd w G (.sl t es) (.slice (some ⟨b,o,none⟩) es.length c)
theorem Rd.mono {w w':World} {G G':Nat→Prop} {d:D} {v:Value} (h:Rd w G d v) (hk:∀ b,G b→G' b∧∀ o,w'.cell? ⟨b,o,none⟩=w.cell? ⟨b,o,none⟩):Rd w' G' d v:=by
 induction h with
 | int k x=>exact .int k x
 | bool b=>exact .bool b
 | nil t A c=>exact .nil t A c
 | sl t es b o c s u hn hcap hG hs hc hr ih=>exact .sl t es b o c s u hn hcap (hk b hG).1 hs (fun i e j d he hd=>((hk b hG).2 _).trans (hc i e j d he hd)) ih
theorem Rd.one {w:World} {G:Nat→Prop} {d:D} {v:Value} (h:Rd w G d v):v.oneCell'=true:=by cases h<;>rfl
theorem Rd.len {w:World} {G:Nat→Prop} {t:TypeId} {es:List (List D)} {v:Value} (h:Rd w G (.sl t es) v):∃ A c,v=.slice A es.length c∧es.length≤9223372036854775807:=by
 cases h with
 | nil=>exact⟨_,_,rfl,by simp⟩
 | sl _ _ _ _ _ _ _ hn=>exact⟨_,_,rfl,hn⟩
section
variable (P:Program) (w:World)
inductive BW:List D→List Value→List Nat→Prop
 | nil:BW [] [] []
 | int (k:IntKind) (x:Int) {ds:List D} {vs:List Value} {F:List Nat} (h:BW ds vs F):BW (.int k x::ds) (.int k x::vs) F
 | bool (b:Bool) {ds:List D} {vs:List Value} {F:List Nat} (h:BW ds vs F):BW (.bool b::ds) (.bool b::vs) F
 | none (t:TypeId) {ds:List D} {vs:List Value} {F:List Nat} (h:BW ds vs F):BW (.sl t []::ds) (.slice none 0 0::vs) F
 | sl (t:TypeId) (es:List (List D)) (g c:Nat) (cur:Array Value) (Fs:List (List Nat)) (hg:w.heap[g]? = some (.cells cur t (0,0))) (hcap:es.length≤c) (hc63:c≤9223372036854775807)
    (hsz:cur.size=c*P.cellsOf t) (hF:Fs.length=es.length) (hl:∀ e∈es,e.length=P.cellsOf t)
    (he:∀ i e f,es[i]? = some e→Fs[i]? = some f→BW e ((cur.toList.drop (i*P.cellsOf t)).take (P.cellsOf t)) f)
    {ds:List D} {vs:List Value} {F:List Nat} (h:BW ds vs F):BW (.sl t es::ds) (.slice (some ⟨g,0,Option.none⟩) es.length c::vs) ((g::Fs.flatten)++F)
end
def RowOf (P:Program) (w:World) (R:List D→List Value→List Nat→Prop) (t:TypeId) (es:List (List D)) (A:Option Nat) (c:Nat) (F:List Nat):Prop :=
 c≤9223372036854775807∧es.length≤c∧((A=none∧c=0∧F=[])∨∃ (g:Nat) (cur:Array Value) (Fs:List (List Nat)),A=some g∧w.heap[g]? = some (.cells cur t (0,0))∧cur.size=c*P.cellsOf t∧Fs.length=es.length ∧
  (∀ e∈es,e.length=P.cellsOf t)∧(∀ i e f,es[i]? = some e→Fs[i]? = some f→R e ((cur.toList.drop (i*P.cellsOf t)).take (P.cellsOf t)) f)∧F=g::Fs.flatten)
abbrev Ga (A:Option Nat):Option Addr:=A.map fun g=>⟨g,0,none⟩
section
variable {P:Program} {w w':World}
theorem BW.len {ds:List D} {vs:List Value} {F:List Nat} (h:BW P w ds vs F):vs.length=ds.length:=by
 induction h<;>simp_all
theorem BW.lt {ds:List D} {vs:List Value} {F:List Nat} (h:BW P w ds vs F):∀ g∈F,g<w.heap.size:=by
 induction h with
 | nil=>simp
 | int k x h ih=>exact ih
 | bool b h ih=>exact ih
 | none t h ih=>exact ih
 | sl t es g c cur Fs hg hcap hc63 hsz hF hl he h ih ih2 =>
   intro q hq;rcases ACE.1 hq with hq|hq
   · rcases List.mem_cons.1 hq with rfl|hq
     · exact (ACC.1 hg).1
     · obtain⟨f,hf,hq⟩:=List.mem_flatten.1 hq;obtain⟨i,hi,rfl⟩:=List.mem_iff_getElem.1 hf;exact ih i (es[i]'(by omega)) Fs[i] (zz0 (by omega)) (zz0 hi) q hq
   · exact ih2 q hq
theorem BW.stay {ds:List D} {vs:List Value} {F:List Nat} (h:BW P w ds vs F) (hF:∀ g∈F,w'.heap[g]? = w.heap[g]?):BW P w' ds vs F:=by
 induction h with
 | nil=>exact .nil
 | int k x h ih=>exact .int k x (ih hF)
 | bool b h ih=>exact .bool b (ih hF)
 | none t h ih=>exact .none t (ih hF)
 | sl t es g c cur Fs hg hcap hc63 hsz hFl hl he h ih ih2 =>
   refine .sl t es g c cur Fs ((hF g (by simp)).trans hg) hcap hc63 hsz hFl hl (fun i e f h1 h2=>ih i e f h1 h2 fun q hq=>hF q ?_) (ih2 fun q hq=>hF q (by simp[hq]));exact List.mem_append_left _ (ACO _ (A5 h2 hq))
theorem BW.one {ds:List D} {vs:List Value} {F:List Nat} (h:BW P w ds vs F):∀ u∈vs,u.oneCell'=true:=by
 induction h with
 | nil=>simp
 | int k x h ih=>intro u hu;rcases List.mem_cons.1 hu with rfl|hu;· rfl
                 · exact ih u hu
 | bool b h ih=>intro u hu;rcases List.mem_cons.1 hu with rfl|hu;· rfl
                · exact ih u hu
 | none t h ih=>intro u hu;rcases List.mem_cons.1 hu with rfl|hu;· rfl
                · exact ih u hu
 | sl t es g c cur Fs hg hcap hc63 hsz hFl hl he h ih ih2=>intro u hu;rcases List.mem_cons.1 hu with rfl|hu;· rfl
                                                           · exact ih2 u hu
theorem BW.rd {ds:List D} {vs:List Value} {F:List Nat} {G:Nat→Prop} (h:BW P w ds vs F) (hG:∀ g∈F,G g):∀ (i:Nat) (d:D),ds[i]? = some d→∃ v,vs[i]? = some v∧Rd w G d v:=by
 induction h with
 | nil=>intro i d h;simp at h
 | int k x h ih =>
   intro i d hd
   match i with
   | 0=>simp at hd;subst hd;exact⟨_,rfl,.int k x⟩
   | i+1=>simp at hd;simpa using ih hG i d hd
 | bool b h ih =>
   intro i d hd
   match i with
   | 0=>simp at hd;subst hd;exact⟨_,rfl,.bool b⟩
   | i+1=>simp at hd;simpa using ih hG i d hd
 | none t h ih =>
   intro i d hd
   match i with
   | 0=>simp at hd;subst hd;exact⟨_,rfl,.nil t _ _⟩
   | i+1=>simp at hd;simpa using ih hG i d hd
 | sl t es g c cur Fs hg hcap hc63 hsz hFl hl he h ih ih2 =>
   intro i d hd
   match i with
   | i+1=>simp at hd;simpa using ih2 (fun q hq=>hG q (by simp[hq])) i d hd
   | 0 =>
     simp at hd;subst hd;refine⟨_,rfl,?_⟩
     have key:∀ i e j d,es[i]? = some e→e[j]? = some d→∃ v,cur[i*P.cellsOf t+j]? = some v∧Rd w G d v:=by
      intro i e j d h1 h2;have hil:i<es.length:=(zz1.1 h1).1;have hf:Fs[i]? = some (Fs[i]'(by omega)):=zz0 (by omega);obtain⟨v,hv,hr⟩:=ih i e _ h1 hf (fun q hq=>hG q (List.mem_append_left _ (ACO _ (A5 hf hq)))) j d h2;refine⟨v,?_,hr⟩;rw[ACi] at hv;split at hv
      · rw[ACj,Array.getElem?_toList] at hv;exact hv
      · cases hv
     refine .sl t es g 0 c (P.cellsOf t) (fun i j=>(cur[i*P.cellsOf t+j]?).getD default) (by omega) hcap (hG g (by simp)) hl ?_ ?_
     · intro i e j d h1 h2;obtain⟨v,hv,_⟩:=key i e j d h1 h2;rw[cell_of_row w g _ cur t (0,0) hg,Nat.zero_add,hv];rfl
     · intro i e j d h1 h2;obtain⟨v,hv,hr⟩:=key i e j d h1 h2;rw[hv];exact hr
theorem BW.append {ds ds':List D} {vs vs':List Value} {F F':List Nat} (h:BW P w ds vs F) (h':BW P w ds' vs' F'):BW P w (ds++ds') (vs++vs') (F++F'):=by
 induction h with
 | nil=>exact h'
 | int k x h ih=>exact .int k x ih
 | bool b h ih=>exact .bool b ih
 | none t h ih=>exact .none t ih
 | sl t es g c cur Fs hg hcap hc63 hsz hFl hl he h ih ih2=>rw[ACY];exact .sl t es g c cur Fs hg hcap hc63 hsz hFl hl he ih2
theorem UH {t:TypeId} {es:List (List D)} {A:Option Nat} {c:Nat} {F:List Nat} (h:RowOf P w (BW P w) t es A c F):BW P w [.sl t es] [.slice (Ga A) es.length c] F:=by
 obtain⟨h1,h2,⟨rfl,rfl,rfl⟩|⟨g,cur,Fs,rfl,h3,h4,h5,h6,h7,rfl⟩⟩:=h
 · obtain rfl:es=[]:=zz7 (by omega);exact .none t .nil
 · have:=BW.sl t es g c cur Fs h3 h2 h1 h4 h5 h6 h7 .nil;simpa using this
theorem dS {t:TypeId} {es:List (List D)} {v:Value} {F:List Nat} (h:BW P w [.sl t es] [v] F):∃ A c,v=.slice (Ga A) es.length c∧RowOf P w (BW P w) t es A c F:=by
 cases h with
 | none t h=>cases h;exact⟨none,0,rfl,by omega,by simp,.inl ⟨rfl,rfl,rfl⟩⟩
 | sl t es g c cur Fs hg hcap hc63 hsz hFl hl he h =>
   cases h
   exact⟨some g,c,rfl,hc63,hcap,.inr ⟨g,cur,Fs,rfl,hg,hsz,hFl,hl,he,by simp⟩⟩
theorem RowOf.lt {R:List D→List Value→List Nat→Prop} {t:TypeId} {es:List (List D)} {A:Option Nat} {c:Nat} {F:List Nat} (h:RowOf P w R t es A c F) (hR:∀ e cs f,R e cs f→∀ g∈f,g<w.heap.size):∀ g∈F,g<w.heap.size:=by
 obtain⟨h1,h2,⟨rfl,rfl,rfl⟩|⟨g,cur,Fs,rfl,h3,h4,h5,h6,h7,rfl⟩⟩:=h
 · simp
 · intro q hq;rcases List.mem_cons.1 hq with rfl|hq
   · exact (ACC.1 h3).1
   · obtain⟨f,hf,hq⟩:=List.mem_flatten.1 hq;obtain⟨i,hi,rfl⟩:=List.mem_iff_getElem.1 hf;exact hR _ _ _ (h7 i (es[i]'(by omega)) Fs[i] (zz0 (by omega)) (zz0 hi)) q hq
theorem RowOf.stay {R R':List D→List Value→List Nat→Prop} {t:TypeId} {es:List (List D)} {A:Option Nat} {c:Nat} {F:List Nat} (h:RowOf P w R t es A c F) (hF:∀ g,A=some g→w'.heap[g]? = w.heap[g]?)
 (hR:∀ e cs f,e∈es→(∀ q∈f,q∈F)→R e cs f→R' e cs f):RowOf P w' R' t es A c F:=by
 obtain⟨h1,h2,h|⟨g,cur,Fs,rfl,h3,h4,h5,h6,h7,rfl⟩⟩:=h
 · exact⟨h1,h2,.inl h⟩
 · exact⟨h1,h2,.inr ⟨g,cur,Fs,rfl,(hF g rfl).trans h3,h4,h5,h6,fun i e f he hf=>hR e _ f (zz6 he) (fun q hq=>ACO _ (A5 hf hq)) (h7 i e f he hf),rfl⟩⟩
theorem RowOf.cap {R:List D→List Value→List Nat→Prop} {t:TypeId} {es:List (List D)} {A:Option Nat} {c:Nat} {F:List Nat} (h:RowOf P w R t es A c F):es.length≤c:=h.2.1
end
def Rds (w:World) (G:Nat→Prop) (ds:List D) (vs:List Value) (f:List Nat):Prop:=f=[]∧vs.length=ds.length∧∀ (i:Nat) (d:D),ds[i]? = some d→∃ v,vs[i]? = some v∧Rd w G d v
theorem Rds.mono {w w':World} {G G':Nat→Prop} {ds:List D} {vs:List Value} {f:List Nat} (h:Rds w G ds vs f) (hk:∀ b,G b→G' b∧∀ o,w'.cell? ⟨b,o,none⟩=w.cell? ⟨b,o,none⟩):Rds w' G' ds vs f :=
 ⟨h.1,h.2.1,fun i d hd=>let ⟨v,h1,h2⟩:=h.2.2 i d hd;⟨v,h1,h2.mono hk⟩⟩
theorem Rds.one {w:World} {G:Nat→Prop} {ds:List D} {vs:List Value} {f:List Nat} (h:Rds w G ds vs f):∀ u∈vs,u.oneCell'=true:=by
 intro u hu;obtain⟨i,hi,rfl⟩:=List.mem_iff_getElem.1 hu;obtain⟨v,h1,h2⟩:=h.2.2 i (ds[i]'(by have:=h.2.1;omega)) (zz0 _);rw[zz0 hi] at h1;obtain rfl:=ACW h1;exact h2.one
theorem BW.rds {P:Program} {w:World} {ds:List D} {vs:List Value} {F:List Nat} {G:Nat→Prop} (h:BW P w ds vs F) (hG:∀ g∈F,G g):Rds w G ds vs []:=⟨rfl,h.len,h.rd hG⟩
def Ay:Nat:=18446744073709551616
def Bk.val:Bk→Option Nat×Nat→Value
 | .mp _ _,h=>.map h.1
 | .que t n es,h=>.slice (h.1.map fun g=>⟨g,(h.2 / Ay)*n,none⟩) es.length (h.2 % Ay)
@[simp] theorem Bk.val_mp {t:TypeId} {es:List (Ky×Vl)} {h:Option Nat×Nat}:(Bk.mp t es).val h=.map h.1:=rfl
theorem Bk.val_one (k:Bk) (h:Option Nat×Nat):(k.val h).oneCell'=true:=by cases k<;>rfl
def Cg (es:List (Ky×Vl)):Array MapEntry:=(es.zipIdx.map fun p=>(⟨DO p.1.1,DC p.1.2,p.2⟩:MapEntry)).toArray
def Fi (P:Program) (t:TypeId) (k:Ky):Prop:=∃ kt e,P.underlying t=some (.map kt e)∧WideMaps.KeyLaw P kt∧∃ l,keyOf P kt (DO k)=some l
def OC:D→Option Value
 | .int k x=>some (.int k x)
 | .bool b=>some (.bool b)
 | .sl _ _=>none
def Bk.is (P:Program):Bk→Nat→Obj→Prop
 | .mp t es,_,o=>o=.map (Cg es) es.length∧(es.map (·.1)).Nodup∧∀ e∈es,Fi P t e.1
 | .que t n es,h,o=>∃ cur:Array Value,o=.cells cur t (0,0)∧n=P.cellsOf t∧h % Ay≤9223372036854775807∧es.length≤h % Ay∧(h / Ay+h % Ay)*n≤cur.size∧(∀ e∈es,e.length=n) ∧
    ∀ i e,es[i]? = some e→e.map OC=(((cur.toList.drop ((h / Ay+i)*n)).take n).map some)
def Ag.live:Ag→Prop
 | .arr .. | .var .. | .blk _=>True
 | _=>False
def Later:Ag→Ag→Prop
 | .unborn,_=>True
 | .dead,.dead=>True
 | .arr ..,.dead=>True
 | .var ..,.dead=>True
 | .blk _,.dead=>True
 | .arr _ _ es,.arr _ _ es'=>es'.length=es.length
 | .var ..,.var ..=>True
 | .blk k,.blk k'=>∀ h,k'.val h=k.val h
 | _,_=>False
theorem Later.refl (x:Ag):Later x x:=by cases x<;>simp[Later]
abbrev B6:=List (Option Nat×Nat)
def top (φ:B6) (sl:List Ag) (b:Nat):Prop:=∃ (s:Nat) (x:Ag) (c:Nat),sl[s]? = some x∧x.live∧φ[s]? = some (some b,c)
def good (R:Nat→Prop) (φ:B6) (sl:List Ag) (w:World) (b:Nat):Prop:=b<w.heap.size∧¬ top φ sl b∧R b
section
variable (w:World) (G:Nat→Prop) (φ:B6) (sl:List Ag)
inductive VR:V→Value→Prop
 | any (v:Value):VR .any v
 | nil (t:TypeId):VR (.nil t) (.slice none 0 0)
 | d {x:D} {v:Value} (h:Rd w G x v):VR (.d x) v
 | ref {s:Nat} {t:TypeId} {ow:Bool} {es:List (List D)} {A:Option Nat} {c:Nat} (hs:sl[s]? = some (.arr t ow es)) (hp:φ[s]? = some (A,c)):VR (.ref s) (.slice (Ga A) es.length c)
 | gone {s:Nat} {v:Value} (hs:sl[s]? = some .dead) (hv:v.oneCell'=true):VR (.ref s) v
 | blk {s:Nat} {k:Bk} {h:Option Nat×Nat} (hs:sl[s]? = some (.blk k)) (hp:φ[s]? = some h):VR (.ref s) (k.val h)
 | nilp:VR .nilp (.pointer none)
 | lit {s n:Nat} {t:TypeId} {xs:List V} {g c:Nat} (hs:sl[s]? = some (.var t xs)) (hp:φ[s]? = some (some g,c)):VR (.lit s n) (.slice (some ⟨g,0,none⟩) n n)
 | litgone {s n:Nat} {v:Value} (hs:sl[s]? = some .dead) (hv:v.oneCell'=true):VR (.lit s n) v
 | ptr {s o:Nat} {x:Ag} {g c:Nat} (hs:sl[s]? = some x) (hx:x.live) (hp:φ[s]? = some (some g,c)):VR (.ptr s o) (.pointer (some ⟨g,o,none⟩))
 | lost {s o:Nat} {v:Value} (hs:sl[s]? = some .dead) (hv:v.oneCell'=true):VR (.ptr s o) v
 | eptr {s n i j:Nat} {t:TypeId} {ow:Bool} {es:List (List D)} {g c:Nat} (hs:sl[s]? = some (.arr t ow es)) (hp:φ[s]? = some (some g,c)):VR (.eptr s n i j) (.pointer (some ⟨g,i*n+j,none⟩))
 | qptr {s n i j:Nat} {t:TypeId} {m:Nat} {es:List (List D)} {g h:Nat} (hs:sl[s]? = some (.blk (.que t m es))) (hp:φ[s]? = some (some g,h)):VR (.eptr s n i j) (.pointer (some ⟨g,(h / Ay+i)*n+j,none⟩))
 | elost {s n i j:Nat} {v:Value} (hs:sl[s]? = some .dead) (hv:v.oneCell'=true):VR (.eptr s n i j) v
 | cptr {ds:List D} {b o:Nat} (u:Nat→Value) (hG:G b) (hc:∀ (j:Nat) (d:D),ds[j]? = some d→w.cell? ⟨b,o+j,none⟩=some (u j)) (hr:∀ (j:Nat) (d:D),ds[j]? = some d→Rd w G d (u j)):VR (.cptr ds) (.pointer (some ⟨b,o,none⟩))
 | agg {xs:List V} {vs:List Value} (hl:vs.length=xs.length) (h1:∀ v∈vs,v.oneCell'=true) (h:∀ (i:Nat) (x:V) (v:Value),xs[i]? = some x→vs[i]? = some v→VR x v):VR (.agg xs) (.agg vs.toArray)
 | tup {xs:List V} {vs:List Value} (hl:vs.length=xs.length) (h:∀ (i:Nat) (x:V) (v:Value),xs[i]? = some x→vs[i]? = some v→VR x v):VR (.tup xs) (.tuple vs.toArray)
 | fn {f:FuncId} {xs:List V} {vs:List Value} (hl:vs.length=xs.length) (h:∀ (i:Nat) (x:V) (v:Value),xs[i]? = some x→vs[i]? = some v→VR x v):VR (.fn f xs) (.func (.func f) #[] vs.toArray)
end
theorem VR.mono {w w':World} {G G':Nat→Prop} {φ φ':B6} {sl sl':List Ag} {x:V} {v:Value} (h:VR w G φ sl x v) (hk:∀ b,G b→G' b∧∀ o,w'.cell? ⟨b,o,none⟩=w.cell? ⟨b,o,none⟩)
 (hs:∀ (s:Nat) (x:Ag),sl[s]? = some x→∃ x',sl'[s]? = some x'∧Later x x') (hp:∀ (s:Nat) (h:Option Nat×Nat),φ[s]? = some h→sl[s]?≠some .unborn→φ'[s]? = some h):VR w' G' φ' sl' x v:=by
 have live:∀ (s:Nat) (x:Ag) (h:Option Nat×Nat),sl[s]? = some x→x.live→φ[s]? = some h→(sl'[s]? = some .dead)∨(∃ x',sl'[s]? = some x'∧Later x x'∧x'.live∧φ'[s]? = some h):=by
  intro s x h h1 h2 h3;obtain⟨x',hx,hl⟩:=hs _ _ h1;have h3':=hp _ _ h3 (by rw[h1];intro e;simp only[Option.some.injEq] at e;subst e;exact h2)
  cases x' with
  | dead=>exact .inl hx
  | unborn=>cases x<;>simp[Later,Ag.live] at hl h2
  | var=>exact .inr ⟨_,hx,hl,trivial,h3'⟩
  | arr=>exact .inr ⟨_,hx,hl,trivial,h3'⟩
  | blk=>exact .inr ⟨_,hx,hl,trivial,h3'⟩
 have dead:∀ s:Nat,sl[s]? = some .dead→sl'[s]? = some .dead:=by
  intro s h1;obtain⟨x',hx,hl⟩:=hs _ _ h1
  cases x' with
  | dead=>exact hx
  | _=>simp[Later] at hl
 induction h with
 | any v=>exact .any v
 | nil t=>exact .nil t
 | d h=>exact .d (h.mono hk)
 | @ref s t ow es A c h1 h2 =>
   rcases live s _ _ h1 trivial h2 with h|⟨x',h3,h4,h5,h6⟩
   · exact .gone h rfl
   · cases x' with
     | arr t' ow' es' =>
       have hl':es'.length=es.length:=h4;rw[←hl'];exact .ref h3 h6
     | _=>first | exact h5.elim|simp[Later] at h4
 | gone h1 hv=>exact .gone (dead _ h1) hv
 | @blk s k h1 h2 h3 =>
   rcases live s _ _ h2 trivial h3 with h|⟨x',h4,h5,h6,h7⟩
   · exact .gone h (Bk.val_one _ _)
   · cases x' with
     | blk k' =>
       rw[←show k'.val h1=k.val h1 from h5 h1];exact .blk h4 h7
     | _=>first | exact h6.elim|simp[Later] at h5
 | nilp=>exact .nilp
 | @lit s n t xs g c h1 h2 =>
   rcases live s _ _ h1 trivial h2 with h|⟨x',h3,h4,h5,h6⟩
   · exact .litgone h rfl
   · cases x' with
     | var t' xs'=>exact .lit h3 h6
     | _=>first | exact h5.elim|simp[Later] at h4
 | litgone h1 hv=>exact .litgone (dead _ h1) hv
 | @ptr s o x g c h1 h2 h3 =>
   rcases live s _ _ h1 h2 h3 with h|⟨x',h4,h5,h6,h7⟩
   · exact .lost h rfl
   · exact .ptr h4 h6 h7
 | lost h1 hv=>exact .lost (dead _ h1) hv
 | @eptr s n i j t ow es g c h1 h2 =>
   rcases live s _ _ h1 trivial h2 with h|⟨x',h3,h4,h5,h6⟩
   · exact .elost h rfl
   · cases x' with
     | arr t' ow' es'=>exact .eptr h3 h6
     | _=>first | exact h5.elim|simp[Later] at h4
 | @qptr s n i j t m es g c h1 h2 =>
   rcases live s _ _ h1 trivial h2 with h|⟨x',h3,h4,h5,h6⟩
   · exact .elost h rfl
   · cases x' with
     | blk k' =>
       cases k' with
       | mp t' es'=>have:=h4 (none,0);cases this
       | que t' n' es'=>exact .qptr h3 h6
     | _=>first | exact h5.elim|simp[Later] at h4
 | elost h1 hv=>exact .elost (dead _ h1) hv
 | cptr u hG hc hr=>exact .cptr u (hk _ hG).1 (fun j d hd=>((hk _ hG).2 _).trans (hc j d hd)) (fun j d hd=>(hr j d hd).mono hk)
 | agg hl h1 h ih=>exact .agg hl h1 ih
 | tup hl h ih=>exact .tup hl ih
 | fn hl h ih=>exact .fn hl ih
def V.cell:V→Bool
 | .any | .agg _ | .tup _=>false
 | _=>true
theorem VR.one {w:World} {G:Nat→Prop} {φ:B6} {sl:List Ag} {x:V} {v:Value} (h:VR w G φ sl x v) (hx:x.cell=true):v.oneCell'=true:=by
 cases h with
 | d h=>exact h.one
 | any=>simp[V.cell] at hx
 | agg=>simp[V.cell] at hx
 | tup=>simp[V.cell] at hx
 | gone h1 hv=>exact hv
 | blk=>exact Bk.val_one _ _
 | litgone h1 hv=>exact hv
 | lost h1 hv=>exact hv
 | elost h1 hv=>exact hv
 | _=>rfl
def SR (P:Program) (w:World) (G:Nat→Prop) (φ:B6) (sl:List Ag):Ag→Option Nat×Nat→List Nat→Prop
 | .dead,_,F=>F=[]
 | .unborn,_,F=>F=[]
 | .arr t true es,h,F=>RowOf P w (BW P w) t es h.1 h.2 F
 | .arr t false es,h,F=>RowOf P w (Rds w G) t es h.1 h.2 F
 | .var t xs,h,F=>∃ (g:Nat) (cur:Array Value),h.1=some g∧F=[g]∧w.heap[g]? = some (.cells cur t (0,0))∧cur.size=xs.length∧∀ (i:Nat) (x:V) (v:Value),xs[i]? = some x→cur[i]? = some v→VR w G φ sl x v∧v.oneCell'=true
 | .blk k,h,F=>∃ (g:Nat) (o:Obj),h.1=some g∧F=[g]∧w.heap[g]? = some o∧k.is P h.2 o
theorem SR.mono {P:Program} {w w':World} {G G':Nat→Prop} {φ φ':B6} {sl sl':List Ag} {x:Ag} {h:Option Nat×Nat} {F:List Nat} (hx:SR P w G φ sl x h F) (hF:∀ g∈F,w'.heap[g]? = w.heap[g]?)
 (hk:∀ b,G b→G' b∧∀ o,w'.cell? ⟨b,o,none⟩=w.cell? ⟨b,o,none⟩) (hs:∀ (s:Nat) (x:Ag),sl[s]? = some x→∃ x',sl'[s]? = some x'∧Later x x') (hp:∀ (s:Nat) (h:Option Nat×Nat),φ[s]? = some h→sl[s]?≠some .unborn→φ'[s]? = some h) :
 SR P w' G' φ' sl' x h F:=by
 have hA:∀ {R:List D→List Value→List Nat→Prop} {t:TypeId} {es:List (List D)},RowOf P w R t es h.1 h.2 F→∀ g,h.1=some g→g∈F:=by
  intro R t es hr g hg;obtain⟨_,_,⟨h1,_⟩|⟨g',cur,Fs,h1,_,_,_,_,_,rfl⟩⟩:=hr
  · rw[h1] at hg;cases hg
  · rw[h1] at hg;obtain rfl:=ACW hg;simp
 cases x with
 | dead=>exact hx
 | unborn=>exact hx
 | arr t ow es =>
   cases ow with
   | true=>exact RowOf.stay hx (fun g hg=>hF g (hA hx g hg)) (fun e cs f _ hf ho=>ho.stay fun q hq=>hF q (hf q hq))
   | false=>exact RowOf.stay hx (fun g hg=>hF g (hA hx g hg)) (fun e cs f _ hf ho=>ho.mono hk)
 | var t xs =>
   obtain⟨g,cur,h1,h2,h3,h4,h5⟩:=hx;exact⟨g,cur,h1,h2,(hF g (by simp[h2])).trans h3,h4,fun i x v hx hv=>⟨(h5 i x v hx hv).1.mono hk hs hp,(h5 i x v hx hv).2⟩⟩
 | blk k =>
   obtain⟨g,o,h1,h2,h3,h4⟩:=hx;exact⟨g,o,h1,h2,(hF g (by simp[h2])).trans h3,h4⟩
structure QH (T:Nat→Prop) (w w':World):Prop where
 os:w'.os=w.os
 tape:w'.tape=w.tape
 output:w'.output=w.output
 size:w.heap.size≤w'.heap.size
 block:∀ k,k<w.heap.size→¬ T k→w'.heap[k]? = w.heap[k]?
theorem QH.refl (T:Nat→Prop) (w:World):QH T w w:=⟨rfl,rfl,rfl,Nat.le_refl _,fun _ _ _=>rfl⟩
theorem QH.below {T:Nat→Prop} {w w':World} (h:QH T w w') (hT:∀ k,¬ T k):Below w.heap.size w w':=⟨h.os,h.tape,h.output,h.size,fun k hk=>h.block k hk (hT k)⟩
structure DP where
 w:World
 T:Nat→Prop
 B:Nat→Prop
 H:B6
 R:Nat→Prop
 st:Bool
 rn:st=false→∀ b,(B b∨w.heap.size≤b)→R b
structure BM (P:Program) (w0:DP) (φ:B6) (sl:List Ag) (w:World) (Fs:List (List Nat)):Prop where
 only:QH w0.T w0.w w
 tops:∀ b,top φ sl b→w0.T b∨w0.w.heap.size≤b
 flen:φ.length=sl.length
 Flen:Fs.length=sl.length
 nd:Fs.flatten.Nodup
 ge:∀ g∈Fs.flatten,w0.B g∨w0.w.heap.size≤g
 pin:∀ (i:Nat) (h:Option Nat×Nat),w0.H[i]? = some h→φ[i]? = some h∧sl[i]?≠some .unborn
 sr:∀ (s:Nat) (x:Ag) (h:Option Nat×Nat) (F:List Nat),sl[s]? = some x→φ[s]? = some h→Fs[s]? = some F→SR P w (good w0.R φ sl w) φ sl x h F
section
variable {P:Program} {w0:DP} {w w':World} {φ φ':B6} {sl sl':List Ag} {Fs Fs':List (List Nat)}
theorem SR.lt {G:Nat→Prop} {x:Ag} {h:Option Nat×Nat} {F:List Nat} (hx:SR P w G φ sl x h F):∀ g∈F,g<w.heap.size:=by
 cases x with
 | dead=>intro g hg;rw[show F=[] from hx] at hg;cases hg
 | unborn=>intro g hg;rw[show F=[] from hx] at hg;cases hg
 | arr t ow es =>
   cases ow with
   | true=>exact RowOf.lt hx fun e cs f ho=>ho.lt
   | false=>exact RowOf.lt hx fun e cs f ho g hg=>by rw[ho.1] at hg;cases hg
 | var t xs =>
   obtain⟨g,cur,h1,h2,h3,_⟩:=hx;intro q hq;rw[h2,zz9] at hq;subst hq;exact (ACC.1 h3).1
 | blk k =>
   obtain⟨g,o,h1,h2,h3,_⟩:=hx;intro q hq;rw[h2,zz9] at hq;subst hq;exact (ACC.1 h3).1
theorem SR.head {G:Nat→Prop} {x:Ag} {g c:Nat} {F:List Nat} (hx:SR P w G φ sl x (some g,c) F) (hl:x.live):g∈F:=by
 cases x with
 | dead=>exact hl.elim
 | unborn=>exact hl.elim
 | arr t ow es =>
   cases ow <;>
   · obtain⟨_,_,⟨h1,_⟩|⟨g',cur,Fs,h1,_,_,_,_,_,rfl⟩⟩:=hx
     · cases h1
     · obtain rfl:=ACW h1;simp
 | var t xs =>
   obtain⟨g',cur,h1,h2,h3,_⟩:=hx;obtain rfl:=ACW h1;simp[h2]
 | blk k =>
   obtain⟨g',o,h1,h2,h3,_⟩:=hx;obtain rfl:=ACW h1;simp[h2]
theorem BM.at_ (h:BM P w0 φ sl w Fs) {s:Nat} {x:Ag} (hs:sl[s]? = some x):∃ hd F,φ[s]? = some hd∧Fs[s]? = some F∧SR P w (good w0.R φ sl w) φ sl x hd F:=by
 have hl:=(zz1.1 hs).1;have h1:φ[s]? = some (φ[s]'(by rw[h.flen];exact hl)):=zz0 _;have h2:Fs[s]? = some (Fs[s]'(by rw[h.Flen];exact hl)):=zz0 _;exact⟨_,_,h1,h2,h.sr s x _ _ hs h1 h2⟩
theorem BM.lt (h:BM P w0 φ sl w Fs):∀ g∈Fs.flatten,g<w.heap.size:=by
 intro g hg;obtain⟨F,hF,hg⟩:=List.mem_flatten.1 hg;obtain⟨s,hs,rfl⟩:=List.mem_iff_getElem.1 hF;have hl:=h.Flen;have hx:sl[s]? = some (sl[s]'(by omega)):=zz0 _;obtain⟨hd,F,h1,h2,h3⟩:=h.at_ hx;rw[zz0 hs] at h2;obtain rfl:=ACW h2;exact h3.lt g hg
theorem EG {R:Nat→Prop} {S:List Nat} (hO:CO S w w') (hS:∀ b∈S,top φ sl b∨w.heap.size≤b) (hT:∀ b,top φ' sl' b→w.heap.size≤b∨top φ sl b) :
 ∀ b,good R φ sl w b→good R φ' sl' w' b∧∀ o,w'.cell? ⟨b,o,none⟩=w.cell? ⟨b,o,none⟩:=by
 intro b ⟨h1,h2,hR⟩
 have hb:b∉S:=fun hb=>by
  rcases hS b hb with h|h
  · exact h2 h
  · omega
 refine⟨⟨ACM h1 hO.size,fun ht=>?_,hR⟩,fun o=>?_⟩
 · rcases hT b ht with h|h
   · omega
   · exact h2 h
 · have:=hO.block b h1 hb;simp only[World.cell?,this]
theorem BM.rd (h:BM P w0 φ sl w Fs) (hst:w0.st=false) {b:Nat} (hb:b∈Fs.flatten):w0.R b:=w0.rn hst b (h.ge b hb)
theorem BM.only_step (h:BM P w0 φ sl w Fs) {S:List Nat} (k:CO S w w') (hs:∀ q∈S,w0.T q∨w0.w.heap.size≤q):QH w0.T w0.w w' :=
 ⟨k.os.trans h.only.os,k.tape.trans h.only.tape,k.output.trans h.only.output,Nat.le_trans h.only.size k.size,fun i hi hb=>by
   have h1:=h.only.size;rw[k.block i (by omega) (fun hm=>by rcases hs i hm with h2|h2<;>first | exact hb h2|omega)]
   exact h.only.block i hi hb⟩
theorem Later.unborn {x x':Ag} (h:Later x x') (hx:x≠.unborn):x'≠.unborn:=by
 rintro rfl
 cases x<;>simp_all [Later]
theorem BM.step (h:BM P w0 φ sl w Fs) {S:List Nat} (hO:CO S w w') (hS:∀ b∈S,top φ sl b∨w.heap.size≤b) (hl:φ'.length=sl'.length) (hF:Fs'.length=sl'.length) (nd:Fs'.flatten.Nodup) (ge:∀ g∈Fs'.flatten,w0.B g∨w0.w.heap.size≤g)
 (hs:∀ (s:Nat) (x:Ag),sl[s]? = some x→∃ x',sl'[s]? = some x'∧Later x x') (hp:∀ (s:Nat) (h:Option Nat×Nat),φ[s]? = some h→sl[s]?≠some .unborn→φ'[s]? = some h) (hT:∀ b,top φ' sl' b→w.heap.size≤b∨top φ sl b)
 (hn:∀ (s:Nat) (x:Ag) (h:Option Nat×Nat) (F:List Nat),sl'[s]? = some x→φ'[s]? = some h→Fs'[s]? = some F→(sl[s]? = some x∧φ[s]? = some h∧Fs[s]? = some F∧∀ b∈F,b∉S)∨SR P w' (good w0.R φ' sl' w') φ' sl' x h F) :
 BM P w0 φ' sl' w' Fs' where
 only:=h.only_step hO (fun b hb=>by
  rcases hS b hb with h'|h'
  · exact h.tops b h'
  · have:=h.only.size;exact .inr (by omega))
 tops:=fun b hb=>by
  rcases hT b hb with h'|h'
  · have:=h.only.size;exact .inr (by omega)
  · exact h.tops b h'
 flen:=hl
 Flen:=hF
 nd:=nd
 ge:=ge
 pin:=fun i hd hi=>by
  obtain⟨h1,h2⟩:=h.pin i hd hi;refine⟨hp i hd h1 h2,fun hu=>?_⟩;have hl':i<sl.length:=by rw[←h.flen];exact (zz1.1 h1).1
  obtain⟨x',k1,k2⟩:=hs i _ (zz0 hl');rw[k1] at hu
  cases hu
  exact k2.unborn (fun e=>h2 (by rw[zz0 hl',e])) rfl
 sr:=fun s x hd F h1 h2 h3=>by
  rcases hn s x hd F h1 h2 h3 with ⟨h4,h5,h6,h7⟩|h4
  · have hsr:=h.sr s x hd F h4 h5 h6;exact hsr.mono (fun g hg=>hO.block g (hsr.lt g hg) (h7 g hg)) (EG hO hS hT) hs hp
  · exact h4
end
structure Dk (P:Program) (w0:DP) (φ:B6) (σ:St) (a:Act) (w:World):Prop where
 mem:∃ Fs,BM P w0 φ σ.slots w Fs
 defers:a.defers=[]
 tlen:a.tmps.size=σ.tmps.length
 tmps:∀ (i:Nat) (x:V) (v:Value),σ.tmps[i]? = some x→a.tmps[i]? = some v→VR w (good w0.R φ σ.slots w) φ σ.slots x v
def St.get (σ:St) (t:Nat):V:=(σ.tmps[t]?).getD .any
def St.put (σ:St) (dst:Option Nat) (x:V):St :=
 match dst with
 | some d=>{ σ with tmps:=σ.tmps.set d x }
 | none=>σ
def GN:Value→V
 | .int k x=>.d (.int k x)
 | .bool b=>.d (.bool b)
 | .slice none 0 0=>.nil 0
 | .pointer none=>.nilp
 | _=>.any
def St.eval (σ:St):Operand→V
 | .tmp t=>σ.get t
 | .const v=>GN v
 | .func f=>.fn f []
 | .global _=>.any
def Bt (P:Program) (t:TypeId):Option TypeId :=
 match P.underlying t with
 | some (.slice e)=>some e
 | _=>none
def CR (P:Program) (t:TypeId):Bool :=
 match P.underlying t with
 | some (.struct _)|some (.array _ _)=>true
 | _=>false
def AC (P:Program) (t:TypeId) (f:Nat):Option (Nat×TypeId) :=
 match P.underlying t with
 | some (.struct fs)=>(fs[f]?).map fun x=>(x.offset,x.type)
 | _=>none
def Sm (P:Program) (t:TypeId):Option V :=
 match P.underlying t with
 | some (.int k)=>some (.d (.int k 0))
 | some .bool=>some (.d (.bool false))
 | some (.slice e)=>some (.nil e)
 | some (.map _ _)=>some .any
 | _=>none
def Sz:V→Value→Bool
 | .d (.int k x),.int k' x'=>decide (k=k')&&decide (x=x')
 | .d (.bool b),.bool b'=>b==b'
 | .nil _,.slice none 0 0=>true
 | .any,.map none=>true
 | _,_=>false
def E0:List V→List Value→Bool
 | [],[]=>true
 | x::xs,v::vs=>Sz x v&&E0 xs vs
 | _,_=>false
def Zc (P:Program) (t:TypeId):Option (List V) :=
 match P.underlying t with
 | some (.struct fs)=>fs.toList.mapM fun f=>Sm P f.type
 | _=>(Sm P t).map ([·])
def Vz (P:Program) (t:TypeId):Option (List V) :=
 match P.underlying t with
 | some (.struct fs)=>(fs.toList.mapM fun f=>Zc P f.type).map List.flatten
 | some (.array n e)=>(Sm P e).map (List.replicate n ·)
 | _=>(Sm P t).map ([·])
def A6 (P:Program) (t:TypeId):Option (List V) :=
 match Vz P t,P.info? t with
 | some xs,some i=>match i.zero with
   | some z=>if E0 xs z.cells.toList=true∧i.size=xs.length∧(z.cells.size=i.size) then some xs else none
   | none=>none
 | _,_=>none
def evalT (P:Program) (t:TypeId) (σ:St) (x:Operand):V :=
 match x with
 | .const (.slice none 0 0)=>match Bt P t with|some e=>.nil e|none=>.any
 | .const (.agg cs)=>match A6 P t with
   | some xs=>if E0 xs cs.toList=true then .agg xs else .any
   | none=>.any
 | x=>σ.eval x
def GQ (P:Program) (t:TypeId):Bool :=
 !P.stoodInHeld t&&!P.eqGuardType P.depth t&&match P.underlying t with
 | some (.struct fs)=>match fs.toList with
   | [f, g] => f.name != "_" && g.name != "_" && f.offset == 0 && g.offset == 1 && (match P.underlying f.type, P.underlying g.type with
     | some (.int _),some (.int _)=>true
     | _,_=>false)
   | _=>false
 | _=>false
def Vx (P:Program) (t:TypeId):Bool :=
 !P.stoodInHeld t&&!P.eqGuardType P.depth t&&match P.underlying t with
 | some (.struct fs)=>match fs.toList with
   | [f, g] => f.name != "_" && g.name != "_" && f.offset == 0 && g.offset == 1 && (match P.underlying f.type, P.underlying g.type with
     | some (.int _),some .bool=>true
     | _,_=>false)
   | _=>false
 | _=>false
def Db (P:Program) (t:TypeId) (op:BinOp) (x y:V):Option V :=
 match x,y with
 | .agg [.d (.int .i64 a),.d (.int .i64 b)],.agg [.d (.int .i64 c),.d (.int .i64 d)] =>
   match op with
   | .eql=>if GQ P t=true then some (.d (.bool (a==c&&b==d))) else none
   | .neq=>if GQ P t=true then some (.d (.bool (!(a==c&&b==d)))) else none
   | _=>none
 | .agg [.d (.int .i64 a),.d (.bool b)],.agg [.d (.int .i64 c),.d (.bool d)] =>
   match op with
   | .eql=>if Vx P t=true then some (.d (.bool (a==c&&b==d))) else none
   | _=>none
 | .d (.int k a),.d (.int k' b) =>
   match op with
   | .shl=>if 0≤b then some (.d (.int k (k.wrap (a*2 ^ min b.toNat k.bits)))) else none
   | .shr=>if 0≤b then some (.d (.int k (a.fdiv (2 ^ min b.toNat k.bits)))) else none
   | _=>if k=k' then
     match op with
     | .add=>some (.d (.int k (k.wrap (a+b))))
     | .sub=>some (.d (.int k (k.wrap (a - b))))
     | .mul=>some (.d (.int k (k.wrap (a*b))))
     | .quo=>if b=0 then none else some (.d (.int k (k.wrap (a.tdiv b))))
     | .rem=>if b=0 then none else some (.d (.int k (a.tmod b)))
     | .and=>some (.d (.int k (k.wrap (BitVec.ofInt k.bits a &&& BitVec.ofInt k.bits b).toNat)))
     | .or=>some (.d (.int k (k.wrap (BitVec.ofInt k.bits a ||| BitVec.ofInt k.bits b).toNat)))
     | .xor=>some (.d (.int k (k.wrap (BitVec.ofInt k.bits a ^^^ BitVec.ofInt k.bits b).toNat)))
     | .andNot=>some (.d (.int k (k.wrap (BitVec.ofInt k.bits a &&& ~~~BitVec.ofInt k.bits b).toNat)))
     | .eql=>some (.d (.bool (a==b)))
     | .neq=>some (.d (.bool (a != b)))
     | .lss=>some (.d (.bool (decide (a<b))))
     | .leq=>some (.d (.bool (decide (a≤b))))
     | .gtr=>some (.d (.bool (decide (a > b))))
     | .geq=>some (.d (.bool (decide (a≥b))))
     | _=>none
     else none
 | .d (.bool a),.d (.bool b) =>
   match P.underlying t with
   | some .bool=>match op with
     | .eql=>some (.d (.bool (a==b)))
     | .neq=>some (.d (.bool (!(a==b))))
     | _=>none
   | _=>none
 | _,_=>none
def QD (sl:List Ag) (x y:V):Option Bool :=
 match x,y with
 | .nilp,.nilp=>some true
 | .ptr s _,.nilp=>match sl[s]? with
   | some (.var _ _)=>some false
   | _=>none
 | _,_=>none
def GS (P:Program) (sl:List Ag) (t:TypeId) (op:BinOp) (x y:V):Option V :=
 match y with
 | .nilp=>match op,P.underlying t,QD sl x y with
   | .eql,some (.pointer _),some b=>some (.d (.bool b))
   | .neq,some (.pointer _),some b=>some (.d (.bool (!b)))
   | _,_,_=>none
 | _=>Db P t op x y
def zB (op:UnOp) (x:V):Option V :=
 match op,x with
 | .neg,.d (.int k n)=>some (.d (.int k (k.wrap (0 - n))))
 | .not,.d (.bool b)=>some (.d (.bool (!b)))
 | _,_=>none
def KO (t:Bool) (a b:V):V :=
 match a,b with
 | .d (.bool x),.d (.bool y)=>.d (.bool (bif t then x else y))
 | a,b=>bif t then a else b
def Jx (sl:List Ag) (x:V):Option Nat :=
 match x with
 | .nil _=>some 0
 | .d (.sl _ es)=>some es.length
 | .lit s n=>match sl[s]? with
   | some (.var _ _)=>some n
   | _=>none
 | .ref s=>match sl[s]? with
   | some (.arr _ _ es)=>some es.length
   | some (.blk (.que _ _ es))=>some es.length
   | _=>none
 | _=>none
def GO (x:V):Option Int :=
 match x with
 | .d (.int _ n)=>some n
 | _=>none
def JK (P:Program) (t:TypeId) (sl:List Ag) (x:V) (i:Int):Option V :=
 match Bt P t with
 | none=>none
 | some e=>if i<0∨(P.underlying e).isSome=false then none else
   match x with
   | .d (.sl _ es)=>match es[i.toNat]? with
     | some c=>if c.length=P.cellsOf e then some (.cptr c) else none
     | none=>none
   | .ref s=>match sl[s]? with
     | some (.arr _ _ es)=>match es[i.toNat]? with
       | some _=>some (.eptr s (P.cellsOf e) i.toNat 0)
       | none=>none
     | some (.blk (.que _ n es))=>match es[i.toNat]? with
       | some _=>if n=P.cellsOf e then some (.eptr s n i.toNat 0) else none
       | none=>none
     | _=>none
   | .lit s n=>match sl[s]? with
     | some (.var _ _)=>if i.toNat<n then some (.ptr s (i.toNat*P.cellsOf e)) else none
     | _=>none
   | _=>none
def R0 (agg:Bool) (n:Nat) (ds:List D):Option V :=
 if agg then (if n≤ds.length then some (.agg ((ds.take n).map .d)) else none)
 else match ds with
  | d::_=>some (.d d)
  | []=>none
def Ik (agg:Bool) (n:Nat) (xs:List V):Option V :=
 if agg then (if n≤xs.length then some (.agg (xs.take n)) else none)
 else match xs with
  | x::_=>some x
  | []=>none
def A4 (x:D):Bool :=
 match x with
 | .int _ _ | .bool _=>true
 | .sl _ _=>false
def HX (P:Program) (st:Bool) (t:TypeId) (sl:List Ag) (x:V):Option V :=
 if (P.underlying t).isSome=false then none else
 match x with
 | .cptr ds=>R0 (CR P t) (P.cellsOf t) ds
 | .ptr s o=>match sl[s]? with
   | some (.var _ xs)=>Ik (CR P t) (P.cellsOf t) (xs.drop o)
   | _=>none
 | .eptr s n i j=>match sl[s]? with
   | some (.arr t' _ es)=>match es[i]? with
     | some e=>if n=P.cellsOf t'∧(st=false∨e.all A4=true) then R0 (CR P t) (P.cellsOf t) (e.drop j) else none
     | none=>none
   | some (.blk (.que _ m es))=>match es[i]? with
     | some e=>if n=m then R0 (CR P t) (P.cellsOf t) (e.drop j) else none
     | none=>none
   | _=>none
 | _=>none
def CK (P:Program) (t:TypeId) (sl:List Ag) (x:V) (f:Nat):Option V :=
 match AC P t f with
 | none=>none
 | some (o,ft)=>if P.cellsOf ft=0 then none else match x with
   | .cptr ds=>some (.cptr (ds.drop o))
   | .ptr s p=>match sl[s]? with
     | some (.var _ _)=>some (.ptr s (p+o))
     | _=>none
   | .eptr s n i j=>match sl[s]? with
     | some (.arr _ _ _)=>some (.eptr s n i (j+o))
     | _=>none
   | _=>none
def OL (P:Program) (t:TypeId) (x:V) (f:Nat):Option V :=
 match AC P t f with
 | none=>none
 | some (o,ft)=>if (P.underlying ft).isSome=false then none else match x with
   | .agg xs=>Ik (CR P ft) (P.cellsOf ft) (xs.drop o)
   | _=>none
def A9 {α:Type} (xs:List α) (o:Nat) (ys:List α):List α:=xs.take o++ys++xs.drop (o+ys.length)
def Ba (x:V):List V :=
 match x with
 | .agg xs=>xs
 | x=>[x]
def EB (place:Nat→Option (Nat×Nat)) (cells:List V):List (Nat×V)→Option (List V)
 | []=>some cells
 | (f,x)::rest=>match place f with
   | none=>none
   | some (o,n)=>if (Ba x).length=n∧o+n≤cells.length∧(Ba x).all V.cell=true then EB place (A9 cells o (Ba x)) rest else none
def LO (P:Program) (t:TypeId) (f:Nat):Option (Nat×Nat):=(AC P t f).map fun p=>(p.1,P.cellsOf p.2)
def Qi (P:Program) (sl:List Ag) (b:Builtin) (xs:List V) (ts:List TypeId):Option V :=
 match b with
 | .len=>match xs,ts with
   | [x],[t]=>match Bt P t with
     | some _=>(Jx sl x).map fun (n:Nat)=>V.d (.int .i64 (n:Int))
     | none=>none
   | _,_=>none
 | .max=>match xs with
   | [.d (.int k a),.d (.int _ b)]=>some (.d (.int k (if b > a then b else a)))
   | _=>none
 | .min=>match xs with
   | [.d (.int k a),.d (.int _ b)]=>some (.d (.int k (if b<a then b else a)))
   | _=>none
 | _=>none
def Dh (σ:St) (x:Option Operand) (d:Nat):Option Nat :=
 match x with
 | none=>some d
 | some x=>match GO (σ.eval x) with
   | some n=>if 0≤n then some n.toNat else none
   | none=>none
def Ul (P:Program) (t:TypeId) (x:V) (lo hi:Option Nat):Option V :=
 match Bt P t with
 | none=>none
 | some e=>if (P.underlying e).isSome=false then none else match x,lo,hi with
   | .d (.sl t' es),some lo,some hi=>if lo≤hi∧hi≤es.length∧(es.all fun c=>c.length==P.cellsOf e)=true then some (.d (.sl t' ((es.take hi).drop lo))) else none
   | _,_,_=>none
def Hv (P:Program) (st:Bool) (σ:St) (o:Oper):Option V :=
 match o.op with
 | .move x | .assign x=>some (evalT P o.type σ x)
 | .pick c a b=>match σ.eval c with
   | .d (.bool t)=>some (KO t (σ.eval a) (σ.eval b))
   | _=>none
 | .binOp op t x y _=>GS P σ.slots t op (σ.eval x) (σ.eval y)
 | .unOp op _ x=>zB op (σ.eval x)
 | .convert s d x=>match P.underlying s,P.underlying d,σ.eval x with
   | some _,some (.int k),.d (.int _ n)=>some (.d (.int k (k.wrap n)))
   | _,_,_=>none
 | .call c=>match c.callee with
   | .builtin b=>Qi P σ.slots b (c.args.toList.map σ.eval) c.argTypes.toList
   | _=>none
 | .indexAddr t x i=>match GO (σ.eval i) with
   | some n=>JK P t σ.slots (σ.eval x) n
   | none=>none
 | .load t x=>HX P st t σ.slots (σ.eval x)
 | .fieldAddr t x f=>CK P t σ.slots (σ.eval x) f
 | .field t x f=>OL P t (σ.eval x) f
 | .extract x i=>match σ.eval x with
   | .tup xs=>xs[i]?
   | _=>none
 | .nilCheck x=>match σ.eval x with
   | .ptr s p=>match σ.slots[s]? with
     | some (.var _ _)=>some (.ptr s p)
     | _=>none
   | .cptr ds=>some (.cptr ds)
   | _=>none
 | .build t ps=>match P.underlying t,A6 P t with
   | some (.struct _),some z=>(EB (LO P t) z (ps.toList.map fun p=>(p.1,σ.eval p.2))).map .agg
   | some (.array _ e),some z=>(EB (fun i=>some (i*P.cellsOf e,P.cellsOf e)) z (ps.toList.map fun p=>(p.1,σ.eval p.2))).map .agg
   | _,_=>none
 | .makeFunc (.func f) first caps=>if first.isEmpty=true then some (.fn f (caps.toList.map σ.eval)) else none
 | .slice t x lo hi none=>match Jx σ.slots (σ.eval x) with
   | some n=>Ul P t (σ.eval x) (Dh σ lo 0) (Dh σ hi n)
   | none=>none
 | _=>none
section
variable {P:Program} {w0:DP} {w:World} {φ:B6} {σ:St} {a:Act}
abbrev St.vr (σ:St) (R:Nat→Prop) (φ:B6) (w:World) (x:V) (v:Value):Prop:=VR w (good R φ σ.slots w) φ σ.slots x v
theorem ZS {G:Nat→Prop} {sl:List Ag} (v:Value):VR w G φ sl (GN v) v:=by
 unfold GN;split
 · exact .d (.int _ _)
 · exact .d (.bool _)
 · exact .nil _
 · exact .nilp
 · exact .any _
theorem Dk.eval (h:Dk P w0 φ σ a w) (x:Operand):σ.vr w0.R φ w (σ.eval x) (a.eval x):=by
 cases x with
 | tmp t =>
   show VR _ _ _ _ ((σ.tmps[t]?).getD .any) (a.tmps.getD t undef)
   cases hx:σ.tmps[t]? with
   | none=>exact .any _
   | some x =>
     have hl:t<a.tmps.size:=by rw[h.tlen];exact (zz1.1 hx).1
     have hv:a.tmps[t]? = some a.tmps[t]:=Array.getElem?_eq_getElem hl;have:=h.tmps t x _ hx hv;rw[Array.getD_eq_getD_getElem?,hv];exact this
 | const v=>exact ZS v
 | global g=>exact .any _
 | func f=>exact .fn (xs:=[]) (vs:=[]) rfl (fun i x v hx=>by simp at hx)
theorem Z6 {G:Nat→Prop} {sl:List Ag} {x:V} {v:Value} (h:Sz x v=true):VR w G φ sl x v∧v.oneCell'=true:=by
 unfold Sz at h;split at h
 · simp at h;obtain⟨rfl,rfl⟩:=h;exact⟨.d (.int _ _),rfl⟩
 · simp at h;subst h;exact⟨.d (.bool _),rfl⟩
 · exact⟨.nil _,rfl⟩
 · exact⟨.any _,rfl⟩
 · cases h
theorem E9 {G:Nat→Prop} {sl:List Ag}:∀ {xs:List V} {vs:List Value},E0 xs vs=true→vs.length=xs.length∧∀ (i:Nat) (x:V) (v:Value),xs[i]? = some x→vs[i]? = some v→VR w G φ sl x v∧v.oneCell'=true
 | [],[],_=>⟨rfl,fun i x v hx=>by simp at hx⟩
 | [],_::_,h=>by simp[E0] at h
 | _::_,[],h=>by simp[E0] at h
 | x::xs,v::vs,h=>by
   simp only[E0,Bool.and_eq_true] at h;obtain⟨h1,h2⟩:=E9 (xs:=xs) (vs:=vs) h.2;refine⟨by simp[h1],fun i y u hy hu=>?_⟩
   match i with
   | 0=>simp at hy hu;subst hy hu;exact Z6 h.1
   | i+1=>simp at hy hu;exact h2 i y u hy hu
theorem MC {G:Nat→Prop} {sl:List Ag} {xs:List V} {vs:List Value} (hl:vs.length=xs.length) (h:∀ (i:Nat) (x:V) (v:Value),xs[i]? = some x→vs[i]? = some v→VR w G φ sl x v∧v.oneCell'=true):VR w G φ sl (.agg xs) (.agg vs.toArray):=by
 refine .agg hl (fun v hv=>?_) (fun i x v hx hv=>(h i x v hx hv).1);obtain⟨i,hi,rfl⟩:=List.mem_iff_getElem.1 hv;exact (h i (xs[i]'(by omega)) _ (zz0 _) (zz0 hi)).2
theorem Dk.evalT (h:Dk P w0 φ σ a w) (t:TypeId) (x:Operand):σ.vr w0.R φ w (evalT P t σ x) (a.eval x):=by
 unfold Go.Proofs.Ytnjedabjbeipeaa.evalT;split
 · split
   · exact .nil _
   · exact .any _
 · rename_i cs;split
   · split
     · rename_i xs _ hok;obtain⟨h1,h2⟩:=E9 (w:=w) (φ:=φ) (G:=good w0.R φ σ.slots w) (sl:=σ.slots) hok;have:=MC h1 h2;simpa [Act.eval] using this
     · exact .any _
   · exact .any _
 · exact h.eval x
theorem VR.int {G:Nat→Prop} {sl:List Ag} {k:IntKind} {n:Int} {v:Value} (h:VR w G φ sl (.d (.int k n)) v):v=.int k n:=by
 cases h with
 | d h=>cases h;rfl
theorem VR.bool {G:Nat→Prop} {sl:List Ag} {b:Bool} {v:Value} (h:VR w G φ sl (.d (.bool b)) v):v=.bool b:=by
 cases h with
 | d h=>cases h;rfl
theorem Gg (op:BinOp) (t:TypeId) (x y:Operand) (k k':IntKind) (n m:Int) (w:World):(eqGuard op t x y (.int k n) (.int k' m)).run P w=.ok () w:=by
 unfold eqGuard;split<;>rfl
theorem O1 (op:BinOp) (t:TypeId) (x y:Operand) (n m:Bool) (w:World):(eqGuard op t x y (.bool n) (.bool m)).run P w=.ok () w:=by
 unfold eqGuard;split<;>rfl
theorem N1 {t:TypeId} (ht:P.underlying t=some .bool) (n m:Bool) (w:World):(Op.equal t (.bool n) (.bool m)).run P w=.ok (n==m) w:=by
 show (Op.equalIn (9999+1) t (.bool n) (.bool m)).run P w=_;rw[Op.equalIn,Sem.run_bind,run_underlying ht];rfl
theorem FH {t:TypeId} {k:IntKind} (h:P.underlying t=some (.int k)) {xs:Array Value} {off:Nat} {v:Value} (hx:xs[off]? = some v) (w:World):(part t xs off).run P w=.ok v w:=by
 simp[part,isAgg,run_underlying h,hx]
theorem mN {t:TypeId} (h:GQ P t=true) (a b c d:Int) (w:World):(binOp .eql t (.agg #[.int .i64 a,.int .i64 b]) (.agg #[.int .i64 c,.int .i64 d])).run P w=.ok (.bool (a==c&&b==d)) w:=by
 unfold GQ at h;simp only[Bool.and_eq_true,Bool.not_eq_true'] at h;obtain⟨⟨h1,h2⟩,h3⟩:=h;split at h3
 · rename_i fs hfs;split at h3
   · rename_i f g hfg;simp only[Bool.and_eq_true,beq_iff_eq,bne_iff_ne,ne_eq] at h3;obtain⟨⟨⟨⟨n1,n2⟩,o1⟩,o2⟩,h4⟩:=h3;split at h4
     · rename_i k1 k2 u1 u2;have hF:P.fieldsOf t=fs:=by simp[Program.fieldsOf,hfs]
       rw[run_eql_struct,run_equalIn_agg w 9999 t _ _ (by rw[hF];exact hfs) h1,hF,hfg];have p1:=fun v1 v2:Value=>FH (w:=w) u1 (xs:=#[v1,v2]) (off:=0) (v:=v1) rfl;have p2:=fun v1 v2:Value=>FH (w:=w) u2 (xs:=#[v1,v2]) (off:=1) (v:=v2) rfl;have e1:∀ x y:Int,(Op.equalIn 9999 f.type (.int .i64 x) (.int .i64 y)).run P w=.ok (x==y) w:=fun x y=>run_equalIn_int (P:=P) w 9998 f.type .i64 k1 x y u1;have e2:∀ x y:Int,(Op.equalIn 9999 g.type (.int .i64 x) (.int .i64 y)).run P w=.ok (x==y) w:=fun x y=>run_equalIn_int (P:=P) w 9998 g.type .i64 k2 x y u2;simp only[Op.eqFields,n1,n2,ne_eq,not_false_eq_true,if_true,Sem.run_bind,o1,o2,p1,Result.andThen_ok,e1]
       cases hac:a==c
       · simp
       · cases hbd:b==d<;>simp[e2,p2,hbd]
     · cases h4
   · cases h3
 · cases h3
theorem lE {t:TypeId} (h:GQ P t=true) (a b c d:Int) (w:World):(binOp .neq t (.agg #[.int .i64 a,.int .i64 b]) (.agg #[.int .i64 c,.int .i64 d])).run P w=.ok (.bool (!(a==c&&b==d))) w:=by
 unfold GQ at h;simp only[Bool.and_eq_true,Bool.not_eq_true'] at h;obtain⟨⟨h1,h2⟩,h3⟩:=h;split at h3
 · rename_i fs hfs;split at h3
   · rename_i f g hfg;simp only[Bool.and_eq_true,beq_iff_eq,bne_iff_ne,ne_eq] at h3;obtain⟨⟨⟨⟨n1,n2⟩,o1⟩,o2⟩,h4⟩:=h3;split at h4
     · rename_i k1 k2 u1 u2;have hF:P.fieldsOf t=fs:=by simp[Program.fieldsOf,hfs]
       rw[run_neq_struct,run_equalIn_agg w 9999 t _ _ (by rw[hF];exact hfs) h1,hF,hfg];have p1:=fun v1 v2:Value=>FH (w:=w) u1 (xs:=#[v1,v2]) (off:=0) (v:=v1) rfl;have p2:=fun v1 v2:Value=>FH (w:=w) u2 (xs:=#[v1,v2]) (off:=1) (v:=v2) rfl;have e1:∀ x y:Int,(Op.equalIn 9999 f.type (.int .i64 x) (.int .i64 y)).run P w=.ok (x==y) w:=fun x y=>run_equalIn_int (P:=P) w 9998 f.type .i64 k1 x y u1;have e2:∀ x y:Int,(Op.equalIn 9999 g.type (.int .i64 x) (.int .i64 y)).run P w=.ok (x==y) w:=fun x y=>run_equalIn_int (P:=P) w 9998 g.type .i64 k2 x y u2;simp only[Op.eqFields,n1,n2,ne_eq,not_false_eq_true,if_true,Sem.run_bind,o1,o2,p1,Result.andThen_ok,e1]
       cases hac:a==c
       · simp
       · cases hbd:b==d<;>simp[e2,p2,hbd]
     · cases h4
   · cases h3
 · cases h3
theorem Ra {t:TypeId} (h:P.underlying t=some .bool) {xs:Array Value} {off:Nat} {v:Value} (hx:xs[off]? = some v) (w:World):(part t xs off).run P w=.ok v w:=by
 simp[part,isAgg,run_underlying h,hx]
theorem Mz {t:TypeId} (ht:P.underlying t=some .bool) (d:Nat) (n m:Bool) (w:World):(Op.equalIn (d+1) t (.bool n) (.bool m)).run P w=.ok (n==m) w:=by
 rw[Op.equalIn,Sem.run_bind,run_underlying ht];rfl
theorem eG {t:TypeId} (h:Vx P t=true) (a c:Int) (b d:Bool) (w:World):(binOp .eql t (.agg #[.int .i64 a,.bool b]) (.agg #[.int .i64 c,.bool d])).run P w=.ok (.bool (a==c&&b==d)) w:=by
 unfold Vx at h;simp only[Bool.and_eq_true,Bool.not_eq_true'] at h;obtain⟨⟨h1,h2⟩,h3⟩:=h;split at h3
 · rename_i fs hfs;split at h3
   · rename_i f g hfg;simp only[Bool.and_eq_true,beq_iff_eq,bne_iff_ne,ne_eq] at h3;obtain⟨⟨⟨⟨n1,n2⟩,o1⟩,o2⟩,h4⟩:=h3;split at h4
     · rename_i k1 u1 u2;have hF:P.fieldsOf t=fs:=by simp[Program.fieldsOf,hfs]
       rw[run_eql_struct,run_equalIn_agg w 9999 t _ _ (by rw[hF];exact hfs) h1,hF,hfg];have p1:=fun v1 v2:Value=>FH (w:=w) u1 (xs:=#[v1,v2]) (off:=0) (v:=v1) rfl;have p2:=fun v1 v2:Value=>Ra (w:=w) u2 (xs:=#[v1,v2]) (off:=1) (v:=v2) rfl;have e1:∀ x y:Int,(Op.equalIn 9999 f.type (.int .i64 x) (.int .i64 y)).run P w=.ok (x==y) w:=fun x y=>run_equalIn_int (P:=P) w 9998 f.type .i64 k1 x y u1;have e2:∀ x y:Bool,(Op.equalIn 9999 g.type (.bool x) (.bool y)).run P w=.ok (x==y) w:=fun x y=>Mz (P:=P) u2 9998 x y w;simp only[Op.eqFields,n1,n2,ne_eq,not_false_eq_true,if_true,Sem.run_bind,o1,o2,p1,Result.andThen_ok,e1]
       cases hac:a==c
       · simp
       · cases hbd:b==d<;>simp[e2,p2,hbd]
     · cases h4
   · cases h3
 · cases h3
theorem VR.pairb {G:Nat→Prop} {sl:List Ag} {a:Int} {b:Bool} {v:Value} (h:VR w G φ sl (.agg [.d (.int .i64 a),.d (.bool b)]) v):v=.agg #[.int .i64 a,.bool b]:=by
 cases h with
 | @agg _ vs hl h1 h =>
   match vs,hl with
   | [v1,v2],_ =>
     have e1:=(h 0 _ v1 rfl rfl).int;have e2:=(h 1 _ v2 rfl rfl).bool;subst e1 e2;rfl
theorem VR.pair {G:Nat→Prop} {sl:List Ag} {a b:Int} {v:Value} (h:VR w G φ sl (.agg [.d (.int .i64 a),.d (.int .i64 b)]) v):v=.agg #[.int .i64 a,.int .i64 b]:=by
 cases h with
 | @agg _ vs hl h1 h =>
   match vs,hl with
   | [v1,v2],_ =>
     have e1:=(h 0 _ v1 rfl rfl).int;have e2:=(h 1 _ v2 rfl rfl).int;subst e1 e2;rfl
theorem Wy {op:BinOp} {x y:V} {vx vy:Value} {G:Nat→Prop} {sl:List Ag} {z:V} {t:TypeId} (hx:VR w G φ sl x vx) (hy:VR w G φ sl y vy) (h:Db P t op x y=some z) :
 ∃ v,(binOp op t vx vy).run P w=.ok v w∧VR w G φ sl z v∧(∀ (x y:Operand),(eqGuard op t x y vx vy).run P w=.ok () w):=by
 unfold Db at h;split at h
 · rename_i a b c d;obtain rfl:=hx.pair;obtain rfl:=hy.pair;split at h
   · split at h
     · rename_i hp;obtain rfl:=ACW h;refine⟨_,mN hp a b c d w,.d (.bool _),fun x y=>run_eqGuard_agg w _ t x y _ _ ?_⟩;unfold GQ at hp;simp only[Bool.and_eq_true,Bool.not_eq_true'] at hp;exact hp.1.2
     · cases h
   · split at h
     · rename_i hp;obtain rfl:=ACW h;refine⟨_,lE hp a b c d w,.d (.bool _),fun x y=>run_eqGuard_agg w _ t x y _ _ ?_⟩;unfold GQ at hp;simp only[Bool.and_eq_true,Bool.not_eq_true'] at hp;exact hp.1.2
     · cases h
   · cases h
 · rename_i a b c d;obtain rfl:=hx.pairb;obtain rfl:=hy.pairb;split at h
   · split at h
     · rename_i hp;obtain rfl:=ACW h;refine⟨_,eG hp a c b d w,.d (.bool _),fun x y=>run_eqGuard_agg w _ t x y _ _ ?_⟩;unfold Vx at hp;simp only[Bool.and_eq_true,Bool.not_eq_true'] at hp;exact hp.1.2
     · cases h
   · cases h
 · rename_i k n k' m;obtain rfl:=hx.int;obtain rfl:=hy.int;have hg:∀ (x y:Operand),(eqGuard op t x y (.int k n) (.int k' m)).run P w=.ok () w:=fun x y=>Gg op t x y k k' n m w;split at h
   · split at h
     · obtain rfl:=ACW h;refine⟨_,?_,.d (.int _ _),hg⟩;have hm:¬ m<0:=by omega
       simp[binOp,Op.shift,hm]
     · cases h
   · split at h
     · obtain rfl:=ACW h;refine⟨_,?_,.d (.int _ _),hg⟩;have hm:¬ m<0:=by omega
       simp[binOp,Op.shift,hm]
     · cases h
   · split at h
     · rename_i hk;subst hk;split at h
       all_goals first
        | (cases h;done)
        | (obtain rfl:=ACW h;refine⟨_,?_,.d (.int _ _),hg⟩;simp[binOp,Op.intArith,Op.intBits])
        | (obtain rfl:=ACW h;refine⟨_,?_,.d (.bool _),hg⟩;simp[binOp,Op.intCmp])
        | (split at h
           · cases h
           · rename_i hm;obtain rfl:=ACW h;refine⟨_,?_,.d (.int _ _),hg⟩;simp[binOp,Op.intDiv,hm])
     · cases h
 · rename_i n m;obtain rfl:=hx.bool;obtain rfl:=hy.bool;have hg:∀ (x y:Operand),(eqGuard op t x y (.bool n) (.bool m)).run P w=.ok () w:=fun x y=>O1 op t x y n m w;split at h
   · rename_i ht;split at h
     · obtain rfl:=ACW h;refine⟨_,?_,.d (.bool _),hg⟩;simp[binOp,N1 ht]
     · obtain rfl:=ACW h;refine⟨_,?_,.d (.bool _),hg⟩;simp[binOp,N1 ht]
     · cases h
   · cases h
 · cases h
theorem Nu {x y:V} {vx vy:Value} {G:Nat→Prop} {sl:List Ag} {b:Bool} (h:QD sl x y=some b) (hx:VR w G φ sl x vx) (hy:VR w G φ sl y vy):vy=.pointer none∧∃ A,vx=.pointer A∧A.isNone=b:=by
 unfold QD at h;split at h
 · cases h;cases hx;cases hy;exact⟨rfl,none,rfl,rfl⟩
 · split at h
   · rename_i hs
     cases h
     cases hy
     cases hx with
     | lost h1=>rw[hs] at h1;cases h1
     | ptr h1 h2 h3=>exact⟨rfl,_,rfl,rfl⟩
   · cases h
 · cases h
theorem N2 {t e:TypeId} (ht:P.underlying t=some (.pointer e)) (A:Option Addr) (w:World):(Op.equal t (.pointer A) (.pointer none)).run P w=.ok A.isNone w:=by
 show (Op.equalIn (9999+1) t (.pointer A) (.pointer none)).run P w=_;rw[Op.equalIn,Sem.run_bind,run_underlying ht]
 cases A<;>rfl
theorem KZ (op:BinOp) (t:TypeId) (x y:Operand) (A B:Option Addr) (w:World):(eqGuard op t x y (.pointer A) (.pointer B)).run P w=.ok () w:=by
 unfold eqGuard;split<;>rfl
theorem Vy {op:BinOp} {x y:V} {vx vy:Value} {G:Nat→Prop} {sl:List Ag} {z:V} {t:TypeId} (hx:VR w G φ sl x vx) (hy:VR w G φ sl y vy) (h:GS P sl t op x y=some z) :
 ∃ v,(binOp op t vx vy).run P w=.ok v w∧VR w G φ sl z v∧(∀ (x y:Operand),(eqGuard op t x y vx vy).run P w=.ok () w):=by
 unfold GS at h;split at h
 · split at h
   · rename_i e b ht hb;obtain rfl:=ACW h;obtain⟨rfl,A,rfl,hA⟩:=Nu hb hx hy;exact⟨_,by simp[binOp,N2 ht,hA],.d (.bool _),fun x y=>KZ _ _ _ _ _ _ _⟩
   · rename_i e b ht hb;obtain rfl:=ACW h;obtain⟨rfl,A,rfl,hA⟩:=Nu hb hx hy;exact⟨_,by simp[binOp,N2 ht,hA],.d (.bool _),fun x y=>KZ _ _ _ _ _ _ _⟩
   · cases h
 · exact Wy hx hy h
theorem Zj {op:UnOp} {x:V} {vx:Value} {G:Nat→Prop} {sl:List Ag} {z:V} (hx:VR w G φ sl x vx) (h:zB op x=some z) :
 ∃ v,(Op.unary op vx).run P w=.ok v w∧VR w G φ sl z v:=by
 unfold zB at h;split at h
 · obtain rfl:=hx.int;obtain rfl:=ACW h;exact⟨_,by simp[Op.unary,Op.intArith],.d (.int _ _)⟩
 · obtain rfl:=hx.bool;obtain rfl:=ACW h;exact⟨_,by simp[Op.unary],.d (.bool _)⟩
 · cases h
theorem mR {G:Nat→Prop} {sl:List Ag} {t:Bool} {x y:V} {vx vy:Value} (hx:VR w G φ sl x vx) (hy:VR w G φ sl y vy):VR w G φ sl (KO t x y) (if t then vx else vy):=by
 unfold KO;split
 · obtain rfl:=hx.bool;obtain rfl:=hy.bool
   cases t<;>exact .d (.bool _)
 · cases t
   · exact hy
   · exact hx
theorem BR {t e:TypeId} (h:Bt P t=some e):P.underlying t=some (.slice e):=by
 unfold Bt at h;split at h
 · rename_i ht;obtain rfl:=ACW h;exact ht
 · cases h
theorem Mw {α:Type} {x:Option α} (h:¬ x.isSome=false):x.isSome=true:=by cases x<;>simp_all
theorem Fg {t:TypeId} (h:P.cellsOf t≠0):(sizeOf t).run P w=.ok (P.cellsOf t) w:=by
 cases hi:P.info? t with
 | none=>simp[Program.cellsOf,hi] at h
 | some i=>exact run_sizeOf w hi
theorem HW {t:TypeId} (h:(P.underlying t).isSome=true):(sizeOf t).run P w=.ok (P.cellsOf t) w:=by
 cases hi:P.info? t with
 | none=>simp[Program.underlying,hi] at h
 | some i=>exact run_sizeOf w hi
theorem RD {t:TypeId} (h:(P.underlying t).isSome=true):(isAgg t).run P w=.ok (CR P t) w:=by
 cases ht:P.underlying t with
 | none=>simp[ht] at h
 | some d =>
   unfold isAgg CR;simp only[Sem.run_bind,run_underlying ht,Result.andThen_ok,ht]
   cases d<;>rfl
theorem Qe {G:Nat→Prop} {sl:List Ag} {x:V} {v:Value} {n:Nat} (h:Jx sl x=some n) (hx:VR w G φ sl x v):∃ A c,v=.slice A n c:=by
 unfold Jx at h;split at h
 · cases h;cases hx;exact⟨_,_,rfl⟩
 · cases h
   cases hx with
   | d h=>obtain⟨A,c,h,_⟩:=h.len;exact⟨A,c,h⟩
 · split at h
   · rename_i hs
     cases h
     cases hx with
     | lit=>exact⟨_,_,rfl⟩
     | litgone h1=>rw[hs] at h1;cases h1
   · cases h
 · split at h
   · rename_i hs
     cases h
     cases hx with
     | ref h1 h2=>rw[hs] at h1;cases h1;exact⟨_,_,rfl⟩
     | gone h1=>rw[hs] at h1;cases h1
     | blk h1 h2=>rw[hs] at h1;cases h1
   · rename_i hs
     cases h
     cases hx with
     | ref h1 h2=>rw[hs] at h1;cases h1
     | gone h1=>rw[hs] at h1;cases h1
     | blk h1 h2=>rw[hs] at h1;cases h1;exact⟨_,_,rfl⟩
   · cases h
 · cases h
theorem De (g o n:Nat):(⟨g,o,none⟩:Addr).add n=⟨g,o+n,none⟩:=by
 unfold Addr.add;split
 · rename_i h;subst h;rfl
 · rfl
theorem H3 {t e:TypeId} {A:Addr} {len cap:Nat} {k:IntKind} {i:Int} (ht:P.underlying t=some (.slice e)) (h0:0≤i) (hi:i<len) (hs:(P.underlying e).isSome=true) :
 (Instr.indexAt t (.slice (some A) len cap) (.int k i)).run P w=.ok (.pointer (some (A.add (i.toNat*P.cellsOf e)))) w:=by
 simp[Instr.indexAt,asIntOf,run_underlying ht,h0,hi,HW hs]
theorem Tc {G:Nat→Prop} {sl:List Ag} {t:TypeId} {x y:V} {v:Value} {k:IntKind} {i:Int} (h:JK P t sl x i=some y)
 (hx:VR w G φ sl x v) (hf:∀ (s:Nat) (x:Ag) (A:Option Nat) (c:Nat),sl[s]? = some x→φ[s]? = some (A,c)→x.live→(∀ t ow es,x=.arr t ow es→A=none→es=[])) (hq:∀ (s:Nat) (k:Bk) (A:Option Nat) (c:Nat),sl[s]? = some (.blk k)→φ[s]? = some (A,c)→∃ g,A=some g):∃ u,(Instr.indexAt t v (.int k i)).run P w=.ok u w∧VR w G φ sl y u:=by
 unfold JK at h;split at h
 · cases h
 rename_i e he;have ht:=BR he;split at h
 · cases h
 rename_i hi;have hi0:0≤i:=by omega
 have hs:(P.underlying e).isSome=true:=by
  cases hu:(P.underlying e).isSome with
  | true=>rfl
  | false=>exact absurd (.inr hu) hi
 split at h
 · rename_i t' es;split at h
   · rename_i c hc;split at h
     · rename_i hcl;obtain rfl:=ACW h;have hil:i.toNat<es.length:=(zz1.1 hc).1
       cases hx with
       | d hx =>
         cases hx with
         | nil=>simp at hil
         | sl _ _ b o cc ss u hn hcap hG hls hcc hrr =>
           have hss:ss=P.cellsOf e:=by rw[←hcl];exact (hls c (zz6 hc)).symm
           subst hss;refine⟨_,H3 ht hi0 (by omega) hs,?_⟩;rw[De];exact .cptr (u i.toNat) hG (fun j d hd=>hcc _ _ _ _ hc hd) (fun j d hd=>hrr _ _ _ _ hc hd)
     · cases h
   · cases h
 · rename_i s;split at h
   · rename_i t' ow es hsl;split at h
     · rename_i hq;have hil:i.toNat<es.length:=(zz1.1 hq).1;obtain rfl:=ACW h
       cases hx with
       | gone h1=>rw[hsl] at h1;cases h1
       | blk h1 h2=>rw[hsl] at h1;cases h1
       | @ref _ t'' ow' es' A c h1 h2 =>
         rw[hsl] at h1
         cases h1
         cases A with
         | none=>have:=hf s _ _ _ hsl h2 trivial _ _ _ rfl rfl;subst this;simp at hil
         | some g =>
           refine⟨_,H3 ht hi0 (by omega) hs,?_⟩;rw[De,Nat.zero_add];exact .eptr (j:=0) hsl h2
     · cases h
   · rename_i t' n es hsl;split at h
     · rename_i hc;have hil:i.toNat<es.length:=(zz1.1 hc).1;split at h
       · rename_i hn;obtain rfl:=ACW h
         cases hx with
         | gone h1=>rw[hsl] at h1;cases h1
         | ref h1 h2=>rw[hsl] at h1;cases h1
         | @blk _ k hh h1 h2 =>
           rw[hsl] at h1
           cases h1
           obtain⟨A,c⟩:=hh;obtain⟨g,rfl⟩:=hq _ _ _ _ hsl h2;refine⟨_,H3 (A:=⟨g,(c / Ay)*n,none⟩) ht hi0 (by omega) hs,?_⟩;rw[De,←hn,←Nat.add_mul];exact .qptr (j:=0) hsl h2
       · cases h
     · cases h
   · cases h
 · rename_i s n;split at h
   · rename_i t' xs hsl;split at h
     · rename_i hil;obtain rfl:=ACW h
       cases hx with
       | litgone h1=>rw[hsl] at h1;cases h1
       | lit h1 h2 =>
         refine⟨_,H3 ht hi0 (by omega) hs,?_⟩;rw[De,Nat.zero_add];exact .ptr hsl trivial h2
     · cases h
   · cases h
 · cases h
theorem CN:∀ {Fs:List (List Nat)} {F:List Nat},Fs.flatten.Nodup→F∈Fs→F.Nodup
 | [],_,_,h=>by simp at h
 | f::Fs,F,hn,h=>by
   rw[List.flatten_cons,List.nodup_append] at hn;rcases List.mem_cons.1 h with rfl|h
   · exact hn.1
   · exact CN hn.2.1 h
theorem G8 {t:TypeId} {g o:Nat} {vs:List Value} {G:Nat→Prop} {sl:List Ag} {y:V} {ys:List V} (h:Ik (CR P t) (P.cellsOf t) ys=some y) (ht:(P.underlying t).isSome=true)
 (hl:vs.length=ys.length) (hc:∀ j v,vs[j]? = some v→w.cell? ⟨g,o+j,none⟩=some v) (hv:∀ (i:Nat) (x:V) (v:Value),ys[i]? = some x→vs[i]? = some v→VR w G φ sl x v∧v.oneCell'=true) :
 ∃ u,(loadVar t ⟨g,o,none⟩).run P w=.ok u w∧VR w G φ sl y u:=by
 unfold Ik at h;unfold loadVar;simp only[Sem.run_bind,RD ht,Result.andThen_ok];split at h
 · rename_i hagg;split at h
   · rename_i hle;obtain rfl:=ACW h;rw[if_pos hagg];have hlen:(vs.take (P.cellsOf t)).length=P.cellsOf t:=by simp;omega
     have hld:=run_loadCells_list (P:=P) (w:=w) ⟨g,o,none⟩ (vs.take (P.cellsOf t)) (fun j v hj=>by
      rw[ACi] at hj;split at hj
      · rw[De];exact hc j v hj
      · cases hj)
     rw[hlen] at hld;refine⟨.agg (vs.take (P.cellsOf t)).toArray,?_,MC (by simp;omega) (fun i x v hx hv'=>?_)⟩
     · simp only[Sem.run_bind,HW ht,Result.andThen_ok,hld,Sem.run_pure]
     · rw[ACi] at hx hv';split at hx
       · rename_i hi;rw[if_pos hi] at hv';exact hv i x v hx hv'
       · cases hx
   · cases h
 · rename_i hagg;rw[if_neg hagg];split at h
   · rename_i x xs;obtain rfl:=ACW h
     cases vs with
     | nil=>simp at hl
     | cons v vs =>
       refine⟨v,?_,(hv 0 x v rfl rfl).1⟩;have:=hc 0 v rfl;rw[Nat.add_zero] at this;simp[this]
   · cases h
theorem JV {agg:Bool} {n:Nat} {ds:List D} {y:V} (h:R0 agg n ds=some y):Ik agg n (ds.map .d)=some y:=by
 unfold R0 at h;unfold Ik;split at h
 · rename_i ha;rw[if_pos ha];simpa using h
 · rename_i ha;rw[if_neg ha]
   cases ds with
   | nil=>cases h
   | cons d ds=>simpa using h
theorem BW.flat_rds {ds:List D} {vs:List Value} {F:List Nat} (h:BW P w ds vs F) (hf:ds.all A4=true) (G:Nat→Prop):Rds w G ds vs []:=by
 induction h with
 | nil=>exact⟨rfl,rfl,fun i d h=>by simp at h⟩
 | int k x h ih =>
   obtain⟨_,h1,h2⟩:=ih (by simpa [A4] using hf);refine⟨rfl,by simp[h1],fun i d hd=>?_⟩
   match i with
   | 0=>simp at hd;subst hd;exact⟨_,rfl,.int k x⟩
   | i+1=>simp at hd;simpa using h2 i d hd
 | bool b h ih =>
   obtain⟨_,h1,h2⟩:=ih (by simpa [A4] using hf);refine⟨rfl,by simp[h1],fun i d hd=>?_⟩
   match i with
   | 0=>simp at hd;subst hd;exact⟨_,rfl,.bool b⟩
   | i+1=>simp at hd;simpa using h2 i d hd
 | none t h ih=>simp[A4] at hf
 | sl t es g c cur Fs hg hcap hc63 hsz hFl hl he h ih ih2=>simp[A4] at hf
theorem NU {st:Bool} (hst:w0.st=st) {sl:List Ag} {Fs:List (List Nat)} {t:TypeId} {x y:V} {v:Value} (h:HX P st t sl x=some y) (hm:BM P w0 φ sl w Fs) (hx:VR w (good w0.R φ sl w) φ sl x v) :
 ∃ u,(Instr.loadAt t v).run P w=.ok u w∧VR w (good w0.R φ sl w) φ sl y u:=by
 have done:∀ (g o:Nat),(Instr.loadAt t (.pointer (some ⟨g,o,none⟩))).run P w=(loadVar t ⟨g,o,none⟩).run P w:=by
  intro g o;simp[Instr.loadAt,Instr.sureAddr]
 unfold HX at h;split at h
 · cases h
 rename_i ht
 replace ht:=Mw ht
 split at h
 · rename_i ds
   cases hx with
   | cptr u hG hc hr =>
     rw[done];refine G8 (vs:=(List.range ds.length).map u) (JV h) ht (by simp) (fun j v hj=>?_) (fun i x v hx hv=>?_)
     · rw[ACF,Option.map_eq_some_iff] at hj;obtain⟨j',hj1,rfl⟩:=hj;obtain⟨hlt,rfl⟩:=zz1.1 hj1;simp only[List.length_range] at hlt;simp only[List.getElem_range];exact hc j ds[j] (zz0 hlt)
     · rw[ACF,Option.map_eq_some_iff] at hx hv;obtain⟨d,hd,rfl⟩:=hx;obtain⟨i',hi1,rfl⟩:=hv;obtain⟨hlt,rfl⟩:=zz1.1 hi1;simp only[List.getElem_range];exact⟨.d (hr i d hd),(hr i d hd).one⟩
 · rename_i s o;split at h
   · rename_i t' xs hs
     cases hx with
     | lost h1=>rw[hs] at h1;cases h1
     | @ptr _ _ x g c h1 h2 h3 =>
       rw[hs] at h1
       cases h1
       obtain⟨hd,F,h4,h5,h6⟩:=hm.at_ hs;rw[h3] at h4
       cases h4
       obtain⟨g',cur,e1,e2,e3,e4,e5⟩:=h6
       cases e1
       rw[done];refine G8 (vs:=cur.toList.drop o) h ht (by simp[e4]) (fun j v hj=>?_) (fun i x v hx hv=>?_)
       · rw[cell_of_row w g _ cur t' (0,0) e3];rw[ACj,Array.getElem?_toList] at hj;exact hj
       · rw[ACj] at hx hv;rw[Array.getElem?_toList] at hv;exact e5 _ x v hx hv
   · cases h
 · rename_i s n i j;split at h
   · rename_i t' ow es hs;split at h
     · rename_i e he;split at h
       · rename_i hns;obtain⟨hn,hsf⟩:=hns
         cases hx with
         | elost h1=>rw[hs] at h1;cases h1
         | qptr h1 h2=>rw[hs] at h1;cases h1
         | @eptr _ _ _ _ t'' ow' es' g c h1 h2 =>
           rw[hs] at h1
           cases h1
           obtain⟨hd,F,h4,h5,h6⟩:=hm.at_ hs;rw[h2] at h4
           cases h4
           rw[done]
           have fin:∀ (cur:Array Value),w.heap[g]? = some (.cells cur t' (0,0))→e.length=P.cellsOf t'→(∃ f,Rds w (good w0.R φ sl w) e ((cur.toList.drop (i*P.cellsOf t')).take (P.cellsOf t')) f) →
            ∃ u,(loadVar t ⟨g,i*n+j,none⟩).run P w=.ok u w∧VR w (good w0.R φ sl w) φ sl y u:=by
            intro cur hg hel ⟨f,hf1,hf2,hf3⟩;have hseg:((cur.toList.drop (i*P.cellsOf t')).take (P.cellsOf t')).length=P.cellsOf t':=by rw[hf2,hel]
            refine G8 (vs:=((cur.toList.drop (i*P.cellsOf t')).take (P.cellsOf t')).drop j) (JV h) ht (by rw[List.length_drop,hseg,ACH,List.length_drop,hel]) (fun q v hq=>?_) (fun q x v hx hv=>?_)
            · rw[ACj,ACi] at hq;split at hq
              · rw[cell_of_row w g _ cur t' (0,0) hg,hn];rw[ACj,Array.getElem?_toList] at hq;rw[←hq,Nat.add_assoc]
              · cases hq
            · rw[ACF,Option.map_eq_some_iff] at hx;obtain⟨d,hd,rfl⟩:=hx;rw[ACj] at hd hv;obtain⟨v',hv',hr⟩:=hf3 _ d hd;rw[hv'] at hv
              cases hv
              exact⟨.d hr,hr.one⟩
           have row:∀ {R:List D→List Value→List Nat→Prop},RowOf P w R t' es (some g) c F→(∀ cs f,(∀ q∈f,q∈F∧q≠g)→R e cs f→∃ f',Rds w (good w0.R φ sl w) e cs f')→F.Nodup →
            ∃ u,(loadVar t ⟨g,i*n+j,none⟩).run P w=.ok u w∧VR w (good w0.R φ sl w) φ sl y u:=by
            intro R hr hR hnd;obtain⟨_,_,⟨hA,_⟩|⟨g',cur,Fs',hA,hg,hsz,hFl,hel,hrow,rfl⟩⟩:=hr
            · cases hA
            · cases hA
              have hil:=(zz1.1 he).1;have hf:Fs'[i]? = some (Fs'[i]'(by omega)):=zz0 _;exact fin cur hg (hel e (zz6 he)) (hR _ _ (fun q hq=>⟨ACO _ (A5 hf hq),fun e=>by subst e;exact (List.nodup_cons.1 hnd).1 (A5 hf hq)⟩) (hrow i e _ he hf))
           have hnd:F.Nodup:=CN hm.nd (zz6 h5)
           cases ow with
           | false=>exact row h6 (fun cs f _ hr=>⟨f,hr⟩) hnd
           | true =>
             refine row h6 (fun cs f hq ho=>?_) hnd;by_cases hfl:e.all A4=true
             · exact⟨[],ho.flat_rds hfl _⟩
             have hst':w0.st=false:=hst.trans (hsf.resolve_right hfl);refine⟨[],ho.rds (fun q hqf=>⟨ho.lt q hqf,fun ht=>?_,hm.rd hst' (A5 h5 (hq q hqf).1)⟩)⟩;obtain⟨s2,x2,c2,k1,k2,k3⟩:=ht;obtain⟨hd2,F2,k4,k5,k6⟩:=hm.at_ k1;rw[k3] at k4
             cases k4
             have hq2:=k6.head k2;by_cases hss:s2=s
             · subst hss;rw[h2] at k3
               cases k3
               exact (hq _ hqf).2 rfl
             · exact Cf hm.nd h5 k5 (fun e=>hss e.symm) q (hq q hqf).1 hq2
       · cases h
     · cases h
   · rename_i t' m es hs;split at h
     · rename_i e he;split at h
       · rename_i hn
         cases hx with
         | elost h1=>rw[hs] at h1;cases h1
         | eptr h1 h2=>rw[hs] at h1;cases h1
         | @qptr _ _ _ _ t'' m' es' g c h1 h2 =>
           rw[hs] at h1
           cases h1
           obtain⟨hd,F,h4,h5,h6⟩:=hm.at_ hs;rw[h2] at h4
           cases h4
           obtain⟨g',o,e1,e2,e3,cur,rfl,e5,e6,e7,e8,e9,e10⟩:=h6
           cases e1
           rw[done];have hel:=e9 e (zz6 he);have hseg:=e10 i e he
           have hsl:((cur.toList.drop ((c / Ay+i)*m)).take m).length=m:=by
            have:=congrArg List.length hseg;simpa [hel] using this.symm
           refine G8 (vs:=((cur.toList.drop ((c / Ay+i)*m)).take m).drop j) (JV h) ht (by rw[List.length_drop,hsl,ACH,List.length_drop,hel]) (fun q v hq=>?_) (fun q x v hx hv=>?_)
           · rw[ACj,ACi] at hq;split at hq
             · rw[cell_of_row w g _ cur t' (0,0) e3,hn];rw[ACj,Array.getElem?_toList] at hq;rw[←hq,Nat.add_assoc]
             · cases hq
           · rw[ACF,Option.map_eq_some_iff] at hx;obtain⟨d,hd,rfl⟩:=hx;rw[ACj] at hd hv;have hk:=congrArg (fun l=>l[j+q]?) hseg;simp only[ACF,hd,hv,Option.map_some,Option.some.injEq] at hk
             have hr:Rd w (good w0.R φ sl w) d v:=by
              cases d with
              | int k x=>cases hk;exact .int _ _
              | bool b=>cases hk;exact .bool _
              | sl t es=>cases hk
             exact⟨.d hr,hr.one⟩
       · cases h
     · cases h
   · cases h
 · cases h
theorem IR {t:TypeId} {f o:Nat} {ft:TypeId} (h:AC P t f=some (o,ft)):∃ (fs:Array Field) (x:Field),P.underlying t=some (.struct fs)∧fs[f]? = some x∧x.offset=o∧x.type=ft:=by
 unfold AC at h;split at h
 · rename_i fs ht;rw[Option.map_eq_some_iff] at h;obtain⟨x,h1,h2⟩:=h
   cases h2
   exact⟨fs,x,ht,h1,rfl,rfl⟩
 · cases h
theorem JT {t:TypeId} {f o g p:Nat} {ft:TypeId} (h:AC P t f=some (o,ft)) (hz:P.cellsOf ft≠0):(Instr.fieldAt t (.pointer (some ⟨g,p,none⟩)) f).run P w=.ok (.pointer (some ⟨g,p+o,none⟩)) w:=by
 obtain⟨fs,x,h1,h2,h3,h4⟩:=IR h;subst h3 h4;simp[Instr.fieldAt,run_underlying h1,h2,Instr.sureAddr,fieldPlace,Fg hz,hz,De]
theorem Nm {G:Nat→Prop} {sl:List Ag} {t:TypeId} {f:Nat} {x y:V} {v:Value} (h:CK P t sl x f=some y) (hx:VR w G φ sl x v) :
 ∃ u,(Instr.fieldAt t v f).run P w=.ok u w∧VR w G φ sl y u:=by
 unfold CK at h;split at h
 · cases h
 rename_i o ft ho;split at h
 · cases h
 rename_i hz;split at h
 · obtain rfl:=ACW h
   cases hx with
   | cptr u hG hc hr =>
     refine⟨_,JT ho hz,.cptr (fun j=>u (o+j)) hG (fun j d hd=>?_) (fun j d hd=>?_)⟩
     · rw[ACj] at hd;rw[←hc _ d hd,Nat.add_assoc]
     · rw[ACj] at hd;exact hr _ d hd
 · split at h
   · rename_i hs;obtain rfl:=ACW h
     cases hx with
     | lost h1=>rw[hs] at h1;cases h1
     | ptr h1 h2 h3=>exact⟨_,JT ho hz,.ptr h1 h2 h3⟩
   · cases h
 · split at h
   · rename_i hs;obtain rfl:=ACW h
     cases hx with
     | elost h1=>rw[hs] at h1;cases h1
     | qptr h1 h2=>rw[hs] at h1;cases h1
     | eptr h1 h2=>exact⟨_,JT ho hz,by rw[Nat.add_assoc];exact .eptr h1 h2⟩
   · cases h
 · cases h
theorem Sx (vs:List Value) (o n:Nat):vs.toArray.extract o (o+n)=((vs.drop o).take n).toArray:=by
 apply Array.ext';simp[List.extract_eq_take_drop]
theorem Sp {G:Nat→Prop} {sl:List Ag} {t:TypeId} {f:Nat} {x y:V} {v:Value} (h:OL P t x f=some y) (hx:VR w G φ sl x v) :
 ∃ u,(Instr.field t v f).run P w=.ok u w∧VR w G φ sl y u:=by
 unfold OL at h;split at h
 · cases h
 rename_i o ft ho;split at h
 · cases h
 rename_i hz
 replace hz:=Mw hz
 obtain⟨fs,z,h1,h2,h3,h4⟩:=IR ho;subst h3 h4;split at h
 · rename_i xs
   cases hx with
   | agg hl hone hv =>
     rename_i vs
     have hrun:(Instr.field t (.agg vs.toArray) f).run P w=(part z.type vs.toArray z.offset).run P w:=by
      simp[Instr.field,run_underlying h1,h2,asAgg]
     rw[hrun];unfold part;simp only[Sem.run_bind,RD hz,Result.andThen_ok];unfold Ik at h;split at h
     · rename_i ha;rw[if_pos ha];split at h
       · rename_i hle;obtain rfl:=ACW h;refine⟨.agg ((vs.drop z.offset).take (P.cellsOf z.type)).toArray,?_,MC (by simp[hl]) (fun i x v hx hv'=>?_)⟩
         · simp only[Sem.run_bind,HW hz,Result.andThen_ok,Sem.run_pure,Sx]
         · rw[ACi,ACj] at hx hv';split at hx
           · rename_i hi;rw[if_pos hi] at hv';exact⟨hv _ x v hx hv',hone v (zz6 hv')⟩
           · cases hx
       · cases h
     · rename_i ha;rw[if_neg ha];split at h
       · rename_i x xs' hd;obtain rfl:=ACW h
         have hx0:xs[z.offset]? = some x:=by
          have:=congrArg (fun l=>l[0]?) hd;simpa [ACj] using this
         have hlt:z.offset<vs.length:=by rw[hl];exact (zz1.1 hx0).1
         refine⟨vs[z.offset],?_,hv _ x _ hx0 (zz0 hlt)⟩;simp[zz0 hlt]
       · cases h
 · cases h
theorem Rh (off:Nat):∀ (vs:List Value) (k:Nat) (cs:List Value),off+k+vs.length≤cs.length →
 (vs.zipIdx k).foldl (fun (cs:Array Value) p=>cs.setIfInBounds (off+p.2) p.1) cs.toArray=(cs.take (off+k)++vs++cs.drop (off+k+vs.length)).toArray
 | [],k,cs,_=>by simp
 | v::vs,k,cs,h=>by
   simp only[List.length_cons] at h;rw[List.zipIdx_cons,List.foldl_cons];have hset:cs.toArray.setIfInBounds (off+k) v=(cs.set (off+k) v).toArray:=by simp
   show List.foldl _ (cs.toArray.setIfInBounds (off+k) v) _=_;rw[hset,Rh off vs (k+1) (cs.set (off+k) v) (by simp;omega)]
   congr 1
   apply List.ext_getElem?;intro i;simp only[List.length_cons]
   have e1:(List.take (off+(k+1)) (cs.set (off+k) v))=cs.take (off+k)++[v]:=by
    apply List.ext_getElem?;intro j;rw[ACi];by_cases hj:j<off+k
    · rw[if_pos (by omega),ACT (by omega),zz4 (by simp;omega),ACi,if_pos hj]
    · by_cases hj2:j=off+k
      · subst hj2;rw[if_pos (by omega),ACf (by omega),zz5 (by simp;omega)];have:(List.take (off+k) cs).length=off+k:=by simp;omega
        rw[this];simp
      · rw[if_neg (by omega),AB8 (by simp;omega)]
   have e2:(cs.set (off+k) v).drop (off+(k+1)+vs.length)=cs.drop (off+k+(vs.length+1)):=by
    apply List.ext_getElem?;intro j;rw[ACj,ACj,ACT (by omega)]
    congr 1
    omega
   rw[e1,e2];simp
theorem gG (cs vs:List Value) (off:Nat) (h:off+vs.length≤cs.length) :
 vs.toArray.zipIdx.foldl (fun cs (p:Value×Nat)=>cs.setIfInBounds (off+p.2) p.1) cs.toArray=(A9 cs off vs).toArray:=by
 have:=Rh off vs 0 cs (by omega);simp only[Nat.add_zero] at this;rw[←Array.foldl_toList];simpa [A9] using this
theorem BV {α:Type} {xs:List α} {o:Nat} {ys:List α} (h:o+ys.length≤xs.length):(A9 xs o ys).length=xs.length:=by
 simp[A9];omega
theorem CS {α:Type} {xs:List α} {o:Nat} {ys:List α} (h:o+ys.length≤xs.length) (i:Nat):(A9 xs o ys)[i]? = if i<o then xs[i]? else if i<o+ys.length then ys[i - o]? else xs[i]?:=by
 unfold A9;have ht:(xs.take o).length=o:=by simp;omega
 by_cases h1:i<o
 · rw[if_pos h1,ACY,zz4 (by omega),ACi,if_pos h1]
 · rw[if_neg h1,ACY,zz5 (by omega),ht];by_cases h2:i<o+ys.length
   · rw[if_pos h2,zz4 (by omega)]
   · rw[if_neg h2,zz5 (by omega),ACj]
     congr 1
     omega
def VRs (w:World) (G:Nat→Prop) (φ:B6) (sl:List Ag) (xs:List V) (vs:List Value):Prop:=vs.length=xs.length∧∀ (i:Nat) (x:V) (v:Value),xs[i]? = some x→vs[i]? = some v→VR w G φ sl x v∧v.oneCell'=true
theorem VRs.put {G:Nat→Prop} {sl:List Ag} {xs ys:List V} {vs us:List Value} {o:Nat} (h:VRs w G φ sl xs vs) (hy:VRs w G φ sl ys us) (ho:o+ys.length≤xs.length):VRs w G φ sl (A9 xs o ys) (A9 vs o us):=by
 have hl:o+us.length≤vs.length:=by rw[h.1,hy.1];exact ho
 refine⟨by rw[BV hl,BV ho,h.1],fun i x v hx hv=>?_⟩;rw[CS ho] at hx;rw[CS hl,hy.1] at hv;split at hx
 · rename_i h1;rw[if_pos h1] at hv;exact h.2 i x v hx hv
 · rename_i h1;rw[if_neg h1] at hv;split at hx
   · rename_i h2;rw[if_pos h2] at hv;exact hy.2 _ x v hx hv
   · rename_i h2;rw[if_neg h2] at hv;exact h.2 i x v hx hv
theorem VR.cells {G:Nat→Prop} {sl:List Ag} {x:V} {v:Value} (h:VR w G φ sl x v) (hc:(Ba x).all V.cell=true):VRs w G φ sl (Ba x) v.cells.toList:=by
 have one:x.cell=true→(Ba x=[x])→VRs w G φ sl (Ba x) v.cells.toList:=by
  intro h1 h2;have ho:=h.one h1;have hv:v.cells.toList=[v]:=by cases v<;>first | rfl|simp[Value.oneCell'] at ho
  rw[h2,hv];refine⟨rfl,fun i y u hy hu=>?_⟩
  match i with
  | 0=>simp at hy hu;subst hy hu;exact⟨h,ho⟩
  | i+1=>simp at hy
 cases x with
 | agg xs =>
   cases h with
   | agg hl h1 hv=>exact⟨by simpa [Value.cells,Ba] using hl,fun i y u hy hu=>by
      simp only[Ba] at hy;simp only[Value.cells] at hu
      exact⟨hv i y u hy hu,h1 u (zz6 hu)⟩⟩
 | any=>simp[Ba,V.cell] at hc
 | tup xs=>simp[Ba,V.cell] at hc
 | _=>exact one rfl rfl
theorem Je {G:Nat→Prop} {sl:List Ag} {place place':Nat→Option (Nat×Nat)} (hp:∀ f p,place f=some p→place' f=some p) :
 ∀ {ps:List (Nat×V)} {qs:List (Nat×Value)} {xs ys:List V} {vs:List Value},EB place xs ps=some ys→VRs w G φ sl xs vs→qs.length=ps.length →
   (∀ (i:Nat) (p:Nat×V) (q:Nat×Value),ps[i]? = some p→qs[i]? = some q→q.1=p.1∧VR w G φ sl p.2 q.2) →
   ∃ us,Instr.fill place' vs.toArray qs=some us.toArray∧VRs w G φ sl ys us
 | [],[],xs,ys,vs,h,hv,_,_=>by
   simp only[EB,Option.some.injEq] at h;subst h;exact⟨vs,rfl,hv⟩
 | (f,x)::ps,(f',v)::qs,xs,ys,vs,h,hv,hl,hpq=>by
   obtain⟨h1,h2⟩:=hpq 0 _ _ rfl rfl;simp only at h1 h2;subst h1;unfold EB at h;split at h
   · cases h
   rename_i o n ho;split at h
   · rename_i hc;obtain⟨hc1,hc2,hc3⟩:=hc;have hcells:=h2.cells hc3;have hsz:v.cells.size=n:=by rw[←hc1,←hcells.1];simp
     obtain⟨us,hu,hr⟩:=Je hp h (hv.put hcells (by omega)) (by simpa using hl) (fun i p q hp hq=>hpq (i+1) p q (by simpa using hp) (by simpa using hq));refine⟨us,?_,hr⟩;unfold Instr.fill;rw[hp _ _ ho];show (if (decide (v.cells.size≠n)||decide (o+v.cells.size > vs.toArray.size))=true then none else Instr.fill place' (v.cells.zipIdx.foldl (fun cs (p:Value×Nat)=>cs.setIfInBounds (o+p.2) p.1) vs.toArray) qs)=_
     have hle:(decide (v.cells.size≠n)||decide (o+v.cells.size > vs.toArray.size))=false:=by
      rw[hsz];simp;rw[hv.1];omega
     have:=gG vs v.cells.toList o (by rw[hv.1];simp;omega);simp only[Array.toArray_toList] at this;rw[this];simp only[hle];exact hu
   · cases h
 | [],_::_,_,_,_,_,_,hl,_=>by simp at hl
 | _::_,[],_,_,_,_,_,hl,_=>by simp at hl
theorem TP {t:TypeId} {fs:Array Field} {z:List V} (ht:P.underlying t=some (.struct fs)) (h:Vz P t=some z) :
 fs.toList.mapM (fun f=>(P.info? f.type).map fun i=>(f.offset,i.size))=some (fs.toList.map fun f=>(f.offset,P.cellsOf f.type)):=by
 unfold Vz at h;rw[ht] at h;simp only at h;clear ht;obtain⟨zs,h2,-⟩:=Option.map_eq_some_iff.1 h;clear h;have h:=h2;clear h2;generalize fs.toList=l at h
 induction l generalizing zs with
 | nil=>rfl
 | cons f l ih =>
   simp only[List.mapM_cons,Option.bind_eq_bind,Option.pure_def] at h ⊢
   cases h1:Zc P f.type with
   | none=>simp[h1] at h
   | some x =>
     rw[h1] at h
     cases h2:l.mapM (fun f=>Zc P f.type) with
     | none=>simp[h2] at h
     | some ys =>
       rw[ih _ h2]
       cases hi:P.info? f.type with
       | none=>unfold Zc Sm at h1;simp[Program.underlying,hi] at h1
       | some i=>simp[Program.cellsOf,hi]
theorem Ek {t:TypeId} {z:List V} (h:A6 P t=some z):∃ i v,P.info? t=some i∧i.zero=some v∧E0 z v.cells.toList=true∧i.size=z.length∧v.cells.size=i.size∧Vz P t=some z:=by
 unfold A6 at h;split at h
 · rename_i xs i h1 h2;split at h
   · rename_i v hv;split at h
     · rename_i hc;obtain rfl:=ACW h;exact⟨i,v,h2,hv,hc.1,hc.2.1,hc.2.2,h1⟩
     · cases h
   · cases h
 · cases h
theorem Uo {G:Nat→Prop} {sl:List Ag} {t:TypeId} {fs:Array Field} {z ys:List V} {ps:Array (Nat×Operand)} {f:Operand→V} {g:Operand→Value} (ht:P.underlying t=some (.struct fs)) (hz:A6 P t=some z)
 (h:EB (LO P t) z (ps.toList.map fun p=>(p.1,f p.2))=some ys) (hv:∀ x,VR w G φ sl (f x) (g x)) :
 ∃ u,(Instr.build t (ps.map fun (i,x)=>(i,g x))).run P w=.ok u w∧VR w G φ sl (.agg ys) u:=by
 obtain⟨i,v,h1,h2,h3,h4,h5,h6⟩:=Ek hz;have hpl:=TP ht h6
 obtain⟨us,hu,hr⟩:=Je (w:=w) (φ:=φ) (G:=G) (sl:=sl) (place':=fun i=>(fs.toList.map fun f=>(f.offset,P.cellsOf f.type))[i]?) (fun f p hp=>by
  unfold LO at hp;rw[Option.map_eq_some_iff] at hp;obtain⟨⟨o,ft⟩,ho,rfl⟩:=hp;obtain⟨fs',x,k1,k2,k3,k4⟩:=IR ho;rw[ht] at k1
  cases k1
  show (fs.toList.map fun f=>(f.offset,P.cellsOf f.type))[f]? = _;rw[ACF,Array.getElem?_toList,k2];simp[k3,k4]) (qs:=ps.toList.map fun p=>(p.1,g p.2)) h (vs:=v.cells.toList) (E9 h3) (by simp) (fun i p q hp hq=>by
  rw[ACF,Option.map_eq_some_iff] at hp hq;obtain⟨a,ha,rfl⟩:=hp;obtain⟨b,hb,rfl⟩:=hq;rw[ha] at hb
  cases hb
  exact⟨rfl,hv _⟩)
 refine⟨.agg us.toArray,run_build w t _ _ ?_,MC hr.1 hr.2⟩;unfold Program.built;rw[h1,ht];simp only[h2,hpl];simpa using hu
theorem SU {G:Nat→Prop} {sl:List Ag} {t e:TypeId} {n:Nat} {z ys:List V} {ps:Array (Nat×Operand)} {f:Operand→V} {g:Operand→Value} (ht:P.underlying t=some (.array n e)) (hz:A6 P t=some z)
 (h:EB (fun i=>some (i*P.cellsOf e,P.cellsOf e)) z (ps.toList.map fun p=>(p.1,f p.2))=some ys) (hv:∀ x,VR w G φ sl (f x) (g x)) :
 ∃ u,(Instr.build t (ps.map fun (i,x)=>(i,g x))).run P w=.ok u w∧VR w G φ sl (.agg ys) u:=by
 obtain⟨i,v,h1,h2,h3,h4,h5,h6⟩:=Ek hz
 obtain⟨us,hu,hr⟩:=Je (w:=w) (φ:=φ) (G:=G) (sl:=sl) (place':=fun i=>some (i*P.cellsOf e,P.cellsOf e)) (fun f p hp=>hp) (qs:=ps.toList.map fun p=>(p.1,g p.2)) h (vs:=v.cells.toList) (E9 h3) (by simp) (fun i p q hp hq=>by
  rw[ACF,Option.map_eq_some_iff] at hp hq;obtain⟨a,ha,rfl⟩:=hp;obtain⟨b,hb,rfl⟩:=hq;rw[ha] at hb
  cases hb
  exact⟨rfl,hv _⟩)
 have he:∃ k,P.info? e=some k:=by
  unfold Vz at h6;rw[ht] at h6;simp only[Option.map_eq_some_iff] at h6;obtain⟨a,ha,-⟩:=h6
  cases hi:P.info? e with
  | none=>unfold Sm at ha;simp[Program.underlying,hi] at ha
  | some k=>exact⟨k,rfl⟩
 obtain⟨k,hk⟩:=he;have hce:P.cellsOf e=k.size:=by simp[Program.cellsOf,hk]
 refine⟨.agg us.toArray,run_build w t _ _ ?_,MC hr.1 hr.2⟩;unfold Program.built;rw[h1,ht];rw[hce] at hu;simp only[h2,hk];simpa using hu
theorem vI {t ty:TypeId} {A:Option Addr} {n c:Nat} (h:(Bt P t).isSome=true):(Builtin.len_ #[t] ty #[.slice A n c]).run P w=.ok (.int .i64 n) w:=by
 cases he:Bt P t with
 | none=>simp[he] at h
 | some e=>simp[Builtin.len_,run_underlying (BR he),goInt]
theorem EN (hr:Dk P w0 φ σ a w) {x:Option Operand} {d n:Nat} (h:Dh σ x d=some n):(x=none∧n=d)∨∃ y k,x=some y∧a.eval y=.int k n:=by
 unfold Dh at h;split at h
 · cases h;exact .inl ⟨rfl,rfl⟩
 · rename_i y;split at h
   · rename_i m hm;split at h
     · rename_i h0
       cases h
       unfold GO at hm;split at hm
       · rename_i k m' he
         cases hm
         have:=hr.eval y;rw[he] at this;exact .inr ⟨y,k,rfl,by rw[this.int];simp[Int.toNat_of_nonneg h0]⟩
       · cases hm
     · cases h
   · cases h
theorem Gr {t e:TypeId} {A:Option Addr} {len cap lo hi:Nat} {vlo vhi:Option Value} (ht:P.underlying t=some (.slice e)) (hs:(P.underlying e).isSome=true)
 (hlo:(vlo=none∧lo=0)∨∃ k,vlo=some (.int k lo)) (hhi:(vhi=none∧hi=len)∨∃ k,vhi=some (.int k hi)) (h1:lo≤hi) (h2:hi≤cap) :
 (Instr.sliceAt t (.slice A len cap) vlo vhi none).run P w=.ok (.slice (if cap=lo then A else A.map (·.add (lo*P.cellsOf e))) (hi - lo) (cap - lo)) w:=by
 have hb:(Instr.sliceBounds true len cap vlo vhi none).run P w=.ok (lo,hi,cap) w:=by
  unfold Instr.sliceBounds;rcases hlo with ⟨rfl,rfl⟩|⟨k,rfl⟩<;>rcases hhi with ⟨rfl,rfl⟩|⟨k',rfl⟩<;>simp[Instr.sliceBound,asIntOf,h1,h2]
 simp[Instr.sliceAt,run_underlying ht,Instr.slice,hb,HW hs]
theorem Rd.part {G:Nat→Prop} {t:TypeId} {es:List (List D)} {A:Option Addr} {n c lo hi s:Nat} (h:Rd w G (.sl t es) (.slice A n c)) (h1:lo≤hi) (h2:hi≤es.length) (hs:∀ e∈es,e.length=s) :
 hi≤c∧Rd w G (.sl t ((es.take hi).drop lo)) (.slice (if c=lo then A else A.map (·.add (lo*s))) (hi - lo) (c - lo)):=by
 cases h with
 | nil =>
   simp only[List.length_nil,Nat.le_zero] at h2;subst h2;obtain rfl:lo=0:=by omega
   exact⟨by omega,.nil _ _ _⟩
 | sl _ _ b o _ ss u hn hcap hG hls hcc hrr =>
   refine⟨by omega,?_⟩;by_cases h0:hi=lo
   · subst h0;have:(es.take hi).drop hi=[]:=List.drop_eq_nil_of_le (by simp;omega);rw[this,Nat.sub_self];exact .nil _ _ _
   · have hl:((es.take hi).drop lo).length=hi - lo:=by simp;omega
     have hc:¬ c=lo:=by omega
     rw[if_neg hc,←hl]
     have hat:∀ (i:Nat) (e:List D),((es.take hi).drop lo)[i]? = some e→es[lo+i]? = some e:=by
      intro i e he;rw[ACj,ACi] at he;split at he
      · exact he
      · cases he
     have hss:ss=s:=by
      have hlt:lo<es.length:=by omega
      have hm:=AB7 hlt;rw[←hls _ hm,hs _ hm]
     subst hss
     have:=Rd.sl (w:=w) (G:=G) t ((es.take hi).drop lo) b (o+lo*ss) (c - lo) ss (fun i j=>u (lo+i) j) (by omega) (by omega) hG (fun e he=>hls e (List.mem_of_mem_take (List.mem_of_mem_drop he)))
      (fun i e j d he hd=>by have:=hcc (lo+i) e j d (hat i e he) hd;rw[←this];congr 2;rw[Nat.add_mul];omega) (fun i e j d he hd=>hrr (lo+i) e j d (hat i e he) hd)
     rw[Option.map_some,De];exact this
theorem Vu (hr:Dk P w0 φ σ a w) {t:TypeId} {x y:V} {lo hi:Option Operand} {n c:Nat} {A:Option Addr} (h:Ul P t x (Dh σ lo 0) (Dh σ hi n)=some y) (hx:σ.vr w0.R φ w x (.slice A n c)) :
 ∃ u,(Instr.sliceAt t (.slice A n c) (lo.map a.eval) (hi.map a.eval) none).run P w=.ok u w∧σ.vr w0.R φ w y u:=by
 unfold Ul at h;split at h
 · cases h
 rename_i e he;split at h
 · cases h
 rename_i hs
 replace hs:=Mw hs
 split at h
 · rename_i t' es l m hl hh;split at h
   · rename_i hc
     cases h
     cases hx with
     | d hd =>
       obtain⟨k1,k2⟩:=hd.part hc.1 hc.2.1 (fun e he=>by have:=zz8.1 hc.2.2 e he;simpa using this);refine⟨_,Gr (BR he) hs ?_ ?_ hc.1 k1,.d k2⟩
       · rcases EN hr hl with ⟨rfl,rfl⟩|⟨y,k,rfl,hy⟩
         · exact .inl ⟨rfl,rfl⟩
         · exact .inr ⟨k,by simp[hy]⟩
       · rcases EN hr hh with ⟨rfl,rfl⟩|⟨y,k,rfl,hy⟩
         · exact .inl ⟨rfl,rfl⟩
         · exact .inr ⟨k,by simp[hy]⟩
   · cases h
 · cases h
theorem UR {st:Bool} (hst:w0.st=st) {o:Oper} {x:V} (h:Hv P st σ o=some x) (hr:Dk P w0 φ σ a w):∃ v,(execOp a.eval o).run P w=.ok (.value v) w∧σ.vr w0.R φ w x v:=by
 obtain⟨Fs,hm⟩:=hr.mem;unfold Hv at h;split at h
 · rename_i y ho;obtain rfl:=ACW h;exact⟨a.eval y,by simp[execOp,ho],hr.evalT _ _⟩
 · rename_i y ho;obtain rfl:=ACW h;exact⟨a.eval y,by simp[execOp,ho],hr.evalT _ _⟩
 · rename_i c y z ho;split at h
   · rename_i t hc;obtain rfl:=ACW h;have h1:=hr.eval c;rw[hc] at h1;exact⟨_,by simp[execOp,ho,h1.bool,asBool],mR (hr.eval y) (hr.eval z)⟩
   · cases h
 · rename_i op t y z yt ho;obtain⟨v,h1,h2,h3⟩:=Vy (hr.eval y) (hr.eval z) h;exact⟨v,by simp[execOp,ho,h1,h3],h2⟩
 · rename_i op t y ho;obtain⟨v,h1,h2⟩:=Zj (P:=P) (hr.eval y) h;exact⟨v,by simp[execOp,ho,h1],h2⟩
 · rename_i s d y ho;split at h
   · rename_i ts k kk n hs hd hy;obtain rfl:=ACW h;have h1:=hr.eval y;rw[hy] at h1;refine⟨.int k (k.wrap n),?_,.d (.int _ _)⟩;simp[execOp,ho,h1.int,convert,run_underlying hs,run_underlying hd]
     cases ts<;>simp[Conv.intToInt]
   · cases h
 · rename_i c ho;split at h
   · rename_i b hb
     have hrun:∀ v,(∀ cs,(builtin b c.argTypes o.type cs (c.args.map a.eval)).run P w=.ok (.value v) w)→(execOp a.eval o).run P w=.ok (.value v) w:=by
      intro v hv;simp[execOp,ho,resolve,hb,invoke,hv]
     have hargs:∀ (xs:List V),c.args.toList.map σ.eval=xs→∃ vs:List Value,c.args.map a.eval=vs.toArray∧vs.length=xs.length∧∀ (i:Nat) (x:V) (v:Value),xs[i]? = some x→vs[i]? = some v→σ.vr w0.R φ w x v:=by
      intro xs hxs;refine⟨c.args.toList.map a.eval,by apply Array.ext';simp,by rw[←hxs];simp,fun i x v hx hv=>?_⟩;rw[←hxs,ACF,Option.map_eq_some_iff] at hx;rw[ACF,Option.map_eq_some_iff] at hv;obtain⟨p,hp,rfl⟩:=hx;obtain⟨q,hq,rfl⟩:=hv;rw[hp] at hq
      cases hq
      exact hr.eval p
     unfold Qi at h;split at h
     · split at h
       · rename_i y t hxs hts;split at h
         · rename_i e he;rw[Option.map_eq_some_iff] at h;obtain⟨n,hn,rfl⟩:=h;obtain⟨vs,k1,k2,k3⟩:=hargs _ hxs
           match vs,k2 with
           | [v],_ =>
             obtain⟨A,cc,hv⟩:=Qe hn (k3 0 y v rfl rfl);have hts':c.argTypes=#[t]:=by rw[←Array.toArray_toList (xs:=c.argTypes),hts]
             refine⟨.int .i64 n,hrun _ fun cs=>?_,.d (.int _ _)⟩;rw[k1,hts',hv];simp[builtin,vI (w:=w) (ty:=o.type) (by rw[he];rfl:(Bt P t).isSome=true)]
         · cases h
       · cases h
     · split at h
       · rename_i k m k' n hxs;obtain rfl:=ACW h;obtain⟨vs,k1,k2,k3⟩:=hargs _ hxs
         match vs,k2 with
         | [v,u],_ =>
           obtain rfl:=(k3 0 _ v rfl rfl).int;obtain rfl:=(k3 1 _ u rfl rfl).int;refine⟨_,hrun _ fun cs=>?_,.d (.int _ _)⟩;rw[k1];simp[builtin,run_max_int2]
       · cases h
     · split at h
       · rename_i k m k' n hxs;obtain rfl:=ACW h;obtain⟨vs,k1,k2,k3⟩:=hargs _ hxs
         match vs,k2 with
         | [v,u],_ =>
           obtain rfl:=(k3 0 _ v rfl rfl).int;obtain rfl:=(k3 1 _ u rfl rfl).int;refine⟨_,hrun _ fun cs=>?_,.d (.int _ _)⟩;rw[k1];simp[builtin,run_min_int2]
       · cases h
     · cases h
   · cases h
 · rename_i t y i ho;split at h
   · rename_i n hn
     obtain⟨k,hk⟩:∃ k,σ.eval i=.d (.int k n):=by
      unfold GO at hn;split at hn
      · rename_i k n' he;cases hn;exact⟨k,he⟩
      · cases hn
     have h1:=hr.eval i;rw[hk] at h1
     obtain⟨u,h2,h3⟩:=Tc (P:=P) (k:=k) h (hr.eval y) (fun s x A c hs hp hl t ow es hx hA=>by
      subst hx hA;obtain⟨hd,F,k1,k2,k3⟩:=hm.at_ hs;rw[hp] at k1
      cases k1
      cases ow <;>
      · obtain⟨q1,q2,⟨_,q3,_⟩|⟨g,_,_,q3,_⟩⟩:=k3
        · simp only at q3 q2;exact zz7 (by omega)
        · cases q3) (fun s k A c hs hp=>by
      obtain⟨hd,F,k1,k2,k3⟩:=hm.at_ hs;rw[hp] at k1
      cases k1
      obtain⟨g,o,q1,-⟩:=k3
      exact⟨g,q1⟩)
     exact⟨u,by simp[execOp,ho,h1.int,h2],h3⟩
   · cases h
 · rename_i t y ho;obtain⟨u,h1,h2⟩:=NU hst h hm (hr.eval y);exact⟨u,by simp[execOp,ho,h1],h2⟩
 · rename_i t y f ho;obtain⟨u,h1,h2⟩:=Nm h (hr.eval y);exact⟨u,by simp[execOp,ho,h1],h2⟩
 · rename_i t y f ho;obtain⟨u,h1,h2⟩:=Sp h (hr.eval y);exact⟨u,by simp[execOp,ho,h1],h2⟩
 · rename_i y i ho;split at h
   · rename_i xs hy;have h1:=hr.eval y;rw[hy] at h1;generalize hv:a.eval y=v at h1
     cases h1 with
     | tup hl hx =>
       rename_i vs;have hi:i<vs.length:=by rw[hl];exact (zz1.1 h).1
       refine⟨vs[i],?_,hx i x _ h (zz0 hi)⟩;simp[execOp,ho,hv,Instr.extract,zz0 hi]
   · cases h
 · rename_i y ho;have h1:=hr.eval y;split at h
   · rename_i s p hy;split at h
     · rename_i hs;obtain rfl:=ACW h;rw[hy] at h1;generalize hv:a.eval y=v at h1;refine⟨v,?_,h1⟩
       cases h1 with
       | lost h1=>rw[hs] at h1;cases h1
       | ptr=>simp[execOp,ho,hv]
     · cases h
   · rename_i ds hy;obtain rfl:=ACW h;rw[hy] at h1;generalize hv:a.eval y=v at h1;refine⟨v,?_,h1⟩
     cases h1
     simp[execOp,ho,hv]
   · cases h
 · rename_i t ps ho;split at h
   · rename_i fs z ht hz;rw[Option.map_eq_some_iff] at h;obtain⟨ys,h1,rfl⟩:=h;obtain⟨u,h2,h3⟩:=Uo ht hz h1 (fun x=>hr.eval x);exact⟨u,by simp at h2;simp[execOp,ho,h2],h3⟩
   · rename_i n e z ht hz;rw[Option.map_eq_some_iff] at h;obtain⟨ys,h1,rfl⟩:=h;obtain⟨u,h2,h3⟩:=SU ht hz h1 (fun x=>hr.eval x);exact⟨u,by simp at h2;simp[execOp,ho,h2],h3⟩
   · cases h
 · rename_i f first caps ho;split at h
   · rename_i hf
     cases h
     have h1:first=#[]:=Array.isEmpty_iff.1 hf;refine⟨.func (.func f) #[] (caps.toList.map a.eval).toArray,?_,.fn (by simp) fun i x v hx hv=>?_⟩
     · simp[execOp,ho,h1,Instr.makeFunc];apply Array.ext';simp
     · rw[ACF,Option.map_eq_some_iff] at hx hv;obtain⟨p,hp,rfl⟩:=hx;obtain⟨q,hq,rfl⟩:=hv;rw[hp] at hq
       cases hq
       exact hr.eval p
   · cases h
 · rename_i t y lo hi ho;split at h
   · rename_i n hn;have hy:=hr.eval y;obtain⟨A,c,hv⟩:=Qe hn hy;obtain⟨u,h1,h2⟩:=Vu (σ:=σ) (lo:=lo) (hi:=hi) hr h (by rw[←hv];exact hy);refine⟨u,?_,h2⟩;rw[←hv] at h1;simp[execOp,ho,h1]
   · cases h
 · cases h
end
end Go.Proofs.Ytnjedabjbeipeaa
