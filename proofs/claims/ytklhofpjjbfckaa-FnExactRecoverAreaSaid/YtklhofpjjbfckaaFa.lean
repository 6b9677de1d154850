/-
  Flows and separations in a graph whose nodes may be cut, one unit through a node: a flow is no greater than a separation; what is reached behind a flow that cannot grow is the least separation. Plain lemmas, about no function of the program.
  Conditions: those typed in each theorem.
-/
import Derived.Test.YtklhofpjjbfckaaNh
namespace Go.Proofs.Ytklhofpjjbfckaa
set_option linter.unusedVariables false
set_option linter.unusedSimpArgs false
def sumN (f:Nat→Int):Nat→Int
 | 0=>0
 | n+1=>sumN f n+f n
def bI (b:Bool):Int:=if b then 1 else 0
@[simp] theorem bI_t:bI true=1:=rfl
@[simp] theorem bI_f:bI false=0:=rfl
section
variable (N F:Nat) (ka kb:Nat→Nat) (v:Nat) (fr:Nat→Bool)
structure Sep (u l:Nat→Bool):Prop where
 start:u v=true
 free:∀ k,k<N→fr k=true→u k=true→l k=true
 kids:∀ p,F≤p→p<N→l p=true→(ka p≠0→u (ka p)=true)∧(kb p≠0→u (kb p)=true)
 leaf:∀ k,0<k→k<F→l k=false
def sizeS (u l:Nat→Bool):Int:=sumN (fun k=>bI (u k&&!l k)) N
structure Least (r:Int) (u l:Nat→Bool):Prop where
 sep:Sep N F ka kb v fr u l
 size:sizeS N u l=r
 ge:∀ u' l',Sep N F ka kb v fr u' l'→r≤sizeS N u' l'
 sub:∀ u' l',Sep N F ka kb v fr u' l'→sizeS N u' l'=r→∀ k,0<k→k<N→(u k=true→u' k=true)∧(l k=true→l' k=true)
variable {N F ka kb v fr}
theorem Least.same {r r':Int} {u l u' l':Nat→Bool} (h:Least N F ka kb v fr r u l) (h':Least N F ka kb v fr r' u' l'):r=r'∧∀ k,0<k→k<N→u k=u' k∧l k=l' k:=by
 have e:r=r':=by
  have a:=h.ge _ _ h'.sep
  have b:=h'.ge _ _ h.sep
  rw[h'.size] at a
  rw[h.size] at b
  omega
 subst e
 refine⟨rfl,fun k hk hn=>?_⟩
 obtain⟨a,b⟩:=h.sub _ _ h'.sep h'.size k hk hn
 obtain⟨c,d⟩:=h'.sub _ _ h.sep h.size k hk hn
 exact⟨Bool.eq_iff_iff.2 ⟨a,c⟩,Bool.eq_iff_iff.2 ⟨b,d⟩⟩
structure FlowI (N F:Nat) (ka kb:Nat→Nat) (fr:Nat→Bool) (ins:Nat→Int) (ed:Nat→Nat→Int):Prop where
 pos:∀ k,0≤ins k
 cap:∀ k,fr k=false→ins k≤1
 zero:ins 0=0
 epos:∀ c p,0≤ed c p
 edge:∀ c p,0<ed c p→c≠0∧F≤p∧p<N∧(c=ka p∨c=kb p)
variable {ins:Nat→Int} {ed:Nat→Nat→Int}
inductive ArcI (F N:Nat) (ka kb:Nat→Nat) (fr:Nat→Bool) (ins:Nat→Int) (ed:Nat→Nat→Int):Nat×Bool→Nat×Bool→Prop
 | down {k:Nat} (h:fr k=true∨ins k=0):ArcI F N ka kb fr ins ed (k,true) (k,false)
 | back {k p:Nat} (h:0<ed k p):ArcI F N ka kb fr ins ed (k,true) (p,false)
 | kid {p c:Nat} (h:F≤p) (hn:p<N) (hc:c=ka p∨c=kb p):ArcI F N ka kb fr ins ed (p,false) (c,true)
 | undo {k:Nat} (h:0<ins k):ArcI F N ka kb fr ins ed (k,false) (k,true)
inductive ReachI (F N:Nat) (ka kb:Nat→Nat) (fr:Nat→Bool) (ins:Nat→Int) (ed:Nat→Nat→Int) (v:Nat):Nat×Bool→Prop
 | start:ReachI F N ka kb fr ins ed v (v,true)
 | step {y x:Nat×Bool} (h:ReachI F N ka kb fr ins ed v y) (a:ArcI F N ka kb fr ins ed y x):ReachI F N ka kb fr ins ed v x
structure FlowS (N F:Nat) (ka kb:Nat→Nat) (fr:Nat→Bool) (us:Nat→Bool) (ab:Nat→Int):Prop where
 free:∀ k,us k=true→fr k=false∧k≠0∧k<N
 src:∀ k,us k=true→ab k<0→∃ p,fr p=true∧F≤p∧p<N∧(k=ka p∨k=kb p)
 edge:∀ k,us k=true→0≤ab k→fr (ab k).toNat=false∧F≤(ab k).toNat∧(ab k).toNat<N∧(k=ka (ab k).toNat∨k=kb (ab k).toNat)
variable {us:Nat→Bool} {ab:Nat→Int}
def Whole (N F:Nat) (ka kb:Nat→Nat) (v:Nat) (fr:Nat→Bool):Prop:=∀ u l,Sep N F ka kb v fr u l→∀ k,k<N→fr k=true→u k=true∧l k=true
inductive ReachS (F N:Nat) (ka kb:Nat→Nat) (fr:Nat→Bool) (us:Nat→Bool) (ab:Nat→Int):Nat×Bool→Prop
 | start {p k:Nat} (hp:fr p=true) (h:F≤p) (hn:p<N) (hc:k=ka p∨k=kb p) (hk:k≠0) (hfr:fr k=false):ReachS F N ka kb fr us ab (k,true)
 | down {k:Nat} (h:ReachS F N ka kb fr us ab (k,true)) (hu:us k=false):ReachS F N ka kb fr us ab (k,false)
 | back {k:Nat} (h:ReachS F N ka kb fr us ab (k,true)) (hu:us k=true) (ha:0≤ab k):ReachS F N ka kb fr us ab ((ab k).toNat,false)
 | kid {p k:Nat} (hr:ReachS F N ka kb fr us ab (p,false)) (h:F≤p) (hn:p<N) (hc:k=ka p∨k=kb p) (hk:k≠0):ReachS F N ka kb fr us ab (k,true)
 | undo {k:Nat} (h:ReachS F N ka kb fr us ab (k,false)) (hu:us k=true):ReachS F N ka kb fr us ab (k,true)
end
end Go.Proofs.Ytklhofpjjbfckaa
namespace Go.Proofs.Ytklhofpjjbfckaa
set_option linter.unusedVariables false
set_option linter.unusedSimpArgs false
abbrev Es:=List (Nat×Int)
def keyE (es:Es):List Nat:=es.map (·.1)
def visG (src:Int) (es:Es) (t:Nat):Es:=if t∈keyE es then es else es++[(t,src)]
def runG (next:Nat→List Nat) (stop:Nat→Bool):Nat→Nat→Es→Es×Option Nat
 | 0,_,es=>(es,none)
 | f+1,q,es=>match es[q]? with
   | none=>(es,none)
   | some p=>if stop p.1=true then (es,some p.1) else runG next stop f (q+1) ((next p.1).foldl (visG (p.1:Int)) es)
structure InvG (next:Nat→List Nat) (M:Nat) (es0 es:Es):Prop where
 nd:(keyE es).Nodup
 lt:∀ t∈keyE es,t<M
 pre:∀ i,i<es0.length→es[i]? = es0[i]?
 tail:∀ (i:Nat) (p:Nat×Int),es[i]? = some p→es0.length≤i→∃ (j:Nat) (r:Nat×Int),j<i∧es[j]? = some r∧p.2=(r.1:Int)∧p.1∈next r.1
theorem InvG.len {next:Nat→List Nat} {M:Nat} {es0 es:Es} (h:InvG next M es0 es):es.length≤M:=by
 have:(keyE es).length≤(List.range M).length:=h.nd.length_le_of_subset fun t ht=>List.mem_range.2 (h.lt t ht)
 simpa [keyE] using this
inductive RG (next:Nat→List Nat) (es0:Es):Nat→Prop
 | start {t:Nat} (h:t∈keyE es0):RG next es0 t
 | step {u t:Nat} (h:RG next es0 u) (ht:t∈next u):RG next es0 t
def srcE (es:Es) (t:Nat):Option Int:=(es.find? fun p=>p.1==t).map (·.2)
end Go.Proofs.Ytklhofpjjbfckaa
namespace Go.Proofs.Ytklhofpjjbfckaa
set_option linter.unusedVariables false
set_option linter.unusedSimpArgs false
def getZ (s:List Int) (v:Nat):Int:=(s[v]?).getD 0
section
variable (N F:Nat) (ka kb:Nat→Nat)
def fanL (k:Nat):List Nat:=if k<F then [] else (if ka k=0 then [] else [ka k])++(if kb k=0 then [] else [kb k])
def succS (us:List Bool) (ab:List Int) (u:Nat):List Nat :=
 if u % 2=0 then (if getB us (u / 2)=true then (if 0≤getZ ab (u / 2) then [2*(getZ ab (u / 2)).toNat+1] else []) else [2*(u / 2)+1])
 else (fanL F ka kb (u / 2)).map (2*·)++(if getB us (u / 2)=true then [2*(u / 2)] else [])
def stopS (u:Nat):Bool:=decide (u % 2=1)&&decide (u / 2<F)
def visU (up:List Bool) (es:Es) (f:Nat):Es:=if getB up f=true then es else visG (-1) es (2*f)
def initK (up:List Bool):Nat→Es
 | 0=>[]
 | k+1=>if getB up k=true then (fanL F ka kb k).foldl (visU up) (initK up k) else initK up k
variable {N F ka kb}
structure NetS (N F:Nat) (ka kb:Nat→Nat) (v:Nat) (up:List Bool) (C:Nat→Prop):Prop where
 pos:0<F
 len:up.length=N
 kids:∀ p,F≤p→p<N→ka p<p∧kb p<p
 leaf:∀ k,k<F→getB up k=false
 inC:∀ k,getB up k=true→C k
 clo:∀ p c,C p→F≤p→p<N→(c=ka p∨c=kb p)→C c
 down:∀ p c,C p→F≤p→p<N→getB up p=false→(c=ka p∨c=kb p)→getB up c=false
 vN:v<N
 vF:F≤v
 vup:getB up v=true
 par:∀ k,getB up k=true→k≠v→∃ p,getB up p=true∧k<p∧F≤p∧p<N∧(k=ka p∨k=kb p)
variable {v:Nat} {up:List Bool} {C:Nat→Prop}
theorem getB_len {s:List Bool} {k:Nat} (h:getB s k=true):k<s.length:=by
 unfold getB at h
 cases e:s[k]? with
 | none=>rw[e] at h;cases h
 | some b=>exact (List.getElem?_eq_some_iff.1 e).1
theorem NetS.upF (h:NetS N F ka kb v up C) {k:Nat} (hk:getB up k=true):F≤k∧k<N:=by
 have a:=getB_len hk
 rw[h.len] at a
 refine⟨?_,a⟩
 by_cases hkF:k<F
 · have:=h.leaf k hkF;rw[hk] at this;cases this
 · omega
theorem NetS.whole (h:NetS N F ka kb v up C):Whole N F ka kb v (getB up):=by
 intro u l hs
 have key:∀ d k,N - k=d→getB up k=true→u k=true∧l k=true:=by
  intro d
  induction d using Nat.strongRecOn with
  | _ d ih =>
    intro k hd hk
    obtain⟨q1,q2⟩:=h.upF hk
    have hu:u k=true:=by
     by_cases hkv:k=v
     · subst hkv;exact hs.start
     · obtain⟨p,a,b,c,d',e⟩:=h.par k hk hkv
       have hlp:=(ih (N - p) (by omega) p rfl a).2
       have:=hs.kids p c d' hlp
       have hk0:k≠0:=by have:=h.pos;omega
       rcases e with e|e
       · rw[e];exact this.1 (e▸hk0)
       · rw[e];exact this.2 (e▸hk0)
    exact⟨hu,hs.free k q2 hk hu⟩
 exact fun k hkN hk=>key _ k rfl hk
structure FlS (N F:Nat) (ka kb:Nat→Nat) (up:List Bool) (C:Nat→Prop) (us:List Bool) (ab:List Int):Prop where
 ul:us.length=N
 al:ab.length=N
 fl:FlowS N F ka kb (getB up) (getB us) (getZ ab)
 c:∀ k,getB us k=true→0≤getZ ab k→C (getZ ab k).toNat
def seekS (N F:Nat) (ka kb:Nat→Nat) (up us:List Bool) (ab:List Int):Es×Option Nat:=runG (succS F ka kb us ab) (stopS F) (2*N+1) 0 (initK F ka kb up N)
end
end Go.Proofs.Ytklhofpjjbfckaa
namespace Go.Proofs.Ytklhofpjjbfckaa
set_option linter.unusedVariables false
set_option linter.unusedSimpArgs false
abbrev StS:=List Bool×List Int
def pushK (frm:Int) (t:Nat) (s:StS):StS :=
 (if t % 2=0∧frm=(t:Int)+1 then (if t % 2=1∧frm=(t:Int) - 1 then s.1.set (t / 2) true else s.1).set (t / 2) false else if t % 2=1∧frm=(t:Int) - 1 then s.1.set (t / 2) true else s.1,
  if t % 2=0∧0≤frm∧frm≠(t:Int)+1 then (if t % 2=0∧frm=-1 then s.2.set (t / 2) (-1) else s.2).set (t / 2) (frm / 2) else if t % 2=0∧frm=-1 then s.2.set (t / 2) (-1) else s.2)
def pathS (es:Es):Nat→Int→StS→StS
 | 0,_,s=>s
 | f+1,at_,s=>if at_<0 then s else pathS es f ((srcE es at_.toNat).getD (-2)) (pushK ((srcE es at_.toNat).getD (-2)) at_.toNat s)
section
variable {N F:Nat} {ka kb:Nat→Nat} {v:Nat} {up:List Bool} {C:Nat→Prop}
theorem FlS.upd {us us2:List Bool} {ab ab2:List Int} {k:Nat} (h:FlS N F ka kb up C us ab) (h1:us2.length=us.length) (h2:ab2.length=ab.length) (hj:∀ j,j≠k→getB us2 j=getB us j∧getZ ab2 j=getZ ab j)
 (hk:getB us2 k=true→(getB up k=false∧k≠0∧k<N)∧(getZ ab2 k<0→∃ p,getB up p=true∧F≤p∧p<N∧(k=ka p∨k=kb p)) ∧
   (0≤getZ ab2 k→(getB up (getZ ab2 k).toNat=false∧F≤(getZ ab2 k).toNat∧(getZ ab2 k).toNat<N∧(k=ka (getZ ab2 k).toNat∨k=kb (getZ ab2 k).toNat))∧C (getZ ab2 k).toNat)):FlS N F ka kb up C us2 ab2:=by
 refine⟨by rw[h1,h.ul],by rw[h2,h.al],⟨fun j hu=>?_,fun j hu ha=>?_,fun j hu ha=>?_⟩,fun j hu ha=>?_⟩<;>by_cases hjk:j=k
 · subst hjk;exact (hk hu).1
 · obtain⟨a,b⟩:=hj j hjk;rw[a] at hu;exact h.fl.free j hu
 · subst hjk;exact (hk hu).2.1 ha
 · obtain⟨a,b⟩:=hj j hjk;rw[a] at hu;rw[b] at ha;exact h.fl.src j hu ha
 · subst hjk;exact ((hk hu).2.2 ha).1
 · obtain⟨a,b⟩:=hj j hjk;rw[a] at hu;rw[b] at ha ⊢;exact h.fl.edge j hu ha
 · subst hjk;exact ((hk hu).2.2 ha).2
 · obtain⟨a,b⟩:=hj j hjk;rw[a] at hu;rw[b] at ha ⊢;exact h.c j hu ha
end
end Go.Proofs.Ytklhofpjjbfckaa
namespace Go.Proofs.Ytklhofpjjbfckaa
set_option linter.unusedVariables false
set_option linter.unusedSimpArgs false
def outS (N:Nat) (es:Es):List Nat:=(List.range N).filter fun k=>decide (2*k∈keyE es)&&!decide (2*k+1∈keyE es)
def goS (N F:Nat) (ka kb:Nat→Nat) (up:List Bool):Nat→StS→Option (List Nat)
 | 0,_=>none
 | n+1,s=>match seekS N F ka kb up s.1 s.2 with
   | (es,none)=>some (outS N es)
   | (es,some u)=>goS N F ka kb up n (pathS es (2*N+1) u s)
section
variable {N F:Nat} {ka kb:Nat→Nat} {v:Nat} {up:List Bool} {C:Nat→Prop}
theorem FlS.start (h:NetS N F ka kb v up C):FlS N F ka kb up C (List.replicate N false) (List.replicate N 0):=by
 refine⟨by simp,by simp,⟨fun k hk=>?_,fun k hk=>?_,fun k hk=>?_⟩,fun k hk=>?_⟩<;>(rw[getB_rep] at hk;cases hk)
end
abbrev Ms:=List ((Nat×Nat)×Int)
def edM (ms:Ms) (c p:Nat):Int:=((ms.find? fun e=>e.1==(c,p)).map (·.2)).getD 0
abbrev StI:=List Int×Ms
structure NetI (N F:Nat) (ka kb:Nat→Nat) (v:Nat) (fr:List Bool):Prop where
 pos:0<F
 kids:∀ p,F≤p→p<N→ka p<p∧kb p<p
 vN:v<N
 vF:F≤v
section
variable {N F:Nat} {ka kb:Nat→Nat} {v:Nat} {fr:List Bool}
structure FlI (N F:Nat) (ka kb:Nat→Nat) (fr:List Bool) (s:StI):Prop where
 len:s.1.length=N
 fl:FlowI N F ka kb (getB fr) (getZ s.1) (edM s.2)
end
end Go.Proofs.Ytklhofpjjbfckaa
namespace Go.Proofs.Ytklhofpjjbfckaa
set_option linter.unusedVariables false
set_option linter.unusedSimpArgs false
section
variable (N F:Nat) (ka kb:Nat→Nat) (cn:Nat→List Bool)
def upL (v:Nat) (h:Int) (lab:List Int):List Bool:=(List.range N).map fun k=>decide (k=v)||(getB (cn v) k&&decide (h≤getZ lab k))
def hcS (v:Nat) (h:Int) (lab:List Int):Option (List Nat):=goS N F ka kb (upL N cn v h lab) 5 (List.replicate N false,List.replicate N 0)
def kidM (lab:List Int) (k:Nat):Int:=max (getZ lab (ka k)) (getZ lab (kb k))
structure NetF (N F:Nat) (ka kb:Nat→Nat) (cn:Nat→List Bool):Prop where
 pos:0<F
 kids:∀ p,F≤p→p<N→ka p<p∧kb p<p
 cone:∀ v,v<N→∀ u,(getB (cn v) u=true↔Rch F ka kb v u)
structure LabOk (N F:Nat) (ka kb:Nat→Nat) (m:Nat) (lab:List Int):Prop where
 len:lab.length=N
 leaf:∀ k,k<F→getZ lab k=0
 lo:∀ k,F≤k→k<m→1≤getZ lab k∧kidM ka kb lab k≤getZ lab k
 hi:∀ k,F≤k→k<m→getZ lab k≤kidM ka kb lab k+1
 pos:∀ k,0≤getZ lab k
end
section
variable {N F:Nat} {ka kb:Nat→Nat} {cn:Nat→List Bool}
structure CutF (F:Nat) (ka kb:Nat→Nat) (v:Nat) (S:List Int):Prop where
 own:(v:Int)∉S
 leak:¬ Leak F ka kb S v
theorem Orc.last {S:List Int} {v u:Nat} (h:Orc F ka kb S v u):Opn S u:=by
 induction h with
 | refl h=>exact h
 | a ho h r ih=>exact ih
 | b ho h r ih=>exact ih
theorem Orc.sb {S:List Int} {v u:Nat} (h:Orc F ka kb S v u) (hu:F≤u) (ho:Opn S (kb u)):Orc F ka kb S v (kb u):=by
 induction h with
 | refl h=>exact .b h hu (.refl ho)
 | a ho' h r ih=>exact .a ho' h (ih hu ho)
 | b ho' h r ih=>exact .b ho' h (ih hu ho)
end
end Go.Proofs.Ytklhofpjjbfckaa
