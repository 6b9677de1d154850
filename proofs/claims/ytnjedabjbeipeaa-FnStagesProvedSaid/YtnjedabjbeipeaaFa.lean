/-
  Flows and separations in a graph whose nodes may be cut, one unit through a node: a flow is no greater than a separation; what is reached behind a flow that cannot grow is the least separation. Plain lemmas, about no function of the program.
  Conditions: those typed in each theorem.
-/
import Derived.Test.YtnjedabjbeipeaaNh
namespace Go.Proofs.Ytnjedabjbeipeaa
set_option linter.unusedSimpArgs false
set_option linter.unusedVariables false
set_option maxRecDepth 100000
set_option maxHeartbeats 10000000
def xF (f:Nat→Int):Nat→Int
 | 0=>0
 | n+1=>xF f n+f n
def bI (b:Bool):Int:=if b then 1 else 0
@[simp] theorem ACR:bI true=1:=rfl
@[simp] theorem ACd:bI false=0:=rfl
section
variable (N F:Nat) (ka kb:Nat→Nat) (v:Nat) (fr:Nat→Bool)
structure Sep (u l:Nat→Bool):Prop where
 start:u v=true
 free:∀ k,k<N→fr k=true→u k=true→l k=true
 kids:∀ p,F≤p→p<N→l p=true→(ka p≠0→u (ka p)=true)∧(kb p≠0→u (kb p)=true)
 leaf:∀ k,0<k→k<F→l k=false
def fU (u l:Nat→Bool):Int:=xF (fun k=>bI (u k&&!l k)) N
structure gP (r:Int) (u l:Nat→Bool):Prop where
 sep:Sep N F ka kb v fr u l
 size:fU N u l=r
 ge:∀ u' l',Sep N F ka kb v fr u' l'→r≤fU N u' l'
 sub:∀ u' l',Sep N F ka kb v fr u' l'→fU N u' l'=r→∀ k,0<k→k<N→(u k=true→u' k=true)∧(l k=true→l' k=true)
variable {N F ka kb v fr}
theorem gP.same {r r':Int} {u l u' l':Nat→Bool} (h:gP N F ka kb v fr r u l) (h':gP N F ka kb v fr r' u' l'):r=r'∧∀ k,0<k→k<N→u k=u' k∧l k=l' k:=by
 have e:r=r':=by
  have a:=h.ge _ _ h'.sep;have b:=h'.ge _ _ h.sep;rw[h'.size] at a;rw[h.size] at b;omega
 subst e;refine⟨rfl,fun k hk hn=>?_⟩;obtain⟨a,b⟩:=h.sub _ _ h'.sep h'.size k hk hn;obtain⟨c,d⟩:=h'.sub _ _ h.sep h.size k hk hn;exact⟨Bool.eq_iff_iff.2 ⟨a,c⟩,Bool.eq_iff_iff.2 ⟨b,d⟩⟩
structure zS (N F:Nat) (ka kb:Nat→Nat) (fr:Nat→Bool) (ins:Nat→Int) (ed:Nat→Nat→Int):Prop where
 pos:∀ k,0≤ins k
 cap:∀ k,fr k=false→ins k≤1
 zero:ins 0=0
 epos:∀ c p,0≤ed c p
 edge:∀ c p,0<ed c p→c≠0∧F≤p∧p<N∧(c=ka p∨c=kb p)
variable {ins:Nat→Int} {ed:Nat→Nat→Int}
inductive eS (F N:Nat) (ka kb:Nat→Nat) (fr:Nat→Bool) (ins:Nat→Int) (ed:Nat→Nat→Int):Nat×Bool→Nat×Bool→Prop
 | down {k:Nat} (h:fr k=true∨ins k=0):eS F N ka kb fr ins ed (k,true) (k,false)
 | back {k p:Nat} (h:0<ed k p):eS F N ka kb fr ins ed (k,true) (p,false)
 | kid {p c:Nat} (h:F≤p) (hn:p<N) (hc:c=ka p∨c=kb p):eS F N ka kb fr ins ed (p,false) (c,true)
 | undo {k:Nat} (h:0<ins k):eS F N ka kb fr ins ed (k,false) (k,true)
inductive Xf (F N:Nat) (ka kb:Nat→Nat) (fr:Nat→Bool) (ins:Nat→Int) (ed:Nat→Nat→Int) (v:Nat):Nat×Bool→Prop
 | start:Xf F N ka kb fr ins ed v (v,true)
 | step {y x:Nat×Bool} (h:Xf F N ka kb fr ins ed v y) (a:eS F N ka kb fr ins ed y x):Xf F N ka kb fr ins ed v x
structure xW (N F:Nat) (ka kb:Nat→Nat) (fr:Nat→Bool) (us:Nat→Bool) (ab:Nat→Int):Prop where
 free:∀ k,us k=true→fr k=false∧k≠0∧k<N
 src:∀ k,us k=true→ab k<0→∃ p,fr p=true∧F≤p∧p<N∧(k=ka p∨k=kb p)
 edge:∀ k,us k=true→0≤ab k→fr (ab k).toNat=false∧F≤(ab k).toNat∧(ab k).toNat<N∧(k=ka (ab k).toNat∨k=kb (ab k).toNat)
variable {us:Nat→Bool} {ab:Nat→Int}
def Whole (N F:Nat) (ka kb:Nat→Nat) (v:Nat) (fr:Nat→Bool):Prop:=∀ u l,Sep N F ka kb v fr u l→∀ k,k<N→fr k=true→u k=true∧l k=true
inductive I8 (F N:Nat) (ka kb:Nat→Nat) (fr:Nat→Bool) (us:Nat→Bool) (ab:Nat→Int):Nat×Bool→Prop
 | start {p k:Nat} (hp:fr p=true) (h:F≤p) (hn:p<N) (hc:k=ka p∨k=kb p) (hk:k≠0) (hfr:fr k=false):I8 F N ka kb fr us ab (k,true)
 | down {k:Nat} (h:I8 F N ka kb fr us ab (k,true)) (hu:us k=false):I8 F N ka kb fr us ab (k,false)
 | back {k:Nat} (h:I8 F N ka kb fr us ab (k,true)) (hu:us k=true) (ha:0≤ab k):I8 F N ka kb fr us ab ((ab k).toNat,false)
 | kid {p k:Nat} (hr:I8 F N ka kb fr us ab (p,false)) (h:F≤p) (hn:p<N) (hc:k=ka p∨k=kb p) (hk:k≠0):I8 F N ka kb fr us ab (k,true)
 | undo {k:Nat} (h:I8 F N ka kb fr us ab (k,false)) (hu:us k=true):I8 F N ka kb fr us ab (k,true)
end
abbrev Es:=List (Nat×Int)
def Of (es:Es):List Nat:=es.map (·.1)
def oT (src:Int) (es:Es) (t:Nat):Es:=if t∈Of es then es else es++[(t,src)]
structure zH (next:Nat→List Nat) (M:Nat) (es0 es:Es):Prop where
 nd:(Of es).Nodup
 lt:∀ t∈Of es,t<M
 pre:∀ i,i<es0.length→es[i]? = es0[i]?
 tail:∀ (i:Nat) (p:Nat×Int),es[i]? = some p→es0.length≤i→∃ (j:Nat) (r:Nat×Int),j<i∧es[j]? = some r∧p.2=(r.1:Int)∧p.1∈next r.1
theorem zH.len {next:Nat→List Nat} {M:Nat} {es0 es:Es} (h:zH next M es0 es):es.length≤M:=by
 have:(Of es).length≤(List.range M).length:=h.nd.length_le_of_subset fun t ht=>ACJ.2 (h.lt t ht);simpa [Of] using this
inductive RG (next:Nat→List Nat) (es0:Es):Nat→Prop
 | start {t:Nat} (h:t∈Of es0):RG next es0 t
 | step {u t:Nat} (h:RG next es0 u) (ht:t∈next u):RG next es0 t
def Hu (s:List Int) (v:Nat):Int:=(s[v]?).getD 0
section
variable (N F:Nat) (ka kb:Nat→Nat)
variable {N F ka kb}
structure fR (N F:Nat) (ka kb:Nat→Nat) (v:Nat) (up:List Bool) (C:Nat→Prop):Prop where
 pos:0<F
 len:up.length=N
 kids:∀ p,F≤p→p<N→ka p<p∧kb p<p
 leaf:∀ k,k<F→Be up k=false
 inC:∀ k,Be up k=true→C k
 clo:∀ p c,C p→F≤p→p<N→(c=ka p∨c=kb p)→C c
 down:∀ p c,C p→F≤p→p<N→Be up p=false→(c=ka p∨c=kb p)→Be up c=false
 vN:v<N
 vF:F≤v
 vup:Be up v=true
 par:∀ k,Be up k=true→k≠v→∃ p,Be up p=true∧k<p∧F≤p∧p<N∧(k=ka p∨k=kb p)
variable {v:Nat} {up:List Bool} {C:Nat→Prop}
theorem fT {s:List Bool} {k:Nat} (h:Be s k=true):k<s.length:=by
 unfold Be at h
 cases e:s[k]? with
 | none=>rw[e] at h;cases h
 | some b=>exact (zz1.1 e).1
theorem fR.upF (h:fR N F ka kb v up C) {k:Nat} (hk:Be up k=true):F≤k∧k<N:=by
 have a:=fT hk;rw[h.len] at a;refine⟨?_,a⟩;by_cases hkF:k<F
 · have:=h.leaf k hkF;rw[hk] at this;cases this
 · omega
theorem fR.whole (h:fR N F ka kb v up C):Whole N F ka kb v (Be up):=by
 intro u l hs
 have key:∀ d k,N - k=d→Be up k=true→u k=true∧l k=true:=by
  intro d
  induction d using Nat.strongRecOn with
  | _ d ih =>
    intro k hd hk;obtain⟨q1,q2⟩:=h.upF hk
    have hu:u k=true:=by
     by_cases hkv:k=v
     · subst hkv;exact hs.start
     · obtain⟨p,a,b,c,d',e⟩:=h.par k hk hkv;have hlp:=(ih (N - p) (by omega) p rfl a).2;have:=hs.kids p c d' hlp;have hk0:k≠0:=by have:=h.pos;omega
       rcases e with e|e
       · rw[e];exact this.1 (e▸hk0)
       · rw[e];exact this.2 (e▸hk0)
    exact⟨hu,hs.free k q2 hk hu⟩
 exact fun k hkN hk=>key _ k rfl hk
structure zV (N F:Nat) (ka kb:Nat→Nat) (up:List Bool) (C:Nat→Prop) (us:List Bool) (ab:List Int):Prop where
 ul:us.length=N
 al:ab.length=N
 fl:xW N F ka kb (Be up) (Be us) (Hu ab)
 c:∀ k,Be us k=true→0≤Hu ab k→C (Hu ab k).toNat
end
abbrev StS:=List Bool×List Int
section
variable {N F:Nat} {ka kb:Nat→Nat} {v:Nat} {up:List Bool} {C:Nat→Prop}
theorem zV.upd {us us2:List Bool} {ab ab2:List Int} {k:Nat} (h:zV N F ka kb up C us ab) (h1:us2.length=us.length) (h2:ab2.length=ab.length) (hj:∀ j,j≠k→Be us2 j=Be us j∧Hu ab2 j=Hu ab j)
 (hk:Be us2 k=true→(Be up k=false∧k≠0∧k<N)∧(Hu ab2 k<0→∃ p,Be up p=true∧F≤p∧p<N∧(k=ka p∨k=kb p)) ∧
   (0≤Hu ab2 k→(Be up (Hu ab2 k).toNat=false∧F≤(Hu ab2 k).toNat∧(Hu ab2 k).toNat<N∧(k=ka (Hu ab2 k).toNat∨k=kb (Hu ab2 k).toNat))∧C (Hu ab2 k).toNat)):zV N F ka kb up C us2 ab2:=by
 refine⟨by rw[h1,h.ul],by rw[h2,h.al],⟨fun j hu=>?_,fun j hu ha=>?_,fun j hu ha=>?_⟩,fun j hu ha=>?_⟩<;>by_cases hjk:j=k
 · subst hjk;exact (hk hu).1
 · obtain⟨a,b⟩:=hj j hjk;rw[a] at hu;exact h.fl.free j hu
 · subst hjk;exact (hk hu).2.1 ha
 · obtain⟨a,b⟩:=hj j hjk;rw[a] at hu;rw[b] at ha;exact h.fl.src j hu ha
 · subst hjk;exact ((hk hu).2.2 ha).1
 · obtain⟨a,b⟩:=hj j hjk;rw[a] at hu;rw[b] at ha ⊢;exact h.fl.edge j hu ha
 · subst hjk;exact ((hk hu).2.2 ha).2
 · obtain⟨a,b⟩:=hj j hjk;rw[a] at hu;rw[b] at ha ⊢;exact h.c j hu ha
end
section
variable {N F:Nat} {ka kb:Nat→Nat} {v:Nat} {up:List Bool} {C:Nat→Prop}
theorem zV.start (h:fR N F ka kb v up C):zV N F ka kb up C (List.replicate N false) (List.replicate N 0):=by
 refine⟨by simp,by simp,⟨fun k hk=>?_,fun k hk=>?_,fun k hk=>?_⟩,fun k hk=>?_⟩<;>(rw[Ie] at hk;cases hk)
end
abbrev Ms:=List ((Nat×Nat)×Int)
def edM (ms:Ms) (c p:Nat):Int:=((ms.find? fun e=>e.1==(c,p)).map (·.2)).getD 0
abbrev StI:=List Int×Ms
structure ACc (N F:Nat) (ka kb:Nat→Nat) (v:Nat) (fr:List Bool):Prop where
 pos:0<F
 kids:∀ p,F≤p→p<N→ka p<p∧kb p<p
 vN:v<N
 vF:F≤v
section
variable {N F:Nat} {ka kb:Nat→Nat} {v:Nat} {fr:List Bool}
structure FlI (N F:Nat) (ka kb:Nat→Nat) (fr:List Bool) (s:StI):Prop where
 len:s.1.length=N
 fl:zS N F ka kb (Be fr) (Hu s.1) (edM s.2)
end
section
variable (N F:Nat) (ka kb:Nat→Nat) (cn:Nat→List Bool)
def zE (lab:List Int) (k:Nat):Int:=max (Hu lab (ka k)) (Hu lab (kb k))
structure ACG (N F:Nat) (ka kb:Nat→Nat) (cn:Nat→List Bool):Prop where
 pos:0<F
 kids:∀ p,F≤p→p<N→ka p<p∧kb p<p
 cone:∀ v,v<N→∀ u,(Be (cn v) u=true↔Mt F ka kb v u)
structure AB5 (N F:Nat) (ka kb:Nat→Nat) (m:Nat) (lab:List Int):Prop where
 len:lab.length=N
 leaf:∀ k,k<F→Hu lab k=0
 lo:∀ k,F≤k→k<m→1≤Hu lab k∧zE ka kb lab k≤Hu lab k
 hi:∀ k,F≤k→k<m→Hu lab k≤zE ka kb lab k+1
 pos:∀ k,0≤Hu lab k
end
section
variable {N F:Nat} {ka kb:Nat→Nat} {cn:Nat→List Bool}
structure ACo (F:Nat) (ka kb:Nat→Nat) (v:Nat) (S:List Int):Prop where
 own:(v:Int)∉S
 leak:¬ eT F ka kb S v
theorem Od.last {S:List Int} {v u:Nat} (h:Od F ka kb S v u):T5 S u:=by
 induction h with
 | refl h=>exact h
 | a ho h r ih=>exact ih
 | b ho h r ih=>exact ih
theorem Od.sa {S:List Int} {v u:Nat} (h:Od F ka kb S v u) (hu:F≤u) (ho:T5 S (ka u)):Od F ka kb S v (ka u):=by
 induction h with
 | refl h=>exact .a h hu (.refl ho)
 | a ho' h r ih=>exact .a ho' h (ih hu ho)
 | b ho' h r ih=>exact .b ho' h (ih hu ho)
theorem Od.sb {S:List Int} {v u:Nat} (h:Od F ka kb S v u) (hu:F≤u) (ho:T5 S (kb u)):Od F ka kb S v (kb u):=by
 induction h with
 | refl h=>exact .b h hu (.refl ho)
 | a ho' h r ih=>exact .a ho' h (ih hu ho)
 | b ho' h r ih=>exact .b ho' h (ih hu ho)
end
end Go.Proofs.Ytnjedabjbeipeaa
