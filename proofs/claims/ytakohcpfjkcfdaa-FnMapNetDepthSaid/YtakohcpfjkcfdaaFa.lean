/-
  Flows and separations in a graph whose nodes may be cut, one unit through a node: a flow is no greater than a separation; what is reached behind a flow that cannot grow is the least separation. Plain lemmas, about no function of the program.
  Conditions: those typed in each theorem.
-/
import Derived.Test.YtakohcpfjkcfdaaNh
namespace Go.Proofs.Ytakohcpfjkcfdaa
set_option linter.unusedVariables false
set_option linter.unusedSimpArgs false
def sumN (f:Nat→Int):Nat→Int
 | 0=>0
 | n+1=>sumN f n+f n
theorem sumN_le {f g:Nat→Int}:∀ {n:Nat},(∀ k,k<n→f k≤g k)→sumN f n≤sumN g n
 | 0,_=>Int.le_refl _
 | n+1,h=>by
   have:=sumN_le (n:=n) fun k hk=>h k (by omega)
   have:=h n (by omega)
   simp only[sumN];omega
theorem sumN_congr {f g:Nat→Int}:∀ {n:Nat},(∀ k,k<n→f k=g k)→sumN f n=sumN g n
 | 0,_=>rfl
 | n+1,h=>by simp only[sumN];rw[sumN_congr (n:=n) fun k hk=>h k (by omega),h n (by omega)]
theorem sumN_tight {f g:Nat→Int}:∀ {n:Nat},(∀ k,k<n→f k≤g k)→sumN f n=sumN g n→∀ k,k<n→f k=g k
 | 0,_,_,k,hk=>by omega
 | n+1,h,e,k,hk=>by
   have h1:=sumN_le (n:=n) fun k hk=>h k (by omega)
   have h2:=h n (by omega)
   simp only[sumN] at e
   by_cases hkn:k=n
   · subst hkn;omega
   · exact sumN_tight (n:=n) (fun k hk=>h k (by omega)) (by omega) k (by omega)
theorem sumN_one {f g:Nat→Int} {k:Nat}:∀ {n:Nat},k<n→(∀ j,j<n→j≠k→f j=g j)→sumN f n=sumN g n+(f k - g k)
 | 0,hk,_=>by omega
 | n+1,hk,h=>by
   simp only[sumN]
   by_cases hkn:k=n
   · subst hkn
     rw[sumN_congr (n:=k) (f:=f) (g:=g) fun j hj=>h j (by omega) (by omega)]
     omega
   · rw[sumN_one (n:=n) (by omega) fun j hj hjk=>h j (by omega) hjk,h n (by omega) (by omega)]
     omega
theorem sumN_zero {f:Nat→Int} {n:Nat} (h:∀ k,k<n→f k=0):sumN f n=0:=by
 rw[sumN_congr h]
 clear h
 induction n with
 | zero=>rfl
 | succ n ih=>simp only[sumN];omega
def bI (b:Bool):Int:=if b then 1 else 0
@[simp] theorem bI_t:bI true=1:=rfl
@[simp] theorem bI_f:bI false=0:=rfl
theorem bI_01 (b:Bool):0≤bI b∧bI b≤1:=by cases b<;>simp
theorem sumN_count (p:Nat→Bool):∀ n:Nat,sumN (fun k=>bI (p k)) n=(((List.range n).filter p).length:Int)
 | 0=>rfl
 | n+1=>by
   simp only[sumN]
   rw[sumN_count p n,List.range_succ,List.filter_append,List.length_append]
   cases h:p n<;>simp[h]
section
variable (N F:Nat) (ka kb:Nat→Nat) (v:Nat) (fr:Nat→Bool)
structure Sep (u l:Nat→Bool):Prop where
 start:u v=true
 free:∀ k,k<N→fr k=true→u k=true→l k=true
 kids:∀ p,F≤p→p<N→l p=true→(ka p≠0→u (ka p)=true)∧(kb p≠0→u (kb p)=true)
 leaf:∀ k,0<k→k<F→l k=false
def sizeS (u l:Nat→Bool):Int:=sumN (fun k=>bI (u k&&!l k)) N
structure Least (r:Int) (u l:Nat→Bool):Prop where
 sep:Sep N F ka kb v fr u l
 size:sizeS N u l=r
 ge:∀ u' l',Sep N F ka kb v fr u' l'→r≤sizeS N u' l'
 sub:∀ u' l',Sep N F ka kb v fr u' l'→sizeS N u' l'=r→∀ k,0<k→k<N→(u k=true→u' k=true)∧(l k=true→l' k=true)
variable {N F ka kb v fr}
theorem Least.same {r r':Int} {u l u' l':Nat→Bool} (h:Least N F ka kb v fr r u l) (h':Least N F ka kb v fr r' u' l'):r=r'∧∀ k,0<k→k<N→u k=u' k∧l k=l' k:=by
 have e:r=r':=by
  have a:=h.ge _ _ h'.sep
  have b:=h'.ge _ _ h.sep
  rw[h'.size] at a
  rw[h.size] at b
  omega
 subst e
 refine⟨rfl,fun k hk hn=>?_⟩
 obtain⟨a,b⟩:=h.sub _ _ h'.sep h'.size k hk hn
 obtain⟨c,d⟩:=h'.sub _ _ h.sep h.size k hk hn
 exact⟨Bool.eq_iff_iff.2 ⟨a,c⟩,Bool.eq_iff_iff.2 ⟨b,d⟩⟩
structure FlowI (N F:Nat) (ka kb:Nat→Nat) (fr:Nat→Bool) (ins:Nat→Int) (ed:Nat→Nat→Int):Prop where
 pos:∀ k,0≤ins k
 cap:∀ k,fr k=false→ins k≤1
 zero:ins 0=0
 epos:∀ c p,0≤ed c p
 edge:∀ c p,0<ed c p→c≠0∧F≤p∧p<N∧(c=ka p∨c=kb p)
def crossI (N:Nat) (ins:Nat→Int) (ed:Nat→Nat→Int) (u l:Nat→Bool):Int :=
 sumN (fun k=>ins k*(bI (u k) - bI (l k))+sumN (fun p=>ed k p*(bI (l p) - bI (u k))) N) N
variable {ins:Nat→Int} {ed:Nat→Nat→Int}
theorem edge_le (hf:FlowI N F ka kb fr ins ed) {u l:Nat→Bool} (hs:∀ p,F≤p→p<N→l p=true→(ka p≠0→u (ka p)=true)∧(kb p≠0→u (kb p)=true)) (k p:Nat):ed k p*(bI (l p) - bI (u k))≤0:=by
 by_cases h0:ed k p=0
 · rw[h0];simp
 · have hp:0<ed k p:=by have:=hf.epos k p;omega
   obtain⟨a,b,c,d⟩:=hf.edge k p hp
   have:bI (l p) - bI (u k)≤0:=by
    cases hl:l p with
    | false=>have:=(bI_01 (u k)).1;simp;omega
    | true =>
      obtain⟨x,y⟩:=hs p b c hl
      have:u k=true:=by rcases d with rfl|rfl;exact x a;exact y a
      simp[this]
   exact Int.mul_nonpos_of_nonneg_of_nonpos (by omega) this
theorem node_le (hf:FlowI N F ka kb fr ins ed) {u l:Nat→Bool} (hs:Sep N F ka kb v fr u l) {k:Nat} (hk:k<N):ins k*(bI (u k) - bI (l k))≤bI (u k&&!l k):=by
 have h0:=hf.pos k
 cases hu:u k with
 | false =>
   cases hl:l k with
   | false=>simp
   | true=>simp;omega
 | true =>
   cases hl:l k with
   | true=>simp
   | false =>
     have:fr k=false:=by
      cases hfr:fr k with
      | false=>rfl
      | true=>have:=hs.free k hk hfr hu;rw[hl] at this;cases this
     have:=hf.cap k this
     simp;omega
theorem term_le (hf:FlowI N F ka kb fr ins ed) {u l:Nat→Bool} (hs:Sep N F ka kb v fr u l) {k:Nat} (hk:k<N) :
 ins k*(bI (u k) - bI (l k))+sumN (fun p=>ed k p*(bI (l p) - bI (u k))) N≤bI (u k&&!l k):=by
 have h1:=node_le hf hs hk
 have h2:sumN (fun p=>ed k p*(bI (l p) - bI (u k))) N≤0:=by
  have:=sumN_le (f:=fun p=>ed k p*(bI (l p) - bI (u k))) (g:=fun _=>0) (n:=N) fun p _=>edge_le hf hs.kids k p
  rwa [sumN_zero (f:=fun _=>0) fun _ _=>rfl] at this
 omega
theorem cross_le (hf:FlowI N F ka kb fr ins ed) {u l:Nat→Bool} (hs:Sep N F ka kb v fr u l):crossI N ins ed u l≤sizeS N u l:=sumN_le fun k hk=>term_le hf hs hk
inductive ArcI (F N:Nat) (ka kb:Nat→Nat) (fr:Nat→Bool) (ins:Nat→Int) (ed:Nat→Nat→Int):Nat×Bool→Nat×Bool→Prop
 | down {k:Nat} (h:fr k=true∨ins k=0):ArcI F N ka kb fr ins ed (k,true) (k,false)
 | back {k p:Nat} (h:0<ed k p):ArcI F N ka kb fr ins ed (k,true) (p,false)
 | kid {p c:Nat} (h:F≤p) (hn:p<N) (hc:c=ka p∨c=kb p):ArcI F N ka kb fr ins ed (p,false) (c,true)
 | undo {k:Nat} (h:0<ins k):ArcI F N ka kb fr ins ed (k,false) (k,true)
inductive ReachI (F N:Nat) (ka kb:Nat→Nat) (fr:Nat→Bool) (ins:Nat→Int) (ed:Nat→Nat→Int) (v:Nat):Nat×Bool→Prop
 | start:ReachI F N ka kb fr ins ed v (v,true)
 | step {y x:Nat×Bool} (h:ReachI F N ka kb fr ins ed v y) (a:ArcI F N ka kb fr ins ed y x):ReachI F N ka kb fr ins ed v x
theorem leastI (hf:FlowI N F ka kb fr ins ed) (hv:0<v) (hvN:v<N) (hF:0<F) {r:Int} (hr:∀ u l:Nat→Bool,u v=true→(∀ k,0<k→k<F→l k=false)→crossI N ins ed u l=r)
 {u l:Nat→Bool} (hu:∀ k,k<N→(u k=true↔ReachI F N ka kb fr ins ed v (k,true))) (hl:∀ k,k<N→(l k=true↔ReachI F N ka kb fr ins ed v (k,false))) (hk:∀ p,F≤p→p<N→ka p<N∧kb p<N)
 (hend:∀ k,0<k→k<F→l k=false):Least N F ka kb v fr r u l:=by
 have hs:Sep N F ka kb v fr u l:=by
  refine⟨(hu v hvN).2 .start,fun k hkN hfr h=>(hl k hkN).2 (((hu k hkN).1 h).step (.down (.inl hfr))),fun p h1 h2 h3=>?_,hend⟩
  have hp:=(hl p h2).1 h3
  obtain⟨a,b⟩:=hk p h1 h2
  exact⟨fun _=>(hu _ a).2 (hp.step (.kid h1 h2 (.inl rfl))),fun _=>(hu _ b).2 (hp.step (.kid h1 h2 (.inr rfl)))⟩
 have hc:=hr u l hs.start hs.leaf
 have hsz:sizeS N u l=r:=by
  rw[←hc]
  refine (sumN_congr fun k hkN=>?_).symm
  have e:sumN (fun p=>ed k p*(bI (l p) - bI (u k))) N=0:=sumN_zero fun p hp=>by
   by_cases h0:ed k p=0
   · rw[h0];simp
   · have hpos:0<ed k p:=by have:=hf.epos k p;omega
     obtain⟨a,b,c,d⟩:=hf.edge k p hpos
     have:l p=u k:=Bool.eq_iff_iff.2 ⟨fun h=>(hu k hkN).2 (((hl p hp).1 h).step (.kid b c d)),fun h=>(hl p hp).2 (((hu k hkN).1 h).step (.back hpos))⟩
     rw[this];simp
  rw[e]
  cases huk:u k with
  | true =>
    cases hlk:l k with
    | true=>simp
    | false =>
      have h1:¬ (fr k=true∨ins k=0):=fun h=>by
       have:=(hl k hkN).2 (((hu k hkN).1 huk).step (.down h))
       rw[hlk] at this;cases this
      have h2:fr k=false:=by cases h:fr k;rfl;exact absurd (.inl h) h1
      have h3:=hf.cap k h2
      have h4:=hf.pos k
      have h5:ins k≠0:=fun h=>h1 (.inr h)
      have:ins k=1:=by omega
      simp[this]
  | false =>
    cases hlk:l k with
    | false=>simp
    | true =>
      have:¬ 0<ins k:=fun h=>by
       have:=(hu k hkN).2 (((hl k hkN).1 hlk).step (.undo h))
       rw[huk] at this;cases this
      have h4:=hf.pos k
      have:ins k=0:=by omega
      simp[this]
 refine⟨hs,hsz,fun u' l' hs'=>?_,fun u' l' hs' hz=>?_⟩
 · rw[←hr u' l' hs'.start hs'.leaf]
   exact cross_le hf hs'
 · have ht:∀ k,k<N→ins k*(bI (u' k) - bI (l' k))+sumN (fun p=>ed k p*(bI (l' p) - bI (u' k))) N=bI (u' k&&!l' k) :=
    sumN_tight (fun k hkN=>term_le hf hs' hkN) (by rw[←hr u' l' hs'.start hs'.leaf] at hz;exact hz.symm)
   have hE:∀ k p,k<N→p<N→ed k p*(bI (l' p) - bI (u' k))=0∧ins k*(bI (u' k) - bI (l' k))=bI (u' k&&!l' k):=fun k p hkN hpN=>by
    have a:=node_le hf hs' hkN
    have b:sumN (fun p=>ed k p*(bI (l' p) - bI (u' k))) N≤0:=by
     have:=sumN_le (f:=fun p=>ed k p*(bI (l' p) - bI (u' k))) (g:=fun _=>0) (n:=N) fun p _=>edge_le hf hs'.kids k p
     rwa [sumN_zero (f:=fun _=>0) fun _ _=>rfl] at this
    have c:=ht k hkN
    refine⟨?_,by omega⟩
    have:=sumN_tight (f:=fun p=>ed k p*(bI (l' p) - bI (u' k))) (g:=fun _=>0) (n:=N) (fun p _=>edge_le hf hs'.kids k p) (by rw[sumN_zero (f:=fun _=>0) fun _ _=>rfl];omega) p hpN
    exact this
   have key:∀ x,ReachI F N ka kb fr ins ed v x→x.1=0∨(x.1<N→(x.2=true→u' x.1=true)∧(x.2=false→l' x.1=true)):=by
    intro x hx
    induction hx with
    | start=>exact .inr fun _=>⟨fun _=>hs'.start,fun h=>by cases h⟩
    | step hy ha ih =>
      cases ha with
      | @down k h =>
        rcases ih with ih|ih
        · exact .inl ih
        refine .inr fun hkN=>⟨(by simp),fun _=>?_⟩
        have hu':=(ih hkN).1 rfl
        rcases h with h|h
        · exact hs'.free k hkN h hu'
        · have:=(hE k 0 hkN (by omega)).2
          simp only at hu'
          rw[h,hu'] at this
          cases hl':l' k with
          | true=>rfl
          | false=>rw[hl'] at this;simp at this
      | @back k p h =>
        obtain⟨a,b,c,d⟩:=hf.edge k p h
        rcases ih with ih|ih
        · exact absurd ih a
        refine .inr fun hpN=>⟨(by simp),fun _=>?_⟩
        have hkN:k<N:=by
         have:=hk p b c
         rcases d with rfl|rfl
         · exact this.1
         · exact this.2
        have hu':=(ih hkN).1 rfl
        have:=(hE k p hkN hpN).1
        simp only at hu'
        rw[hu'] at this
        cases hl':l' p with
        | true=>rfl
        | false=>rw[hl'] at this;simp at this;omega
      | @kid p c h hn hc =>
        by_cases hc0:c=0
        · exact .inl hc0
        rcases ih with ih|ih
        · simp only at ih;omega
        refine .inr fun hcN=>⟨fun _=>?_,fun h=>by cases h⟩
        have:=hs'.kids p h hn ((ih hn).2 rfl)
        rcases hc with rfl|rfl
        · exact this.1 hc0
        · exact this.2 hc0
      | @undo k h =>
        rcases ih with ih|ih
        · exact .inl ih
        refine .inr fun hkN=>⟨fun _=>?_,fun h=>by cases h⟩
        have hl':=(ih hkN).2 rfl
        simp only at hl'
        have:=(hE k 0 hkN (by omega)).2
        cases hu':u' k with
        | true=>rfl
        | false=>rw[hl',hu'] at this;simp at this;omega
   intro k hk0 hkN
   refine⟨fun h=>?_,fun h=>?_⟩
   · rcases key _ ((hu k hkN).1 h) with e|e
     · simp only at e;omega
     · exact (e hkN).1 rfl
   · rcases key _ ((hl k hkN).1 h) with e|e
     · simp only at e;omega
     · exact (e hkN).2 rfl
structure FlowS (N F:Nat) (ka kb:Nat→Nat) (fr:Nat→Bool) (us:Nat→Bool) (ab:Nat→Int):Prop where
 free:∀ k,us k=true→fr k=false∧k≠0∧k<N
 src:∀ k,us k=true→ab k<0→∃ p,fr p=true∧F≤p∧p<N∧(k=ka p∨k=kb p)
 edge:∀ k,us k=true→0≤ab k→fr (ab k).toNat=false∧F≤(ab k).toNat∧(ab k).toNat<N∧(k=ka (ab k).toNat∨k=kb (ab k).toNat)
def fromS (ab:Nat→Int) (l:Nat→Bool) (k:Nat):Int:=if ab k<0 then 1 else bI (l (ab k).toNat)
def crossS (N:Nat) (us:Nat→Bool) (ab:Nat→Int) (l:Nat→Bool):Int:=sumN (fun k=>bI (us k)*(fromS ab l k - bI (l k))) N
variable {us:Nat→Bool} {ab:Nat→Int}
def Whole (N F:Nat) (ka kb:Nat→Nat) (v:Nat) (fr:Nat→Bool):Prop:=∀ u l,Sep N F ka kb v fr u l→∀ k,k<N→fr k=true→u k=true∧l k=true
theorem src_up (hW:Whole N F ka kb v fr) {u l:Nat→Bool} (hs:Sep N F ka kb v fr u l) {k p:Nat} (hk:k≠0) (h1:fr p=true) (h2:F≤p) (h3:p<N) (h4:k=ka p∨k=kb p):u k=true:=by
 have:=hs.kids p h2 h3 (hW u l hs p h3 h1).2
 rcases h4 with rfl|rfl
 · exact this.1 hk
 · exact this.2 hk
theorem termS_le (hW:Whole N F ka kb v fr) (hf:FlowS N F ka kb fr us ab) {u l:Nat→Bool} (hs:Sep N F ka kb v fr u l) {k:Nat} (hk:k<N):bI (us k)*(fromS ab l k - bI (l k))≤bI (u k&&!l k):=by
 cases hus:us k with
 | false=>simp;exact (bI_01 _).1
 | true =>
   obtain⟨f1,f2,f3⟩:=hf.free k hus
   unfold fromS
   split
   · rename_i h
     obtain⟨p,p1,p2,p3,p4⟩:=hf.src k hus h
     rw[src_up hW hs f2 p1 p2 p3 p4]
     cases l k<;>simp
   · rename_i h
     obtain⟨e1,e2,e3,e4⟩:=hf.edge k hus (by omega)
     cases hl:l (ab k).toNat with
     | false=>have:=(bI_01 (l k)).1;have:=(bI_01 (u k&&!l k)).1;simp;omega
     | true =>
       have:=hs.kids _ e2 e3 hl
       have:u k=true:=by rcases e4 with e|e;rw[e];exact this.1 (e▸f2);rw[e];exact this.2 (e▸f2)
       rw[this]
       cases l k<;>simp
theorem crossS_le (hW:Whole N F ka kb v fr) (hf:FlowS N F ka kb fr us ab) {u l:Nat→Bool} (hs:Sep N F ka kb v fr u l):crossS N us ab l≤sizeS N u l:=sumN_le fun k hk=>termS_le hW hf hs hk
inductive ReachS (F N:Nat) (ka kb:Nat→Nat) (fr:Nat→Bool) (us:Nat→Bool) (ab:Nat→Int):Nat×Bool→Prop
 | start {p k:Nat} (hp:fr p=true) (h:F≤p) (hn:p<N) (hc:k=ka p∨k=kb p) (hk:k≠0) (hfr:fr k=false):ReachS F N ka kb fr us ab (k,true)
 | down {k:Nat} (h:ReachS F N ka kb fr us ab (k,true)) (hu:us k=false):ReachS F N ka kb fr us ab (k,false)
 | back {k:Nat} (h:ReachS F N ka kb fr us ab (k,true)) (hu:us k=true) (ha:0≤ab k):ReachS F N ka kb fr us ab ((ab k).toNat,false)
 | kid {p k:Nat} (hr:ReachS F N ka kb fr us ab (p,false)) (h:F≤p) (hn:p<N) (hc:k=ka p∨k=kb p) (hk:k≠0):ReachS F N ka kb fr us ab (k,true)
 | undo {k:Nat} (h:ReachS F N ka kb fr us ab (k,false)) (hu:us k=true):ReachS F N ka kb fr us ab (k,true)
theorem leastS (hW:Whole N F ka kb v fr) (hf:FlowS N F ka kb fr us ab) (hv:0<v) (hvN:v<N) (hfv:fr v=true) (hfl:∀ k,k<F→fr k=false) {r:Int} (hr:∀ l:Nat→Bool,(∀ k,0<k→k<F→l k=false)→crossS N us ab l=r)
 {u l:Nat→Bool} (hu:∀ k,k<N→(u k=true↔fr k=true∨ReachS F N ka kb fr us ab (k,true))) (hl:∀ k,k<N→(l k=true↔fr k=true∨ReachS F N ka kb fr us ab (k,false))) (hk:∀ p,F≤p→p<N→ka p<N∧kb p<N)
 (hend:∀ k,0<k→k<F→l k=false):Least N F ka kb v fr r u l:=by
 have hkid:∀ p k,F≤p→p<N→(k=ka p∨k=kb p)→k≠0→l p=true→u k=true:=fun p k h1 h2 h3 h4 h5=>by
  obtain⟨a,b⟩:=hk p h1 h2
  have hkN:k<N:=by rcases h3 with rfl|rfl<;>assumption
  refine (hu k hkN).2 ?_
  cases hfk:fr k with
  | true=>exact .inl rfl
  | false =>
    rcases (hl p h2).1 h5 with h|h
    · exact .inr (.start h h1 h2 h3 h4 hfk)
    · exact .inr (.kid h h1 h2 h3 h4)
 have hs:Sep N F ka kb v fr u l:=⟨(hu v hvN).2 (.inl hfv),fun k hkN hfr h=>(hl k hkN).2 (.inl hfr),fun p h1 h2 h3=>⟨fun h=>hkid p _ h1 h2 (.inl rfl) h h3,fun h=>hkid p _ h1 h2 (.inr rfl) h h3⟩,hend⟩
 have hsz:sizeS N u l=r:=by
  rw[←hr l hs.leaf]
  refine (sumN_congr fun k hkN=>?_).symm
  cases hus:us k with
  | false =>
    have:u k=true→l k=true:=fun h=>by
     refine (hl k hkN).2 ?_
     rcases (hu k hkN).1 h with h|h
     · exact .inl h
     · exact .inr (.down h hus)
    cases huk:u k with
    | false=>simp
    | true=>simp[this huk]
  | true =>
    obtain⟨f1,f2,f3⟩:=hf.free k hus
    have hund:l k=true→u k=true:=fun h=>by
     refine (hu k hkN).2 ?_
     rcases (hl k hkN).1 h with h|h
     · exact .inl h
     · exact .inr (.undo h hus)
    unfold fromS
    split
    · rename_i h
      obtain⟨p,p1,p2,p3,p4⟩:=hf.src k hus h
      rw[src_up hW hs f2 p1 p2 p3 p4]
      cases l k<;>simp
    · rename_i h
      obtain⟨q1,q2,q3,q4⟩:=hf.edge k hus (by omega)
      cases huk:u k with
      | true =>
        have:l (ab k).toNat=true:=by
         refine (hl _ q3).2 ?_
         rcases (hu k hkN).1 huk with h|h
         · rw[f1] at h;cases h
         · exact .inr (.back h hus (by omega))
        rw[this]
        cases l k<;>simp
      | false =>
        have h1:l (ab k).toNat=false:=by
         cases hh:l (ab k).toNat with
         | false=>rfl
         | true=>have:=hkid _ k q2 q3 q4 f2 hh;rw[huk] at this;cases this
        have h2:l k=false:=by
         cases hh:l k with
         | false=>rfl
         | true=>have:=hund hh;rw[huk] at this;cases this
        rw[h1,h2]
        simp
 refine⟨hs,hsz,fun u' l' hs'=>?_,fun u' l' hs' hz=>?_⟩
 · rw[←hr l' hs'.leaf]
   exact crossS_le hW hf hs'
 · have ht:∀ k,k<N→bI (us k)*(fromS ab l' k - bI (l' k))=bI (u' k&&!l' k) :=
    sumN_tight (fun k hkN=>termS_le hW hf hs' hkN) (by rw[←hr l' hs'.leaf] at hz;exact hz.symm)
   have key:∀ x,ReachS F N ka kb fr us ab x→x.1<N∧(x.2=true→u' x.1=true)∧(x.2=false→l' x.1=true):=by
    intro x hx
    induction hx with
    | @start p k hp h hn hc hk0 hfr =>
      refine⟨?_,fun _=>src_up hW hs' hk0 hp h hn hc,fun h=>by cases h⟩
      have:=hk p h hn
      rcases hc with rfl|rfl
      · exact this.1
      · exact this.2
    | @down k h hus ih =>
      refine⟨ih.1,(by simp),fun _=>?_⟩
      have a:=ih.2.1 rfl
      have b:=ht k ih.1
      simp only at a
      rw[hus,a] at b
      cases hl':l' k with
      | true=>rfl
      | false=>rw[hl'] at b;simp at b
    | @back k h hus hab ih =>
      obtain⟨q1,q2,q3,q4⟩:=hf.edge k hus hab
      refine⟨q3,(by simp),fun _=>?_⟩
      have a:=ih.2.1 rfl
      have b:=ht k ih.1
      simp only at a
      rw[hus,a] at b
      unfold fromS at b
      rw[if_neg (by omega)] at b
      cases hl':l' (ab k).toNat with
      | true=>rfl
      | false=>rw[hl'] at b;cases hh:l' k<;>rw[hh] at b<;>simp at b
    | @kid p k hr' h hn hc hk0 ih =>
      have:=hk p h hn
      have h2:=hs'.kids p h hn (ih.2.2 rfl)
      rcases hc with rfl|rfl
      · exact⟨this.1,fun _=>h2.1 hk0,fun h=>by cases h⟩
      · exact⟨this.2,fun _=>h2.2 hk0,fun h=>by cases h⟩
    | @undo k h hus ih =>
      refine⟨ih.1,fun _=>?_,fun h=>by cases h⟩
      obtain⟨f1,f2,f3⟩:=hf.free k hus
      have a:=ih.2.2 rfl
      simp only at a
      have b:=ht k ih.1
      unfold fromS at b
      split at b
      · rename_i h
        obtain⟨p,p1,p2,p3,p4⟩:=hf.src k hus h
        exact src_up hW hs' f2 p1 p2 p3 p4
      · rename_i h
        obtain⟨q1,q2,q3,q4⟩:=hf.edge k hus (by omega)
        rw[hus,a] at b
        cases hh:l' (ab k).toNat with
        | false=>rw[hh] at b;cases u' k<;>simp at b
        | true =>
          have:=hs'.kids _ q2 q3 hh
          rcases q4 with e|e
          · rw[e];exact this.1 (e▸f2)
          · rw[e];exact this.2 (e▸f2)
   intro k hk0 hkN
   refine⟨fun h=>?_,fun h=>?_⟩
   · rcases (hu k hkN).1 h with e|e
     · exact (hW u' l' hs' k hkN e).1
     · exact (key _ e).2.1 rfl
   · rcases (hl k hkN).1 h with e|e
     · exact (hW u' l' hs' k hkN e).2
     · exact (key _ e).2.2 rfl
end
end Go.Proofs.Ytakohcpfjkcfdaa
namespace Go.Proofs.Ytakohcpfjkcfdaa
set_option linter.unusedVariables false
set_option linter.unusedSimpArgs false
abbrev Es:=List (Nat×Int)
def keyE (es:Es):List Nat:=es.map (·.1)
def visG (src:Int) (es:Es) (t:Nat):Es:=if t∈keyE es then es else es++[(t,src)]
def runG (next:Nat→List Nat) (stop:Nat→Bool):Nat→Nat→Es→Es×Option Nat
 | 0,_,es=>(es,none)
 | f+1,q,es=>match es[q]? with
   | none=>(es,none)
   | some p=>if stop p.1=true then (es,some p.1) else runG next stop f (q+1) ((next p.1).foldl (visG (p.1:Int)) es)
theorem keyE_mem {es:Es} {i:Nat} {p:Nat×Int} (h:es[i]? = some p):p.1∈keyE es:=List.mem_map.2 ⟨p,List.mem_of_getElem? h,rfl⟩
theorem keyE_of {es:Es} {t:Nat} (h:t∈keyE es):∃ (i:Nat) (s:Int),es[i]? = some (t,s):=by
 obtain⟨p,hp,rfl⟩:=List.mem_map.1 h
 obtain⟨i,hi⟩:=List.mem_iff_getElem?.1 hp
 exact⟨i,p.2,hi⟩
theorem keyE_inj {es:Es} (nd:(keyE es).Nodup) {i j:Nat} {p q:Nat×Int} (hi:es[i]? = some p) (hj:es[j]? = some q) (h:p.1=q.1):i=j:=by
 have h1:(keyE es)[i]? = some p.1:=by simp[keyE,hi]
 have h2:(keyE es)[j]? = some q.1:=by simp[keyE,hj]
 obtain⟨a,a'⟩:=List.getElem?_eq_some_iff.1 h1
 obtain⟨b,b'⟩:=List.getElem?_eq_some_iff.1 h2
 exact (List.getElem?_inj a nd).1 (by rw[h1,h2,h])
structure InvG (next:Nat→List Nat) (M:Nat) (es0 es:Es):Prop where
 nd:(keyE es).Nodup
 lt:∀ t∈keyE es,t<M
 pre:∀ i,i<es0.length→es[i]? = es0[i]?
 tail:∀ (i:Nat) (p:Nat×Int),es[i]? = some p→es0.length≤i→∃ (j:Nat) (r:Nat×Int),j<i∧es[j]? = some r∧p.2=(r.1:Int)∧p.1∈next r.1
theorem InvG.len {next:Nat→List Nat} {M:Nat} {es0 es:Es} (h:InvG next M es0 es):es.length≤M:=by
 have:(keyE es).length≤(List.range M).length:=h.nd.length_le_of_subset fun t ht=>List.mem_range.2 (h.lt t ht)
 simpa [keyE] using this
theorem visG_facts {next:Nat→List Nat} {M:Nat} {es0 es:Es} (h:InvG next M es0 es) (h0:es0.length≤es.length) {j:Nat} {r:Nat×Int} (hj:es[j]? = some r) {t:Nat} (ht:t<M) (hn:t∈next r.1) :
 InvG next M es0 (visG r.1 es t)∧t∈keyE (visG r.1 es t)∧(∀ (i:Nat) (p:Nat×Int),es[i]? = some p→(visG r.1 es t)[i]? = some p)∧es.length≤(visG r.1 es t).length:=by
 unfold visG
 split
 · rename_i hm
   exact⟨h,hm,fun i p h=>h,Nat.le_refl _⟩
 · rename_i hm
   have hjl:=(List.getElem?_eq_some_iff.1 hj).1
   have hap:∀ (i:Nat) (p:Nat×Int),es[i]? = some p→(es++[(t,(r.1:Int))])[i]? = some p:=fun i p hi=>by
    rw[List.getElem?_append_left (List.getElem?_eq_some_iff.1 hi).1,hi]
   refine⟨⟨?_,fun u hu=>?_,fun i hi=>?_,fun i p hi hle=>?_⟩,by simp[keyE],hap,by simp⟩
   · simp only[keyE,List.map_append,List.map_cons,List.map_nil] at hm ⊢
     exact List.nodup_append.2 ⟨h.nd,by simp,fun a ha b hb=>by
      simp only[List.mem_singleton] at hb
      subst hb
      exact fun e=>hm (e▸ha)⟩
   · simp only[keyE,List.map_append,List.map_cons,List.map_nil,List.mem_append,List.mem_singleton] at hu
     rcases hu with hu|rfl
     · exact h.lt u hu
     · exact ht
   · rw[←h.pre i hi]
     exact List.getElem?_append_left (by omega)
   · by_cases hlt:i<es.length
     · rw[List.getElem?_append_left hlt] at hi
       obtain⟨j',r',a,b,c,d⟩:=h.tail i p hi hle
       exact⟨j',r',a,hap _ _ b,c,d⟩
     · rw[List.getElem?_append_right (by omega)] at hi
       have hi':i - es.length=0:=by
        have:=(List.getElem?_eq_some_iff.1 hi).1
        simp at this;omega
       rw[hi'] at hi
       simp at hi
       subst hi
       exact⟨j,r,by omega,hap _ _ hj,rfl,hn⟩
theorem visG_all {next:Nat→List Nat} {M:Nat} {es0:Es} {j:Nat} {r:Nat×Int}:∀ (ts:List Nat) {es:Es},InvG next M es0 es→es0.length≤es.length→es[j]? = some r→(∀ t∈ts,t<M∧t∈next r.1) →
 InvG next M es0 (ts.foldl (visG r.1) es)∧(∀ t∈ts,t∈keyE (ts.foldl (visG r.1) es))∧(∀ (i:Nat) (p:Nat×Int),es[i]? = some p→(ts.foldl (visG r.1) es)[i]? = some p)∧es.length≤(ts.foldl (visG r.1) es).length
 | [],es,h,_,_,_=>⟨h,by simp,fun i p h=>h,Nat.le_refl _⟩
 | t::ts,es,h,h0,hj,ht=>by
   obtain⟨a1,a2,a3,a4⟩:=visG_facts h h0 hj (ht t (by simp)).1 (ht t (by simp)).2
   obtain⟨b1,b2,b3,b4⟩:=visG_all ts a1 (by omega) (a3 _ _ hj) fun u hu=>ht u (by simp[hu])
   refine⟨b1,fun u hu=>?_,fun i p hi=>b3 i p (a3 i p hi),by simp only[List.foldl_cons];omega⟩
   rcases List.mem_cons.1 hu with rfl|hu
   · obtain⟨i,s,hi⟩:=keyE_of a2
     exact keyE_mem (b3 _ _ hi)
   · exact b2 u hu
def DoneG (next:Nat→List Nat) (stop:Nat→Bool) (es:Es) (q:Nat):Prop:=∀ (i:Nat) (p:Nat×Int),i<q→es[i]? = some p→stop p.1=false∧∀ t∈next p.1,t∈keyE es
theorem doneG_step {next:Nat→List Nat} {stop:Nat→Bool} {M:Nat} {es0 es:Es} {q:Nat} {p:Nat×Int} (hb:∀ u,u<M→∀ t∈next u,t<M) (h:InvG next M es0 es) (h0:es0.length≤es.length) (hd:DoneG next stop es q) (hq:es[q]? = some p) (hs:stop p.1=false) :
 InvG next M es0 ((next p.1).foldl (visG p.1) es)∧es0.length≤((next p.1).foldl (visG p.1) es).length∧DoneG next stop ((next p.1).foldl (visG p.1) es) (q+1)∧(∀ (i:Nat) (p':Nat×Int),es[i]? = some p'→((next p.1).foldl (visG p.1) es)[i]? = some p'):=by
 obtain⟨b1,b2,b3,b4⟩:=visG_all (next p.1) h h0 hq fun t ht=>⟨hb _ (h.lt _ (keyE_mem hq)) t ht,ht⟩
 refine⟨b1,by omega,fun i p' hi hp'=>?_,b3⟩
 by_cases hiq:i=q
 · subst hiq
   have:=(b3 _ _ hq).symm.trans hp'
   injection this with this
   subst this
   exact⟨hs,b2⟩
 · have hil:i<es.length:=by have:=(List.getElem?_eq_some_iff.1 hq).1;omega
   obtain⟨p2,hp2⟩:∃ p2,es[i]? = some p2:=⟨_,List.getElem?_eq_getElem hil⟩
   have:=(b3 _ _ hp2).symm.trans hp'
   injection this with this
   subst this
   obtain⟨c1,c2⟩:=hd i p2 (by omega) hp2
   refine⟨c1,fun t ht=>?_⟩
   obtain⟨j,s,hj⟩:=keyE_of (c2 t ht)
   exact keyE_mem (b3 _ _ hj)
theorem runG_facts {next:Nat→List Nat} {stop:Nat→Bool} {M:Nat} {es0:Es} (hb:∀ u,u<M→∀ t∈next u,t<M):∀ (f q:Nat) {es:Es},InvG next M es0 es→es0.length≤es.length→DoneG next stop es q→q≤es.length→M<f+q →
 InvG next M es0 (runG next stop f q es).1∧(∀ (i:Nat) (p:Nat×Int),es[i]? = some p→(runG next stop f q es).1[i]? = some p) ∧
 ((runG next stop f q es).2=none→DoneG next stop (runG next stop f q es).1 (runG next stop f q es).1.length) ∧
 (∀ u,(runG next stop f q es).2=some u→u∈keyE (runG next stop f q es).1∧stop u=true)
 | 0,q,es,h,_,_,hq,hf=>by have:=h.len;omega
 | f+1,q,es,h,h0,hd,hq,hf=>by
   unfold runG
   cases hx:es[q]? with
   | none =>
     refine⟨h,fun i p h=>h,fun _=>?_,fun u hu=>by cases hu⟩
     have:q=es.length:=by have:=List.getElem?_eq_none_iff.1 hx;omega
     rw[this] at hd
     exact hd
   | some p =>
     simp only
     split
     · rename_i hs
       exact⟨h,fun i p h=>h,fun hn=>(by cases hn),fun u hu=>(by injection hu with hu;subst hu;exact⟨keyE_mem hx,hs⟩)⟩
     · rename_i hs
       obtain⟨a,b,c,d⟩:=doneG_step hb h h0 hd hx (by simpa using hs)
       have hql:=(List.getElem?_eq_some_iff.1 (d _ _ hx)).1
       obtain⟨r1,r2,r3,r4⟩:=runG_facts hb f (q+1) a b c (by omega) (by omega)
       exact⟨r1,fun i p hi=>r2 i p (d i p hi),r3,r4⟩
inductive RG (next:Nat→List Nat) (es0:Es):Nat→Prop
 | start {t:Nat} (h:t∈keyE es0):RG next es0 t
 | step {u t:Nat} (h:RG next es0 u) (ht:t∈next u):RG next es0 t
theorem InvG.sound {next:Nat→List Nat} {M:Nat} {es0 es:Es} (h:InvG next M es0 es):∀ (i:Nat) (p:Nat×Int),es[i]? = some p→RG next es0 p.1:=by
 intro i
 induction i using Nat.strongRecOn with
 | _ i ih =>
   intro p hp
   by_cases hi:i<es0.length
   · rw[h.pre i hi] at hp
     exact .start (keyE_mem hp)
   · obtain⟨j,r,a,b,c,d⟩:=h.tail i p hp (by omega)
     exact .step (ih j a r b) d
theorem runG_none {next:Nat→List Nat} {stop:Nat→Bool} {M:Nat} {es0 es:Es} (h:InvG next M es0 es) (hd:DoneG next stop es es.length):(∀ t,t∈keyE es↔RG next es0 t)∧∀ t∈keyE es,stop t=false:=by
 refine⟨fun t=>⟨fun ht=>?_,fun ht=>?_⟩,fun t ht=>?_⟩
 · obtain⟨i,s,hi⟩:=keyE_of ht
   exact h.sound i _ hi
 · induction ht with
   | start h' =>
     obtain⟨i,s,hi⟩:=keyE_of h'
     have hil:=(List.getElem?_eq_some_iff.1 hi).1
     exact keyE_mem (by rw[h.pre i hil];exact hi)
   | step _ hn ih =>
     obtain⟨i,s,hi⟩:=keyE_of ih
     exact (hd i _ (List.getElem?_eq_some_iff.1 hi).1 hi).2 _ hn
 · obtain⟨i,s,hi⟩:=keyE_of ht
   exact (hd i _ (List.getElem?_eq_some_iff.1 hi).1 hi).1
def srcE (es:Es) (t:Nat):Option Int:=(es.find? fun p=>p.1==t).map (·.2)
theorem srcE_at {es:Es} (nd:(keyE es).Nodup) {i:Nat} {p:Nat×Int} (h:es[i]? = some p):srcE es p.1=some p.2:=by
 unfold srcE
 cases hf:es.find? (fun q=>q.1==p.1) with
 | none=>exact absurd (List.mem_of_getElem? h) (fun hm=>by have:=List.find?_eq_none.1 hf p hm;simp at this)
 | some q =>
   have h1:=List.find?_some hf
   have h2:=List.mem_of_find?_eq_some hf
   obtain⟨j,hj⟩:=List.mem_iff_getElem?.1 h2
   have:=keyE_inj nd hj h (by simpa using h1)
   subst this
   rw[hj] at h
   injection h with h
   subst h
   rfl
theorem srcE_none {es:Es} {t:Nat}:srcE es t=none↔t∉keyE es:=by
 unfold srcE keyE
 simp only[Option.map_eq_none_iff,List.find?_eq_none,List.mem_map,beq_iff_eq]
 constructor
 · rintro h ⟨p,hp,e⟩;exact h p hp e
 · intro h p hp e;exact h ⟨p,hp,e⟩
end Go.Proofs.Ytakohcpfjkcfdaa
namespace Go.Proofs.Ytakohcpfjkcfdaa
set_option linter.unusedVariables false
set_option linter.unusedSimpArgs false
def getZ (s:List Int) (v:Nat):Int:=(s[v]?).getD 0
theorem getZ_set {s:List Int} {v u:Nat} {z:Int} (hv:v<s.length):getZ (s.set v z) u=if u=v then z else getZ s u:=by
 unfold getZ
 by_cases h:u=v
 · subst h;simp[hv]
 · rw[if_neg h,List.getElem?_set_ne (by omega)]
theorem getB_put {s:List Bool} {v u:Nat} {b:Bool} (hv:v<s.length):getB (s.set v b) u=if u=v then b else getB s u:=by
 unfold getB
 by_cases h:u=v
 · subst h;simp[hv]
 · rw[if_neg h,List.getElem?_set_ne (by omega)]
section
variable (N F:Nat) (ka kb:Nat→Nat)
def fanL (k:Nat):List Nat:=if k<F then [] else (if ka k=0 then [] else [ka k])++(if kb k=0 then [] else [kb k])
theorem fanL_mem {k c:Nat}:c∈fanL F ka kb k↔F≤k∧c≠0∧(c=ka k∨c=kb k):=by
 unfold fanL
 split
 · simp;omega
 · rename_i h
   simp only[List.mem_append]
   constructor
   · rintro (h1|h1)
     · split at h1
       · simp at h1
       · simp at h1;subst h1;exact⟨by omega,by assumption,.inl rfl⟩
     · split at h1
       · simp at h1
       · simp at h1;subst h1;exact⟨by omega,by assumption,.inr rfl⟩
   · rintro⟨_,h0,rfl|rfl⟩
     · left;rw[if_neg h0];simp
     · right;rw[if_neg h0];simp
def succS (us:List Bool) (ab:List Int) (u:Nat):List Nat :=
 if u % 2=0 then (if getB us (u / 2)=true then (if 0≤getZ ab (u / 2) then [2*(getZ ab (u / 2)).toNat+1] else []) else [2*(u / 2)+1])
 else (fanL F ka kb (u / 2)).map (2*·)++(if getB us (u / 2)=true then [2*(u / 2)] else [])
def stopS (u:Nat):Bool:=decide (u % 2=1)&&decide (u / 2<F)
def visU (up:List Bool) (es:Es) (f:Nat):Es:=if getB up f=true then es else visG (-1) es (2*f)
def initK (up:List Bool):Nat→Es
 | 0=>[]
 | k+1=>if getB up k=true then (fanL F ka kb k).foldl (visU up) (initK up k) else initK up k
variable {N F ka kb}
theorem visU_facts {up:List Bool}:∀ (fs:List Nat) {es:Es},(keyE es).Nodup→(∀ f∈fs,getB up f=false→True) →
 (keyE (fs.foldl (visU up) es)).Nodup∧(∀ p∈fs.foldl (visU up) es,p∈es∨(p.2=-1∧∃ f,f∈fs∧getB up f=false∧p.1=2*f))∧(∀ t∈keyE es,t∈keyE (fs.foldl (visU up) es))∧∀ f∈fs,getB up f=false→2*f∈keyE (fs.foldl (visU up) es)
 | [],es,h,_=>⟨h,fun p hp=>.inl hp,fun t h=>h,by simp⟩
 | f::fs,es,h,_=>by
   have h1:(keyE (visU up es f)).Nodup∧(∀ p∈visU up es f,p∈es∨(p.2=-1∧getB up f=false∧p.1=2*f))∧(∀ t∈keyE es,t∈keyE (visU up es f))∧(getB up f=false→2*f∈keyE (visU up es f)):=by
    unfold visU
    split
    · rename_i hu
      exact⟨h,fun p hp=>.inl hp,fun t h=>h,fun hn=>by rw[hu] at hn;cases hn⟩
    · rename_i hu
      unfold visG
      split
      · rename_i hm
        exact⟨h,fun p hp=>.inl hp,fun t h=>h,fun _=>hm⟩
      · rename_i hm
        refine⟨?_,fun p hp=>?_,fun t ht=>?_,fun _=>by simp[keyE]⟩
        · simp only[keyE,List.map_append,List.map_cons,List.map_nil] at hm ⊢
          exact List.nodup_append.2 ⟨h,by simp,fun a ha b hb=>by
           simp only[List.mem_singleton] at hb
           subst hb
           exact fun e=>hm (e▸ha)⟩
        · simp only[List.mem_append,List.mem_singleton] at hp
          rcases hp with hp|rfl
          · exact .inl hp
          · exact .inr ⟨rfl,by simpa using hu,rfl⟩
        · simp only[keyE,List.map_append,List.mem_append] at ht ⊢
          exact .inl ht
   obtain⟨a1,a2,a3,a4⟩:=h1
   obtain⟨b1,b2,b3,b4⟩:=visU_facts fs a1 (fun _ _ _=>trivial)
   refine⟨b1,fun p hp=>?_,fun t ht=>b3 t (a3 t ht),fun g hg hug=>?_⟩
   · rcases b2 p hp with h|⟨e,g,hg,q1,q2⟩
     · rcases a2 p h with h|⟨e,q1,q2⟩
       · exact .inl h
       · exact .inr ⟨e,f,by simp,q1,q2⟩
     · exact .inr ⟨e,g,by simp[hg],q1,q2⟩
   · rcases List.mem_cons.1 hg with rfl|hg
     · exact b3 _ (a4 hug)
     · exact b4 g hg hug
theorem initK_facts {up:List Bool}:∀ K,(keyE (initK F ka kb up K)).Nodup∧(∀ p∈initK F ka kb up K,p.2=-1∧∃ k f,k<K∧getB up k=true∧f∈fanL F ka kb k∧getB up f=false∧p.1=2*f) ∧
 ∀ k f,k<K→getB up k=true→f∈fanL F ka kb k→getB up f=false→2*f∈keyE (initK F ka kb up K)
 | 0=>⟨by simp[initK,keyE],by simp[initK],fun k f h=>by omega⟩
 | K+1=>by
   obtain⟨a1,a2,a3⟩:=initK_facts (up:=up) K
   unfold initK
   split
   · rename_i hu
     obtain⟨b1,b2,b3,b4⟩:=visU_facts (up:=up) (fanL F ka kb K) a1 (fun _ _ _=>trivial)
     refine⟨b1,fun p hp=>?_,fun k f hk h1 h2 h3=>?_⟩
     · rcases b2 p hp with h|⟨e,f,h1,h2,h3⟩
       · obtain⟨e,k,f,q1,q2,q3,q4,q5⟩:=a2 p h
         exact⟨e,k,f,by omega,q2,q3,q4,q5⟩
       · exact⟨e,K,f,by omega,hu,h1,h2,h3⟩
     · by_cases hkK:k=K
       · subst hkK;exact b4 f h2 h3
       · exact b3 _ (a3 k f (by omega) h1 h2 h3)
   · rename_i hu
     refine⟨a1,fun p hp=>?_,fun k f hk h1 h2 h3=>?_⟩
     · obtain⟨e,k,f,q1,q2,q3,q4,q5⟩:=a2 p hp
       exact⟨e,k,f,by omega,q2,q3,q4,q5⟩
     · by_cases hkK:k=K
       · subst hkK;exact absurd h1 hu
       · exact a3 k f (by omega) h1 h2 h3
structure NetS (N F:Nat) (ka kb:Nat→Nat) (v:Nat) (up:List Bool) (C:Nat→Prop):Prop where
 pos:0<F
 len:up.length=N
 kids:∀ p,F≤p→p<N→ka p<p∧kb p<p
 leaf:∀ k,k<F→getB up k=false
 inC:∀ k,getB up k=true→C k
 clo:∀ p c,C p→F≤p→p<N→(c=ka p∨c=kb p)→C c
 down:∀ p c,C p→F≤p→p<N→getB up p=false→(c=ka p∨c=kb p)→getB up c=false
 vN:v<N
 vF:F≤v
 vup:getB up v=true
 par:∀ k,getB up k=true→k≠v→∃ p,getB up p=true∧k<p∧F≤p∧p<N∧(k=ka p∨k=kb p)
variable {v:Nat} {up:List Bool} {C:Nat→Prop}
theorem NetS.kidN (h:NetS N F ka kb v up C) {p c:Nat} (h1:F≤p) (h2:p<N) (hc:c=ka p∨c=kb p):c<N:=by
 have:=h.kids p h1 h2
 rcases hc with rfl|rfl<;>omega
theorem getB_len {s:List Bool} {k:Nat} (h:getB s k=true):k<s.length:=by
 unfold getB at h
 cases e:s[k]? with
 | none=>rw[e] at h;cases h
 | some b=>exact (List.getElem?_eq_some_iff.1 e).1
theorem NetS.upF (h:NetS N F ka kb v up C) {k:Nat} (hk:getB up k=true):F≤k∧k<N:=by
 have a:=getB_len hk
 rw[h.len] at a
 refine⟨?_,a⟩
 by_cases hkF:k<F
 · have:=h.leaf k hkF;rw[hk] at this;cases this
 · omega
theorem NetS.whole (h:NetS N F ka kb v up C):Whole N F ka kb v (getB up):=by
 intro u l hs
 have key:∀ d k,N - k=d→getB up k=true→u k=true∧l k=true:=by
  intro d
  induction d using Nat.strongRecOn with
  | _ d ih =>
    intro k hd hk
    obtain⟨q1,q2⟩:=h.upF hk
    have hu:u k=true:=by
     by_cases hkv:k=v
     · subst hkv;exact hs.start
     · obtain⟨p,a,b,c,d',e⟩:=h.par k hk hkv
       have hlp:=(ih (N - p) (by omega) p rfl a).2
       have:=hs.kids p c d' hlp
       have hk0:k≠0:=by have:=h.pos;omega
       rcases e with e|e
       · rw[e];exact this.1 (e▸hk0)
       · rw[e];exact this.2 (e▸hk0)
    exact⟨hu,hs.free k q2 hk hu⟩
 exact fun k hkN hk=>key _ k rfl hk
structure FlS (N F:Nat) (ka kb:Nat→Nat) (up:List Bool) (C:Nat→Prop) (us:List Bool) (ab:List Int):Prop where
 ul:us.length=N
 al:ab.length=N
 fl:FlowS N F ka kb (getB up) (getB us) (getZ ab)
 c:∀ k,getB us k=true→0≤getZ ab k→C (getZ ab k).toNat
def OkS (N:Nat) (up:List Bool) (C:Nat→Prop) (k:Nat):Prop:=k≠0∧k<N∧getB up k=false∧C k
theorem next_ok {us:List Bool} {ab:List Int} (h:NetS N F ka kb v up C) (hf:FlS N F ka kb up C us ab) {u t:Nat} (hu:OkS N up C (u / 2)) (ht:t∈succS F ka kb us ab u):OkS N up C (t / 2):=by
 unfold succS at ht
 split at ht
 · split at ht
   · rename_i hus
     split at ht
     · rename_i hab
       simp only[List.mem_singleton] at ht
       obtain⟨q1,q2,q3,q4⟩:=hf.fl.edge _ hus hab
       have q5:=hf.c _ hus hab
       have:t / 2=(getZ ab (u / 2)).toNat:=by omega
       rw[this]
       exact⟨by have:=h.pos;omega,q3,q1,q5⟩
     · simp at ht
   · simp only[List.mem_singleton] at ht
     have:t / 2=u / 2:=by omega
     rw[this];exact hu
 · simp only[List.mem_append,List.mem_map] at ht
   rcases ht with ⟨c,hc,rfl⟩|ht
   · obtain⟨a,b,d⟩:=(fanL_mem F ka kb).1 hc
     have:2*c / 2=c:=by omega
     rw[this]
     exact⟨b,h.kidN a hu.2.1 d,h.down _ _ hu.2.2.2 a hu.2.1 hu.2.2.1 d,h.clo _ _ hu.2.2.2 a hu.2.1 d⟩
   · split at ht
     · simp only[List.mem_singleton] at ht
       have:t / 2=u / 2:=by omega
       rw[this];exact hu
     · simp at ht
theorem init_ok (h:NetS N F ka kb v up C) {t:Nat} (ht:t∈keyE (initK F ka kb up N)):OkS N up C (t / 2)∧t % 2=0∧∃ k,getB up k=true∧F≤k∧k<N∧(t / 2=ka k∨t / 2=kb k):=by
 obtain⟨p,hp,rfl⟩:=List.mem_map.1 ht
 obtain⟨e,k,f,a,b,c,d,q⟩:=(initK_facts (F:=F) (ka:=ka) (kb:=kb) (up:=up) N).2.1 p hp
 obtain⟨c1,c2,c3⟩:=(fanL_mem F ka kb).1 c
 have:p.1 / 2=f:=by omega
 rw[this]
 exact⟨⟨c2,h.kidN c1 a c3,d,h.clo _ _ (h.inC k b) c1 a c3⟩,by omega,k,b,c1,a,c3⟩
theorem next_lt {us:List Bool} {ab:List Int} (h:NetS N F ka kb v up C) (hf:FlS N F ka kb up C us ab) (u:Nat) (hu:u<2*N) (t:Nat) (ht:t∈succS F ka kb us ab u):t<2*N:=by
 unfold succS at ht
 split at ht
 · split at ht
   · rename_i hus
     split at ht
     · rename_i hab
       simp only[List.mem_singleton] at ht
       have:=(hf.fl.edge _ hus hab).2.2.1
       omega
     · simp at ht
   · simp only[List.mem_singleton] at ht
     omega
 · simp only[List.mem_append,List.mem_map] at ht
   rcases ht with ⟨c,hc,rfl⟩|ht
   · obtain⟨a,b,d⟩:=(fanL_mem F ka kb).1 hc
     have:=h.kidN a (by omega) d
     omega
   · split at ht
     · simp only[List.mem_singleton] at ht
       omega
     · simp at ht
theorem init_inv (h:NetS N F ka kb v up C) (next:Nat→List Nat):InvG next (2*N) (initK F ka kb up N) (initK F ka kb up N) :=
 ⟨(initK_facts N).1,fun t ht=>by have:=(init_ok h ht).1.2.1;omega,fun i _=>rfl,fun i p hp hle=>by have:=(List.getElem?_eq_some_iff.1 hp).1;omega⟩
theorem rg_reach {us:List Bool} {ab:List Int} (h:NetS N F ka kb v up C) (hf:FlS N F ka kb up C us ab) {t:Nat} (ht:RG (succS F ka kb us ab) (initK F ka kb up N) t) :
 OkS N up C (t / 2)∧ReachS F N ka kb (getB up) (getB us) (getZ ab) (t / 2,decide (t % 2=0)):=by
 induction ht with
 | @start t ht =>
   obtain⟨a,b,k,k1,k2,k3,k4⟩:=init_ok h ht
   refine⟨a,?_⟩
   rw[decide_eq_true b]
   exact .start k1 k2 k3 k4 a.1 a.2.2.1
 | @step u t hu ht ih =>
   obtain⟨i1,i2⟩:=ih
   refine⟨next_ok h hf i1 ht,?_⟩
   unfold succS at ht
   split at ht
   · rename_i hu2
     rw[decide_eq_true hu2] at i2
     split at ht
     · rename_i hus
       split at ht
       · rename_i hab
         simp only[List.mem_singleton] at ht
         have e:t / 2=(getZ ab (u / 2)).toNat:=by omega
         rw[e,decide_eq_false (by omega)]
         exact .back i2 hus hab
       · simp at ht
     · rename_i hus
       simp only[List.mem_singleton] at ht
       have e:t / 2=u / 2:=by omega
       rw[e,decide_eq_false (by omega)]
       exact .down i2 (by simpa using hus)
   · rename_i hu2
     rw[decide_eq_false hu2] at i2
     simp only[List.mem_append,List.mem_map] at ht
     rcases ht with ⟨c,hc,rfl⟩|ht
     · obtain⟨a,b,d⟩:=(fanL_mem F ka kb).1 hc
       have e:2*c / 2=c:=by omega
       rw[e,decide_eq_true (by omega)]
       exact .kid i2 a i1.2.1 d b
     · split at ht
       · rename_i hus
         simp only[List.mem_singleton] at ht
         have e:t / 2=u / 2:=by omega
         rw[e,decide_eq_true (by omega)]
         exact .undo i2 hus
       · simp at ht
def sideN (x:Nat×Bool):Nat:=2*x.1+if x.2=true then 0 else 1
theorem reach_rg {us:List Bool} {ab:List Int} (h:NetS N F ka kb v up C) (hf:FlS N F ka kb up C us ab) {x:Nat×Bool} (hx:ReachS F N ka kb (getB up) (getB us) (getZ ab) x):RG (succS F ka kb us ab) (initK F ka kb up N) (sideN x):=by
 induction hx with
 | @start p k hp h1 hn hc hk hfr =>
   refine .start ?_
   exact (initK_facts N).2.2 p k hn hp ((fanL_mem F ka kb).2 ⟨h1,hk,hc⟩) hfr
 | @down k h' hus ih =>
   refine .step ih ?_
   unfold succS
   have e:sideN (k,true) / 2=k:=by simp[sideN]
   rw[if_pos (by simp[sideN]),e,hus]
   simp[sideN]
 | @back k h' hus hab ih =>
   refine .step ih ?_
   unfold succS
   have e:sideN (k,true) / 2=k:=by simp[sideN]
   rw[if_pos (by simp[sideN]),e,if_pos hus,if_pos hab]
   simp[sideN]
 | @kid p k h' h1 hn hc hk ih =>
   refine .step ih ?_
   unfold succS
   have e:sideN (p,false) / 2=p:=by simp[sideN];omega
   rw[if_neg (by simp[sideN]),e]
   simp only[List.mem_append,List.mem_map]
   exact .inl ⟨k,(fanL_mem F ka kb).2 ⟨h1,hk,hc⟩,by simp[sideN]⟩
 | @undo k h' hus ih =>
   refine .step ih ?_
   unfold succS
   have e:sideN (k,false) / 2=k:=by simp[sideN];omega
   rw[if_neg (by simp[sideN]),e,if_pos hus]
   simp[sideN]
theorem side_lo (k:Nat):sideN (k,false)=2*k+1:=rfl
theorem side_up (k:Nat):sideN (k,true)=2*k:=rfl
def seekS (N F:Nat) (ka kb:Nat→Nat) (up us:List Bool) (ab:List Int):Es×Option Nat:=runG (succS F ka kb us ab) (stopS F) (2*N+1) 0 (initK F ka kb up N)
theorem seekS_facts {us:List Bool} {ab:List Int} (h:NetS N F ka kb v up C) (hf:FlS N F ka kb up C us ab) :
 InvG (succS F ka kb us ab) (2*N) (initK F ka kb up N) (seekS N F ka kb up us ab).1∧((seekS N F ka kb up us ab).2=none→(∀ t,t∈keyE (seekS N F ka kb up us ab).1↔RG (succS F ka kb us ab) (initK F ka kb up N) t)∧∀ t∈keyE (seekS N F ka kb up us ab).1,stopS F t=false) ∧
 ∀ u,(seekS N F ka kb up us ab).2=some u→u∈keyE (seekS N F ka kb up us ab).1∧stopS F u=true:=by
 obtain⟨a,b,c,d⟩:=runG_facts (stop:=stopS F) (next_lt h hf) (2*N+1) 0 (init_inv h _) (Nat.le_refl _) (fun i p hi=>by omega) (Nat.zero_le _) (by omega)
 exact⟨a,fun hn=>runG_none a (c hn),d⟩
theorem seekS_least {us:List Bool} {ab:List Int} (h:NetS N F ka kb v up C) (hf:FlS N F ka kb up C us ab) {r:Int} (hr:∀ l:Nat→Bool,(∀ k,0<k→k<F→l k=false)→crossS N (getB us) (getZ ab) l=r) (hn:(seekS N F ka kb up us ab).2=none) :
 Least N F ka kb v (getB up) r (fun k=>getB up k||decide (2*k∈keyE (seekS N F ka kb up us ab).1)) (fun k=>getB up k||decide (2*k+1∈keyE (seekS N F ka kb up us ab).1)):=by
 obtain⟨-,h2,-⟩:=seekS_facts h hf
 obtain⟨e1,e2⟩:=h2 hn
 have eq:∀ x:Nat×Bool,sideN x∈keyE (seekS N F ka kb up us ab).1↔ReachS F N ka kb (getB up) (getB us) (getZ ab) x:=fun x=>by
  rw[e1]
  refine⟨fun hx=>?_,fun hx=>reach_rg h hf hx⟩
  have:=(rg_reach h hf hx).2
  have e:(sideN x / 2,decide (sideN x % 2=0))=x:=by
   obtain⟨k,b⟩:=x
   cases b<;>simp[sideN];omega
  rwa [e] at this
 have hvp:=h.vF
 have hp:=h.pos
 refine leastS h.whole hf.fl (by omega) h.vN h.vup h.leaf hr (fun k hk=>?_) (fun k hk=>?_) (fun p h1 h2=>?_) (fun k h1 h2=>?_)
 · have:=eq (k,true)
   rw[side_up] at this
   simp only[Bool.or_eq_true,decide_eq_true_eq,this]
 · have:=eq (k,false)
   rw[side_lo] at this
   simp only[Bool.or_eq_true,decide_eq_true_eq,this]
 · have:=h.kids p h1 h2;omega
 · rw[h.leaf k h2,Bool.false_or,decide_eq_false_iff_not]
   intro hm
   have:=e2 _ hm
   unfold stopS at this
   rw[decide_eq_true (by omega),decide_eq_true (by omega)] at this
   cases this
end
end Go.Proofs.Ytakohcpfjkcfdaa
namespace Go.Proofs.Ytakohcpfjkcfdaa
set_option linter.unusedVariables false
set_option linter.unusedSimpArgs false
abbrev StS:=List Bool×List Int
def pushK (frm:Int) (t:Nat) (s:StS):StS :=
 (if t % 2=0∧frm=(t:Int)+1 then (if t % 2=1∧frm=(t:Int) - 1 then s.1.set (t / 2) true else s.1).set (t / 2) false else if t % 2=1∧frm=(t:Int) - 1 then s.1.set (t / 2) true else s.1,
  if t % 2=0∧0≤frm∧frm≠(t:Int)+1 then (if t % 2=0∧frm=-1 then s.2.set (t / 2) (-1) else s.2).set (t / 2) (frm / 2) else if t % 2=0∧frm=-1 then s.2.set (t / 2) (-1) else s.2)
def pathS (es:Es):Nat→Int→StS→StS
 | 0,_,s=>s
 | f+1,at_,s=>if at_<0 then s else pathS es f ((srcE es at_.toNat).getD (-2)) (pushK ((srcE es at_.toNat).getD (-2)) at_.toNat s)
theorem pathS_step {es:Es} {f t:Nat} {frm:Int} {s:StS} (h:srcE es t=some frm):pathS es (f+1) (t:Int) s=pathS es f frm (pushK frm t s):=by
 have e:pathS es (f+1) (t:Int) s=if (t:Int)<0 then s else pathS es f ((srcE es (t:Int).toNat).getD (-2)) (pushK ((srcE es (t:Int).toNat).getD (-2)) (t:Int).toNat s):=rfl
 rw[e,if_neg (by omega),Int.toNat_natCast,h]
 rfl
theorem pathS_end {es:Es} {f:Nat} {s:StS}:pathS es f (-1) s=s:=by cases f<;>simp[pathS]
section
variable {N F:Nat} {ka kb:Nat→Nat} {v:Nat} {up:List Bool} {C:Nat→Prop}
theorem cross_upd {us us2:List Bool} {ab ab2:List Int} {k:Nat} (hk:k<N) (h:∀ j,j≠k→getB us2 j=getB us j∧getZ ab2 j=getZ ab j) (l:Nat→Bool) :
 crossS N (getB us2) (getZ ab2) l=crossS N (getB us) (getZ ab) l+(bI (getB us2 k)*(fromS (getZ ab2) l k - bI (l k)) - bI (getB us k)*(fromS (getZ ab) l k - bI (l k))):=by
 unfold crossS
 refine sumN_one hk fun j hj hjk=>?_
 obtain⟨a,b⟩:=h j hjk
 unfold fromS
 rw[a,b]
theorem FlS.upd {us us2:List Bool} {ab ab2:List Int} {k:Nat} (h:FlS N F ka kb up C us ab) (h1:us2.length=us.length) (h2:ab2.length=ab.length) (hj:∀ j,j≠k→getB us2 j=getB us j∧getZ ab2 j=getZ ab j)
 (hk:getB us2 k=true→(getB up k=false∧k≠0∧k<N)∧(getZ ab2 k<0→∃ p,getB up p=true∧F≤p∧p<N∧(k=ka p∨k=kb p)) ∧
   (0≤getZ ab2 k→(getB up (getZ ab2 k).toNat=false∧F≤(getZ ab2 k).toNat∧(getZ ab2 k).toNat<N∧(k=ka (getZ ab2 k).toNat∨k=kb (getZ ab2 k).toNat))∧C (getZ ab2 k).toNat)):FlS N F ka kb up C us2 ab2:=by
 refine⟨by rw[h1,h.ul],by rw[h2,h.al],⟨fun j hu=>?_,fun j hu ha=>?_,fun j hu ha=>?_⟩,fun j hu ha=>?_⟩<;>by_cases hjk:j=k
 · subst hjk;exact (hk hu).1
 · obtain⟨a,b⟩:=hj j hjk;rw[a] at hu;exact h.fl.free j hu
 · subst hjk;exact (hk hu).2.1 ha
 · obtain⟨a,b⟩:=hj j hjk;rw[a] at hu;rw[b] at ha;exact h.fl.src j hu ha
 · subst hjk;exact ((hk hu).2.2 ha).1
 · obtain⟨a,b⟩:=hj j hjk;rw[a] at hu;rw[b] at ha ⊢;exact h.fl.edge j hu ha
 · subst hjk;exact ((hk hu).2.2 ha).2
 · obtain⟨a,b⟩:=hj j hjk;rw[a] at hu;rw[b] at ha ⊢;exact h.c j hu ha
theorem pushK_down {k:Nat} {s:StS}:pushK ((2*k:Nat):Int) (2*k+1) s=(s.1.set k true,s.2):=by
 unfold pushK
 have e:(2*k+1) / 2=k:=by omega
 rw[if_neg (by omega),if_pos (by omega),if_neg (by omega),if_neg (by omega),e]
theorem pushK_back {k q:Nat} {s:StS} (h:q≠k):pushK ((2*k:Nat):Int) (2*q+1) s=s:=by
 unfold pushK
 rw[if_neg (by omega),if_neg (by omega),if_neg (by omega),if_neg (by omega)]
theorem pushK_src {k:Nat} {s:StS}:pushK (-1) (2*k) s=(s.1,s.2.set k (-1)):=by
 unfold pushK
 have e:(2*k) / 2=k:=by omega
 rw[if_neg (by omega),if_neg (by omega),if_neg (by omega),if_pos (by omega),e]
theorem pushK_kid {k p:Nat} {s:StS} (h:p≠k):pushK ((2*p+1:Nat):Int) (2*k) s=(s.1,s.2.set k (p:Int)):=by
 unfold pushK
 have e:(2*k) / 2=k:=by omega
 have e2:(((2*p+1:Nat):Int)) / 2=(p:Int):=by omega
 rw[if_neg (by omega),if_neg (by omega),if_pos (by omega),if_neg (by omega),e,e2]
theorem pushK_undo {k:Nat} {s:StS}:pushK ((2*k+1:Nat):Int) (2*k) s=(s.1.set k false,s.2):=by
 unfold pushK
 have e:(2*k) / 2=k:=by omega
 rw[if_pos (by omega),if_neg (by omega),if_neg (by omega),if_neg (by omega),e]
theorem push_hop {us:List Bool} {ab:List Int} {es:Es} (h:NetS N F ka kb v up C) (hf0:FlS N F ka kb up C us ab) (hI:InvG (succS F ka kb us ab) (2*N) (initK F ka kb up N) es) :
 ∀ (i t:Nat) (z:Int) (us2:List Bool) (ab2:List Int) (f:Nat),es[i]? = some (t,z)→t % 2=1→i+1≤f→FlS N F ka kb up C us2 ab2→(∀ (j k:Nat) (z':Int),j<i→es[j]? = some (2*k,z')→getB us2 k=getB us k∧getZ ab2 k=getZ ab k) →
   FlS N F ka kb up C (pathS es f t (us2,ab2)).1 (pathS es f t (us2,ab2)).2∧∀ l:Nat→Bool,crossS N (getB (pathS es f t (us2,ab2)).1) (getZ (pathS es f t (us2,ab2)).2) l=crossS N (getB us2) (getZ ab2) l+(1 - bI (l (t / 2))):=by
 intro i
 induction i using Nat.strongRecOn with
 | _ i ih =>
   intro t z us2 ab2 f hi ht hfu hf hag
   have hp:=h.pos
   have hev:∀ (j:Nat) (p:Nat×Int),es[j]? = some p→j<(initK F ka kb up N).length→p.1∈keyE (initK F ka kb up N)∧p.2=-1:=fun j p hj hl=>by
    rw[hI.pre j hl] at hj
    exact⟨keyE_mem hj,((initK_facts N).2.1 p (List.mem_of_getElem? hj)).1⟩
   have hnl:(initK F ka kb up N).length≤i:=by
    by_cases hl:i<(initK F ka kb up N).length
    · have:=(init_ok h (hev i _ hi hl).1).2.1
      simp only at this;omega
    · omega
   obtain⟨j,r,hji,hj,hz,hn⟩:=hI.tail i _ hi hnl
   simp only at hz hn
   have hrR:=(rg_reach h hf0 (hI.sound j r hj)).1
   obtain⟨rk,rz⟩:=r
   simp only at hz hn hrR
   obtain⟨k,rfl⟩:∃ k,rk=2*k:=by
    refine⟨rk / 2,?_⟩
    by_cases h0:rk % 2=0
    · omega
    · unfold succS at hn
      rw[if_neg h0] at hn
      simp only[List.mem_append,List.mem_map] at hn
      rcases hn with ⟨c,_,rfl⟩|hn
      · omega
      · split at hn
        · simp only[List.mem_singleton] at hn;omega
        · simp at hn
   have ek:2*k / 2=k:=by omega
   rw[ek] at hrR
   obtain⟨k0,kN,kfr,kC⟩:=hrR
   obtain⟨ag1,ag2⟩:=hag j k rz hji hj
   have hsrc1:=srcE_at hI.nd hi
   have hsrc2:=srcE_at hI.nd hj
   simp only at hsrc1 hsrc2
   rw[hz] at hsrc1
   obtain⟨f1,rfl⟩:∃ f1,f=f1+1+1:=⟨f - 2,by omega⟩
   rw[pathS_step hsrc1,pathS_step hsrc2]
   have hfirst:∃ us3,us3.length=N∧pushK ((2*k:Nat):Int) t (us2,ab2)=(us3,ab2)∧getB us3 k=true∧(∀ q,q≠k→getB us3 q=getB us2 q) ∧
    (∀ l:Nat→Bool,bI (getB us2 k)*(fromS (getZ ab2) l k - bI (l k))=bI (l (t / 2)) - bI (l k))∧(getB us k=false→t=2*k+1):=by
    unfold succS at hn
    rw[if_pos (by omega),ek] at hn
    split at hn
    · rename_i hus
      split at hn
      · rename_i hab
        simp only[List.mem_singleton] at hn
        have hq:=hf0.fl.edge k hus hab
        have hlt:=h.kids _ hq.2.1 hq.2.2.1
        have hne:(getZ ab k).toNat≠k:=by rcases hq.2.2.2 with e|e<;>omega
        refine⟨us2,hf.ul,by rw[hn];exact pushK_back hne,by rw[ag1,hus],fun q _=>rfl,fun l=>?_,fun hu=>by rw[hus] at hu;cases hu⟩
        have et:t / 2=(getZ ab k).toNat:=by omega
        rw[et,ag1,hus]
        unfold fromS
        rw[ag2,if_neg (by omega)]
        simp
      · simp at hn
    · rename_i hus
      simp only[List.mem_singleton] at hn
      have hus':getB us k=false:=by simpa using hus
      refine⟨us2.set k true,by simp[hf.ul],by rw[hn];exact pushK_down,by rw[getB_put (by rw[hf.ul];exact kN)];simp,fun q hq=>by rw[getB_put (by rw[hf.ul];exact kN),if_neg hq],fun l=>?_,fun _=>hn⟩
      have et:t / 2=k:=by omega
      rw[et,ag1,hus']
      simp
   obtain⟨us3,u3l,hpk,u3k,u3o,hold,hA⟩:=hfirst
   rw[hpk]
   by_cases hjl:j<(initK F ka kb up N).length
   ·
    obtain⟨m1,m2⟩:=hev j _ hj hjl
    simp only at m1 m2
    subst m2
    obtain⟨-,-,p,p1,p2,p3,p4⟩:=init_ok h m1
    rw[ek] at p4
    rw[pushK_src,pathS_end]
    have hab:∀ q,getZ (ab2.set k (-1)) q=if q=k then -1 else getZ ab2 q:=fun q=>getZ_set (by rw[hf.al];exact kN)
    have hab':getZ (ab2.set k (-1)) k=-1:=by rw[hab,if_pos rfl]
    have hot:∀ q,q≠k→getB us3 q=getB us2 q∧getZ (ab2.set k (-1)) q=getZ ab2 q:=fun q hq=>⟨u3o q hq,by rw[hab,if_neg hq]⟩
    refine⟨hf.upd (k:=k) (by rw[u3l,hf.ul]) (by simp) hot fun _=>⟨⟨kfr,k0,kN⟩,fun _=>⟨p,p1,p2,p3,p4⟩,fun h=>by rw[hab'] at h;omega⟩,fun l=>?_⟩
    show crossS N (getB us3) (getZ (ab2.set k (-1))) l=_
    rw[cross_upd kN hot,hold l,u3k]
    unfold fromS
    rw[hab',if_pos (by omega)]
    simp;omega
   · obtain⟨j',r',hj'j,hj',hz',hn'⟩:=hI.tail j _ hj (by omega)
     simp only at hz' hn'
     subst hz'
     have hrR':=(rg_reach h hf0 (hI.sound j' r' hj')).1
     obtain⟨t',z'⟩:=r'
     simp only at hn' hrR' ⊢
     have hodd:t' % 2=1:=by
      by_cases h0:t' % 2=0
      · unfold succS at hn'
        rw[if_pos h0] at hn'
        split at hn'
        · split at hn'
          · simp only[List.mem_singleton] at hn';omega
          · simp at hn'
        · simp only[List.mem_singleton] at hn';omega
      · omega
     obtain⟨p,rfl⟩:∃ p,t'=2*p+1:=⟨t' / 2,by omega⟩
     have ep:(2*p+1) / 2=p:=by omega
     unfold succS at hn'
     rw[if_neg (by omega),ep] at hn'
     rw[ep] at hrR'
     simp only[List.mem_append,List.mem_map] at hn'
     rcases hn' with ⟨c,hc,hck⟩|hn'
     · obtain rfl:c=k:=by omega
       obtain⟨c1,c2,c3⟩:=(fanL_mem F ka kb).1 hc
       have hlt:=h.kids p c1 hrR'.2.1
       have hne:p≠c:=by rcases c3 with e|e<;>omega
       rw[pushK_kid hne]
       have hab:∀ q,getZ (ab2.set c (p:Int)) q=if q=c then (p:Int) else getZ ab2 q:=fun q=>getZ_set (by rw[hf.al];exact kN)
       have hab':getZ (ab2.set c (p:Int)) c=p:=by rw[hab,if_pos rfl]
       have hot:∀ q,q≠c→getB us3 q=getB us2 q∧getZ (ab2.set c (p:Int)) q=getZ ab2 q:=fun q hq=>⟨u3o q hq,by rw[hab,if_neg hq]⟩
       have hf3:FlS N F ka kb up C us3 (ab2.set c (p:Int)):=hf.upd (k:=c) (by rw[u3l,hf.ul]) (by simp) hot fun _=>⟨⟨kfr,k0,kN⟩,fun h=>by rw[hab'] at h;omega,fun _=>by
        rw[hab',Int.toNat_natCast]
        exact⟨⟨hrR'.2.2.1,c1,hrR'.2.1,c3⟩,hrR'.2.2.2⟩⟩
       obtain⟨g1,g2⟩:=ih j' (by omega) (2*p+1) z' us3 (ab2.set c (p:Int)) f1 hj' (by omega) (by omega) hf3 fun j2 k2 z2 hj2 hk2=>by
        have hne2:k2≠c:=fun e=>by
         subst e
         have:=keyE_inj hI.nd hk2 hj rfl
         omega
        obtain⟨a,b⟩:=hot k2 hne2
        rw[a,b]
        exact hag j2 k2 z2 (by omega) hk2
       refine⟨g1,fun l=>?_⟩
       rw[g2 l,cross_upd kN hot,hold l,u3k,ep]
       unfold fromS
       rw[hab',if_neg (by omega),Int.toNat_natCast]
       simp;omega
     · split at hn'
       · rename_i hus
         simp only[List.mem_singleton] at hn'
         obtain rfl:p=k:=by omega
         rw[pushK_undo]
         have hus3:∀ q,getB (us3.set p false) q=if q=p then false else getB us3 q:=fun q=>getB_put (by rw[u3l];exact kN)
         have hot:∀ q,q≠p→getB (us3.set p false) q=getB us2 q∧getZ ab2 q=getZ ab2 q:=fun q hq=>⟨by rw[hus3,if_neg hq,u3o q hq],rfl⟩
         have hk':getB (us3.set p false) p=false:=by rw[hus3,if_pos rfl]
         have hf3:FlS N F ka kb up C (us3.set p false) ab2:=hf.upd (k:=p) (by rw[List.length_set,u3l,hf.ul]) rfl hot fun h=>by rw[hk'] at h;cases h
         obtain⟨g1,g2⟩:=ih j' (by omega) (2*p+1) z' (us3.set p false) ab2 f1 hj' (by omega) (by omega) hf3 fun j2 k2 z2 hj2 hk2=>by
          have hne2:k2≠p:=fun e=>by
           subst e
           have:=keyE_inj hI.nd hk2 hj rfl
           omega
          obtain⟨a,b⟩:=hot k2 hne2
          rw[a]
          exact hag j2 k2 z2 (by omega) hk2
         refine⟨g1,fun l=>?_⟩
         rw[g2 l,cross_upd kN hot,hold l,hk',ep]
         simp;omega
       · simp at hn'
theorem push_grows {us:List Bool} {ab:List Int} {u:Nat} (h:NetS N F ka kb v up C) (hf:FlS N F ka kb up C us ab) (hu:(seekS N F ka kb up us ab).2=some u) :
 FlS N F ka kb up C (pathS (seekS N F ka kb up us ab).1 (2*N+1) u (us,ab)).1 (pathS (seekS N F ka kb up us ab).1 (2*N+1) u (us,ab)).2 ∧
 (∀ r:Int,(∀ l:Nat→Bool,(∀ k,0<k→k<F→l k=false)→crossS N (getB us) (getZ ab) l=r)→∀ l:Nat→Bool,(∀ k,0<k→k<F→l k=false) →
   crossS N (getB (pathS (seekS N F ka kb up us ab).1 (2*N+1) u (us,ab)).1) (getZ (pathS (seekS N F ka kb up us ab).1 (2*N+1) u (us,ab)).2) l=r+1):=by
 obtain⟨h1,-,h3⟩:=seekS_facts h hf
 obtain⟨m1,m2⟩:=h3 u hu
 obtain⟨i,z,hi⟩:=keyE_of m1
 have hR:=(rg_reach h hf (h1.sound i _ hi)).1
 unfold stopS at m2
 simp only[Bool.and_eq_true,decide_eq_true_eq] at m2
 have hil:=(List.getElem?_eq_some_iff.1 hi).1
 have hle:=h1.len
 obtain⟨g1,g2⟩:=push_hop h hf h1 i u z us ab (2*N+1) hi m2.1 (by omega) hf fun j k z' _ _=>⟨rfl,rfl⟩
 refine⟨g1,fun r hr l hl=>?_⟩
 rw[g2 l,hr l hl,hl (u / 2) (by have:=hR.1;simp only at this;omega) m2.2]
 simp
end
end Go.Proofs.Ytakohcpfjkcfdaa
namespace Go.Proofs.Ytakohcpfjkcfdaa
set_option linter.unusedVariables false
set_option linter.unusedSimpArgs false
def CutAns (N F:Nat) (ka kb:Nat→Nat) (v:Nat) (fr:Nat→Bool) (o:Option (List Nat)):Prop :=
 (∃ (r:Int) (u l:Nat→Bool),Least N F ka kb v fr r u l∧r≤4∧o=some ((List.range N).filter fun k=>decide (k≠0)&&(u k&&!l k))) ∨
 (o=none∧∀ u l,Sep N F ka kb v fr u l→5≤sizeS N u l)
theorem CutAns.eq {N F:Nat} {ka kb:Nat→Nat} {v:Nat} {fr:Nat→Bool} {o o':Option (List Nat)} (h:CutAns N F ka kb v fr o) (h':CutAns N F ka kb v fr o'):o=o':=by
 rcases h with ⟨r,u,l,h1,h2,rfl⟩|⟨rfl,h⟩<;>rcases h' with ⟨r',u',l',h1',h2',rfl⟩|⟨rfl,h'⟩
 · congr 1
   obtain⟨-,e⟩:=h1.same h1'
   refine List.filter_congr fun k hk=>?_
   have hkN:=List.mem_range.1 hk
   by_cases h0:k=0
   · subst h0;simp
   · obtain⟨a,b⟩:=e k (by omega) hkN
     rw[a,b]
 · have:=h' u l h1.sep;rw[h1.size] at this;omega
 · have:=h u' l' h1'.sep;rw[h1'.size] at this;omega
 · rfl
def outS (N:Nat) (es:Es):List Nat:=(List.range N).filter fun k=>decide (2*k∈keyE es)&&!decide (2*k+1∈keyE es)
def goS (N F:Nat) (ka kb:Nat→Nat) (up:List Bool):Nat→StS→Option (List Nat)
 | 0,_=>none
 | n+1,s=>match seekS N F ka kb up s.1 s.2 with
   | (es,none)=>some (outS N es)
   | (es,some u)=>goS N F ka kb up n (pathS es (2*N+1) u s)
section
variable {N F:Nat} {ka kb:Nat→Nat} {v:Nat} {up:List Bool} {C:Nat→Prop}
theorem goS_ans (h:NetS N F ka kb v up C):∀ (n:Nat) (r:Int) (s:StS),FlS N F ka kb up C s.1 s.2→(∀ l:Nat→Bool,(∀ k,0<k→k<F→l k=false)→crossS N (getB s.1) (getZ s.2) l=r)→r+n=5 →
 CutAns N F ka kb v (getB up) (goS N F ka kb up n s)
 | 0,r,s,hf,hr,hn=>.inr ⟨rfl,fun u l hs=>by
    have:=crossS_le h.whole hf.fl hs
    rw[hr l hs.leaf] at this
    have:r=5:=by omega
    omega⟩
 | n+1,r,s,hf,hr,hn=>by
   have hL:=fun hn=>seekS_least h hf hr hn
   have hG:=fun u hu=>push_grows (u:=u) h hf hu
   have hF:=(seekS_facts h hf)
   unfold goS
   generalize seekS N F ka kb up s.1 s.2=q at *
   obtain⟨es,o⟩:=q
   cases o with
   | none =>
     refine .inl ⟨r,_,_,hL rfl,by omega,?_⟩
     simp only[Option.some.injEq,outS]
     refine List.filter_congr fun k hk=>?_
     have hk':∀ t,t∈keyE es→OkS N up C (t / 2):=fun t ht=>by
      obtain⟨i,z,hi⟩:=keyE_of ht
      exact (rg_reach h hf (hF.1.sound i _ hi)).1
     by_cases hm:2*k∈keyE es
     · have:=hk' _ hm
       have e:2*k / 2=k:=by omega
       rw[e] at this
       simp[hm,this.1,this.2.2.1]
     · simp only[hm,decide_false,Bool.false_and,Bool.or_false]
       cases hu:getB up k<;>simp
   | some u =>
     obtain⟨a,b⟩:=hG u rfl
     exact goS_ans h n (r+1) _ a (b r hr) (by omega)
theorem FlS.start (h:NetS N F ka kb v up C):FlS N F ka kb up C (List.replicate N false) (List.replicate N 0):=by
 refine⟨by simp,by simp,⟨fun k hk=>?_,fun k hk=>?_,fun k hk=>?_⟩,fun k hk=>?_⟩<;>(rw[getB_rep] at hk;cases hk)
theorem goS_start (h:NetS N F ka kb v up C):CutAns N F ka kb v (getB up) (goS N F ka kb up 5 (List.replicate N false,List.replicate N 0)) :=
 goS_ans h 5 0 _ (FlS.start h) (fun l _=>sumN_zero fun k _=>by rw[getB_rep];simp) (by omega)
end
abbrev Ms:=List ((Nat×Nat)×Int)
def edM (ms:Ms) (c p:Nat):Int:=((ms.find? fun e=>e.1==(c,p)).map (·.2)).getD 0
def bumpM (ms:Ms) (c p:Nat) (d:Int):Ms:=if (ms.find? fun e=>e.1==(c,p)).isSome=true then ms.map fun e=>if e.1==(c,p) then (e.1,e.2+d) else e else ms++[((c,p),d)]
theorem edM_bump {ms:Ms} {c p:Nat} {d:Int} (c' p':Nat):edM (bumpM ms c p d) c' p'=if c'=c∧p'=p then edM ms c p+d else edM ms c' p':=by
 unfold bumpM edM
 split
 · rename_i hs
   induction ms with
   | nil=>simp at hs
   | cons e ms ih =>
     simp only[List.map_cons,List.find?_cons]
     by_cases he:e.1=(c,p)
     · rw[if_pos (by simp[he])]
       by_cases hc:c'=c∧p'=p
       · obtain⟨rfl,rfl⟩:=hc
         simp[he]
       · rw[if_neg hc]
         have h1:(e.1==(c',p'))=false:=by rw[he];simp;omega
         simp only[h1]
         clear ih hs h1 he
         induction ms with
         | nil=>rfl
         | cons g ms ih =>
           simp only[List.map_cons,List.find?_cons]
           by_cases hg:g.1=(c,p)
           · rw[if_pos (by simp[hg])]
             have h1:(g.1==(c',p'))=false:=by rw[hg];simp;omega
             simp only[h1]
             exact ih
           · rw[if_neg (by simpa using hg)]
             by_cases h1:(g.1==(c',p'))=true
             · simp only[h1]
             · simp only[h1];exact ih
     · rw[if_neg (by simpa using he)]
       have h2:(e.1==(c,p))=false:=by simpa using he
       simp only[List.find?_cons,h2] at hs
       have ih:=ih hs
       by_cases h1:(e.1==(c',p'))=true
       · simp only[h1,h2]
         have hne:¬ (c'=c∧p'=p):=fun ⟨a,b⟩=>by subst a;subst b;rw[h1] at h2;cases h2
         rw[if_neg hne]
       · simp only[h1,h2];exact ih
 · rename_i hs
   have hn:ms.find? (fun e=>e.1==(c,p))=none:=by
    cases hh:ms.find? (fun e=>e.1==(c,p)) with
    | none=>rfl
    | some e=>rw[hh] at hs;simp at hs
   by_cases hc:c'=c∧p'=p
   · obtain⟨rfl,rfl⟩:=hc
     rw[List.find?_append,hn]
     simp
   · rw[if_neg hc,List.find?_append]
     have h1:(((c,p),d).1==(c',p'))=false:=by simp;omega
     simp only[List.find?_cons,h1,List.find?_nil,Option.or_none]
abbrev StI:=List Int×Ms
def stepI (x y:Nat) (s:StI):StI :=
 if x / 2=y / 2 then (if y % 2=0 then (s.1.set (x / 2) (getZ s.1 (x / 2)+1),s.2) else (s.1.set (x / 2) (getZ s.1 (x / 2) - 1),s.2))
 else if x % 2=0 then (s.1,bumpM s.2 (x / 2) (y / 2) 1) else (s.1,bumpM s.2 (y / 2) (x / 2) (-1))
def pathI (es:Es):Nat→Nat→StI→StI
 | 0,_,s=>s
 | f+1,x,s=>match srcE es x with
   | none=>s
   | some z=>if z=(x:Int) then s else pathI es f z.toNat (stepI x z.toNat s)
def kidsL (F:Nat) (ka kb:Nat→Nat) (k:Nat):List Nat:=if k<F then [] else if ka k=kb k then [ka k] else [ka k,kb k]
theorem kidsL_mem {F:Nat} {ka kb:Nat→Nat} {k c:Nat}:c∈kidsL F ka kb k↔F≤k∧(c=ka k∨c=kb k):=by
 unfold kidsL
 split
 · simp;omega
 · split
   · rename_i h e
     simp only[List.mem_singleton]
     constructor
     · intro h';exact⟨by omega,.inl h'⟩
     · rintro⟨_,h'|h'⟩
       · exact h'
       · rw[e];exact h'
   · simp;omega
def nextI (N F:Nat) (ka kb:Nat→Nat) (fr:List Bool) (s:StI) (u:Nat):List Nat :=
 if u % 2=0 then (if (getB fr (u / 2)||decide (getZ s.1 (u / 2)=0))=true then [2*(u / 2)+1] else [])++((List.range N).filter fun p=>decide (0<edM s.2 (u / 2) p)).map (2*·+1)
 else (kidsL F ka kb (u / 2)).map (2*·)++(if 0<getZ s.1 (u / 2) then [2*(u / 2)] else [])
def stopI (F:Nat) (u:Nat):Bool:=decide (u % 2=1)&&(decide (0<u / 2)&&decide (u / 2<F))
structure NetI (N F:Nat) (ka kb:Nat→Nat) (v:Nat) (fr:List Bool):Prop where
 pos:0<F
 kids:∀ p,F≤p→p<N→ka p<p∧kb p<p
 vN:v<N
 vF:F≤v
section
variable {N F:Nat} {ka kb:Nat→Nat} {v:Nat} {fr:List Bool}
structure FlI (N F:Nat) (ka kb:Nat→Nat) (fr:List Bool) (s:StI):Prop where
 len:s.1.length=N
 fl:FlowI N F ka kb (getB fr) (getZ s.1) (edM s.2)
def ArcN (N F:Nat) (ka kb:Nat→Nat) (fr:List Bool) (s:StI) (y x:Nat):Prop :=
 (y % 2=0∧x=y+1∧(getB fr (y / 2)=true∨getZ s.1 (y / 2)=0))∨(y % 2=0∧x % 2=1∧0<edM s.2 (y / 2) (x / 2)) ∨
 (y % 2=1∧x % 2=0∧F≤y / 2∧y / 2<N∧(x / 2=ka (y / 2)∨x / 2=kb (y / 2)))∨(y % 2=1∧y=x+1∧0<getZ s.1 (y / 2))
def sd (t:Nat):Nat×Bool:=(t / 2,decide (t % 2=0))
theorem arc_of {s:StI} {y x:Nat} (h:ArcN N F ka kb fr s y x):ArcI F N ka kb (getB fr) (getZ s.1) (edM s.2) (sd y) (sd x):=by
 unfold sd
 rcases h with ⟨a,rfl,c⟩|⟨a,b,c⟩|⟨a,b,c,d,e⟩|⟨a,rfl,c⟩
 · have e:(y+1) / 2=y / 2:=by omega
   rw[decide_eq_true a,decide_eq_false (by omega),e];exact .down c
 · rw[decide_eq_true a,decide_eq_false (by omega)];exact .back c
 · rw[decide_eq_false (by omega),decide_eq_true b];exact .kid c d e
 · have e:(x+1) / 2=x / 2:=by omega
   rw[e] at c
   rw[decide_eq_false (by omega),decide_eq_true (by omega),e];exact .undo c
theorem next_arc {s:StI} {u t:Nat} (hu:u / 2<N) (h:t∈nextI N F ka kb fr s u):ArcN N F ka kb fr s u t:=by
 unfold nextI at h
 split at h
 · rename_i hu0
   simp only[List.mem_append,List.mem_map,List.mem_filter,List.mem_range,decide_eq_true_eq] at h
   rcases h with h|⟨p,⟨h1,h2⟩,rfl⟩
   · split at h
     · rename_i hc
       simp only[List.mem_singleton] at h
       simp only[Bool.or_eq_true,decide_eq_true_eq] at hc
       exact .inl ⟨hu0,by omega,hc⟩
     · simp at h
   · have e:(2*p+1) / 2=p:=by omega
     exact .inr (.inl ⟨hu0,by omega,by rw[e];exact h2⟩)
 · rename_i hu0
   simp only[List.mem_append,List.mem_map] at h
   rcases h with ⟨c,h1,rfl⟩|h
   · obtain⟨a,b⟩:=kidsL_mem.1 h1
     have e:2*c / 2=c:=by omega
     exact .inr (.inr (.inl ⟨by omega,by omega,a,hu,by rw[e];exact b⟩))
   · split at h
     · rename_i hc
       simp only[List.mem_singleton] at h
       exact .inr (.inr (.inr ⟨by omega,by omega,hc⟩))
     · simp at h
theorem arc_next {s:StI} (hf:FlI N F ka kb fr s) {u t:Nat} (h:ArcN N F ka kb fr s u t):t∈nextI N F ka kb fr s u:=by
 unfold nextI
 rcases h with ⟨a,rfl,c⟩|⟨a,b,c⟩|⟨a,b,c,d,e⟩|⟨a,b,c⟩
 · rw[if_pos a,if_pos (by simpa using c)]
   simp;omega
 · rw[if_pos a]
   simp only[List.mem_append,List.mem_map,List.mem_filter,List.mem_range,decide_eq_true_eq]
   exact .inr ⟨t / 2,⟨(hf.fl.edge _ _ c).2.2.1,c⟩,by omega⟩
 · rw[if_neg (by omega)]
   simp only[List.mem_append,List.mem_map]
   exact .inl ⟨t / 2,kidsL_mem.2 ⟨c,e⟩,by omega⟩
 · rw[if_neg (by omega),if_pos c]
   simp;omega
theorem arc_lt (h:NetI N F ka kb v fr) {s:StI} (hf:FlI N F ka kb fr s) {u t:Nat} (hu:u<2*N) (ha:ArcN N F ka kb fr s u t):t<2*N:=by
 rcases ha with ⟨a,rfl,c⟩|⟨a,b,c⟩|⟨a,b,c,d,e⟩|⟨a,b,c⟩
 · omega
 · have:=(hf.fl.edge _ _ c).2.2.1;omega
 · have:=h.kids _ c d;omega
 · omega
def esI (v:Nat):Es:=[(2*v,((2*v:Nat):Int))]
theorem esI_inv (h:NetI N F ka kb v fr) (next:Nat→List Nat):InvG next (2*N) (esI v) (esI v) :=
 ⟨by simp[keyE,esI],fun t ht=>by simp[keyE,esI] at ht;have:=h.vN;omega,fun i _=>rfl,fun i p hp hle=>by have:=(List.getElem?_eq_some_iff.1 hp).1;omega⟩
def seekI (N F:Nat) (ka kb:Nat→Nat) (v:Nat) (fr:List Bool) (s:StI):Es×Option Nat:=runG (nextI N F ka kb fr s) (stopI F) (2*N+1) 0 (esI v)
theorem seekI_facts {s:StI} (h:NetI N F ka kb v fr) (hf:FlI N F ka kb fr s) :
 InvG (nextI N F ka kb fr s) (2*N) (esI v) (seekI N F ka kb v fr s).1∧((seekI N F ka kb v fr s).2=none→(∀ t,t∈keyE (seekI N F ka kb v fr s).1↔RG (nextI N F ka kb fr s) (esI v) t)∧∀ t∈keyE (seekI N F ka kb v fr s).1,stopI F t=false) ∧
 ∀ u,(seekI N F ka kb v fr s).2=some u→u∈keyE (seekI N F ka kb v fr s).1∧stopI F u=true:=by
 obtain⟨a,b,c,d⟩:=runG_facts (stop:=stopI F) (fun u hu t ht=>arc_lt h hf hu (next_arc (by omega) ht)) (2*N+1) 0 (esI_inv h _) (Nat.le_refl _) (fun i p hi=>by omega) (Nat.zero_le _) (by omega)
 exact⟨a,fun hn=>runG_none a (c hn),d⟩
theorem rgI {s:StI} (h:NetI N F ka kb v fr) (hf:FlI N F ka kb fr s) {t:Nat} (ht:RG (nextI N F ka kb fr s) (esI v) t):t<2*N∧ReachI F N ka kb (getB fr) (getZ s.1) (edM s.2) v (sd t):=by
 induction ht with
 | @start t ht =>
   simp[keyE,esI] at ht
   subst ht
   have e:2*v / 2=v:=by omega
   refine⟨by have:=h.vN;omega,?_⟩
   unfold sd
   rw[e,decide_eq_true (by omega)]
   exact .start
 | @step u t hu ht ih =>
   have ha:=next_arc (by omega) ht
   exact⟨arc_lt h hf ih.1 ha,ih.2.step (arc_of ha)⟩
theorem rgI' {s:StI} (hf:FlI N F ka kb fr s) {x:Nat×Bool} (hx:ReachI F N ka kb (getB fr) (getZ s.1) (edM s.2) v x):RG (nextI N F ka kb fr s) (esI v) (sideN x):=by
 induction hx with
 | start=>exact .start (by simp[keyE,esI,sideN])
 | step hy ha ih =>
   refine .step ih (arc_next hf ?_)
   cases ha with
   | @down k h' =>
     have e:2*k / 2=k:=by omega
     refine .inl ⟨by simp[sideN],by simp[sideN],?_⟩
     rw[side_up,e];exact h'
   | @back k p h' =>
     have e:2*k / 2=k:=by omega
     have e2:(2*p+1) / 2=p:=by omega
     refine .inr (.inl ⟨by simp[sideN],by simp[sideN],?_⟩)
     rw[side_up,side_lo,e,e2];exact h'
   | @kid p c h1 hn hc =>
     have e:2*c / 2=c:=by omega
     have e2:(2*p+1) / 2=p:=by omega
     refine .inr (.inr (.inl ⟨by simp[sideN],by simp[sideN],?_⟩))
     rw[side_up,side_lo,e,e2];exact⟨h1,hn,hc⟩
   | @undo k h' =>
     have e2:(2*k+1) / 2=k:=by omega
     refine .inr (.inr (.inr ⟨by simp[sideN],by simp[sideN],?_⟩))
     rw[side_lo,e2];exact h'
theorem seekI_least {s:StI} (h:NetI N F ka kb v fr) (hf:FlI N F ka kb fr s) {r:Int} (hr:∀ u l:Nat→Bool,u v=true→(∀ k,0<k→k<F→l k=false)→crossI N (getZ s.1) (edM s.2) u l=r) (hn:(seekI N F ka kb v fr s).2=none) :
 Least N F ka kb v (getB fr) r (fun k=>decide (2*k∈keyE (seekI N F ka kb v fr s).1)) (fun k=>decide (2*k+1∈keyE (seekI N F ka kb v fr s).1)):=by
 obtain⟨-,h2,-⟩:=seekI_facts h hf
 obtain⟨e1,e2⟩:=h2 hn
 have eq:∀ x:Nat×Bool,sideN x∈keyE (seekI N F ka kb v fr s).1↔ReachI F N ka kb (getB fr) (getZ s.1) (edM s.2) v x:=fun x=>by
  rw[e1]
  refine⟨fun hx=>?_,fun hx=>rgI' hf hx⟩
  have:=(rgI h hf hx).2
  have e:sd (sideN x)=x:=by
   obtain⟨k,b⟩:=x
   cases b<;>simp[sideN,sd];omega
  rwa [e] at this
 have hvp:=h.vF
 have hp:=h.pos
 refine leastI hf.fl (by omega) h.vN h.pos hr (fun k hk=>?_) (fun k hk=>?_) (fun p h1 h2=>?_) (fun k h1 h2=>?_)
 · have:=eq (k,true)
   rw[side_up] at this
   simp only[decide_eq_true_eq,this]
 · have:=eq (k,false)
   rw[side_lo] at this
   simp only[decide_eq_true_eq,this]
 · have:=h.kids p h1 h2;omega
 · rw[decide_eq_false_iff_not]
   intro hm
   have:=e2 _ hm
   unfold stopI at this
   rw[decide_eq_true (by omega),decide_eq_true (by omega),decide_eq_true (by omega)] at this
   cases this
def chi (u l:Nat→Bool) (t:Nat):Int:=if t % 2=0 then bI (u (t / 2)) else bI (l (t / 2))
theorem crossI_ins {i1 i2:Nat→Int} {ed:Nat→Nat→Int} {k:Nat} {d:Int} (hk:k<N) (h:∀ j,i2 j=if j=k then i1 j+d else i1 j) (u l:Nat→Bool):crossI N i2 ed u l=crossI N i1 ed u l+d*(bI (u k) - bI (l k)):=by
 unfold crossI
 rw[sumN_one hk fun j hj hjk=>by rw[h j,if_neg hjk]]
 rw[h k,if_pos rfl,Int.add_mul]
 omega
theorem crossI_ed {ins:Nat→Int} {e1 e2:Nat→Nat→Int} {c p:Nat} {d:Int} (hc:c<N) (hp:p<N) (h:∀ c' p',e2 c' p'=if c'=c∧p'=p then e1 c p+d else e1 c' p') (u l:Nat→Bool):crossI N ins e2 u l=crossI N ins e1 u l+d*(bI (l p) - bI (u c)):=by
 unfold crossI
 rw[sumN_one hc (f:=fun k=>ins k*(bI (u k) - bI (l k))+sumN (fun p=>e2 k p*(bI (l p) - bI (u k))) N) (g:=fun k=>ins k*(bI (u k) - bI (l k))+sumN (fun p=>e1 k p*(bI (l p) - bI (u k))) N) fun j hj hjk=>by
  congr 1
  exact sumN_congr fun q hq=>by rw[h j q,if_neg (by omega)]]
 rw[sumN_one hp (f:=fun q=>e2 c q*(bI (l q) - bI (u c))) (g:=fun q=>e1 c q*(bI (l q) - bI (u c))) fun q hq hqp=>by rw[h c q,if_neg (by omega)]]
 rw[h c p,if_pos ⟨rfl,rfl⟩,Int.add_mul]
 omega
theorem pushI_all {s0:StI} {es:Es} (h:NetI N F ka kb v fr) (hI:InvG (nextI N F ka kb fr s0) (2*N) (esI v) es) :
 ∀ (i x:Nat) (z:Int) (s:StI) (f:Nat),es[i]? = some (x,z)→x / 2≠0→i+1≤f→FlI N F ka kb fr s→(∀ (j y:Nat) (z':Int),0<j→j≤i→es[j]? = some (y,z')→0≤z'∧ArcN N F ka kb fr s z'.toNat y) →
   FlI N F ka kb fr (pathI es f x s)∧∀ u l:Nat→Bool,crossI N (getZ (pathI es f x s).1) (edM (pathI es f x s).2) u l=crossI N (getZ s.1) (edM s.2) u l+(bI (u v) - chi u l x):=by
 intro i
 induction i using Nat.strongRecOn with
 | _ i ih =>
   intro x z s f hi hx0 hfu hf hag
   have hsrc:=srcE_at hI.nd hi
   simp only at hsrc
   obtain⟨f,rfl⟩:∃ f',f=f'+1:=⟨f - 1,by omega⟩
   have hxN:x<2*N:=hI.lt x (keyE_mem hi)
   unfold pathI
   rw[hsrc]
   simp only
   by_cases hi0:i=0
   · subst hi0
     have:=hI.pre 0 (by simp[esI])
     rw[hi] at this
     simp[esI] at this
     obtain⟨rfl,rfl⟩:=this
     rw[if_pos (by simp)]
     refine⟨hf,fun u l=>?_⟩
     have e:2*v / 2=v:=by omega
     unfold chi
     rw[if_pos (by omega),e]
     omega
   · obtain⟨j,r,hji,hj,hz,hn⟩:=hI.tail i _ hi (by simp[esI];omega)
     obtain⟨y,zy⟩:=r
     simp only at hz hn
     subst hz
     obtain⟨-,ha⟩:=hag i x _ (by omega) (Nat.le_refl _) hi
     rw[Int.toNat_natCast] at ha ⊢
     have hyN:y<2*N:=hI.lt y (keyE_mem hj)
     have hyx:y≠x:=fun e=>by
      subst e
      have:=keyE_inj hI.nd hi hj rfl
      omega
     rw[if_neg (by omega)]
     have hsplit:FlI N F ka kb fr (stepI x y s)∧y / 2≠0∧(∀ u l:Nat→Bool,crossI N (getZ (stepI x y s).1) (edM (stepI x y s).2) u l=crossI N (getZ s.1) (edM s.2) u l+(chi u l y - chi u l x)) ∧
      ∀ y' x',x'≠x→x'≠y'→¬ (x'=y∧y'=x)→ArcN N F ka kb fr s y' x'→ArcN N F ka kb fr (stepI x y s) y' x':=by
      rcases ha with ⟨a,rfl,c⟩|⟨a,b,c⟩|⟨a,b,c,d,e⟩|⟨a,hy,c⟩
      ·
       have e:(y+1) / 2=y / 2:=by omega
       have hkN:y / 2<s.1.length:=by rw[hf.len];omega
       have hst:stepI (y+1) y s=(s.1.set (y / 2) (getZ s.1 (y / 2)+1),s.2):=by unfold stepI;rw[if_pos e,if_pos a,e]
       have hz:∀ q,getZ (s.1.set (y / 2) (getZ s.1 (y / 2)+1)) q=if q=y / 2 then getZ s.1 q+1 else getZ s.1 q:=fun q=>by
        rw[getZ_set hkN];split
        · rename_i h;rw[h]
        · rfl
       rw[hst]
       refine⟨⟨by simp[hf.len],?_⟩,by omega,fun u l=>?_,fun y' x' h1 h2 h3 ha=>?_⟩
       · refine⟨fun k=>?_,fun k hk=>?_,?_,hf.fl.epos,hf.fl.edge⟩
         · rw[hz];have:=hf.fl.pos k;split<;>omega
         · rw[hz];split
           · rename_i h;subst h
             rcases c with c|c
             · rw[hk] at c;cases c
             · omega
           · exact hf.fl.cap k hk
         · rw[hz,if_neg (by omega)];exact hf.fl.zero
       · rw[crossI_ins (i1:=getZ s.1) (k:=y / 2) (d:=1) (by omega) hz]
         simp only
         unfold chi
         rw[if_pos a,if_neg (by omega),e]
         omega
       · rcases ha with ⟨a',b',c'⟩|ha|ha|⟨a',b',c'⟩
         · refine .inl ⟨a',b',?_⟩
           rw[hz,if_neg (by omega)];exact c'
         · exact .inr (.inl ha)
         · exact .inr (.inr (.inl ha))
         · refine .inr (.inr (.inr ⟨a',b',?_⟩))
           rw[hz];split<;>omega
      ·
       obtain⟨q1,q2,q3,q4⟩:=hf.fl.edge _ _ c
       have hlt:=h.kids _ q2 q3
       have hne:¬ x / 2=y / 2:=by rcases q4 with e|e<;>omega
       have hst:stepI x y s=(s.1,bumpM s.2 (y / 2) (x / 2) (-1)):=by unfold stepI;rw[if_neg hne,if_neg (by omega)]
       have hz:=fun c' p'=>edM_bump (ms:=s.2) (c:=y / 2) (p:=x / 2) (d:=-1) c' p'
       rw[hst]
       refine⟨⟨hf.len,⟨hf.fl.pos,hf.fl.cap,hf.fl.zero,fun c' p'=>?_,fun c' p'=>?_⟩⟩,q1,fun u l=>?_,fun y' x' h1 h2 h3 ha=>?_⟩
       · simp only;rw[hz];have:=hf.fl.epos c' p';split<;>omega
       · simp only;rw[hz];split
         · rename_i h';obtain⟨rfl,rfl⟩:=h';intro _;exact⟨q1,q2,q3,q4⟩
         · exact hf.fl.edge c' p'
       · simp only
         rw[crossI_ed (e1:=edM s.2) (c:=y / 2) (p:=x / 2) (d:=-1) (by omega) (by omega) hz]
         unfold chi
         rw[if_pos a,if_neg (by omega)]
         omega
       · rcases ha with ha|⟨a',b',c'⟩|ha|ha
         · exact .inl ha
         · refine .inr (.inl ⟨a',b',?_⟩)
           simp only;rw[hz,if_neg (by omega)];exact c'
         · exact .inr (.inr (.inl ha))
         · exact .inr (.inr (.inr ha))
      ·
       have hlt:=h.kids _ c d
       have hne:¬ x / 2=y / 2:=by omega
       have hst:stepI x y s=(s.1,bumpM s.2 (x / 2) (y / 2) 1):=by unfold stepI;rw[if_neg hne,if_pos b]
       have hz:=fun c' p'=>edM_bump (ms:=s.2) (c:=x / 2) (p:=y / 2) (d:=1) c' p'
       have hp:=h.pos
       rw[hst]
       refine⟨⟨hf.len,⟨hf.fl.pos,hf.fl.cap,hf.fl.zero,fun c' p'=>?_,fun c' p'=>?_⟩⟩,by omega,fun u l=>?_,fun y' x' h1 h2 h3 ha=>?_⟩
       · simp only;rw[hz];have:=hf.fl.epos c' p';have:=hf.fl.epos (x / 2) (y / 2);split<;>omega
       · simp only;rw[hz];split
         · rename_i h';obtain⟨rfl,rfl⟩:=h';intro _;exact⟨hx0,c,d,e⟩
         · exact hf.fl.edge c' p'
       · simp only
         rw[crossI_ed (e1:=edM s.2) (c:=x / 2) (p:=y / 2) (d:=1) (by omega) (by omega) hz]
         unfold chi
         rw[if_neg (by omega),if_pos b]
         omega
       · rcases ha with ha|⟨a',b',c'⟩|ha|ha
         · exact .inl ha
         · refine .inr (.inl ⟨a',b',?_⟩)
           simp only;rw[hz];split
           · rename_i h';rw[←h'.1,←h'.2];omega
           · exact c'
         · exact .inr (.inr (.inl ha))
         · exact .inr (.inr (.inr ha))
      ·
       have e:x / 2=y / 2:=by omega
       have hkN:y / 2<s.1.length:=by rw[hf.len];omega
       have hst:stepI x y s=(s.1.set (y / 2) (getZ s.1 (y / 2) - 1),s.2):=by unfold stepI;rw[if_pos e,if_neg (by omega),e]
       have hz:∀ q,getZ (s.1.set (y / 2) (getZ s.1 (y / 2) - 1)) q=if q=y / 2 then getZ s.1 q+-1 else getZ s.1 q:=fun q=>by
        rw[getZ_set hkN];split
        · rename_i h;rw[h];rfl
        · rfl
       rw[hst]
       refine⟨⟨by simp[hf.len],?_⟩,by omega,fun u l=>?_,fun y' x' h1 h2 h3 ha=>?_⟩
       · refine⟨fun k=>?_,fun k hk=>?_,?_,hf.fl.epos,hf.fl.edge⟩
         · rw[hz];have:=hf.fl.pos k;split
           · rename_i h;subst h;omega
           · omega
         · rw[hz];have:=hf.fl.cap k hk;split<;>omega
         · rw[hz,if_neg (by omega)];exact hf.fl.zero
       · rw[crossI_ins (i1:=getZ s.1) (k:=y / 2) (d:=-1) (by omega) hz]
         simp only
         unfold chi
         rw[if_neg (by omega),if_pos (by omega),e]
         omega
       · rcases ha with ⟨a',b',c'⟩|ha|ha|⟨a',b',c'⟩
         · refine .inl ⟨a',b',?_⟩
           rw[hz,if_neg (by omega)];exact c'
         · exact .inr (.inl ha)
         · exact .inr (.inr (.inl ha))
         · refine .inr (.inr (.inr ⟨a',b',?_⟩))
           rw[hz,if_neg (by omega)];exact c'
     obtain⟨g1,g2,g3,g4⟩:=hsplit
     obtain⟨k1,k2⟩:=ih j hji y zy (stepI x y s) f hj g2 (by omega) g1 fun j' y' z' h0 hle hy'=>by
      obtain⟨a,b⟩:=hag j' y' z' h0 (by omega) hy'
      refine⟨a,g4 _ _ (fun e=>?_) (fun e=>?_) (fun ⟨e1,e2⟩=>?_) b⟩
      · subst e
        have:=keyE_inj hI.nd hy' hi rfl
        omega
      · obtain⟨j2,r2,hlt2,hr2,hz2,-⟩:=hI.tail j' _ hy' (by simp[esI];omega)
        simp only at hz2
        rw[hz2,Int.toNat_natCast] at e
        have:=keyE_inj hI.nd hy' hr2 e
        omega
      · subst e1
        obtain⟨j2,r2,hlt2,hr2,hz2,-⟩:=hI.tail j' _ hy' (by simp[esI];omega)
        simp only at hz2
        rw[hz2,Int.toNat_natCast] at e2
        have:=keyE_inj hI.nd hr2 hi e2
        omega
     refine⟨k1,fun u l=>?_⟩
     rw[k2 u l,g3 u l]
     omega
theorem pushI_grows {s:StI} {w:Nat} (h:NetI N F ka kb v fr) (hf:FlI N F ka kb fr s) (hw:(seekI N F ka kb v fr s).2=some w) :
 FlI N F ka kb fr (pathI (seekI N F ka kb v fr s).1 (2*N+1) w s) ∧
 ∀ r:Int,(∀ u l:Nat→Bool,u v=true→(∀ k,0<k→k<F→l k=false)→crossI N (getZ s.1) (edM s.2) u l=r)→∀ u l:Nat→Bool,u v=true→(∀ k,0<k→k<F→l k=false) →
   crossI N (getZ (pathI (seekI N F ka kb v fr s).1 (2*N+1) w s).1) (edM (pathI (seekI N F ka kb v fr s).1 (2*N+1) w s).2) u l=r+1:=by
 obtain⟨h1,-,h3⟩:=seekI_facts h hf
 obtain⟨m1,m2⟩:=h3 w hw
 obtain⟨i,z,hi⟩:=keyE_of m1
 unfold stopI at m2
 simp only[Bool.and_eq_true,decide_eq_true_eq] at m2
 have hil:=(List.getElem?_eq_some_iff.1 hi).1
 have hle:=h1.len
 obtain⟨g1,g2⟩:=pushI_all h h1 i w z s (2*N+1) hi (by omega) (by omega) hf fun j y z' h0 hle hy=>by
  obtain⟨j2,r2,hlt2,hr2,hz2,hn2⟩:=h1.tail j _ hy (by simp[esI];omega)
  simp only at hz2 hn2
  subst hz2
  have:=h1.lt _ (keyE_mem hr2)
  exact⟨by omega,by rw[Int.toNat_natCast];exact next_arc (by omega) hn2⟩
 refine⟨g1,fun r hr u l hu hl=>?_⟩
 rw[g2 u l,hr u l hu hl,hu]
 unfold chi
 rw[if_neg (by omega),hl (w / 2) m2.2.1 m2.2.2]
 simp
def outI (N:Nat) (es:Es):List Nat:=(List.range N).filter fun k=>decide (2*k∈keyE es)&&(!decide (2*k+1∈keyE es)&&decide (k≠0))
def goI (N F:Nat) (ka kb:Nat→Nat) (v:Nat) (fr:List Bool):Nat→StI→Option (List Nat)
 | 0,s=>match seekI N F ka kb v fr s with
   | (es,none)=>some (outI N es)
   | (_,some _)=>none
 | n+1,s=>match seekI N F ka kb v fr s with
   | (es,none)=>some (outI N es)
   | (es,some u)=>goI N F ka kb v fr n (pathI es (2*N+1) u s)
theorem outI_ans {es:Es} {r:Int} (h:Least N F ka kb v (getB fr) r (fun k=>decide (2*k∈keyE es)) (fun k=>decide (2*k+1∈keyE es))) (hr:r≤4):CutAns N F ka kb v (getB fr) (some (outI N es)):=by
 refine .inl ⟨r,_,_,h,hr,?_⟩
 simp only[Option.some.injEq,outI]
 refine List.filter_congr fun k hk=>?_
 cases decide (2*k∈keyE es)<;>cases decide (2*k+1∈keyE es)<;>cases decide (k≠0)<;>rfl
theorem goI_ans (h:NetI N F ka kb v fr):∀ (n:Nat) (r:Int) (s:StI),FlI N F ka kb fr s→(∀ u l:Nat→Bool,u v=true→(∀ k,0<k→k<F→l k=false)→crossI N (getZ s.1) (edM s.2) u l=r)→r+n=4 →
 CutAns N F ka kb v (getB fr) (goI N F ka kb v fr n s)
 | 0,r,s,hf,hr,hn=>by
   have hL:=fun hn=>seekI_least h hf hr hn
   have hG:=fun u hu=>pushI_grows (w:=u) h hf hu
   unfold goI
   generalize seekI N F ka kb v fr s=q at *
   obtain⟨es,o⟩:=q
   cases o with
   | none=>exact outI_ans (hL rfl) (by omega)
   | some w =>
     obtain⟨a,b⟩:=hG w rfl
     refine .inr ⟨rfl,fun u l hs=>?_⟩
     have:=cross_le a.fl hs
     rw[b r hr u l hs.start hs.leaf] at this
     have:r=4:=by omega
     omega
 | n+1,r,s,hf,hr,hn=>by
   have hL:=fun hn=>seekI_least h hf hr hn
   have hG:=fun u hu=>pushI_grows (w:=u) h hf hu
   unfold goI
   generalize seekI N F ka kb v fr s=q at *
   obtain⟨es,o⟩:=q
   cases o with
   | none=>exact outI_ans (hL rfl) (by omega)
   | some w =>
     obtain⟨a,b⟩:=hG w rfl
     exact goI_ans h n (r+1) _ a (b r hr) (by omega)
theorem goI_start (h:NetI N F ka kb v fr):CutAns N F ka kb v (getB fr) (goI N F ka kb v fr 4 (List.replicate N 0,[])):=by
 have hz:∀ k,getZ (List.replicate N 0) k=0:=fun k=>by
  unfold getZ
  rw[List.getElem?_replicate]
  split<;>rfl
 refine goI_ans h 4 0 _ ⟨by simp,⟨fun k=>?_,fun k _=>?_,hz 0,fun c p=>?_,fun c p hc=>?_⟩⟩ (fun u l _ _=>sumN_zero fun k _=>?_) (by omega)
 · simp only;rw[hz];omega
 · simp only;rw[hz];omega
 · simp[edM]
 · simp[edM] at hc
 · simp only
   rw[hz,sumN_zero fun p _=>by simp[edM]]
   simp
end
end Go.Proofs.Ytakohcpfjkcfdaa
namespace Go.Proofs.Ytakohcpfjkcfdaa
set_option linter.unusedVariables false
set_option linter.unusedSimpArgs false
theorem getB_range {N:Nat} {f:Nat→Bool} {k:Nat}:getB ((List.range N).map f) k=(decide (k<N)&&f k):=by
 unfold getB
 by_cases h:k<N
 · simp[h]
 · simp[h]
theorem getZ_rep {N k:Nat}:getZ (List.replicate N 0) k=0:=by
 unfold getZ
 rw[List.getElem?_replicate]
 split<;>rfl
theorem count_mem (S:List Nat):∀ N:Nat,sumN (fun k=>bI (decide (k∈S))) N≤S.length:=by
 induction S with
 | nil=>intro N;rw[sumN_zero fun k _=>by simp];simp
 | cons a S ih =>
   intro N
   have h1:sumN (fun k=>bI (decide (k∈a::S))) N≤sumN (fun k=>bI (decide (k=a))+bI (decide (k∈S))) N:=sumN_le fun k _=>by
    by_cases h1:k=a<;>by_cases h2:k∈S<;>simp[h1,h2]<;>have:=(bI_01 (decide (a∈S))).1<;>omega
   have h2:∀ N:Nat,sumN (fun k=>bI (decide (k=a))+bI (decide (k∈S))) N=sumN (fun k=>bI (decide (k=a))) N+sumN (fun k=>bI (decide (k∈S))) N:=fun N=>by
    induction N with
    | zero=>rfl
    | succ N ih=>simp only[sumN];omega
   have h3:∀ N:Nat,sumN (fun k=>bI (decide (k=a))) N≤if a<N then 1 else 0:=fun N=>by
    induction N with
    | zero=>simp[sumN]
    | succ N ih =>
      simp only[sumN]
      by_cases h:N=a
      · subst h;rw[if_neg (by omega)] at ih;rw[if_pos (by omega)];simp;omega
      · rw[decide_eq_false h];simp only[bI_f];split at ih<;>split<;>omega
   have:=ih N
   have:=h3 N
   rw[h2] at h1
   simp only[List.length_cons]
   split at this<;>omega
section
variable (N F:Nat) (ka kb:Nat→Nat) (cn:Nat→List Bool)
def upL (v:Nat) (h:Int) (lab:List Int):List Bool:=(List.range N).map fun k=>decide (k=v)||(getB (cn v) k&&decide (h≤getZ lab k))
def hcS (v:Nat) (h:Int) (lab:List Int):Option (List Nat):=goS N F ka kb (upL N cn v h lab) 5 (List.replicate N false,List.replicate N 0)
def hcI (v:Nat) (h:Int) (lab:List Int):Option (List Nat):=goI N F ka kb v (upL N cn v h lab) 4 (List.replicate N 0,[])
def kidM (lab:List Int) (k:Nat):Int:=max (getZ lab (ka k)) (getZ lab (kb k))
def labOf (lab:List Int) (k:Nat):Int:=if 0<kidM ka kb lab k∧(hcS N F ka kb cn k (kidM ka kb lab k) lab).isSome=true then kidM ka kb lab k else kidM ka kb lab k+1
def labK:Nat→List Int
 | 0=>List.replicate N 0
 | i+1=>(labK i).set (F+i) (labOf N F ka kb cn (labK i) (F+i))
structure NetF (N F:Nat) (ka kb:Nat→Nat) (cn:Nat→List Bool):Prop where
 pos:0<F
 kids:∀ p,F≤p→p<N→ka p<p∧kb p<p
 cone:∀ v,v<N→∀ u,(getB (cn v) u=true↔Rch F ka kb v u)
structure LabOk (N F:Nat) (ka kb:Nat→Nat) (m:Nat) (lab:List Int):Prop where
 len:lab.length=N
 leaf:∀ k,k<F→getZ lab k=0
 lo:∀ k,F≤k→k<m→1≤getZ lab k∧kidM ka kb lab k≤getZ lab k
 hi:∀ k,F≤k→k<m→getZ lab k≤kidM ka kb lab k+1
 pos:∀ k,0≤getZ lab k
end
section
variable {N F:Nat} {ka kb:Nat→Nat} {cn:Nat→List Bool}
theorem upL_get {v:Nat} {h:Int} {lab:List Int} {k:Nat}:getB (upL N cn v h lab) k=(decide (k<N)&&(decide (k=v)||(getB (cn v) k&&decide (h≤getZ lab k)))):=getB_range
theorem upL_iff (hn:NetF N F ka kb cn) {v:Nat} (hv:v<N) {h:Int} {lab:List Int} {k:Nat}:getB (upL N cn v h lab) k=true↔k<N∧(k=v∨(Rch F ka kb v k∧h≤getZ lab k)):=by
 rw[upL_get]
 simp only[Bool.and_eq_true,Bool.or_eq_true,decide_eq_true_eq,hn.cone v hv]
theorem rch_le (hn:NetF N F ka kb cn) {v u:Nat} (h:Rch F ka kb v u) (hv:v<N):u≤v:=h.le hn.kids hv
theorem upL_congr (hn:NetF N F ka kb cn) {v:Nat} (hv:v<N) {h:Int} {lab lab':List Int} (he:∀ k,k<v→getZ lab k=getZ lab' k):upL N cn v h lab=upL N cn v h lab':=by
 unfold upL
 refine List.map_congr_left fun k hk=>?_
 by_cases hkv:k=v
 · simp[hkv]
 · cases hg:getB (cn v) k with
   | false=>simp
   | true =>
     have:=rch_le hn ((hn.cone v hv k).1 hg) hv
     rw[he k (by omega)]
theorem upL_set (hn:NetF N F ka kb cn) {v:Nat} (hv:v<N) {h z:Int} {lab:List Int} (hl:lab.length=N):upL N cn v h (lab.set v z)=upL N cn v h lab :=
 upL_congr hn hv fun k hk=>by rw[getZ_set (by omega),if_neg (by omega)]
theorem kid_lab (hn:NetF N F ka kb cn) {m:Nat} {lab:List Int} (hL:LabOk N F ka kb m lab) {p c:Nat} (h1:F≤p) (h2:p<m) (hc:c=ka p∨c=kb p):getZ lab c≤getZ lab p:=by
 have:=(hL.lo p h1 h2).2
 unfold kidM at this
 rcases hc with rfl|rfl<;>omega
theorem netS_of (hn:NetF N F ka kb cn) {m v:Nat} {h:Int} {lab:List Int} (hL:LabOk N F ka kb m lab) (hv:F≤v) (hvN:v<N) (hvm:v≤m) (hh:1≤h):NetS N F ka kb v (upL N cn v h lab) (Rch F ka kb v):=by
 have up:=fun k=>upL_iff (h:=h) (lab:=lab) (k:=k) hn hvN
 refine⟨hn.pos,by simp[upL],hn.kids,fun k hk=>?_,fun k hk=>?_,fun p c hp h1 h2 hc=>?_,fun p c hp h1 h2 hu hc=>?_,hvN,hv,(up v).2 ⟨hvN,.inl rfl⟩,fun k hk hkv=>?_⟩
 · cases hg:getB (upL N cn v h lab) k with
   | false=>rfl
   | true =>
     obtain⟨_,rfl|⟨_,h2⟩⟩:=(up k).1 hg
     · omega
     · have:=hL.leaf k hk;omega
 · obtain⟨_,rfl|⟨h1,_⟩⟩:=(up k).1 hk
   · exact .refl _
   · exact h1
 · rcases hc with rfl|rfl
   · exact hp.snoc_a h1
   · exact hp.snoc_b h1
 · have hpv:p≠v:=fun e=>by subst e;rw[(up p).2 ⟨h2,.inl rfl⟩] at hu;cases hu
   have hple:=rch_le hn hp hvN
   have hlt:=hn.kids p h1 h2
   have hlp:¬ h≤getZ lab p:=fun hh=>by rw[(up p).2 ⟨h2,.inr ⟨hp,hh⟩⟩] at hu;cases hu
   have:=kid_lab hn hL h1 (by omega) hc
   cases hg:getB (upL N cn v h lab) c with
   | false=>rfl
   | true =>
     obtain⟨_,rfl|⟨_,h3⟩⟩:=(up c).1 hg
     · rcases hc with e|e<;>omega
     · omega
 · obtain⟨hkN,h'|⟨h1,h2⟩⟩:=(up k).1 hk
   · exact absurd h' hkv
   · have last:∀ {a b:Nat},Rch F ka kb a b→b≠a→a<N→∃ p,Rch F ka kb a p∧F≤p∧p<N∧(b=ka p∨b=kb p):=by
      intro a b hr
      induction hr with
      | refl a=>intro h;exact absurd rfl h
      | @a a b hF r ih =>
        intro hne haN
        have:=hn.kids a hF haN
        by_cases hb:b=ka a
        · exact⟨a,.refl _,hF,haN,.inl hb⟩
        · obtain⟨p,q1,q2⟩:=ih hb (by omega)
          exact⟨p,.a hF q1,q2⟩
      | @b a b hF r ih =>
        intro hne haN
        have:=hn.kids a hF haN
        by_cases hb:b=kb a
        · exact⟨a,.refl _,hF,haN,.inr hb⟩
        · obtain⟨p,q1,q2⟩:=ih hb (by omega)
          exact⟨p,.b hF q1,q2⟩
     obtain⟨p,p1,p2,p3,p4⟩:=last h1 hkv hvN
     have hlt:=hn.kids p p2 p3
     refine⟨p,(up p).2 ⟨p3,?_⟩,by rcases p4 with e|e<;>omega,p2,p3,p4⟩
     by_cases hpv:p=v
     · exact .inl hpv
     · have:=rch_le hn p1 hvN
       have:=kid_lab hn hL p2 (by omega) p4
       exact .inr ⟨p1,by omega⟩
theorem NetF.netI (hn:NetF N F ka kb cn) {v:Nat} (hv:F≤v) (hvN:v<N) (fr:List Bool):NetI N F ka kb v fr:=⟨hn.pos,hn.kids,hvN,hv⟩
theorem hc_same (hn:NetF N F ka kb cn) {m v:Nat} {h:Int} {lab:List Int} (hL:LabOk N F ka kb m lab) (hv:F≤v) (hvN:v<N) (hvm:v≤m) (hh:1≤h):hcI N F ka kb cn v h lab=hcS N F ka kb cn v h lab :=
 (goI_start (hn.netI hv hvN _)).eq (goS_start (netS_of hn hL hv hvN hvm hh))
structure CutF (F:Nat) (ka kb:Nat→Nat) (v:Nat) (S:List Int):Prop where
 own:(v:Int)∉S
 leak:¬ Leak F ka kb S v
theorem Orc.rch {S:List Int} {v u:Nat} (h:Orc F ka kb S v u):Rch F ka kb v u:=by
 induction h with
 | refl h=>exact .refl _
 | a ho h r ih=>exact .a h ih
 | b ho h r ih=>exact .b h ih
theorem Orc.last {S:List Int} {v u:Nat} (h:Orc F ka kb S v u):Opn S u:=by
 induction h with
 | refl h=>exact h
 | a ho h r ih=>exact ih
 | b ho h r ih=>exact ih
theorem Orc.sa {S:List Int} {v u:Nat} (h:Orc F ka kb S v u) (hu:F≤u) (ho:Opn S (ka u)):Orc F ka kb S v (ka u):=by
 induction h with
 | refl h=>exact .a h hu (.refl ho)
 | a ho' h r ih=>exact .a ho' h (ih hu ho)
 | b ho' h r ih=>exact .b ho' h (ih hu ho)
theorem Orc.sb {S:List Int} {v u:Nat} (h:Orc F ka kb S v u) (hu:F≤u) (ho:Opn S (kb u)):Orc F ka kb S v (kb u):=by
 induction h with
 | refl h=>exact .b h hu (.refl ho)
 | a ho' h r ih=>exact .a ho' h (ih hu ho)
 | b ho' h r ih=>exact .b ho' h (ih hu ho)
open Classical in
theorem cut_sep (hn:NetF N F ka kb cn) {v:Nat} {h:Int} {lab:List Int} {S:List Int} (hv:F≤v) (hvN:v<N) (hc:CutF F ka kb v S) (hl:∀ k:Nat,(k:Int)∈S→k<N→Rch F ka kb v k→getZ lab k<h) :
 ∃ u l,Sep N F ka kb v (getB (upL N cn v h lab)) u l∧sizeS N u l≤S.length:=by
 have hp:=hn.pos
 have hov:Opn S v:=⟨by omega,hc.own⟩
 refine⟨fun k=>decide (Orc F ka kb S v k∨((k:Int)∈S∧Rch F ka kb v k)),fun k=>decide (Orc F ka kb S v k),⟨decide_eq_true (.inl (.refl hov)),fun k hk hfr hu=>?_,fun p h1 h2 hlp=>?_,fun k h1 h2=>?_⟩,?_⟩
 · simp only[decide_eq_true_eq] at hu ⊢
   rcases hu with hu|⟨hu,hur⟩
   · exact hu
   · obtain⟨_,rfl|⟨_,h3⟩⟩:=(upL_iff hn hvN).1 hfr
     · exact absurd hu hc.own
     · have:=hl k hu hk hur;omega
 · simp only[decide_eq_true_eq] at hlp ⊢
   refine⟨fun h0=>?_,fun h0=>?_⟩
   · by_cases hm:((ka p:Nat):Int)∈S
     · exact .inr ⟨hm,hlp.rch.snoc_a h1⟩
     · exact .inl (hlp.sa h1 ⟨h0,hm⟩)
   · by_cases hm:((kb p:Nat):Int)∈S
     · exact .inr ⟨hm,hlp.rch.snoc_b h1⟩
     · exact .inl (hlp.sb h1 ⟨h0,hm⟩)
 · simp only[decide_eq_false_iff_not]
   intro ho
   exact hc.leak ⟨k,ho,h2⟩
 · have h1:sizeS N (fun k=>decide (Orc F ka kb S v k∨((k:Int)∈S∧Rch F ka kb v k))) (fun k=>decide (Orc F ka kb S v k))≤sumN (fun k=>bI (decide (k∈S.map Int.toNat))) N:=sumN_le fun k hk=>by
    by_cases ho:Orc F ka kb S v k
    · simp[ho];exact (bI_01 _).1
    · by_cases hs:(k:Int)∈S
      · have:k∈S.map Int.toNat:=List.mem_map.2 ⟨k,hs,by simp⟩
        simp only[this,decide_true,bI_t]
        exact (bI_01 _).2
      · simp[ho,hs];exact (bI_01 _).1
   have h2:=count_mem (S.map Int.toNat) N
   rw[List.length_map] at h2
   exact Int.le_trans h1 h2
theorem hc_some (hn:NetF N F ka kb cn) {m v:Nat} {h:Int} {lab:List Int} (hL:LabOk N F ka kb m lab) (hv:F≤v) (hvN:v<N) (hvm:v≤m) (hh:1≤h) {S:List Int} (hc:CutF F ka kb v S) (hl:∀ k:Nat,(k:Int)∈S→k<N→Rch F ka kb v k→getZ lab k<h) (h4:S.length≤4) :
 (hcS N F ka kb cn v h lab).isSome=true:=by
 obtain⟨u,l,h1,h2⟩:=cut_sep hn hv hvN hc hl
 rcases goS_start (netS_of hn hL hv hvN hvm hh) with ⟨r,u',l',a,b,c⟩|⟨a,b⟩
 · unfold hcS;rw[c];rfl
 · have:=b u l h1;omega
theorem hc_cut (hn:NetF N F ka kb cn) {m v:Nat} {h:Int} {lab:List Int} (hL:LabOk N F ka kb m lab) (hv:F≤v) (hvN:v<N) (hvm:v≤m) (hh:1≤h) {S:List Nat} (hS:hcS N F ka kb cn v h lab=some S) :
 (∃ p,S=(List.range N).filter p)∧S.length≤4∧(∀ k∈S,k≠0∧k<N∧k≠v∧Rch F ka kb v k∧getZ lab k<h)∧CutF F ka kb v (S.map fun k:Nat=>(k:Int)):=by
 have hnS:=netS_of hn hL hv hvN hvm hh
 have hup:=fun k=>upL_iff (h:=h) (lab:=lab) (k:=k) hn hvN
 rcases goS_start hnS with ⟨r,u,l,a,b,c⟩|⟨a,b⟩
 · unfold hcS at hS
   rw[c] at hS
   injection hS with hS
   subst hS
   have hmem:∀ k,k∈(List.range N).filter (fun k=>decide (k≠0)&&(u k&&!l k))↔k<N∧k≠0∧u k=true∧l k=false:=fun k=>by simp[List.mem_filter]
   have hfree:∀ k,k<N→getB (upL N cn v h lab) k=true→u k=true∧l k=true:=hnS.whole u l a.sep
   have hl4:(((List.range N).filter (fun k=>decide (k≠0)&&(u k&&!l k))).length:Int)≤4:=by
    rw[←sumN_count]
    have:sumN (fun k=>bI (decide (k≠0)&&(u k&&!l k))) N≤sizeS N u l:=sumN_le fun k _=>by
     cases decide (k≠0)<;>cases u k<;>cases l k<;>simp
    rw[a.size] at this
    omega
   have hin:∀ k,k≠0→k<N→u k=true→Rch F ka kb v k:=by
    classical
    have hs':Sep N F ka kb v (getB (upL N cn v h lab)) (fun k=>u k&&getB (cn v) k) (fun k=>l k&&getB (cn v) k):=by
     refine⟨by simp only[Bool.and_eq_true];exact⟨a.sep.start,(hn.cone v hvN v).2 (.refl _)⟩,fun k hk hf hu=>?_,fun p h1 h2 hp=>?_,fun k h1 h2=>by simp only[a.sep.leaf k h1 h2,Bool.false_and]⟩
     · simp only[Bool.and_eq_true] at hu ⊢
       exact⟨a.sep.free k hk hf hu.1,hu.2⟩
     · simp only[Bool.and_eq_true] at hp ⊢
       have:=a.sep.kids p h1 h2 hp.1
       have hr:=(hn.cone v hvN p).1 hp.2
       exact⟨fun h=>⟨this.1 h,(hn.cone v hvN _).2 (hr.snoc_a h1)⟩,fun h=>⟨this.2 h,(hn.cone v hvN _).2 (hr.snoc_b h1)⟩⟩
    have hle:sizeS N (fun k=>u k&&getB (cn v) k) (fun k=>l k&&getB (cn v) k)≤sizeS N u l:=sumN_le fun k _=>by
     show bI ((u k&&getB (cn v) k)&&!(l k&&getB (cn v) k))≤bI (u k&&!l k)
     cases u k<;>cases l k<;>cases getB (cn v) k<;>simp
    have hge:=a.ge _ _ hs'
    rw[a.size] at hle
    intro k h0 hk hu
    have:=(a.sub _ _ hs' (by omega) k (by omega) hk).1 hu
    simp only[Bool.and_eq_true] at this
    exact (hn.cone v hvN k).1 this.2
   refine⟨⟨_,rfl⟩,by omega,fun k hk=>?_,⟨fun hm=>?_,fun ⟨w,hw,hwF⟩=>?_⟩⟩
   · obtain⟨k1,k2,k3,k4⟩:=(hmem k).1 hk
     have hnf:getB (upL N cn v h lab) k≠true:=fun hf=>by rw[(hfree k k1 hf).2] at k4;cases k4
     refine⟨k2,k1,fun e=>hnf ((hup k).2 ⟨k1,.inl e⟩),hin k k2 k1 k3,?_⟩
     by_cases hle:h≤getZ lab k
     · exact absurd ((hup k).2 ⟨k1,.inr ⟨hin k k2 k1 k3,hle⟩⟩) hnf
     · omega
   · obtain⟨k,hk,e⟩:=List.mem_map.1 hm
     obtain rfl:k=v:=by omega
     obtain⟨k1,k2,k3,k4⟩:=(hmem k).1 hk
     have:=(hfree k hvN ((hup k).2 ⟨hvN,.inl rfl⟩)).2
     rw[k4] at this;cases this
   · have hlow:∀ {x w:Nat},Orc F ka kb (((List.range N).filter (fun k=>decide (k≠0)&&(u k&&!l k))).map fun k:Nat=>(k:Int)) x w→x<N→u x=true→l w=true:=by
      intro x w hr
      have hop:∀ y,y<N→Opn (((List.range N).filter (fun k=>decide (k≠0)&&(u k&&!l k))).map fun k:Nat=>(k:Int)) y→u y=true→l y=true:=fun y hyN ho hu=>by
       cases hl:l y with
       | true=>rfl
       | false=>exact absurd (List.mem_map.2 ⟨y,(hmem y).2 ⟨hyN,ho.1,hu,hl⟩,rfl⟩) ho.2
      induction hr with
      | refl h=>intro hN hu;exact hop _ hN h hu
      | @a x w ho hF r ih =>
        intro hN hu
        have:=hn.kids x hF hN
        have h0:ka x≠0:=by cases r with|refl h=>exact h.1|a h _ _=>exact h.1|b h _ _=>exact h.1
        exact ih (by omega) ((a.sep.kids x hF hN (hop x hN ho hu)).1 h0)
      | @b x w ho hF r ih =>
        intro hN hu
        have:=hn.kids x hF hN
        have h0:kb x≠0:=by cases r with|refl h=>exact h.1|a h _ _=>exact h.1|b h _ _=>exact h.1
        exact ih (by omega) ((a.sep.kids x hF hN (hop x hN ho hu)).2 h0)
     have h1:=hlow hw hvN a.sep.start
     have h2:=a.sep.leaf w (by have:=hw.last.1;omega) hwF
     rw[h1] at h2;cases h2
 · unfold hcS at hS;rw[a] at hS;cases hS
theorem kids_cut (hn:NetF N F ka kb cn) {v:Nat} (hv:F≤v) (hvN:v<N):CutF F ka kb v [((ka v:Nat):Int),((kb v:Nat):Int)]:=by
 have hlt:=hn.kids v hv hvN
 refine⟨by simp;omega,fun ⟨w,hw,hwF⟩=>?_⟩
 cases hw with
 | refl h=>omega
 | a ho h r =>
   have:Opn [((ka v:Nat):Int),((kb v:Nat):Int)] (ka v):=by cases r with|refl h=>exact h|a h _ _=>exact h|b h _ _=>exact h
   exact this.2 (by simp)
 | b ho h r =>
   have:Opn [((ka v:Nat):Int),((kb v:Nat):Int)] (kb v):=by cases r with|refl h=>exact h|a h _ _=>exact h|b h _ _=>exact h
   exact this.2 (by simp)
theorem kids_some (hn:NetF N F ka kb cn) {m v:Nat} {lab:List Int} (hL:LabOk N F ka kb m lab) (hv:F≤v) (hvN:v<N) (hvm:v≤m):(hcS N F ka kb cn v (kidM ka kb lab v+1) lab).isSome=true:=by
 have h0:=hL.pos (ka v)
 have h1:=hL.pos (kb v)
 refine hc_some hn hL hv hvN hvm (by unfold kidM;omega) (kids_cut hn hv hvN) (fun k hk _ _=>?_) (by simp)
 simp only[List.mem_cons,List.not_mem_nil,or_false] at hk
 unfold kidM
 rcases hk with e|e
 · obtain rfl:k=ka v:=by omega
   omega
 · obtain rfl:k=kb v:=by omega
   omega
theorem labK_ok (hn:NetF N F ka kb cn):∀ i,F+i≤N→LabOk N F ka kb (F+i) (labK N F ka kb cn i)
 | 0,_=>⟨by simp[labK],fun k _=>getZ_rep,fun k h1 h2=>by omega,fun k h1 h2=>by omega,fun k=>by unfold labK;rw[getZ_rep];omega⟩
 | i+1,hi=>by
   have ih:=labK_ok hn i (by omega)
   have e:labK N F ka kb cn (i+1)=(labK N F ka kb cn i).set (F+i) (labOf N F ka kb cn (labK N F ka kb cn i) (F+i)):=rfl
   rw[e]
   generalize labK N F ka kb cn i=lab at *
   have hg:∀ k,getZ (lab.set (F+i) (labOf N F ka kb cn lab (F+i))) k=if k=F+i then labOf N F ka kb cn lab (F+i) else getZ lab k:=fun k=>getZ_set (by rw[ih.len];omega)
   have hkm:∀ k,F≤k→k<F+(i+1)→kidM ka kb (lab.set (F+i) (labOf N F ka kb cn lab (F+i))) k=kidM ka kb lab k:=fun k h1 h2=>by
    have:=hn.kids k h1 (by omega)
    unfold kidM
    rw[hg,hg,if_neg (by omega),if_neg (by omega)]
   have hlo:1≤labOf N F ka kb cn lab (F+i)∧kidM ka kb lab (F+i)≤labOf N F ka kb cn lab (F+i)∧labOf N F ka kb cn lab (F+i)≤kidM ka kb lab (F+i)+1:=by
    have h0:=ih.pos (ka (F+i))
    have h1:0≤kidM ka kb lab (F+i):=by unfold kidM;omega
    unfold labOf
    split<;>omega
   refine⟨by simp[ih.len],fun k hk=>by rw[hg,if_neg (by omega)];exact ih.leaf k hk,fun k h1 h2=>?_,fun k h1 h2=>?_,fun k=>?_⟩
   · rw[hkm k h1 h2,hg]
     split
     · rename_i h;subst h;exact⟨hlo.1,hlo.2.1⟩
     · exact ih.lo k h1 (by omega)
   · rw[hkm k h1 h2,hg]
     split
     · rename_i h;subst h;exact hlo.2.2
     · exact ih.hi k h1 (by omega)
   · rw[hg];split
     · omega
     · exact ih.pos k
theorem labK_stay (hn:NetF N F ka kb cn) {i j k:Nat} (hij:i≤j) (hj:F+j≤N) (hk:k<F+i):getZ (labK N F ka kb cn j) k=getZ (labK N F ka kb cn i) k:=by
 induction j with
 | zero=>obtain rfl:i=0:=by omega
         rfl
 | succ j ih =>
   by_cases he:i=j+1
   · subst he;rfl
   · rw[←ih (by omega) (by omega)]
     show getZ ((labK N F ka kb cn j).set (F+j) _) k=_
     rw[getZ_set (by rw[(labK_ok hn j (by omega)).len];omega),if_neg (by omega)]
def labF (N F:Nat) (ka kb:Nat→Nat) (cn:Nat→List Bool):List Int:=labK N F ka kb cn (N - F)
theorem labF_ok (hn:NetF N F ka kb cn) (hF:F≤N):LabOk N F ka kb N (labF N F ka kb cn):=by
 have:=labK_ok hn (N - F) (by omega)
 have e:F+(N - F)=N:=by omega
 rw[e] at this
 exact this
theorem labF_at (hn:NetF N F ka kb cn) {k:Nat} (h1:F≤k) (h2:k<N):getZ (labF N F ka kb cn) k=labOf N F ka kb cn (labF N F ka kb cn) k:=by
 have hk:=hn.kids k h1 h2
 have e1:∀ q,q<k→getZ (labF N F ka kb cn) q=getZ (labK N F ka kb cn (k - F)) q:=fun q hq=>labK_stay hn (by omega) (by omega) (by omega)
 have e2:getZ (labF N F ka kb cn) k=getZ (labK N F ka kb cn (k - F+1)) k:=labK_stay hn (by omega) (by omega) (by omega)
 rw[e2]
 show getZ ((labK N F ka kb cn (k - F)).set (F+(k - F)) (labOf N F ka kb cn (labK N F ka kb cn (k - F)) (F+(k - F)))) k=_
 have e3:F+(k - F)=k:=by omega
 rw[e3,getZ_set (by rw[(labK_ok hn (k - F) (by omega)).len];exact h2),if_pos rfl]
 have hm:kidM ka kb (labK N F ka kb cn (k - F)) k=kidM ka kb (labF N F ka kb cn) k:=by unfold kidM;rw[e1 _ hk.1,e1 _ hk.2]
 have hh:∀ h,hcS N F ka kb cn k h (labK N F ka kb cn (k - F))=hcS N F ka kb cn k h (labF N F ka kb cn):=fun h=>by
  unfold hcS
  rw[upL_congr hn h2 fun q hq=>(e1 q hq).symm]
 unfold labOf
 rw[hm,hh]
theorem labF_some (hn:NetF N F ka kb cn) {k:Nat} (h1:F≤k) (h2:k<N):(hcS N F ka kb cn k (getZ (labF N F ka kb cn) k) (labF N F ka kb cn)).isSome=true:=by
 rw[labF_at hn h1 h2]
 have hk:=kids_some hn (labF_ok hn (by omega)) h1 h2 (by omega)
 unfold labOf
 generalize labF N F ka kb cn=lab at *
 split
 · rename_i h;exact h.2
 · exact hk
theorem labF_le (hn:NetF N F ka kb cn):∀ (k:Nat),F≤k→k<N→∀ (g:Int) (S:List Int),1≤g→CutF F ka kb k S→S.length≤4→(∀ q:Nat,(q:Int)∈S→q<N→getZ (labF N F ka kb cn) q<g)→getZ (labF N F ka kb cn) k≤g:=by
 intro k
 induction k using Nat.strongRecOn with
 | _ k ih =>
   intro h1 h2 g S hg hc h4 hl
   have hL:=labF_ok hn (by omega:F≤N)
   have hlt:=hn.kids k h1 h2
   have hhi:=hL.hi k h1 h2
   by_cases hgk:kidM ka kb (labF N F ka kb cn) k+1≤g
   · omega
   · by_cases hge:kidM ka kb (labF N F ka kb cn) k=g
     · have hs:=hc_some hn hL h1 h2 (by omega) hg hc (fun q hq hqN _=>hl q hq hqN) h4
       rw[labF_at hn h1 h2]
       unfold labOf
       rw[hge,if_pos ⟨by omega,hs⟩]
       exact Int.le_refl _
     · exfalso
       have hkid:∃ c,(c=ka k∨c=kb k)∧g<getZ (labF N F ka kb cn) c:=by
        unfold kidM at hgk hge
        by_cases ha:getZ (labF N F ka kb cn) (kb k)≤getZ (labF N F ka kb cn) (ka k)
        · exact⟨ka k,.inl rfl,by omega⟩
        · exact⟨kb k,.inr rfl,by omega⟩
       obtain⟨c,hck,hcg⟩:=hkid
       have hcF:F≤c:=by
        by_cases h:c<F
        · have:=hL.leaf c h;omega
        · omega
       have hck':c<k:=by rcases hck with rfl|rfl<;>omega
       have hp:=hn.pos
       have hcS:(c:Int)∉S:=fun hm=>by have:=hl c hm (by omega);omega
       have:=ih c hck' hcF (by omega) g S hg ⟨hcS,fun ⟨w,hw,hwF⟩=>hc.leak ⟨w,by rcases hck with rfl|rfl;exact .a ⟨by omega,hc.own⟩ h1 hw;exact .b ⟨by omega,hc.own⟩ h1 hw,hwF⟩⟩ h4 hl
       omega
theorem labI_eq (hn:NetF N F ka kb cn) {m v:Nat} {lab:List Int} (hL:LabOk N F ka kb m lab) (hv:F≤v) (hvN:v<N) (hvm:v≤m) :
 (if (hcI N F ka kb cn v (max 1 (kidM ka kb lab v)) lab).isSome=true then max 1 (kidM ka kb lab v) else max 1 (kidM ka kb lab v)+1)=labOf N F ka kb cn lab v:=by
 rw[hc_same hn hL hv hvN hvm (by omega)]
 have h0:=hL.pos (ka v)
 have h1:=hL.pos (kb v)
 unfold labOf
 by_cases hp:0<kidM ka kb lab v
 · have e:max 1 (kidM ka kb lab v)=kidM ka kb lab v:=by omega
   rw[e]
   by_cases hs:(hcS N F ka kb cn v (kidM ka kb lab v) lab).isSome=true
   · rw[if_pos hs,if_pos ⟨hp,hs⟩]
   · rw[if_neg hs,if_neg fun h=>hs h.2]
 · have e0:kidM ka kb lab v=0:=by unfold kidM at hp ⊢;omega
   have:=kids_some hn hL hv hvN hvm
   rw[e0] at this ⊢
   have e:max (1:Int) 0=0+1:=rfl
   rw[e,if_pos this,if_neg (by simp)]
end
end Go.Proofs.Ytakohcpfjkcfdaa
