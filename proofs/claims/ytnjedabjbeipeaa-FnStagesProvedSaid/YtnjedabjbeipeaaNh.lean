/-
  What a node reaches in a graph whose edges lead down, by marks from above and by a search; paths that avoid a cut. Plain lemmas, about no function of the program.
  Conditions: those typed in each theorem.
-/
import Derived.Test.YtnjedabjbeipeaaBase
namespace Go.Proofs.Ytnjedabjbeipeaa
set_option linter.unusedVariables false
set_option maxRecDepth 100000
set_option maxHeartbeats 10000000
def Be (s:List Bool) (v:Nat):Bool:=(s[v]?).getD false
theorem L5 {s:List Bool} {v u:Nat} (hv:v<s.length):Be (s.set v true) u=(decide (u=v)||Be s u):=by
 unfold Be;by_cases h:u=v
 · subst h;rw[ACf hv];simp
 · rw[ACT (fun e=>h e.symm)];simp[h]
theorem Ie {n u:Nat}:Be (List.replicate n false) u=false:=by
 unfold Be;rw[List.getElem?_replicate];split<;>rfl
theorem IX {s:List Bool} {v:Nat} (hv:v<s.length):s[v]? = some (Be s v):=by
 unfold Be;rw[zz0 hv];rfl
section
variable (F:Nat) (ka kb:Nat→Nat)
inductive Mt:Nat→Nat→Prop
 | refl (v:Nat):Mt v v
 | a {v u:Nat} (h:F≤v) (r:Mt (ka v) u):Mt v u
 | b {v u:Nat} (h:F≤v) (r:Mt (kb v) u):Mt v u
def Ip:Nat→Nat→List Bool→List Bool
 | 0,_,s=>s
 | n+1,v,s=>if Be s v=true then s else if v<F then s.set v true else Ip n (kb v) (Ip n (ka v) (s.set v true))
variable (cut:List Int)
def T8:Nat→Nat→List Bool→Bool×List Bool
 | 0,_,s=>(false,s)
 | n+1,v,s=>if v=0∨Be s v=true∨(v:Int)∈cut then (false,s) else if v<F then (true,s.set v true) else
    if (T8 n (ka v) (s.set v true)).1=true then (true,(T8 n (ka v) (s.set v true)).2) else T8 n (kb v) (T8 n (ka v) (s.set v true)).2
def T5 (v:Nat):Prop:=v≠0∧(v:Int)∉cut
inductive Od:Nat→Nat→Prop
 | refl {v:Nat} (h:T5 cut v):Od v v
 | a {v u:Nat} (ho:T5 cut v) (h:F≤v) (r:Od (ka v) u):Od v u
 | b {v u:Nat} (ho:T5 cut v) (h:F≤v) (r:Od (kb v) u):Od v u
def eT (v:Nat):Prop:=∃ u,Od F ka kb cut v u∧u<F
end
section
variable {F N:Nat} {ka kb:Nat→Nat}
theorem Mt.snoc_a {v u:Nat} (h:Mt F ka kb v u) (hu:F≤u):Mt F ka kb v (ka u):=by
 induction h with
 | refl v=>exact .a hu (.refl _)
 | a h r ih=>exact .a h (ih hu)
 | b h r ih=>exact .b h (ih hu)
theorem Mt.snoc_b {v u:Nat} (h:Mt F ka kb v u) (hu:F≤u):Mt F ka kb v (kb u):=by
 induction h with
 | refl v=>exact .b hu (.refl _)
 | a h r ih=>exact .a h (ih hu)
 | b h r ih=>exact .b h (ih hu)
theorem Mt.leaf {v u:Nat} (h:Mt F ka kb v u) (hv:v<F):u=v:=by
 cases h with
 | refl=>rfl
 | a h r=>omega
 | b h r=>omega
def qQ (F:Nat) (ka kb:Nat→Nat) (s:List Bool) (m:Nat):Prop:=∀ u,u<m→Be s u=true→F≤u→Be s (ka u)=true∧Be s (kb u)=true
theorem Mt.le (hk:∀ v,F≤v→v<N→ka v<v∧kb v<v) {v u:Nat} (h:Mt F ka kb v u) (hv:v<N):u≤v:=by
 induction h with
 | refl v=>exact Nat.le_refl _
 | a h r ih=>have:=(hk _ h hv).1;have:=ih (by omega);omega
 | b h r ih=>have:=(hk _ h hv).2;have:=ih (by omega);omega
theorem mP (hk:∀ v,F≤v→v<N→ka v<v∧kb v<v) {s:List Bool} {m v u:Nat} (hc:qQ F ka kb s m) (hv:v<m) (hn:v<N) (hs:Be s v=true) (h:Mt F ka kb v u):Be s u=true:=by
 induction h with
 | refl v=>exact hs
 | a h r ih=>have:=(hk _ h hn).1;exact ih (by omega) (by omega) (hc _ hv hs h).1
 | b h r ih=>have:=(hk _ h hn).2;exact ih (by omega) (by omega) (hc _ hv hs h).2
theorem HF (hk:∀ v,F≤v→v<N→ka v<v∧kb v<v):∀ (n v:Nat) (s:List Bool),v<n→v<N→s.length=N→qQ F ka kb s (v+1) →
 (Ip F ka kb n v s).length=N∧∀ u,(Be (Ip F ka kb n v s) u=true↔Be s u=true∨Mt F ka kb v u)
 | 0,v,s,h,_,_,_=>by omega
 | n+1,v,s,hn,hv,hl,hc=>by
   unfold Ip;by_cases hs:Be s v=true
   · rw[if_pos hs];exact⟨hl,fun u=>⟨.inl,fun h=>h.elim id (mP hk hc (by omega) hv hs)⟩⟩
   rw[if_neg hs];have hg:∀ u,(Be (s.set v true) u=true↔u=v∨Be s u=true):=fun u=>by rw[L5 (by omega)];simp
   by_cases hf:v<F
   · rw[if_pos hf];refine⟨by simpa using hl,fun u=>?_⟩;rw[hg];constructor
     · rintro (rfl|h)
       · exact .inr (.refl _)
       · exact .inl h
     · rintro (h|h)
       · exact .inr h
       · exact .inl (h.leaf hf)
   rw[if_neg hf];obtain⟨k1,k2⟩:=hk v (by omega) hv
   have hc1:qQ F ka kb (s.set v true) (ka v+1):=fun u hu hs' hF=>by
    rcases (hg u).1 hs' with rfl|h
    · omega
    · obtain⟨q1,q2⟩:=hc u (by omega) h hF;exact⟨(hg _).2 (.inr q1),(hg _).2 (.inr q2)⟩
   obtain⟨l2,g2⟩:=HF hk n (ka v) (s.set v true) (by omega) (by omega) (by simpa using hl) hc1
   have hc2:qQ F ka kb (Ip F ka kb n (ka v) (s.set v true)) (kb v+1):=fun u hu hs' hF=>by
    rcases (g2 u).1 hs' with h|h
    · rcases (hg u).1 h with rfl|h
      · omega
      · obtain⟨q1,q2⟩:=hc u (by omega) h hF;exact⟨(g2 _).2 (.inl ((hg _).2 (.inr q1))),(g2 _).2 (.inl ((hg _).2 (.inr q2)))⟩
    · exact⟨(g2 _).2 (.inr (h.snoc_a hF)),(g2 _).2 (.inr (h.snoc_b hF))⟩
   obtain⟨l3,g3⟩:=HF hk n (kb v) _ (by omega) (by omega) l2 hc2;refine⟨l3,fun u=>?_⟩;rw[g3,g2,hg];constructor
   · rintro (((rfl|h)|h)|h)
     · exact .inr (.refl _)
     · exact .inl h
     · exact .inr (.a (by omega) h)
     · exact .inr (.b (by omega) h)
   · rintro (h|h)
     · exact .inl (.inl (.inr h))
     · cases h with
       | refl=>exact .inl (.inl (.inl rfl))
       | a h r=>exact .inl (.inr r)
       | b h r=>exact .inr r
theorem Dp:∀ (n v:Nat) (s:List Bool),(Ip F ka kb n v s).length=s.length
 | 0,_,_=>rfl
 | n+1,v,s=>by
   unfold Ip;split
   · rfl
   · split
     · simp
     · rw[Dp n,Dp n];simp
variable {cut:List Int}
theorem Od.snoc_a {v u:Nat} (h:Od F ka kb cut v u) (hu:F≤u) (ho:T5 cut (ka u)):Od F ka kb cut v (ka u):=by
 induction h with
 | refl h=>exact .a h hu (.refl ho)
 | a ho' h r ih=>exact .a ho' h (ih hu ho)
 | b ho' h r ih=>exact .b ho' h (ih hu ho)
theorem Od.snoc_b {v u:Nat} (h:Od F ka kb cut v u) (hu:F≤u) (ho:T5 cut (kb u)):Od F ka kb cut v (kb u):=by
 induction h with
 | refl h=>exact .b h hu (.refl ho)
 | a ho' h r ih=>exact .a ho' h (ih hu ho)
 | b ho' h r ih=>exact .b ho' h (ih hu ho)
theorem Od.opn {v u:Nat} (h:Od F ka kb cut v u):T5 cut v:=by
 cases h with
 | refl h=>exact h
 | a h=>exact h
 | b h=>exact h
def dT (F:Nat) (ka kb:Nat→Nat) (cut:List Int) (s:List Bool) (m:Nat):Prop:=∀ u,u<m→Be s u=true→F≤u∧(T5 cut (ka u)→Be s (ka u)=true)∧(T5 cut (kb u)→Be s (kb u)=true)
theorem gJ (hk:∀ v,F≤v→v<N→ka v<v∧kb v<v) {s:List Bool} {m v u:Nat} (hc:dT F ka kb cut s m) (hv:v<m) (hn:v<N) (hs:Be s v=true) (h:Od F ka kb cut v u):F≤u:=by
 induction h with
 | refl _=>exact (hc _ hv hs).1
 | a _ h r ih=>have:=(hk _ h hn).1;exact ih (by omega) (by omega) ((hc _ hv hs).2.1 r.opn)
 | b _ h r ih=>have:=(hk _ h hn).2;exact ih (by omega) (by omega) ((hc _ hv hs).2.2 r.opn)
theorem EZ:∀ (n v:Nat) (s:List Bool),(T8 F ka kb cut n v s).2.length=s.length
 | 0,_,_=>rfl
 | n+1,v,s=>by
   unfold T8;split
   · rfl
   · split
     · simp
     · split
       · rw[EZ n];simp
       · rw[EZ n,EZ n];simp
theorem OX (hk:∀ v,F≤v→v<N→ka v<v∧kb v<v):∀ (n v:Nat) (s:List Bool),v<n→v<N→s.length=N→dT F ka kb cut s (v+1) →
 ((T8 F ka kb cut n v s).1=true→eT F ka kb cut v)∧((T8 F ka kb cut n v s).1=false→dT F ka kb cut (T8 F ka kb cut n v s).2 (v+1)∧(T5 cut v→Be (T8 F ka kb cut n v s).2 v=true) ∧
   (∀ u,Be s u=true→Be (T8 F ka kb cut n v s).2 u=true)∧∀ u,v<u→Be (T8 F ka kb cut n v s).2 u=Be s u)
 | 0,v,s,h,_,_,_=>by omega
 | n+1,v,s,hn,hv,hl,hc=>by
   unfold T8;by_cases h0:v=0∨Be s v=true∨(v:Int)∈cut
   · rw[if_pos h0];refine⟨(fun h=>by cases h),fun _=>⟨hc,fun ho=>?_,fun u h=>h,fun u _=>rfl⟩⟩;rcases h0 with h0|h0|h0
     · exact absurd h0 ho.1
     · exact h0
     · exact absurd h0 ho.2
   rw[if_neg h0];have ho:T5 cut v:=⟨fun e=>h0 (.inl e),fun e=>h0 (.inr (.inr e))⟩;have hg:∀ u,(Be (s.set v true) u=true↔u=v∨Be s u=true):=fun u=>by rw[L5 (by omega)];simp
   have hgn:∀ u,v<u→Be (s.set v true) u=Be s u:=fun u hu=>by rw[L5 (by omega)];simp;omega
   by_cases hf:v<F
   · rw[if_pos hf];exact⟨fun _=>⟨v,.refl ho,hf⟩,(fun h=>by cases h)⟩
   rw[if_neg hf];obtain⟨k1,k2⟩:=hk v (by omega) hv
   have hc1:dT F ka kb cut (s.set v true) (ka v+1):=fun u hu hs'=>by
    rcases (hg u).1 hs' with rfl|h
    · omega
    · obtain⟨q0,q1,q2⟩:=hc u (by omega) h;exact⟨q0,fun o=>(hg _).2 (.inr (q1 o)),fun o=>(hg _).2 (.inr (q2 o))⟩
   obtain⟨a1,a2⟩:=OX hk n (ka v) (s.set v true) (by omega) (by omega) (by simpa using hl) hc1;have l2:=EZ (F:=F) (ka:=ka) (kb:=kb) (cut:=cut) n (ka v) (s.set v true);generalize T8 F ka kb cut n (ka v) (s.set v true)=p at *;obtain⟨r,s2⟩:=p
   cases r with
   | true =>
     rw[if_pos rfl];refine⟨fun _=>?_,(fun h=>by cases h)⟩;obtain⟨u,h1,h2⟩:=a1 rfl;exact⟨u,.a ho (by omega) h1,h2⟩
   | false =>
     rw[if_neg (by simp)];simp only at a2 l2 ⊢;obtain⟨b1,b2,b3,b4⟩:=a2 trivial
     have mid:∀ u,u<v→Be s2 u=true→F≤u∧(T5 cut (ka u)→Be s2 (ka u)=true)∧(T5 cut (kb u)→Be s2 (kb u)=true):=fun u hu hs'=>by
      by_cases h:u≤ka v
      · exact b1 u (by omega) hs'
      · rw[b4 u (by omega)] at hs';rcases (hg u).1 hs' with rfl|h
        · omega
        · obtain⟨q0,q1,q2⟩:=hc u (by omega) h;exact⟨q0,fun o=>b3 _ ((hg _).2 (.inr (q1 o))),fun o=>b3 _ ((hg _).2 (.inr (q2 o)))⟩
     have hc2:dT F ka kb cut s2 (kb v+1):=fun u hu hs'=>mid u (by omega) hs';obtain⟨c1,c2⟩:=OX hk n (kb v) s2 (by omega) (by omega) (by simp at l2;omega) hc2;refine⟨fun h=>?_,fun h=>?_⟩
     · obtain⟨u,h1,h2⟩:=c1 h;exact⟨u,.b ho (by omega) h1,h2⟩
     · obtain⟨d1,d2,d3,d4⟩:=c2 h;generalize (T8 F ka kb cut n (kb v) s2).2=s3 at *;have hv3:Be s3 v=true:=d3 v (b3 v ((hg v).2 (.inl rfl)));refine⟨fun u hu hs'=>?_,fun _=>hv3,fun u h=>d3 u (b3 u ((hg u).2 (.inr h))),fun u hu=>by rw[d4 u (by omega),b4 u (by omega),hgn u hu]⟩;by_cases huv:u=v
       · subst huv;exact⟨by omega,fun o=>d3 _ (b2 o),fun o=>d2 o⟩
       · by_cases h:u≤kb v
         · exact d1 u (by omega) hs'
         · rw[d4 u (by omega)] at hs';obtain⟨q0,q1,q2⟩:=mid u (by omega) hs';exact⟨q0,fun o=>d3 _ (q1 o),fun o=>d3 _ (q2 o)⟩
theorem gD (hk:∀ v,F≤v→v<N→ka v<v∧kb v<v) {v:Nat} (hv:v<N):(T8 F ka kb cut (v+1) v (List.replicate N false)).1=true↔eT F ka kb cut v:=by
 obtain⟨h1,h2⟩:=OX hk (cut:=cut) (v+1) v (List.replicate N false) (by omega) hv (by simp) (fun u _ h=>by rw[Ie] at h;cases h);refine⟨h1,fun ⟨u,hu,hf⟩=>?_⟩
 cases he:(T8 F ka kb cut (v+1) v (List.replicate N false)).1 with
 | true=>rfl
 | false =>
   obtain⟨c1,c2,_,_⟩:=h2 he;have:=gJ hk c1 (by omega) hv (c2 hu.opn) hu;omega
end
end Go.Proofs.Ytnjedabjbeipeaa
