/-
  What a node reaches in a graph whose edges lead down, by marks from above and by a search; paths that avoid a cut. Plain lemmas, about no function of the program.
  Conditions: those typed in each theorem.
-/
import Derived.Test.YtnjedabjbeipeaaGreatBase
namespace Go.Proofs.YtnjedabjbeipeaaGreat
set_option linter.unusedVariables false
set_option maxRecDepth 100000
set_option maxHeartbeats 10000000
def AX (s:List Bool) (v:Nat):Bool:=(s[v]?).getD false
theorem FV {s:List Bool} {v u:Nat} (hv:v<s.length):AX (s.set v true) u=(decide (u=v)||AX s u):=by
 unfold AX;by_cases h:u=v
 · subst h;rw[ABo hv];simp
 · rw[AB6 (fun e=>h e.symm)];simp[h]
theorem Iu {n u:Nat}:AX (List.replicate n false) u=false:=by
 unfold AX;rw[List.getElem?_replicate];split<;>rfl
theorem jN {s t:List Bool} (hl:s.length=t.length) (h:∀ u,AX s u=AX t u):s=t:=by
 apply List.ext_getElem hl;intro i h1 h2;have:=h i;simpa [AX,zz0 h1,zz0 h2] using this
theorem Du {s:List Bool} {v:Nat} (hv:v<s.length):s[v]? = some (AX s v):=by
 unfold AX;rw[zz0 hv];rfl
section
variable (F:Nat) (ka kb:Nat→Nat)
inductive Lt:Nat→Nat→Prop
 | refl (v:Nat):Lt v v
 | a {v u:Nat} (h:F≤v) (r:Lt (ka v) u):Lt v u
 | b {v u:Nat} (h:F≤v) (r:Lt (kb v) u):Lt v u
def Jp:Nat→Nat→List Bool→List Bool
 | 0,_,s=>s
 | n+1,v,s=>if AX s v=true then s else if v<F then s.set v true else Jp n (kb v) (Jp n (ka v) (s.set v true))
variable (cut:List Int)
def Ut:Nat→Nat→List Bool→Bool×List Bool
 | 0,_,s=>(false,s)
 | n+1,v,s=>if v=0∨AX s v=true∨(v:Int)∈cut then (false,s) else if v<F then (true,s.set v true) else
    if (Ut n (ka v) (s.set v true)).1=true then (true,(Ut n (ka v) (s.set v true)).2) else Ut n (kb v) (Ut n (ka v) (s.set v true)).2
def OE (v:Nat):Prop:=v≠0∧(v:Int)∉cut
inductive MC:Nat→Nat→Prop
 | refl {v:Nat} (h:OE cut v):MC v v
 | a {v u:Nat} (ho:OE cut v) (h:F≤v) (r:MC (ka v) u):MC v u
 | b {v u:Nat} (ho:OE cut v) (h:F≤v) (r:MC (kb v) u):MC v u
def aW (v:Nat):Prop:=∃ u,MC F ka kb cut v u∧u<F
end
section
variable {F N:Nat} {ka kb:Nat→Nat}
theorem Lt.snoc_a {v u:Nat} (h:Lt F ka kb v u) (hu:F≤u):Lt F ka kb v (ka u):=by
 induction h with
 | refl v=>exact .a hu (.refl _)
 | a h r ih=>exact .a h (ih hu)
 | b h r ih=>exact .b h (ih hu)
theorem Lt.snoc_b {v u:Nat} (h:Lt F ka kb v u) (hu:F≤u):Lt F ka kb v (kb u):=by
 induction h with
 | refl v=>exact .b hu (.refl _)
 | a h r ih=>exact .a h (ih hu)
 | b h r ih=>exact .b h (ih hu)
theorem Lt.leaf {v u:Nat} (h:Lt F ka kb v u) (hv:v<F):u=v:=by
 cases h with
 | refl=>rfl
 | a h r=>omega
 | b h r=>omega
def zV (F:Nat) (ka kb:Nat→Nat) (s:List Bool) (m:Nat):Prop:=∀ u,u<m→AX s u=true→F≤u→AX s (ka u)=true∧AX s (kb u)=true
theorem Lt.le (hk:∀ v,F≤v→v<N→ka v<v∧kb v<v) {v u:Nat} (h:Lt F ka kb v u) (hv:v<N):u≤v:=by
 induction h with
 | refl v=>exact Nat.le_refl _
 | a h r ih=>have:=(hk _ h hv).1;have:=ih (by omega);omega
 | b h r ih=>have:=(hk _ h hv).2;have:=ih (by omega);omega
theorem Zg (hk:∀ v,F≤v→v<N→ka v<v∧kb v<v) {s:List Bool} {m v u:Nat} (hc:zV F ka kb s m) (hv:v<m) (hn:v<N) (hs:AX s v=true) (h:Lt F ka kb v u):AX s u=true:=by
 induction h with
 | refl v=>exact hs
 | a h r ih=>have:=(hk _ h hn).1;exact ih (by omega) (by omega) (hc _ hv hs h).1
 | b h r ih=>have:=(hk _ h hn).2;exact ih (by omega) (by omega) (hc _ hv hs h).2
theorem Ld (hk:∀ v,F≤v→v<N→ka v<v∧kb v<v):∀ (n v:Nat) (s:List Bool),v<n→v<N→s.length=N→zV F ka kb s (v+1) →
 (Jp F ka kb n v s).length=N∧∀ u,(AX (Jp F ka kb n v s) u=true↔AX s u=true∨Lt F ka kb v u)
 | 0,v,s,h,_,_,_=>by omega
 | n+1,v,s,hn,hv,hl,hc=>by
   unfold Jp;by_cases hs:AX s v=true
   · rw[if_pos hs];exact⟨hl,fun u=>⟨.inl,fun h=>h.elim id (Zg hk hc (by omega) hv hs)⟩⟩
   rw[if_neg hs];have hg:∀ u,(AX (s.set v true) u=true↔u=v∨AX s u=true):=fun u=>by rw[FV (by omega)];simp
   by_cases hf:v<F
   · rw[if_pos hf];refine⟨by simpa using hl,fun u=>?_⟩;rw[hg];constructor
     · rintro (rfl|h)
       · exact .inr (.refl _)
       · exact .inl h
     · rintro (h|h)
       · exact .inr h
       · exact .inl (h.leaf hf)
   rw[if_neg hf];obtain⟨k1,k2⟩:=hk v (by omega) hv
   have hc1:zV F ka kb (s.set v true) (ka v+1):=fun u hu hs' hF=>by
    rcases (hg u).1 hs' with rfl|h
    · omega
    · obtain⟨q1,q2⟩:=hc u (by omega) h hF;exact⟨(hg _).2 (.inr q1),(hg _).2 (.inr q2)⟩
   obtain⟨l2,g2⟩:=Ld hk n (ka v) (s.set v true) (by omega) (by omega) (by simpa using hl) hc1
   have hc2:zV F ka kb (Jp F ka kb n (ka v) (s.set v true)) (kb v+1):=fun u hu hs' hF=>by
    rcases (g2 u).1 hs' with h|h
    · rcases (hg u).1 h with rfl|h
      · omega
      · obtain⟨q1,q2⟩:=hc u (by omega) h hF;exact⟨(g2 _).2 (.inl ((hg _).2 (.inr q1))),(g2 _).2 (.inl ((hg _).2 (.inr q2)))⟩
    · exact⟨(g2 _).2 (.inr (h.snoc_a hF)),(g2 _).2 (.inr (h.snoc_b hF))⟩
   obtain⟨l3,g3⟩:=Ld hk n (kb v) _ (by omega) (by omega) l2 hc2;refine⟨l3,fun u=>?_⟩;rw[g3,g2,hg];constructor
   · rintro (((rfl|h)|h)|h)
     · exact .inr (.refl _)
     · exact .inl h
     · exact .inr (.a (by omega) h)
     · exact .inr (.b (by omega) h)
   · rintro (h|h)
     · exact .inl (.inl (.inr h))
     · cases h with
       | refl=>exact .inl (.inl (.inl rfl))
       | a h r=>exact .inl (.inr r)
       | b h r=>exact .inr r
theorem D1:∀ (n v:Nat) (s:List Bool),(Jp F ka kb n v s).length=s.length
 | 0,_,_=>rfl
 | n+1,v,s=>by
   unfold Jp;split
   · rfl
   · split
     · simp
     · rw[D1 n,D1 n];simp
theorem Xk {m0 s:List Bool} (h1:∀ u,AX s u=true→∃ r,AX m0 r=true∧Lt F ka kb r u) (h2:∀ u,AX m0 u=true→AX s u=true) (hlen:s.length=N)
 (hk:∀ v,F≤v→v<N→ka v<v∧kb v<v) (hc:zV F ka kb s N):∀ u,(AX s u=true↔∃ r,AX m0 r=true∧Lt F ka kb r u):=fun u=>by
 refine⟨h1 u,fun ⟨r,hr,hru⟩=>?_⟩;have hs:=h2 r hr
 have hlt:r<N:=by
  rw[←hlen];unfold AX at hs
  cases h:s[r]? with
  | none=>rw[h] at hs;cases hs
  | some b=>exact (zz1.1 h).1
 exact Zg hk hc hlt hlt hs hru
variable {cut:List Int}
theorem MC.snoc_a {v u:Nat} (h:MC F ka kb cut v u) (hu:F≤u) (ho:OE cut (ka u)):MC F ka kb cut v (ka u):=by
 induction h with
 | refl h=>exact .a h hu (.refl ho)
 | a ho' h r ih=>exact .a ho' h (ih hu ho)
 | b ho' h r ih=>exact .b ho' h (ih hu ho)
theorem MC.snoc_b {v u:Nat} (h:MC F ka kb cut v u) (hu:F≤u) (ho:OE cut (kb u)):MC F ka kb cut v (kb u):=by
 induction h with
 | refl h=>exact .b h hu (.refl ho)
 | a ho' h r ih=>exact .a ho' h (ih hu ho)
 | b ho' h r ih=>exact .b ho' h (ih hu ho)
theorem MC.opn {v u:Nat} (h:MC F ka kb cut v u):OE cut v:=by
 cases h with
 | refl h=>exact h
 | a h=>exact h
 | b h=>exact h
def eG (F:Nat) (ka kb:Nat→Nat) (cut:List Int) (s:List Bool) (m:Nat):Prop:=∀ u,u<m→AX s u=true→F≤u∧(OE cut (ka u)→AX s (ka u)=true)∧(OE cut (kb u)→AX s (kb u)=true)
theorem dW (hk:∀ v,F≤v→v<N→ka v<v∧kb v<v) {s:List Bool} {m v u:Nat} (hc:eG F ka kb cut s m) (hv:v<m) (hn:v<N) (hs:AX s v=true) (h:MC F ka kb cut v u):F≤u:=by
 induction h with
 | refl _=>exact (hc _ hv hs).1
 | a _ h r ih=>have:=(hk _ h hn).1;exact ih (by omega) (by omega) ((hc _ hv hs).2.1 r.opn)
 | b _ h r ih=>have:=(hk _ h hn).2;exact ih (by omega) (by omega) ((hc _ hv hs).2.2 r.opn)
theorem Fj:∀ (n v:Nat) (s:List Bool),(Ut F ka kb cut n v s).2.length=s.length
 | 0,_,_=>rfl
 | n+1,v,s=>by
   unfold Ut;split
   · rfl
   · split
     · simp
     · split
       · rw[Fj n];simp
       · rw[Fj n,Fj n];simp
theorem QR (hk:∀ v,F≤v→v<N→ka v<v∧kb v<v):∀ (n v:Nat) (s:List Bool),v<n→v<N→s.length=N→eG F ka kb cut s (v+1) →
 ((Ut F ka kb cut n v s).1=true→aW F ka kb cut v)∧((Ut F ka kb cut n v s).1=false→eG F ka kb cut (Ut F ka kb cut n v s).2 (v+1)∧(OE cut v→AX (Ut F ka kb cut n v s).2 v=true) ∧
   (∀ u,AX s u=true→AX (Ut F ka kb cut n v s).2 u=true)∧∀ u,v<u→AX (Ut F ka kb cut n v s).2 u=AX s u)
 | 0,v,s,h,_,_,_=>by omega
 | n+1,v,s,hn,hv,hl,hc=>by
   unfold Ut;by_cases h0:v=0∨AX s v=true∨(v:Int)∈cut
   · rw[if_pos h0];refine⟨(fun h=>by cases h),fun _=>⟨hc,fun ho=>?_,fun u h=>h,fun u _=>rfl⟩⟩;rcases h0 with h0|h0|h0
     · exact absurd h0 ho.1
     · exact h0
     · exact absurd h0 ho.2
   rw[if_neg h0];have ho:OE cut v:=⟨fun e=>h0 (.inl e),fun e=>h0 (.inr (.inr e))⟩;have hg:∀ u,(AX (s.set v true) u=true↔u=v∨AX s u=true):=fun u=>by rw[FV (by omega)];simp
   have hgn:∀ u,v<u→AX (s.set v true) u=AX s u:=fun u hu=>by rw[FV (by omega)];simp;omega
   by_cases hf:v<F
   · rw[if_pos hf];exact⟨fun _=>⟨v,.refl ho,hf⟩,(fun h=>by cases h)⟩
   rw[if_neg hf];obtain⟨k1,k2⟩:=hk v (by omega) hv
   have hc1:eG F ka kb cut (s.set v true) (ka v+1):=fun u hu hs'=>by
    rcases (hg u).1 hs' with rfl|h
    · omega
    · obtain⟨q0,q1,q2⟩:=hc u (by omega) h;exact⟨q0,fun o=>(hg _).2 (.inr (q1 o)),fun o=>(hg _).2 (.inr (q2 o))⟩
   obtain⟨a1,a2⟩:=QR hk n (ka v) (s.set v true) (by omega) (by omega) (by simpa using hl) hc1;have l2:=Fj (F:=F) (ka:=ka) (kb:=kb) (cut:=cut) n (ka v) (s.set v true);generalize Ut F ka kb cut n (ka v) (s.set v true)=p at *;obtain⟨r,s2⟩:=p
   cases r with
   | true =>
     rw[if_pos rfl];refine⟨fun _=>?_,(fun h=>by cases h)⟩;obtain⟨u,h1,h2⟩:=a1 rfl;exact⟨u,.a ho (by omega) h1,h2⟩
   | false =>
     rw[if_neg (by simp)];simp only at a2 l2 ⊢;obtain⟨b1,b2,b3,b4⟩:=a2 trivial
     have mid:∀ u,u<v→AX s2 u=true→F≤u∧(OE cut (ka u)→AX s2 (ka u)=true)∧(OE cut (kb u)→AX s2 (kb u)=true):=fun u hu hs'=>by
      by_cases h:u≤ka v
      · exact b1 u (by omega) hs'
      · rw[b4 u (by omega)] at hs';rcases (hg u).1 hs' with rfl|h
        · omega
        · obtain⟨q0,q1,q2⟩:=hc u (by omega) h;exact⟨q0,fun o=>b3 _ ((hg _).2 (.inr (q1 o))),fun o=>b3 _ ((hg _).2 (.inr (q2 o)))⟩
     have hc2:eG F ka kb cut s2 (kb v+1):=fun u hu hs'=>mid u (by omega) hs';obtain⟨c1,c2⟩:=QR hk n (kb v) s2 (by omega) (by omega) (by simp at l2;omega) hc2;refine⟨fun h=>?_,fun h=>?_⟩
     · obtain⟨u,h1,h2⟩:=c1 h;exact⟨u,.b ho (by omega) h1,h2⟩
     · obtain⟨d1,d2,d3,d4⟩:=c2 h;generalize (Ut F ka kb cut n (kb v) s2).2=s3 at *;have hv3:AX s3 v=true:=d3 v (b3 v ((hg v).2 (.inl rfl)));refine⟨fun u hu hs'=>?_,fun _=>hv3,fun u h=>d3 u (b3 u ((hg u).2 (.inr h))),fun u hu=>by rw[d4 u (by omega),b4 u (by omega),hgn u hu]⟩;by_cases huv:u=v
       · subst huv;exact⟨by omega,fun o=>d3 _ (b2 o),fun o=>d2 o⟩
       · by_cases h:u≤kb v
         · exact d1 u (by omega) hs'
         · rw[d4 u (by omega)] at hs';obtain⟨q0,q1,q2⟩:=mid u (by omega) hs';exact⟨q0,fun o=>d3 _ (q1 o),fun o=>d3 _ (q2 o)⟩
theorem UU (hk:∀ v,F≤v→v<N→ka v<v∧kb v<v) {v:Nat} (hv:v<N):(Ut F ka kb cut (v+1) v (List.replicate N false)).1=true↔aW F ka kb cut v:=by
 obtain⟨h1,h2⟩:=QR hk (cut:=cut) (v+1) v (List.replicate N false) (by omega) hv (by simp) (fun u _ h=>by rw[Iu] at h;cases h);refine⟨h1,fun ⟨u,hu,hf⟩=>?_⟩
 cases he:(Ut F ka kb cut (v+1) v (List.replicate N false)).1 with
 | true=>rfl
 | false =>
   obtain⟨c1,c2,_,_⟩:=h2 he;have:=dW hk c1 (by omega) hv (c2 hu.opn) hu;omega
end
end Go.Proofs.YtnjedabjbeipeaaGreat
