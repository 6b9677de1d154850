/-
  Cones, cuts and mappings of a graph: the reference, by abstract walks.
  Conditions: those typed in each theorem.
-/
import Derived.Test.YtnjedabjbeipeaaGreatNk
namespace Go.Proofs.YtnjedabjbeipeaaGreat
open Go.RowKit Go.ChangeShapes Go.WideShapes
set_option linter.unusedSimpArgs false
set_option linter.unusedVariables false
set_option maxRecDepth 100000
set_option maxHeartbeats 10000000
attribute [local simp] D1 Fj
theorem Vu {xs:List Bool}:AR (xs.map (e1 CQ)):=by
 intro c hc d hd;obtain⟨x,_,rfl⟩:=ABc.1 hc;simp at hd;subst hd;rfl
theorem eA {n v:Nat} (h:v<n):(List.replicate n [D.bool false])[v]? = some [.bool false]:=by rw[List.getElem?_replicate,if_pos h]
def QN (x:AK) (m0:List Bool):Nat→List Bool
 | 0=>m0
 | j+1=>if AX (QN x m0 j) (A0 x - 1 - j)=true then ((QN x m0 j).set (CF x (A0 x - 1 - j)) true).set (CP x (A0 x - 1 - j)) true else QN x m0 j
def H9 (x:AK) (m0:List Bool):List Bool:=QN x m0 x.2.2.1.length
theorem Ks {x:AK} {m0:List Bool}:∀ j,(QN x m0 j).length=m0.length
 | 0=>rfl
 | j+1=>by unfold QN;split<;>simp[Ks j]
theorem YY {x:AK} {m0:List Bool} (hok:Al x=true) (hl:m0.length=A0 x):∀ j,j≤x.2.2.1.length →
 (∀ u,AX m0 u=true→AX (QN x m0 j) u=true)∧(∀ u,AX (QN x m0 j) u=true→∃ r,AX m0 r=true∧Lt (Aa x) (CF x) (CP x) r u) ∧
 ∀ u,A0 x - j≤u→u<A0 x→AX (QN x m0 j) u=true→Aa x≤u→AX (QN x m0 j) (CF x u)=true∧AX (QN x m0 j) (CP x u)=true
 | 0,_=>⟨fun u h=>h,fun u h=>⟨u,h,.refl u⟩,fun u h1 h2=>by omega⟩
 | j+1,hj=>by
   obtain⟨h1,h2,h3⟩:=YY hok hl j (by omega);have hlj:=Ks (x:=x) (m0:=m0) j;have hN:=Bp x;unfold QN;generalize hv:A0 x - 1 - j=v at *;by_cases hb:AX (QN x m0 j) v=true
   · rw[if_pos hb];obtain⟨k1,k2⟩:=DX hok v (by omega) (by omega)
     have hg:∀ u,(AX (((QN x m0 j).set (CF x v) true).set (CP x v) true) u=true↔u=CP x v∨u=CF x v∨AX (QN x m0 j) u=true):=fun u=>by
      rw[FV (by simp;omega),FV (by omega)];simp
     refine⟨fun u h=>(hg u).2 (.inr (.inr (h1 u h))),fun u h=>?_,fun u q1 q2 q3 q4=>?_⟩
     · rcases (hg u).1 h with rfl|rfl|h
       · obtain⟨r,hr,hru⟩:=h2 v hb;exact⟨r,hr,hru.snoc_b (by omega)⟩
       · obtain⟨r,hr,hru⟩:=h2 v hb;exact⟨r,hr,hru.snoc_a (by omega)⟩
       · exact h2 u h
     · by_cases huv:u=v
       · subst huv;exact⟨(hg _).2 (.inr (.inl rfl)),(hg _).2 (.inl rfl)⟩
       · rcases (hg u).1 q3 with e|e|h
         · omega
         · omega
         · obtain⟨r1,r2⟩:=h3 u (by omega) q2 h q4;exact⟨(hg _).2 (.inr (.inr r1)),(hg _).2 (.inr (.inr r2))⟩
   · rw[if_neg hb];refine⟨h1,h2,fun u q1 q2 q3 q4=>?_⟩;by_cases huv:u=v
     · subst huv;exact absurd q3 hb
     · exact h3 u (by omega) q2 q3 q4
theorem bB {x:AK} {m0:List Bool} (hok:Al x=true) (hl:m0.length=A0 x):∀ u,(AX (H9 x m0) u=true↔∃ r,AX m0 r=true∧Lt (Aa x) (CF x) (CP x) r u):=by
 obtain⟨h1,h2,h3⟩:=YY hok hl x.2.2.1.length (Nat.le_refl _);have hN:=Bp x;refine Xk (N:=A0 x) h2 h1 (by unfold H9;rw[Ks,hl]) (DX hok) fun u q1 q2 q3=>h3 u (by omega) q1 q2 q3
theorem U6 {x:AK} (hok:Al x=true) {v:Nat} (hv:v<A0 x):∀ u,(AX (Di x v) u=true↔Lt (Aa x) (CF x) (CP x) v u):=fun u=>by
 obtain⟨_,h⟩:=Ld (DX hok) (v+1) v (List.replicate (A0 x) false) (by omega) hv (by simp) (fun u _ h=>by rw[Iu] at h;cases h);have:=h u;rw[Iu] at this;show AX (Jp (Aa x) (CF x) (CP x) (v+1) v (List.replicate (A0 x) false)) u=true↔_;simpa using this
theorem W6 {x:AK} (hok:Al x=true) {v:Nat} (hv:v<A0 x):H9 x ((List.replicate (A0 x) false).set v true)=Di x v:=by
 refine jN (by unfold H9;rw[Ks,E3];simp) fun u=>?_;have h1:=bB (m0:=(List.replicate (A0 x) false).set v true) hok (by simp) u;have h2:=U6 hok hv u;have h3:∀ r,(AX ((List.replicate (A0 x) false).set v true) r=true↔r=v):=fun r=>by rw[FV (by simpa using hv),Iu];simp
 have h4:AX (H9 x ((List.replicate (A0 x) false).set v true)) u=true↔AX (Di x v) u=true:=by
  rw[h1,h2];constructor
  · rintro⟨r,hr,hru⟩;rw[(h3 r).1 hr] at hru;exact hru
  · exact fun h=>⟨v,(h3 v).2 rfl,h⟩
 exact Bool.eq_iff_iff.2 h4
theorem R5 (x:AK) (m0:List Bool) (hx:Cz 1048576 x) (hok:Al x=true) (hl:m0.length=A0 x):Bx Tryz.prog 84 [Ge x,YH m0] (YH (H9 x m0)):=by
 obtain⟨⟨n1,n2,n3,n4,n5,n6⟩,-,-,-⟩:=AA hok;obtain⟨hF,hgl,hNi,hno⟩:=A7 hok;have hN:=Bp x;have w0:IntKind.i64.wrap ((x.2.2.1.length:Int) - 1)=(x.2.2.1.length:Int) - 1:=Ad (by omega) (by omega);refine A5 (by kernel_rfl) Tryz.func84 rfl rfl rfl ?_;simp[Ao];refine Ak LN rfl (by simp) rfl (by simp) (fun c hc=>by obtain⟨b,_,rfl⟩:=ABc.1 hc;rfl) (by simp;omega) (fun _=>Vu) ?_;simp[w0];refine AB [false,false,true,false,false,true,true] (fun j:Nat=>j≤x.2.2.1.length) (fun j:Nat=>[(6,.d (.int .i64 ((x.2.2.1.length:Int) - 1 - j)))]) (fun j:Nat=>[(2,.arr 4 true ((QN x m0 j).map (e1 CQ)))]) (fun j:Nat=>x.2.2.1.length - j) 0 ?_ ?_ ?_
 · simp
 · exact⟨[0,1,2],by simp[QN]⟩
 rintro I S μ hI hS hμ j hj;have hlj:=Ks (x:=x) (m0:=m0) j;obtain⟨i,hi⟩:∃ i:Int,i=(x.2.2.1.length:Int) - 1 - j:=⟨_,rfl⟩;rw[←hi];by_cases hlt:j<x.2.2.1.length
 · have hsw:QN x m0 (j+1)=if AX (QN x m0 j) (A0 x - 1 - j)=true then ((QN x m0 j).set (CF x (A0 x - 1 - j)) true).set (CP x (A0 x - 1 - j)) true else QN x m0 j:=rfl;generalize QN x m0 j=s at *;obtain⟨v,hv⟩:∃ v,v=A0 x - 1 - j:=⟨_,rfl⟩;rw[←hv] at hsw;obtain⟨ha,a1,a2,a3,a4,a5,a6⟩:=CW hok (v:=v) (by omega) (by omega);have hat:=Du (s:=s) (v:=v) (by omega);have w1:IntKind.i64.wrap (1+x.1+(x.2.1.length:Int)+i)=(v:Int):=by rw[Ad (by omega) (by omega)];omega
   have w2:IntKind.i64.wrap (i - 1)=(x.2.2.1.length:Int) - 1 - ((j:Int)+1):=by rw[Ad (by omega) (by omega)];omega
   have ht:i.toNat=v - Aa x:=by omega
   have hL:(At (Aj x v)).length=2:=rfl;have q1:IntKind.i64.wrap ((Aj x v).1.tdiv 2)=(CF x v:Int):=by rw[Int.tdiv_eq_ediv_of_nonneg a1,a3];exact Ad (by omega) (by omega)
   have q2:IntKind.i64.wrap ((Aj x v).2.tdiv 2)=(CP x v:Int):=by rw[Int.tdiv_eq_ediv_of_nonneg a2,a4];exact Ad (by omega) (by omega)
   simp[show (0:Int)≤i by omega];refine Ab (BE x ⟨n1,n2⟩ n3) ?_;simp[w1,hat];rcases ABu (AX s v) with hb|hb
   · rw[hb,if_pos rfl] at hsw;have hatA:=Du (s:=s) (v:=CF x v) (by omega);have hsetA:=GM (s:=s) (v:=CF x v) (b:=true);have hlA:(s.set (CF x v) true).length=s.length:=by simp
     generalize s.set (CF x v) true=sA at *;have hatB:=Du (s:=sA) (v:=CP x v) (by omega);have hsetB:=GM (s:=sA) (v:=CP x v) (b:=true);generalize sA.set (CP x v) true=sB at *;simp[hb,hat,ha,ht,hL,At,q1,q2,hatA,hsetA,hatB,hsetB,w2,show ¬ i<0 by omega];exact Ae hI hS hμ (j+1) (by omega) (by omega) ⟨[0,1,2],by simp[hsw]⟩
   · rw[hb,if_neg (by simp)] at hsw;simp[hb,hat,w2];exact Ae hI hS hμ (j+1) (by omega) (by omega) ⟨[0,1,2],by simp[hsw]⟩
 · have hj':j=x.2.2.1.length:=by omega
   subst hj';have hsw:QN x m0 x.2.2.1.length=H9 x m0:=rfl;rw[hsw];simp[show ¬ (0:Int)≤i by omega,show i<0 by omega]
theorem Sq (x:AK) (v:Nat) (hx:Cz 1048576 x) (hg:JO x) (hok:Al x=true) (hv:v<A0 x):Bx Tryz.prog 41 [Ge x,.d (.int .i64 v)] (ints (CV (Di x v))):=by
 obtain⟨⟨n1,n2,n3,n4,n5,n6⟩,-,-,-⟩:=AA hok;obtain⟨hF,hgl,hNi,hno⟩:=A7 hok;have hcs:=W6 hok hv;have hcl:=E3 (x:=x) (v:=v);have hsm:=R5 x ((List.replicate (A0 x) false).set v true) hx hok (by simp);have hat:=eA hv;have hset:(List.replicate (A0 x) [D.bool false]).set v [.bool true]=((List.replicate (A0 x) false).set v true).map (e1 CQ):=by rw[M1,GM]
 rw[hcs] at hsm;generalize (List.replicate (A0 x) false).set v true=m0 at *;refine A5 (by kernel_rfl) Tryz.func41 rfl rfl rfl ?_;simp[Ao];refine Ab (Co x hx hg) ?_;simp;simp[hok,show ¬ (v:Int)<0 by omega];refine Ab (Bt x) ?_;simp[hno];simp[show ¬ A0 x≤v by omega,hv];refine Ab (Bt x) ?_;simp[hno];refine⟨by omega,?_⟩;simp[hat,hset];refine Ab (hsm) ?_;simp;have hmm:CV (Di x v)=CM (Di x v) (Di x v).length:=rfl;rw[hmm];generalize Di x v=s at *;refine AB [false,false,false,false,false,true,true,true] (fun k:Nat=>k≤s.length) (fun k:Nat=>[(5,.ref 1),(7,.d (.int .i64 k))]) (fun k:Nat=>[(1,.arr 3 true ((CM s k).map (e1 AC)))]) (fun k:Nat=>s.length - k) 0 ?_ ?_ ?_
 · simp
 · exact⟨[0,1,2,3],by simp[CM]⟩
 rintro I S μ hI hS hμ k hk;by_cases hlt:k<s.length
 · have hat:=Du (s:=s) (v:=k) hlt;have w2:IntKind.i64.wrap ((k:Int)+1)=(k:Int)+1:=Ad (by omega) (by omega);have hd:decide (k<s.length)=true:=zz2 hlt;have hnx:=JA (s:=s) (k:=k);have hll:=Ln (s:=s) (k:=k);generalize CM s k=ms at *;rcases ABu (AX s k) with hb|hb
   · rw[hb,if_pos rfl] at hnx;simp[hd,hat,hb];refine Ak As rfl (by simp) rfl (by simp) (by simp) (by first | (simp;done)|(simp;omega)) (by simp[AR,AL]) ?_;simp[w2];exact Ae hI hS hμ (k+1) (by omega) (by omega) ⟨[0,5,2,3],by simp[hnx]⟩
   · rw[hb,if_neg (by simp)] at hnx;simp[hd,hat,hb,w2];exact Ae hI hS hμ (k+1) (by omega) (by omega) ⟨[0,1,2,3],by simp[hnx]⟩
 · have hk':k=s.length:=by omega
   subst hk';simp[hlt]
theorem ZA {ms cut:List Int} {k:Nat} {y:Int} (h:cut[k]? = some y):Xd ms (cut.take (k+1))=(Xd ms (cut.take k)&&KP ms y):=C6 h
theorem gJ {ms cut:List Int} {k:Nat} {y:Int} (h:cut[k]? = some y) (hy:KP ms y=false):Xd ms cut=false:=EO (p:=fun y=>KP ms y) h hy
theorem iH {xs:List Int} {k:Nat} (h:k+1<xs.length) (hn:¬ A1 xs k<A1 xs ((k:Int)+1)):Ui xs=false:=by
 unfold Ui;rw[Bool.eq_false_iff,ne_eq,zz8];intro hh;exact hn (ABp (hh k (ABw.2 (by omega))))
theorem YZ {xs:List Int} (h:∀ k:Nat,k+1<xs.length→A1 xs k<A1 xs ((k:Int)+1)):Ui xs=true :=
 zz8.2 fun j hj=>zz2 (h j (by have:=ABw.1 hj;omega))
def Od (x:AK) (cut:List Int) (v:Nat) (k:Nat) (o:List Bool):Prop :=
 o.length=A0 x∧AX o v=true∧(∀ u,AX o u=true→OE cut u→MC (Aa x) (CF x) (CP x) cut v u)∧(∀ u,k<u→u≤v→AX o u=true→OE cut u→Aa x≤u∧AX o (CF x u)=true∧AX o (CP x u)=true)
theorem XX {x:AK} {cut:List Int} {v:Nat} (hv:v<A0 x):Od x cut v v ((List.replicate (A0 x) false).set v true):=by
 have h3:∀ r,(AX ((List.replicate (A0 x) false).set v true) r=true↔r=v):=fun r=>by rw[FV (by simpa using hv),Iu];simp
 exact⟨by simp,(h3 v).2 rfl,fun u hu ho=>by rw[(h3 u).1 hu] at ho ⊢;exact .refl ho,fun u h1 h2=>by omega⟩
theorem Sd {x:AK} {cut:List Int} {v k:Nat} {o:List Bool} (h:Od x cut v (k+1) o) (hs:¬ (AX o (k+1)=true∧OE cut (k+1))):Od x cut v k o:=by
 obtain⟨h1,h2,h3,h4⟩:=h;refine⟨h1,h2,h3,fun u q1 q2 q3 q4=>?_⟩;by_cases e:u=k+1
 · subst e;exact absurd ⟨q3,q4⟩ hs
 · exact h4 u (by omega) q2 q3 q4
theorem cJ {x:AK} {cut:List Int} {v k:Nat} {o:List Bool} (hok:Al x=true) (hv:v<A0 x) (hk:k+1≤v) (h:Od x cut v (k+1) o) (hs:AX o (k+1)=true) (ho:OE cut (k+1)) (hf:Aa x≤k+1) :
 Od x cut v k ((o.set (CF x (k+1)) true).set (CP x (k+1)) true):=by
 obtain⟨h1,h2,h3,h4⟩:=h;obtain⟨k1,k2⟩:=DX hok (k+1) hf (by omega)
 have hg:∀ u,(AX ((o.set (CF x (k+1)) true).set (CP x (k+1)) true) u=true↔u=CP x (k+1)∨u=CF x (k+1)∨AX o u=true):=fun u=>by
  rw[FV (by simp;omega),FV (by omega)];simp
 refine⟨by simpa using h1,(hg v).2 (.inr (.inr h2)),fun u hu hou=>?_,fun u q1 q2 q3 q4=>?_⟩
 · rcases (hg u).1 hu with rfl|rfl|hu
   · exact (h3 _ hs ho).snoc_b hf hou
   · exact (h3 _ hs ho).snoc_a hf hou
   · exact h3 u hu hou
 · by_cases e:u=k+1
   · subst e;exact⟨hf,(hg _).2 (.inr (.inl rfl)),(hg _).2 (.inl rfl)⟩
   · rcases (hg u).1 q3 with e2|e2|hu
     · omega
     · omega
     · obtain⟨r1,r2,r3⟩:=h4 u (by omega) q2 hu q4;exact⟨r1,(hg _).2 (.inr (.inr r2)),(hg _).2 (.inr (.inr r3))⟩
theorem ZE {x:AK} {cut:List Int} {v k:Nat} {o:List Bool} (h:Od x cut v k o) {u:Nat} (hs:AX o u=true) (ho:OE cut u) (hf:u<Aa x):aW (Aa x) (CF x) (CP x) cut v:=⟨u,h.2.2.1 u hs ho,hf⟩
theorem cG {x:AK} {cut:List Int} {v:Nat} {o:List Bool} (hok:Al x=true) (hv:v<A0 x) (h:Od x cut v 0 o):¬ aW (Aa x) (CF x) (CP x) cut v:=by
 obtain⟨h1,h2,h3,h4⟩:=h
 have key:∀ w u,MC (Aa x) (CF x) (CP x) cut w u→w≤v→AX o w=true→Aa x≤u:=by
  intro w u h
  induction h with
  | @refl w h=>exact fun hw hs=>(h4 w (Nat.pos_of_ne_zero h.1) hw hs h).1
  | @a w u ho h r ih=>exact fun hw hs=>ih (by have:=(DX hok w h (by omega)).1;omega) (h4 w (Nat.pos_of_ne_zero ho.1) hw hs ho).2.1
  | @b w u ho h r ih=>exact fun hw hs=>ih (by have:=(DX hok w h (by omega)).2;omega) (h4 w (Nat.pos_of_ne_zero ho.1) hw hs ho).2.2
 rintro⟨u,hu,hf⟩;have:=key v u hu (Nat.le_refl _) h2;omega
theorem Qv (x:AK) (v:Nat) (cut:List Int) (hx:Cz 1048576 x) (hg:JO x) (hok:Al x=true) (hv:v<A0 x) (hc:cut.length≤1048576):Bx Tryz.prog 98 [Ge x,.d (.int .i64 v),ints cut] (.d (.bool (H7 x v cut))):=by
 obtain⟨⟨n1,n2,n3,n4,n5,n6⟩,-,-,-⟩:=AA hok;obtain⟨hF,hgl,hNi,hno⟩:=A7 hok;have hN:=Bp x;refine A5 (by kernel_rfl) Tryz.func98 rfl rfl rfl ?_;simp[Ao];refine Ab (Co x hx hg) ?_;simp;simp[hok,show ¬ (v:Int)<0 by omega];refine Ab (Bt x) ?_;simp[hno];by_cases h4:cut.length≤4
 case neg=>simp[H7,h4,hv,show ¬ A0 x≤v by omega,show (4:Int)<cut.length by omega,show ¬ (cut.length:Int)≤4 by omega]
 simp[show ¬ A0 x≤v by omega,hv,show ¬ (4:Int)<cut.length by omega,show (cut.length:Int)≤4 by omega];refine Ab (Sq x v hx hg hok hv) ?_;simp
 have hml:(CV (Di x v)).length≤1048576:=by
  have:=Ln (s:=Di x v) (k:=(Di x v).length);unfold CV;rw[E3] at *;omega
 have hB:H7 x v cut=(Ui cut&&Xd (CV (Di x v)) cut&&!(eS x cut (v+1) v (List.replicate (A0 x) false)).1):=by simp[H7,h4]
 rw[hB];generalize CV (Di x v)=ms at *;refine AB [false,true,true,true,false,false,false,true,true] (fun k:Nat=>k≤cut.length∧Xd ms (cut.take k)=true∧∀ j:Nat,j+1<k→A1 cut j<A1 cut ((j:Int)+1)) (fun k:Nat=>[(8,.d (.int .i64 k))]) (fun k:Nat=>[]) (fun k:Nat=>cut.length - k) 0 ?_ ?_ ?_
 · exact⟨by omega,rfl,fun j h=>by omega⟩
 · exact⟨[0,1],by simp⟩
 rintro I S μ hI hS hμ k ⟨hk,hall,hasc⟩;by_cases hlt:k<cut.length
 · have hx1:cut[k]? = some cut[k]:=zz0 hlt;have w2:IntKind.i64.wrap ((k:Int)+1)=(k:Int)+1:=Ad (by omega) (by omega);have hd:decide (k<cut.length)=true:=zz2 hlt;have e1':=Me hx1;have hsn:=ZA (ms:=ms) hx1;have hnt:=gJ (ms:=ms) hx1;have hh:=I0 ms cut[k] (by omega);simp[hd,hx1];refine⟨by kernel_rfl,?_⟩;generalize cut[k]=y at *;refine Ab (hh) ?_;simp;rcases ABu (KP ms y) with hr|hr
   · by_cases hk0:k=0
     · subst hk0;have w20:IntKind.i64.wrap 1=1:=by decide
       simp[hr,hd,hx1,w20];exact Ae hI hS hμ 1 ⟨by omega,by rw[hsn,hall,hr];rfl,fun j h=>by omega⟩ (by omega) ⟨[0,1],by simp⟩
     · obtain⟨p,rfl⟩:∃ p,k=p+1:=⟨k - 1,by omega⟩;have hx0:cut[p]? = some (cut[p]'(by omega)):=zz0 (by omega);have e0:=Me hx0;generalize cut[p]'(by omega)=z at *;have w0:IntKind.i64.wrap (p:Int)=(p:Int):=Ad (by omega) (by omega);have w3:IntKind.i64.wrap ((p:Int)+1+1)=(p:Int)+1+1:=Ad (by omega) (by omega);have ht:((p:Int)+1).toNat=p+1:=by omega
       have hd0:decide (p<cut.length)=true:=zz2 (by omega);have e2:((p+1:Nat):Int)=(p:Int)+1:=by omega
       rw[e2] at e1';by_cases hv:z<y
       · simp[hr,hd,hd0,hx1,hx0,w0,ht,hv,show ¬ y≤z by omega,show (0:Int)<(p:Int)+1 by omega,show decide (0<p+1)=true from zz2 (by omega),w3,show ¬ (p:Int)+1<0 by omega]
         exact Ae hI hS hμ (p+1+1) ⟨by omega,by rw[hsn,hall,hr];rfl,fun j hj=>by
          by_cases e:j=p
          · subst e;rw[e0,e1'];exact hv
          · exact hasc j (by omega)⟩ (by omega) ⟨[0,1],by simp⟩
       · have hz:Ui cut=false:=iH (k:=p) hlt (by rw[e0,e1'];exact hv);simp[hr,hd,hd0,hx1,hx0,w0,ht,hv,show y≤z by omega,show (0:Int)<(p:Int)+1 by omega,show decide (0<p+1)=true from zz2 (by omega),hz,show ¬ (p:Int)+1<0 by omega]
   · have hz:=hnt hr;simp[hr,hd,hx1,hz]
 · have hk':k=cut.length:=by omega
   rw[hk',List.take_length] at hall;have has:Ui cut=true:=YZ fun j hj=>hasc j (by omega);have hE:=UU (cut:=cut) (DX hok) hv;generalize (eS x cut (v+1) v (List.replicate (A0 x) false)).1=r at *;simp[hlt,has,hall];refine Ab (Bt x) ?_;simp[hno];refine⟨by omega,?_⟩;have hat:=eA hv;have hset:(List.replicate (A0 x) [D.bool false]).set v [.bool true]=((List.replicate (A0 x) false).set v true).map (e1 CQ):=by rw[M1,GM]
   have hst:=XX (cut:=cut) hv;generalize (List.replicate (A0 x) false).set v true=o0 at *;simp[hat,hset];refine AB [false,false,true,true,false,false,false,false,false,true,true] (fun i:Nat×List Bool=>i.1≤v∧Od x cut v i.1 i.2) (fun i:Nat×List Bool=>[(10,.d (.int .i64 i.1))]) (fun i:Nat×List Bool=>[(2,.arr 4 true (i.2.map (e1 CQ)))]) (fun i:Nat×List Bool=>i.1) (v,o0) ?_ ?_ ?_
   · exact⟨Nat.le_refl _,hst⟩
   · exact⟨[0,1,2],by simp⟩
   clear hI hS hμ hst;rintro I S μ hI hS hμ ⟨q,o⟩ ⟨hq,hsc⟩;simp only at hq hsc;have hol:=hsc.1;by_cases hq0:q=0
   · subst hq0
     have hr0:r=false:=by
      cases r with
      | false=>rfl
      | true=>exact absurd (hE.1 rfl) (cG hok hv hsc)
     subst hr0;simp
   obtain⟨k,rfl⟩:∃ k,q=k+1:=⟨q - 1,by omega⟩;have hat:=Du (s:=o) (v:=k+1) (by omega);have w4:IntKind.i64.wrap (k:Int)=(k:Int):=Ad (by omega) (by omega);have ht:((k:Int)+1).toNat=k+1:=by omega
   have h0:(0:Int)<(k:Int)+1:=by omega
   have h1:¬ (k:Int)+1<0:=by omega
   have hok0:OE cut (k+1)↔¬ (((k:Int)+1)∈cut):=by unfold OE;simp
   rcases ABu (AX o (k+1)) with hb|hb
   case inr =>
    simp[ht,hat,hb,w4,h0,h1];exact Ae hI hS hμ (k,o) ⟨by simp;omega,Sd hsc (by simp[hb])⟩ (by simp) ⟨[0,1,2],by simp⟩
   simp[ht,hat,hb,w4,h0,h1];refine Ab (I0 cut ((k:Int)+1) (by omega)) ?_;simp;rcases ABu (KP cut ((k:Int)+1)) with hm|hm
   · have hmem:((k:Int)+1)∈cut:=ABp hm;simp[hm,w4];exact Ae hI hS hμ (k,o) ⟨by simp;omega,Sd hsc (fun h=>(hok0.1 h.2) hmem)⟩ (by simp) ⟨[0,1,2],by simp⟩
   have hopn:OE cut (k+1):=hok0.2 (of_decide_eq_false hm);simp[hm];refine Ab (BE x ⟨n1,n2⟩ n3) ?_;simp;by_cases hf:k+1<Aa x
   · have hr1:r=true:=hE.2 (ZE hsc hb hopn hf);subst hr1;simp[show (k:Int)+1<1+x.1+x.2.1.length by omega,show ¬ 1+x.1+(x.2.1.length:Int)≤(k:Int)+1 by omega]
   obtain⟨ha,a1,a2,a3,a4,a5,a6⟩:=CW hok (v:=k+1) (by omega) (by omega);have w1:IntKind.i64.wrap ((k:Int)+1 - (1+x.1+x.2.1.length))=(k:Int)+1 - (1+x.1+x.2.1.length):=Ad (by omega) (by omega);have hti:((k:Int)+1 - (1+x.1+x.2.1.length)).toNat=k+1 - Aa x:=by omega
   have hL:(At (Aj x (k+1))).length=2:=rfl;have hn0:¬ (k:Int)+1 - (1+x.1+x.2.1.length)<0:=by omega
   have q1:IntKind.i64.wrap ((Aj x (k+1)).1.tdiv 2)=(CF x (k+1):Int):=by rw[Int.tdiv_eq_ediv_of_nonneg a1,a3];exact Ad (by omega) (by omega)
   have q2:IntKind.i64.wrap ((Aj x (k+1)).2.tdiv 2)=(CP x (k+1):Int):=by rw[Int.tdiv_eq_ediv_of_nonneg a2,a4];exact Ad (by omega) (by omega)
   have hnx:=cJ hok hv hq hsc hb hopn (by omega);have hatA:=Du (s:=o) (v:=CF x (k+1)) (by omega);have hsetA:=GM (s:=o) (v:=CF x (k+1)) (b:=true);have hlA:(o.set (CF x (k+1)) true).length=o.length:=by simp
   generalize o.set (CF x (k+1)) true=sA at *;have hatB:=Du (s:=sA) (v:=CP x (k+1)) (by omega);have hsetB:=GM (s:=sA) (v:=CP x (k+1)) (b:=true);generalize sA.set (CP x (k+1)) true=sB at *;simp[show ¬ (k:Int)+1<1+x.1+x.2.1.length by omega,show 1+x.1+(x.2.1.length:Int)≤(k:Int)+1 by omega];refine⟨by kernel_rfl,?_⟩;refine Ab (BE x ⟨n1,n2⟩ n3) ?_;simp[w1,hti,hL,hn0,ha,At,q1,q2,hatA,hsetA,hatB,hsetB,w4];exact Ae hI hS hμ (k,sB) ⟨by simp;omega,hnx⟩ (by simp) ⟨[0,1,2],by simp⟩
end Go.Proofs.YtnjedabjbeipeaaGreat
