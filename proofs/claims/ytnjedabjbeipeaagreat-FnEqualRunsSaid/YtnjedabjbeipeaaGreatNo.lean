/-
  Cones, cuts and mappings of a graph: the reference, by abstract walks.
  Conditions: those typed in each theorem.
-/
import Derived.Test.YtnjedabjbeipeaaGreatNk
namespace Go.Proofs.YtnjedabjbeipeaaGreat
open Go.RowKit Go.ChangeShapes Go.WideShapes
set_option linter.unusedSimpArgs false
set_option linter.unusedVariables false
set_option maxRecDepth 100000
set_option maxHeartbeats 10000000
attribute [local simp] Ed FG
theorem Vf {xs:List Bool}:AR (xs.map (e1 CZ)):=by
 intro c hc d hd;obtain⟨x,_,rfl⟩:=CF.1 hc;simp at hd;subst hd;rfl
theorem jB {n v:Nat} (h:v<n):(List.replicate n [D.bool false])[v]? = some [.bool false]:=by rw[List.getElem?_replicate,if_pos h]
def Rs (x:AK) (m0:List Bool):Nat→List Bool
 | 0=>m0
 | j+1=>if AX (Rs x m0 j) (A0 x - 1 - j)=true then ((Rs x m0 j).set (CL x (A0 x - 1 - j)) true).set (CW x (A0 x - 1 - j)) true else Rs x m0 j
def IC (x:AK) (m0:List Bool):List Bool:=Rs x m0 x.2.2.1.length
theorem Lb {x:AK} {m0:List Bool}:∀ j,(Rs x m0 j).length=m0.length
 | 0=>rfl
 | j+1=>by unfold Rs;split<;>simp[Lb j]
theorem Zk {x:AK} {m0:List Bool} (hok:Al x=true) (hl:m0.length=A0 x):∀ j,j≤x.2.2.1.length →
 (∀ u,AX m0 u=true→AX (Rs x m0 j) u=true)∧(∀ u,AX (Rs x m0 j) u=true→∃ r,AX m0 r=true∧L4 (Aa x) (CL x) (CW x) r u) ∧
 ∀ u,A0 x - j≤u→u<A0 x→AX (Rs x m0 j) u=true→Aa x≤u→AX (Rs x m0 j) (CL x u)=true∧AX (Rs x m0 j) (CW x u)=true
 | 0,_=>⟨fun u h=>h,fun u h=>⟨u,h,.refl u⟩,fun u h1 h2=>by omega⟩
 | j+1,hj=>by
   obtain⟨h1,h2,h3⟩:=Zk hok hl j (by omega);have hlj:=Lb (x:=x) (m0:=m0) j;have hN:=Br x;unfold Rs;generalize hv:A0 x - 1 - j=v at *;by_cases hb:AX (Rs x m0 j) v=true
   · rw[if_pos hb];obtain⟨k1,k2⟩:=Eb hok v (by omega) (by omega)
     have hg:∀ u,(AX (((Rs x m0 j).set (CL x v) true).set (CW x v) true) u=true↔u=CW x v∨u=CL x v∨AX (Rs x m0 j) u=true):=fun u=>by
      rw[Gl (by simp;omega),Gl (by omega)];simp
     refine⟨fun u h=>(hg u).2 (.inr (.inr (h1 u h))),fun u h=>?_,fun u q1 q2 q3 q4=>?_⟩
     · rcases (hg u).1 h with rfl|rfl|h
       · obtain⟨r,hr,hru⟩:=h2 v hb;exact⟨r,hr,hru.snoc_b (by omega)⟩
       · obtain⟨r,hr,hru⟩:=h2 v hb;exact⟨r,hr,hru.snoc_a (by omega)⟩
       · exact h2 u h
     · by_cases huv:u=v
       · subst huv;exact⟨(hg _).2 (.inr (.inl rfl)),(hg _).2 (.inl rfl)⟩
       · rcases (hg u).1 q3 with e|e|h
         · omega
         · omega
         · obtain⟨r1,r2⟩:=h3 u (by omega) q2 h q4;exact⟨(hg _).2 (.inr (.inr r1)),(hg _).2 (.inr (.inr r2))⟩
   · rw[if_neg hb];refine⟨h1,h2,fun u q1 q2 q3 q4=>?_⟩;by_cases huv:u=v
     · subst huv;exact absurd q3 hb
     · exact h3 u (by omega) q2 q3 q4
theorem cK {x:AK} {m0:List Bool} (hok:Al x=true) (hl:m0.length=A0 x):∀ u,(AX (IC x m0) u=true↔∃ r,AX m0 r=true∧L4 (Aa x) (CL x) (CW x) r u):=by
 obtain⟨h1,h2,h3⟩:=Zk hok hl x.2.2.1.length (Nat.le_refl _);have hN:=Br x;refine YO (N:=A0 x) h2 h1 (by unfold IC;rw[Lb,hl]) (Eb hok) fun u q1 q2 q3=>h3 u (by omega) q1 q2 q3
theorem VO {x:AK} (hok:Al x=true) {v:Nat} (hv:v<A0 x):∀ u,(AX (Dr x v) u=true↔L4 (Aa x) (CL x) (CW x) v u):=fun u=>by
 obtain⟨_,h⟩:=LR (Eb hok) (v+1) v (List.replicate (A0 x) false) (by omega) hv (by simp) (fun u _ h=>by rw[IR] at h;cases h);have:=h u;rw[IR] at this;show AX (JQ (Aa x) (CL x) (CW x) (v+1) v (List.replicate (A0 x) false)) u=true↔_;simpa using this
theorem Yx {x:AK} (hok:Al x=true) {v:Nat} (hv:v<A0 x):IC x ((List.replicate (A0 x) false).set v true)=Dr x v:=by
 refine gS (by unfold IC;rw[Lb,Fq];simp) fun u=>?_;have h1:=cK (m0:=(List.replicate (A0 x) false).set v true) hok (by simp) u;have h2:=VO hok hv u;have h3:∀ r,(AX ((List.replicate (A0 x) false).set v true) r=true↔r=v):=fun r=>by rw[Gl (by simpa using hv),IR];simp
 have h4:AX (IC x ((List.replicate (A0 x) false).set v true)) u=true↔AX (Dr x v) u=true:=by
  rw[h1,h2];constructor
  · rintro⟨r,hr,hru⟩;rw[(h3 r).1 hr] at hru;exact hru
  · exact fun h=>⟨v,(h3 v).2 rfl,h⟩
 exact Bool.eq_iff_iff.2 h4
theorem SF (x:AK) (m0:List Bool) (hx:CB 1048576 x) (hok:Al x=true) (hl:m0.length=A0 x):BA Tryz.prog 84 [GC x,ZR m0] (ZR (IC x m0)):=by
 obtain⟨⟨n1,n2,n3,n4,n5,n6⟩,-,-,-⟩:=AA hok;obtain⟨hF,hgl,hNi,hno⟩:=A9 hok;have hN:=Br x;have w0:IntKind.i64.wrap ((x.2.2.1.length:Int) - 1)=(x.2.2.1.length:Int) - 1:=Ad (by omega) (by omega);refine A6 (by kernel_rfl) Tryz.func84 rfl rfl rfl ?_;simp[Ao];refine Ak L8 rfl (by simp) rfl (by simp) (fun c hc=>by obtain⟨b,_,rfl⟩:=CF.1 hc;rfl) (by simp;omega) (fun _=>Vf) ?_;simp[w0];refine AB [false,false,true,false,false,true,true] (fun j:Nat=>j≤x.2.2.1.length) (fun j:Nat=>[(6,.d (.int .i64 ((x.2.2.1.length:Int) - 1 - j)))]) (fun j:Nat=>[(2,.arr 4 true ((Rs x m0 j).map (e1 CZ)))]) (fun j:Nat=>x.2.2.1.length - j) 0 ?_ ?_ ?_
 · simp
 · exact⟨[0,1,2],by simp[Rs]⟩
 rintro I S μ hI hS hμ j hj;have hlj:=Lb (x:=x) (m0:=m0) j;obtain⟨i,hi⟩:∃ i:Int,i=(x.2.2.1.length:Int) - 1 - j:=⟨_,rfl⟩;rw[←hi];by_cases hlt:j<x.2.2.1.length
 · have hsw:Rs x m0 (j+1)=if AX (Rs x m0 j) (A0 x - 1 - j)=true then ((Rs x m0 j).set (CL x (A0 x - 1 - j)) true).set (CW x (A0 x - 1 - j)) true else Rs x m0 j:=rfl;generalize Rs x m0 j=s at *;obtain⟨v,hv⟩:∃ v,v=A0 x - 1 - j:=⟨_,rfl⟩;rw[←hv] at hsw;obtain⟨ha,a1,a2,a3,a4,a5,a6⟩:=C2 hok (v:=v) (by omega) (by omega);have hat:=DG (s:=s) (v:=v) (by omega);have w1:IntKind.i64.wrap (1+x.1+(x.2.1.length:Int)+i)=(v:Int):=by rw[Ad (by omega) (by omega)];omega
   have w2:IntKind.i64.wrap (i - 1)=(x.2.2.1.length:Int) - 1 - ((j:Int)+1):=by rw[Ad (by omega) (by omega)];omega
   have ht:i.toNat=v - Aa x:=by omega
   have hL:(At (Aj x v)).length=2:=rfl;have q1:IntKind.i64.wrap ((Aj x v).1.tdiv 2)=(CL x v:Int):=by rw[Int.tdiv_eq_ediv_of_nonneg a1,a3];exact Ad (by omega) (by omega)
   have q2:IntKind.i64.wrap ((Aj x v).2.tdiv 2)=(CW x v:Int):=by rw[Int.tdiv_eq_ediv_of_nonneg a2,a4];exact Ad (by omega) (by omega)
   simp[show (0:Int)≤i by omega];refine Ab (BJ x ⟨n1,n2⟩ n3) ?_;simp[w1,hat];rcases Ep (AX s v) with hb|hb
   · rw[hb,if_pos rfl] at hsw;have hatA:=DG (s:=s) (v:=CL x v) (by omega);have hsetA:=G3 (s:=s) (v:=CL x v) (b:=true);have hlA:(s.set (CL x v) true).length=s.length:=by simp
     generalize s.set (CL x v) true=sA at *;have hatB:=DG (s:=sA) (v:=CW x v) (by omega);have hsetB:=G3 (s:=sA) (v:=CW x v) (b:=true);generalize sA.set (CW x v) true=sB at *;simp[hb,hat,ha,ht,hL,At,q1,q2,hatA,hsetA,hatB,hsetB,w2,show ¬ i<0 by omega];exact Ae hI hS hμ (j+1) (by omega) (by omega) ⟨[0,1,2],by simp[hsw]⟩
   · rw[hb,if_neg (by simp)] at hsw;simp[hb,hat,w2];exact Ae hI hS hμ (j+1) (by omega) (by omega) ⟨[0,1,2],by simp[hsw]⟩
 · have hj':j=x.2.2.1.length:=by omega
   subst hj';have hsw:Rs x m0 x.2.2.1.length=IC x m0:=rfl;rw[hsw];simp[show ¬ (0:Int)≤i by omega,show i<0 by omega]
theorem Sj (x:AK) (v:Nat) (hx:CB 1048576 x) (hg:Kg x) (hok:Al x=true) (hv:v<A0 x):BA Tryz.prog 41 [GC x,.d (.int .i64 v)] (ints (C4 (Dr x v))):=by
 obtain⟨⟨n1,n2,n3,n4,n5,n6⟩,-,-,-⟩:=AA hok;obtain⟨hF,hgl,hNi,hno⟩:=A9 hok;have hcs:=Yx hok hv;have hcl:=Fq (x:=x) (v:=v);have hsm:=SF x ((List.replicate (A0 x) false).set v true) hx hok (by simp);have hat:=jB hv;have hset:(List.replicate (A0 x) [D.bool false]).set v [.bool true]=((List.replicate (A0 x) false).set v true).map (e1 CZ):=by rw[NS,G3]
 rw[hcs] at hsm;generalize (List.replicate (A0 x) false).set v true=m0 at *;refine A6 (by kernel_rfl) Tryz.func41 rfl rfl rfl ?_;simp[Ao];refine Ab (Cn x hx hg) ?_;simp;simp[hok,show ¬ (v:Int)<0 by omega];refine Ab (Bv x) ?_;simp[hno];simp[show ¬ A0 x≤v by omega,hv];refine Ab (Bv x) ?_;simp[hno];refine⟨by omega,?_⟩;simp[hat,hset];refine Ab (hsm) ?_;simp;have hmm:C4 (Dr x v)=CP (Dr x v) (Dr x v).length:=rfl;rw[hmm];generalize Dr x v=s at *;refine AB [false,false,false,false,false,true,true,true] (fun k:Nat=>k≤s.length) (fun k:Nat=>[(5,.ref 1),(7,.d (.int .i64 k))]) (fun k:Nat=>[(1,.arr 3 true ((CP s k).map (e1 AC)))]) (fun k:Nat=>s.length - k) 0 ?_ ?_ ?_
 · simp
 · exact⟨[0,1,2,3],by simp[CP]⟩
 rintro I S μ hI hS hμ k hk;by_cases hlt:k<s.length
 · have hat:=DG (s:=s) (v:=k) hlt;have w2:IntKind.i64.wrap ((k:Int)+1)=(k:Int)+1:=Ad (by omega) (by omega);have hd:decide (k<s.length)=true:=A8 hlt;have hnx:=J5 (s:=s) (k:=k);have hll:=LK (s:=s) (k:=k);generalize CP s k=ms at *;rcases Ep (AX s k) with hb|hb
   · rw[hb,if_pos rfl] at hnx;simp[hd,hat,hb];refine Ak As rfl (by simp) rfl (by simp) (by simp) (by first | (simp;done)|(simp;omega)) (by simp[AR,AL]) ?_;simp[w2];exact Ae hI hS hμ (k+1) (by omega) (by omega) ⟨[0,5,2,3],by simp[hnx]⟩
   · rw[hb,if_neg (by simp)] at hnx;simp[hd,hat,hb,w2];exact Ae hI hS hμ (k+1) (by omega) (by omega) ⟨[0,1,2,3],by simp[hnx]⟩
 · have hk':k=s.length:=by omega
   subst hk';simp[hlt]
theorem cE {ms cut:List Int} {k:Nat} {y:Int} (h:cut[k]? = some y):X7 ms (cut.take (k+1))=(X7 ms (cut.take k)&&Li ms y):=De h
theorem fT {ms cut:List Int} {k:Nat} {y:Int} (h:cut[k]? = some y) (hy:Li ms y=false):X7 ms cut=false:=EV (p:=fun y=>Li ms y) h hy
theorem iE {xs:List Int} {k:Nat} (h:k+1<xs.length) (hn:¬ A3 xs k<A3 xs ((k:Int)+1)):Ub xs=false:=by
 unfold Ub;rw[Bool.eq_false_iff,ne_eq,Gy];intro hh;exact hn (WL (hh k (Gu.2 (by omega))))
theorem ZA {xs:List Int} (h:∀ k:Nat,k+1<xs.length→A3 xs k<A3 xs ((k:Int)+1)):Ub xs=true :=
 Gy.2 fun j hj=>A8 (h j (by have:=Gu.1 hj;omega))
def Oe (x:AK) (cut:List Int) (v:Nat) (k:Nat) (o:List Bool):Prop :=
 o.length=A0 x∧AX o v=true∧(∀ u,AX o u=true→O9 cut u→NV (Aa x) (CL x) (CW x) cut v u)∧(∀ u,k<u→u≤v→AX o u=true→O9 cut u→Aa x≤u∧AX o (CL x u)=true∧AX o (CW x u)=true)
theorem Y0 {x:AK} {cut:List Int} {v:Nat} (hv:v<A0 x):Oe x cut v v ((List.replicate (A0 x) false).set v true):=by
 have h3:∀ r,(AX ((List.replicate (A0 x) false).set v true) r=true↔r=v):=fun r=>by rw[Gl (by simpa using hv),IR];simp
 exact⟨by simp,(h3 v).2 rfl,fun u hu ho=>by rw[(h3 u).1 hu] at ho ⊢;exact .refl ho,fun u h1 h2=>by omega⟩
theorem TH {x:AK} {cut:List Int} {v k:Nat} {o:List Bool} (h:Oe x cut v (k+1) o) (hs:¬ (AX o (k+1)=true∧O9 cut (k+1))):Oe x cut v k o:=by
 obtain⟨h1,h2,h3,h4⟩:=h;refine⟨h1,h2,h3,fun u q1 q2 q3 q4=>?_⟩;by_cases e:u=k+1
 · subst e;exact absurd ⟨q3,q4⟩ hs
 · exact h4 u (by omega) q2 q3 q4
theorem cU {x:AK} {cut:List Int} {v k:Nat} {o:List Bool} (hok:Al x=true) (hv:v<A0 x) (hk:k+1≤v) (h:Oe x cut v (k+1) o) (hs:AX o (k+1)=true) (ho:O9 cut (k+1)) (hf:Aa x≤k+1) :
 Oe x cut v k ((o.set (CL x (k+1)) true).set (CW x (k+1)) true):=by
 obtain⟨h1,h2,h3,h4⟩:=h;obtain⟨k1,k2⟩:=Eb hok (k+1) hf (by omega)
 have hg:∀ u,(AX ((o.set (CL x (k+1)) true).set (CW x (k+1)) true) u=true↔u=CW x (k+1)∨u=CL x (k+1)∨AX o u=true):=fun u=>by
  rw[Gl (by simp;omega),Gl (by omega)];simp
 refine⟨by simpa using h1,(hg v).2 (.inr (.inr h2)),fun u hu hou=>?_,fun u q1 q2 q3 q4=>?_⟩
 · rcases (hg u).1 hu with rfl|rfl|hu
   · exact (h3 _ hs ho).snoc_b hf hou
   · exact (h3 _ hs ho).snoc_a hf hou
   · exact h3 u hu hou
 · by_cases e:u=k+1
   · subst e;exact⟨hf,(hg _).2 (.inr (.inl rfl)),(hg _).2 (.inl rfl)⟩
   · rcases (hg u).1 q3 with e2|e2|hu
     · omega
     · omega
     · obtain⟨r1,r2,r3⟩:=h4 u (by omega) q2 hu q4;exact⟨r1,(hg _).2 (.inr (.inr r2)),(hg _).2 (.inr (.inr r3))⟩
theorem aM {x:AK} {cut:List Int} {v k:Nat} {o:List Bool} (h:Oe x cut v k o) {u:Nat} (hs:AX o u=true) (ho:O9 cut u) (hf:u<Aa x):aO (Aa x) (CL x) (CW x) cut v:=⟨u,h.2.2.1 u hs ho,hf⟩
theorem cP {x:AK} {cut:List Int} {v:Nat} {o:List Bool} (hok:Al x=true) (hv:v<A0 x) (h:Oe x cut v 0 o):¬ aO (Aa x) (CL x) (CW x) cut v:=by
 obtain⟨h1,h2,h3,h4⟩:=h
 have key:∀ w u,NV (Aa x) (CL x) (CW x) cut w u→w≤v→AX o w=true→Aa x≤u:=by
  intro w u h
  induction h with
  | @refl w h=>exact fun hw hs=>(h4 w (Nat.pos_of_ne_zero h.1) hw hs h).1
  | @a w u ho h r ih=>exact fun hw hs=>ih (by have:=(Eb hok w h (by omega)).1;omega) (h4 w (Nat.pos_of_ne_zero ho.1) hw hs ho).2.1
  | @b w u ho h r ih=>exact fun hw hs=>ih (by have:=(Eb hok w h (by omega)).2;omega) (h4 w (Nat.pos_of_ne_zero ho.1) hw hs ho).2.2
 rintro⟨u,hu,hf⟩;have:=key v u hu (Nat.le_refl _) h2;omega
theorem Rr (x:AK) (v:Nat) (cut:List Int) (hx:CB 1048576 x) (hg:Kg x) (hok:Al x=true) (hv:v<A0 x) (hc:cut.length≤1048576):BA Tryz.prog 98 [GC x,.d (.int .i64 v),ints cut] (.d (.bool (ID x v cut))):=by
 obtain⟨⟨n1,n2,n3,n4,n5,n6⟩,-,-,-⟩:=AA hok;obtain⟨hF,hgl,hNi,hno⟩:=A9 hok;have hN:=Br x;refine A6 (by kernel_rfl) Tryz.func98 rfl rfl rfl ?_;simp[Ao];refine Ab (Cn x hx hg) ?_;simp;simp[hok,show ¬ (v:Int)<0 by omega];refine Ab (Bv x) ?_;simp[hno];by_cases h4:cut.length≤4
 case neg=>simp[ID,h4,hv,show ¬ A0 x≤v by omega,show (4:Int)<cut.length by omega,show ¬ (cut.length:Int)≤4 by omega]
 simp[show ¬ A0 x≤v by omega,hv,show ¬ (4:Int)<cut.length by omega,show (cut.length:Int)≤4 by omega];refine Ab (Sj x v hx hg hok hv) ?_;simp
 have hml:(C4 (Dr x v)).length≤1048576:=by
  have:=LK (s:=Dr x v) (k:=(Dr x v).length);unfold C4;rw[Fq] at *;omega
 have hB:ID x v cut=(Ub cut&&X7 (C4 (Dr x v)) cut&&!(fZ x cut (v+1) v (List.replicate (A0 x) false)).1):=by simp[ID,h4]
 rw[hB];generalize C4 (Dr x v)=ms at *;refine AB [false,true,true,true,false,false,false,true,true] (fun k:Nat=>k≤cut.length∧X7 ms (cut.take k)=true∧∀ j:Nat,j+1<k→A3 cut j<A3 cut ((j:Int)+1)) (fun k:Nat=>[(8,.d (.int .i64 k))]) (fun k:Nat=>[]) (fun k:Nat=>cut.length - k) 0 ?_ ?_ ?_
 · exact⟨by omega,rfl,fun j h=>by omega⟩
 · exact⟨[0,1],by simp⟩
 rintro I S μ hI hS hμ k ⟨hk,hall,hasc⟩;by_cases hlt:k<cut.length
 · have hx1:cut[k]? = some cut[k]:=A1 hlt;have w2:IntKind.i64.wrap ((k:Int)+1)=(k:Int)+1:=Ad (by omega) (by omega);have hd:decide (k<cut.length)=true:=A8 hlt;have e1':=ML hx1;have hsn:=cE (ms:=ms) hx1;have hnt:=fT (ms:=ms) hx1;have hh:=Ju ms cut[k] (by omega);simp[hd,hx1];refine⟨by kernel_rfl,?_⟩;generalize cut[k]=y at *;refine Ab (hh) ?_;simp;rcases Ep (Li ms y) with hr|hr
   · by_cases hk0:k=0
     · subst hk0;have w20:IntKind.i64.wrap 1=1:=by decide
       simp[hr,hd,hx1,w20];exact Ae hI hS hμ 1 ⟨by omega,by rw[hsn,hall,hr];rfl,fun j h=>by omega⟩ (by omega) ⟨[0,1],by simp⟩
     · obtain⟨p,rfl⟩:∃ p,k=p+1:=⟨k - 1,by omega⟩;have hx0:cut[p]? = some (cut[p]'(by omega)):=A1 (by omega);have e0:=ML hx0;generalize cut[p]'(by omega)=z at *;have w0:IntKind.i64.wrap (p:Int)=(p:Int):=Ad (by omega) (by omega);have w3:IntKind.i64.wrap ((p:Int)+1+1)=(p:Int)+1+1:=Ad (by omega) (by omega);have ht:((p:Int)+1).toNat=p+1:=by omega
       have hd0:decide (p<cut.length)=true:=A8 (by omega);have e2:((p+1:Nat):Int)=(p:Int)+1:=by omega
       rw[e2] at e1';by_cases hv:z<y
       · simp[hr,hd,hd0,hx1,hx0,w0,ht,hv,show ¬ y≤z by omega,show (0:Int)<(p:Int)+1 by omega,show decide (0<p+1)=true from A8 (by omega),w3,show ¬ (p:Int)+1<0 by omega]
         exact Ae hI hS hμ (p+1+1) ⟨by omega,by rw[hsn,hall,hr];rfl,fun j hj=>by
          by_cases e:j=p
          · subst e;rw[e0,e1'];exact hv
          · exact hasc j (by omega)⟩ (by omega) ⟨[0,1],by simp⟩
       · have hz:Ub cut=false:=iE (k:=p) hlt (by rw[e0,e1'];exact hv);simp[hr,hd,hd0,hx1,hx0,w0,ht,hv,show y≤z by omega,show (0:Int)<(p:Int)+1 by omega,show decide (0<p+1)=true from A8 (by omega),hz,show ¬ (p:Int)+1<0 by omega]
   · have hz:=hnt hr;simp[hr,hd,hx1,hz]
 · have hk':k=cut.length:=by omega
   rw[hk',List.take_length] at hall;have has:Ub cut=true:=ZA fun j hj=>hasc j (by omega);have hE:=WA (cut:=cut) (Eb hok) hv;generalize (fZ x cut (v+1) v (List.replicate (A0 x) false)).1=r at *;simp[hlt,has,hall];refine Ab (Bv x) ?_;simp[hno];refine⟨by omega,?_⟩;have hat:=jB hv;have hset:(List.replicate (A0 x) [D.bool false]).set v [.bool true]=((List.replicate (A0 x) false).set v true).map (e1 CZ):=by rw[NS,G3]
   have hst:=Y0 (cut:=cut) hv;generalize (List.replicate (A0 x) false).set v true=o0 at *;simp[hat,hset];refine AB [false,false,true,true,false,false,false,false,false,true,true] (fun i:Nat×List Bool=>i.1≤v∧Oe x cut v i.1 i.2) (fun i:Nat×List Bool=>[(10,.d (.int .i64 i.1))]) (fun i:Nat×List Bool=>[(2,.arr 4 true (i.2.map (e1 CZ)))]) (fun i:Nat×List Bool=>i.1) (v,o0) ?_ ?_ ?_
   · exact⟨Nat.le_refl _,hst⟩
   · exact⟨[0,1,2],by simp⟩
   clear hI hS hμ hst;rintro I S μ hI hS hμ ⟨q,o⟩ ⟨hq,hsc⟩;simp only at hq hsc;have hol:=hsc.1;by_cases hq0:q=0
   · subst hq0
     have hr0:r=false:=by
      cases r with
      | false=>rfl
      | true=>exact absurd (hE.1 rfl) (cP hok hv hsc)
     subst hr0;simp
   obtain⟨k,rfl⟩:∃ k,q=k+1:=⟨q - 1,by omega⟩;have hat:=DG (s:=o) (v:=k+1) (by omega);have w4:IntKind.i64.wrap (k:Int)=(k:Int):=Ad (by omega) (by omega);have ht:((k:Int)+1).toNat=k+1:=by omega
   have h0:(0:Int)<(k:Int)+1:=by omega
   have h1:¬ (k:Int)+1<0:=by omega
   have hok0:O9 cut (k+1)↔¬ (((k:Int)+1)∈cut):=by unfold O9;simp
   rcases Ep (AX o (k+1)) with hb|hb
   case inr =>
    simp[ht,hat,hb,w4,h0,h1];exact Ae hI hS hμ (k,o) ⟨by simp;omega,TH hsc (by simp[hb])⟩ (by simp) ⟨[0,1,2],by simp⟩
   simp[ht,hat,hb,w4,h0,h1];refine Ab (Ju cut ((k:Int)+1) (by omega)) ?_;simp;rcases Ep (Li cut ((k:Int)+1)) with hm|hm
   · have hmem:((k:Int)+1)∈cut:=WL hm;simp[hm,w4];exact Ae hI hS hμ (k,o) ⟨by simp;omega,TH hsc (fun h=>(hok0.1 h.2) hmem)⟩ (by simp) ⟨[0,1,2],by simp⟩
   have hopn:O9 cut (k+1):=hok0.2 (of_decide_eq_false hm);simp[hm];refine Ab (BJ x ⟨n1,n2⟩ n3) ?_;simp;by_cases hf:k+1<Aa x
   · have hr1:r=true:=hE.2 (aM hsc hb hopn hf);subst hr1;simp[show (k:Int)+1<1+x.1+x.2.1.length by omega,show ¬ 1+x.1+(x.2.1.length:Int)≤(k:Int)+1 by omega]
   obtain⟨ha,a1,a2,a3,a4,a5,a6⟩:=C2 hok (v:=k+1) (by omega) (by omega);have w1:IntKind.i64.wrap ((k:Int)+1 - (1+x.1+x.2.1.length))=(k:Int)+1 - (1+x.1+x.2.1.length):=Ad (by omega) (by omega);have hti:((k:Int)+1 - (1+x.1+x.2.1.length)).toNat=k+1 - Aa x:=by omega
   have hL:(At (Aj x (k+1))).length=2:=rfl;have hn0:¬ (k:Int)+1 - (1+x.1+x.2.1.length)<0:=by omega
   have q1:IntKind.i64.wrap ((Aj x (k+1)).1.tdiv 2)=(CL x (k+1):Int):=by rw[Int.tdiv_eq_ediv_of_nonneg a1,a3];exact Ad (by omega) (by omega)
   have q2:IntKind.i64.wrap ((Aj x (k+1)).2.tdiv 2)=(CW x (k+1):Int):=by rw[Int.tdiv_eq_ediv_of_nonneg a2,a4];exact Ad (by omega) (by omega)
   have hnx:=cU hok hv hq hsc hb hopn (by omega);have hatA:=DG (s:=o) (v:=CL x (k+1)) (by omega);have hsetA:=G3 (s:=o) (v:=CL x (k+1)) (b:=true);have hlA:(o.set (CL x (k+1)) true).length=o.length:=by simp
   generalize o.set (CL x (k+1)) true=sA at *;have hatB:=DG (s:=sA) (v:=CW x (k+1)) (by omega);have hsetB:=G3 (s:=sA) (v:=CW x (k+1)) (b:=true);generalize sA.set (CW x (k+1)) true=sB at *;simp[show ¬ (k:Int)+1<1+x.1+x.2.1.length by omega,show 1+x.1+(x.2.1.length:Int)≤(k:Int)+1 by omega];refine⟨by kernel_rfl,?_⟩;refine Ab (BJ x ⟨n1,n2⟩ n3) ?_;simp[w1,hti,hL,hn0,ha,At,q1,q2,hatA,hsetA,hatB,hsetB,w4];exact Ae hI hS hμ (k,sB) ⟨by simp;omega,hnx⟩ (by simp) ⟨[0,1,2],by simp⟩
end Go.Proofs.YtnjedabjbeipeaaGreat
