/-
  Cones, cuts and mappings of a graph: the reference, by abstract walks.
  Conditions: those typed in each theorem.
-/
import Derived.Test.YtnjedabjbeipeaaGreatNk
namespace Go.Proofs.YtnjedabjbeipeaaGreat
open Go.RowKit Go.ChangeShapes Go.WideShapes
set_option linter.unusedSimpArgs false
set_option linter.unusedVariables false
set_option maxRecDepth 100000
set_option maxHeartbeats 10000000
attribute [local simp] Ee FE
theorem Xf {xs:List Bool}:AR (xs.map (e1 CZ)):=by
 intro c hc d hd;obtain⟨x,_,rfl⟩:=CE.1 hc;simp at hd;subst hd;rfl
theorem iZ {n v:Nat} (h:v<n):(List.replicate n [D.bool false])[v]? = some [.bool false]:=by rw[List.getElem?_replicate,if_pos h]
def QX (x:AK) (m0:List Bool):Nat→List Bool
 | 0=>m0
 | j+1=>if AX (QX x m0 j) (A0 x - 1 - j)=true then ((QX x m0 j).set (CK x (A0 x - 1 - j)) true).set (CW x (A0 x - 1 - j)) true else QX x m0 j
def IF (x:AK) (m0:List Bool):List Bool:=QX x m0 x.2.2.1.length
theorem KS {x:AK} {m0:List Bool}:∀ j,(QX x m0 j).length=m0.length
 | 0=>rfl
 | j+1=>by unfold QX;split<;>simp[KS j]
theorem ZD {x:AK} {m0:List Bool} (hok:Al x=true) (hl:m0.length=A0 x):∀ j,j≤x.2.2.1.length →
 (∀ u,AX m0 u=true→AX (QX x m0 j) u=true)∧(∀ u,AX (QX x m0 j) u=true→∃ r,AX m0 r=true∧LZ (Aa x) (CK x) (CW x) r u) ∧
 ∀ u,A0 x - j≤u→u<A0 x→AX (QX x m0 j) u=true→Aa x≤u→AX (QX x m0 j) (CK x u)=true∧AX (QX x m0 j) (CW x u)=true
 | 0,_=>⟨fun u h=>h,fun u h=>⟨u,h,.refl u⟩,fun u h1 h2=>by omega⟩
 | j+1,hj=>by
   obtain⟨h1,h2,h3⟩:=ZD hok hl j (by omega);have hlj:=KS (x:=x) (m0:=m0) j;have hN:=Br x;unfold QX;generalize hv:A0 x - 1 - j=v at *;by_cases hb:AX (QX x m0 j) v=true
   · rw[if_pos hb];obtain⟨k1,k2⟩:=Ea hok v (by omega) (by omega)
     have hg:∀ u,(AX (((QX x m0 j).set (CK x v) true).set (CW x v) true) u=true↔u=CW x v∨u=CK x v∨AX (QX x m0 j) u=true):=fun u=>by
      rw[Gj (by simp;omega),Gj (by omega)];simp
     refine⟨fun u h=>(hg u).2 (.inr (.inr (h1 u h))),fun u h=>?_,fun u q1 q2 q3 q4=>?_⟩
     · rcases (hg u).1 h with rfl|rfl|h
       · obtain⟨r,hr,hru⟩:=h2 v hb;exact⟨r,hr,hru.snoc_b (by omega)⟩
       · obtain⟨r,hr,hru⟩:=h2 v hb;exact⟨r,hr,hru.snoc_a (by omega)⟩
       · exact h2 u h
     · by_cases huv:u=v
       · subst huv;exact⟨(hg _).2 (.inr (.inl rfl)),(hg _).2 (.inl rfl)⟩
       · rcases (hg u).1 q3 with e|e|h
         · omega
         · omega
         · obtain⟨r1,r2⟩:=h3 u (by omega) q2 h q4;exact⟨(hg _).2 (.inr (.inr r1)),(hg _).2 (.inr (.inr r2))⟩
   · rw[if_neg hb];refine⟨h1,h2,fun u q1 q2 q3 q4=>?_⟩;by_cases huv:u=v
     · subst huv;exact absurd q3 hb
     · exact h3 u (by omega) q2 q3 q4
theorem eG {x:AK} {m0:List Bool} (hok:Al x=true) (hl:m0.length=A0 x):∀ u,(AX (IF x m0) u=true↔∃ r,AX m0 r=true∧LZ (Aa x) (CK x) (CW x) r u):=by
 obtain⟨h1,h2,h3⟩:=ZD hok hl x.2.2.1.length (Nat.le_refl _);have hN:=Br x;refine YE (N:=A0 x) h2 h1 (by unfold IF;rw[KS,hl]) (Ea hok) fun u q1 q2 q3=>h3 u (by omega) q1 q2 q3
theorem Vp {x:AK} (hok:Al x=true) {v:Nat} (hv:v<A0 x):∀ u,(AX (Du x v) u=true↔LZ (Aa x) (CK x) (CW x) v u):=fun u=>by
 obtain⟨_,h⟩:=LG (Ea hok) (v+1) v (List.replicate (A0 x) false) (by omega) hv (by simp) (fun u _ h=>by rw[I6] at h;cases h);have:=h u;rw[I6] at this;show AX (JU (Aa x) (CK x) (CW x) (v+1) v (List.replicate (A0 x) false)) u=true↔_;simpa using this
theorem YI {x:AK} (hok:Al x=true) {v:Nat} (hv:v<A0 x):IF x ((List.replicate (A0 x) false).set v true)=Du x v:=by
 refine gD (by unfold IF;rw[KS,Fm];simp) fun u=>?_;have h1:=eG (m0:=(List.replicate (A0 x) false).set v true) hok (by simp) u;have h2:=Vp hok hv u;have h3:∀ r,(AX ((List.replicate (A0 x) false).set v true) r=true↔r=v):=fun r=>by rw[Gj (by simpa using hv),I6];simp
 have h4:AX (IF x ((List.replicate (A0 x) false).set v true)) u=true↔AX (Du x v) u=true:=by
  rw[h1,h2];constructor
  · rintro⟨r,hr,hru⟩;rw[(h3 r).1 hr] at hru;exact hru
  · exact fun h=>⟨v,(h3 v).2 rfl,h⟩
 exact Bool.eq_iff_iff.2 h4
theorem Sd (x:AK) (m0:List Bool) (hx:CF 1048576 x) (hok:Al x=true) (hl:m0.length=A0 x):BA Tryz.prog 84 [GD x,ZL m0] (ZL (IF x m0)):=by
 obtain⟨⟨n1,n2,n3,n4,n5,n6⟩,-,-,-⟩:=AA hok;obtain⟨hF,hgl,hNi,hno⟩:=A9 hok;have hN:=Br x;have w0:IntKind.i64.wrap ((x.2.2.1.length:Int) - 1)=(x.2.2.1.length:Int) - 1:=Ad (by omega) (by omega);refine A6 (by kernel_rfl) Tryz.func84 rfl rfl rfl ?_;simp[Ao];refine Ak Mt rfl (by simp) rfl (by simp) (fun c hc=>by obtain⟨b,_,rfl⟩:=CE.1 hc;rfl) (by simp;omega) (fun _=>Xf) ?_;simp[w0];refine AB [false,false,true,false,false,true,true] (fun j:Nat=>j≤x.2.2.1.length) (fun j:Nat=>[(6,.d (.int .i64 ((x.2.2.1.length:Int) - 1 - j)))]) (fun j:Nat=>[(2,.arr 4 true ((QX x m0 j).map (e1 CZ)))]) (fun j:Nat=>x.2.2.1.length - j) 0 ?_ ?_ ?_
 · simp
 · exact⟨[0,1,2],by simp[QX]⟩
 rintro I S μ hI hS hμ j hj;have hlj:=KS (x:=x) (m0:=m0) j;obtain⟨i,hi⟩:∃ i:Int,i=(x.2.2.1.length:Int) - 1 - j:=⟨_,rfl⟩;rw[←hi];by_cases hlt:j<x.2.2.1.length
 · have hsw:QX x m0 (j+1)=if AX (QX x m0 j) (A0 x - 1 - j)=true then ((QX x m0 j).set (CK x (A0 x - 1 - j)) true).set (CW x (A0 x - 1 - j)) true else QX x m0 j:=rfl;generalize QX x m0 j=s at *;obtain⟨v,hv⟩:∃ v,v=A0 x - 1 - j:=⟨_,rfl⟩;rw[←hv] at hsw;obtain⟨ha,a1,a2,a3,a4,a5,a6⟩:=C3 hok (v:=v) (by omega) (by omega);have hat:=DG (s:=s) (v:=v) (by omega);have w1:IntKind.i64.wrap (1+x.1+(x.2.1.length:Int)+i)=(v:Int):=by rw[Ad (by omega) (by omega)];omega
   have w2:IntKind.i64.wrap (i - 1)=(x.2.2.1.length:Int) - 1 - ((j:Int)+1):=by rw[Ad (by omega) (by omega)];omega
   have ht:i.toNat=v - Aa x:=by omega
   have hL:(At (Aj x v)).length=2:=rfl;have q1:IntKind.i64.wrap ((Aj x v).1.tdiv 2)=(CK x v:Int):=by rw[Int.tdiv_eq_ediv_of_nonneg a1,a3];exact Ad (by omega) (by omega)
   have q2:IntKind.i64.wrap ((Aj x v).2.tdiv 2)=(CW x v:Int):=by rw[Int.tdiv_eq_ediv_of_nonneg a2,a4];exact Ad (by omega) (by omega)
   simp[show (0:Int)≤i by omega];refine Ab (BJ x ⟨n1,n2⟩ n3) ?_;simp[w1,hat];rcases Ep (AX s v) with hb|hb
   · rw[hb,if_pos rfl] at hsw;have hatA:=DG (s:=s) (v:=CK x v) (by omega);have hsetA:=Hg (s:=s) (v:=CK x v) (b:=true);have hlA:(s.set (CK x v) true).length=s.length:=by simp
     generalize s.set (CK x v) true=sA at *;have hatB:=DG (s:=sA) (v:=CW x v) (by omega);have hsetB:=Hg (s:=sA) (v:=CW x v) (b:=true);generalize sA.set (CW x v) true=sB at *;simp[hb,hat,ha,ht,hL,At,q1,q2,hatA,hsetA,hatB,hsetB,w2,show ¬ i<0 by omega];exact Ae hI hS hμ (j+1) (by omega) (by omega) ⟨[0,1,2],by simp[hsw]⟩
   · rw[hb,if_neg (by simp)] at hsw;simp[hb,hat,w2];exact Ae hI hS hμ (j+1) (by omega) (by omega) ⟨[0,1,2],by simp[hsw]⟩
 · have hj':j=x.2.2.1.length:=by omega
   subst hj';have hsw:QX x m0 x.2.2.1.length=IF x m0:=rfl;rw[hsw];simp[show ¬ (0:Int)≤i by omega,show i<0 by omega]
theorem Ts (x:AK) (v:Nat) (hx:CF 1048576 x) (hg:Kz x) (hok:Al x=true) (hv:v<A0 x):BA Tryz.prog 41 [GD x,.d (.int .i64 v)] (ints (C2 (Du x v))):=by
 obtain⟨⟨n1,n2,n3,n4,n5,n6⟩,-,-,-⟩:=AA hok;obtain⟨hF,hgl,hNi,hno⟩:=A9 hok;have hcs:=YI hok hv;have hcl:=Fm (x:=x) (v:=v);have hsm:=Sd x ((List.replicate (A0 x) false).set v true) hx hok (by simp);have hat:=iZ hv;have hset:(List.replicate (A0 x) [D.bool false]).set v [.bool true]=((List.replicate (A0 x) false).set v true).map (e1 CZ):=by rw[N4,Hg]
 rw[hcs] at hsm;generalize (List.replicate (A0 x) false).set v true=m0 at *;refine A6 (by kernel_rfl) Tryz.func41 rfl rfl rfl ?_;simp[Ao];refine Ab (Cr x hx hg) ?_;simp;simp[hok,show ¬ (v:Int)<0 by omega];refine Ab (Bw x) ?_;simp[hno];simp[show ¬ A0 x≤v by omega,hv];refine Ab (Bw x) ?_;simp[hno];refine⟨by omega,?_⟩;simp[hat,hset];refine Ab (hsm) ?_;simp;have hmm:C2 (Du x v)=CU (Du x v) (Du x v).length:=rfl;rw[hmm];generalize Du x v=s at *;refine AB [false,false,false,false,false,true,true,true] (fun k:Nat=>k≤s.length) (fun k:Nat=>[(5,.ref 1),(7,.d (.int .i64 k))]) (fun k:Nat=>[(1,.arr 3 true ((CU s k).map (e1 AC)))]) (fun k:Nat=>s.length - k) 0 ?_ ?_ ?_
 · simp
 · exact⟨[0,1,2,3],by simp[CU]⟩
 rintro I S μ hI hS hμ k hk;by_cases hlt:k<s.length
 · have hat:=DG (s:=s) (v:=k) hlt;have w2:IntKind.i64.wrap ((k:Int)+1)=(k:Int)+1:=Ad (by omega) (by omega);have hd:decide (k<s.length)=true:=A8 hlt;have hnx:=Kx (s:=s) (k:=k);have hll:=LB (s:=s) (k:=k);generalize CU s k=ms at *;rcases Ep (AX s k) with hb|hb
   · rw[hb,if_pos rfl] at hnx;simp[hd,hat,hb];refine Ak As rfl (by simp) rfl (by simp) (by simp) (by first | (simp;done)|(simp;omega)) (by simp[AR,AL]) ?_;simp[w2];exact Ae hI hS hμ (k+1) (by omega) (by omega) ⟨[0,5,2,3],by simp[hnx]⟩
   · rw[hb,if_neg (by simp)] at hnx;simp[hd,hat,hb,w2];exact Ae hI hS hμ (k+1) (by omega) (by omega) ⟨[0,1,2,3],by simp[hnx]⟩
 · have hk':k=s.length:=by omega
   subst hk';simp[hlt]
theorem eA {ms cut:List Int} {k:Nat} {y:Int} (h:cut[k]? = some y):X5 ms (cut.take (k+1))=(X5 ms (cut.take k)&&Li ms y):=De h
theorem iT {ms cut:List Int} {k:Nat} {y:Int} (h:cut[k]? = some y) (hy:Li ms y=false):X5 ms cut=false:=E5 (p:=fun y=>Li ms y) h hy
theorem iD {xs:List Int} {k:Nat} (h:k+1<xs.length) (hn:¬ A3 xs k<A3 xs ((k:Int)+1)):TP xs=false:=by
 unfold TP;rw[Bool.eq_false_iff,ne_eq,GA];intro hh;exact hn (Wu (hh k (Gq.2 (by omega))))
theorem ZU {xs:List Int} (h:∀ k:Nat,k+1<xs.length→A3 xs k<A3 xs ((k:Int)+1)):TP xs=true :=
 GA.2 fun j hj=>A8 (h j (by have:=Gq.1 hj;omega))
def OV (x:AK) (cut:List Int) (v:Nat) (k:Nat) (o:List Bool):Prop :=
 o.length=A0 x∧AX o v=true∧(∀ u,AX o u=true→O9 cut u→Nw (Aa x) (CK x) (CW x) cut v u)∧(∀ u,k<u→u≤v→AX o u=true→O9 cut u→Aa x≤u∧AX o (CK x u)=true∧AX o (CW x u)=true)
theorem X3 {x:AK} {cut:List Int} {v:Nat} (hv:v<A0 x):OV x cut v v ((List.replicate (A0 x) false).set v true):=by
 have h3:∀ r,(AX ((List.replicate (A0 x) false).set v true) r=true↔r=v):=fun r=>by rw[Gj (by simpa using hv),I6];simp
 exact⟨by simp,(h3 v).2 rfl,fun u hu ho=>by rw[(h3 u).1 hu] at ho ⊢;exact .refl ho,fun u h1 h2=>by omega⟩
theorem Td {x:AK} {cut:List Int} {v k:Nat} {o:List Bool} (h:OV x cut v (k+1) o) (hs:¬ (AX o (k+1)=true∧O9 cut (k+1))):OV x cut v k o:=by
 obtain⟨h1,h2,h3,h4⟩:=h;refine⟨h1,h2,h3,fun u q1 q2 q3 q4=>?_⟩;by_cases e:u=k+1
 · subst e;exact absurd ⟨q3,q4⟩ hs
 · exact h4 u (by omega) q2 q3 q4
theorem bL {x:AK} {cut:List Int} {v k:Nat} {o:List Bool} (hok:Al x=true) (hv:v<A0 x) (hk:k+1≤v) (h:OV x cut v (k+1) o) (hs:AX o (k+1)=true) (ho:O9 cut (k+1)) (hf:Aa x≤k+1) :
 OV x cut v k ((o.set (CK x (k+1)) true).set (CW x (k+1)) true):=by
 obtain⟨h1,h2,h3,h4⟩:=h;obtain⟨k1,k2⟩:=Ea hok (k+1) hf (by omega)
 have hg:∀ u,(AX ((o.set (CK x (k+1)) true).set (CW x (k+1)) true) u=true↔u=CW x (k+1)∨u=CK x (k+1)∨AX o u=true):=fun u=>by
  rw[Gj (by simp;omega),Gj (by omega)];simp
 refine⟨by simpa using h1,(hg v).2 (.inr (.inr h2)),fun u hu hou=>?_,fun u q1 q2 q3 q4=>?_⟩
 · rcases (hg u).1 hu with rfl|rfl|hu
   · exact (h3 _ hs ho).snoc_b hf hou
   · exact (h3 _ hs ho).snoc_a hf hou
   · exact h3 u hu hou
 · by_cases e:u=k+1
   · subst e;exact⟨hf,(hg _).2 (.inr (.inl rfl)),(hg _).2 (.inl rfl)⟩
   · rcases (hg u).1 q3 with e2|e2|hu
     · omega
     · omega
     · obtain⟨r1,r2,r3⟩:=h4 u (by omega) q2 hu q4;exact⟨r1,(hg _).2 (.inr (.inr r2)),(hg _).2 (.inr (.inr r3))⟩
theorem bN {x:AK} {cut:List Int} {v k:Nat} {o:List Bool} (h:OV x cut v k o) {u:Nat} (hs:AX o u=true) (ho:O9 cut u) (hf:u<Aa x):dV (Aa x) (CK x) (CW x) cut v:=⟨u,h.2.2.1 u hs ho,hf⟩
theorem dJ {x:AK} {cut:List Int} {v:Nat} {o:List Bool} (hok:Al x=true) (hv:v<A0 x) (h:OV x cut v 0 o):¬ dV (Aa x) (CK x) (CW x) cut v:=by
 obtain⟨h1,h2,h3,h4⟩:=h
 have key:∀ w u,Nw (Aa x) (CK x) (CW x) cut w u→w≤v→AX o w=true→Aa x≤u:=by
  intro w u h
  induction h with
  | @refl w h=>exact fun hw hs=>(h4 w (Nat.pos_of_ne_zero h.1) hw hs h).1
  | @a w u ho h r ih=>exact fun hw hs=>ih (by have:=(Ea hok w h (by omega)).1;omega) (h4 w (Nat.pos_of_ne_zero ho.1) hw hs ho).2.1
  | @b w u ho h r ih=>exact fun hw hs=>ih (by have:=(Ea hok w h (by omega)).2;omega) (h4 w (Nat.pos_of_ne_zero ho.1) hw hs ho).2.2
 rintro⟨u,hu,hf⟩;have:=key v u hu (Nat.le_refl _) h2;omega
theorem P7 (x:AK) (v:Nat) (cut:List Int) (hx:CF 1048576 x) (hg:Kz x) (hok:Al x=true) (hv:v<A0 x) (hc:cut.length≤1048576):BA Tryz.prog 98 [GD x,.d (.int .i64 v),ints cut] (.d (.bool (Iz x v cut))):=by
 obtain⟨⟨n1,n2,n3,n4,n5,n6⟩,-,-,-⟩:=AA hok;obtain⟨hF,hgl,hNi,hno⟩:=A9 hok;have hN:=Br x;refine A6 (by kernel_rfl) Tryz.func98 rfl rfl rfl ?_;simp[Ao];refine Ab (Cr x hx hg) ?_;simp;simp[hok,show ¬ (v:Int)<0 by omega];refine Ab (Bw x) ?_;simp[hno];by_cases h4:cut.length≤4
 case neg=>simp[Iz,h4,hv,show ¬ A0 x≤v by omega,show (4:Int)<cut.length by omega,show ¬ (cut.length:Int)≤4 by omega]
 simp[show ¬ A0 x≤v by omega,hv,show ¬ (4:Int)<cut.length by omega,show (cut.length:Int)≤4 by omega];refine Ab (Ts x v hx hg hok hv) ?_;simp
 have hml:(C2 (Du x v)).length≤1048576:=by
  have:=LB (s:=Du x v) (k:=(Du x v).length);unfold C2;rw[Fm] at *;omega
 have hB:Iz x v cut=(TP cut&&X5 (C2 (Du x v)) cut&&!(kY x cut (v+1) v (List.replicate (A0 x) false)).1):=by simp[Iz,h4]
 rw[hB];generalize C2 (Du x v)=ms at *;refine AB [false,true,true,true,false,false,false,true,true] (fun k:Nat=>k≤cut.length∧X5 ms (cut.take k)=true∧∀ j:Nat,j+1<k→A3 cut j<A3 cut ((j:Int)+1)) (fun k:Nat=>[(8,.d (.int .i64 k))]) (fun k:Nat=>[]) (fun k:Nat=>cut.length - k) 0 ?_ ?_ ?_
 · exact⟨by omega,rfl,fun j h=>by omega⟩
 · exact⟨[0,1],by simp⟩
 rintro I S μ hI hS hμ k ⟨hk,hall,hasc⟩;by_cases hlt:k<cut.length
 · have hx1:cut[k]? = some cut[k]:=A1 hlt;have w2:IntKind.i64.wrap ((k:Int)+1)=(k:Int)+1:=Ad (by omega) (by omega);have hd:decide (k<cut.length)=true:=A8 hlt;have e1':=MB hx1;have hsn:=eA (ms:=ms) hx1;have hnt:=iT (ms:=ms) hx1;have hh:=JK ms cut[k] (by omega);simp[hd,hx1];refine⟨by kernel_rfl,?_⟩;generalize cut[k]=y at *;refine Ab (hh) ?_;simp;rcases Ep (Li ms y) with hr|hr
   · by_cases hk0:k=0
     · subst hk0;have w20:IntKind.i64.wrap 1=1:=by decide
       simp[hr,hd,hx1,w20];exact Ae hI hS hμ 1 ⟨by omega,by rw[hsn,hall,hr];rfl,fun j h=>by omega⟩ (by omega) ⟨[0,1],by simp⟩
     · obtain⟨p,rfl⟩:∃ p,k=p+1:=⟨k - 1,by omega⟩;have hx0:cut[p]? = some (cut[p]'(by omega)):=A1 (by omega);have e0:=MB hx0;generalize cut[p]'(by omega)=z at *;have w0:IntKind.i64.wrap (p:Int)=(p:Int):=Ad (by omega) (by omega);have w3:IntKind.i64.wrap ((p:Int)+1+1)=(p:Int)+1+1:=Ad (by omega) (by omega);have ht:((p:Int)+1).toNat=p+1:=by omega
       have hd0:decide (p<cut.length)=true:=A8 (by omega);have e2:((p+1:Nat):Int)=(p:Int)+1:=by omega
       rw[e2] at e1';by_cases hv:z<y
       · simp[hr,hd,hd0,hx1,hx0,w0,ht,hv,show ¬ y≤z by omega,show (0:Int)<(p:Int)+1 by omega,show decide (0<p+1)=true from A8 (by omega),w3,show ¬ (p:Int)+1<0 by omega]
         exact Ae hI hS hμ (p+1+1) ⟨by omega,by rw[hsn,hall,hr];rfl,fun j hj=>by
          by_cases e:j=p
          · subst e;rw[e0,e1'];exact hv
          · exact hasc j (by omega)⟩ (by omega) ⟨[0,1],by simp⟩
       · have hz:TP cut=false:=iD (k:=p) hlt (by rw[e0,e1'];exact hv);simp[hr,hd,hd0,hx1,hx0,w0,ht,hv,show y≤z by omega,show (0:Int)<(p:Int)+1 by omega,show decide (0<p+1)=true from A8 (by omega),hz,show ¬ (p:Int)+1<0 by omega]
   · have hz:=hnt hr;simp[hr,hd,hx1,hz]
 · have hk':k=cut.length:=by omega
   rw[hk',List.take_length] at hall;have has:TP cut=true:=ZU fun j hj=>hasc j (by omega);have hE:=Wf (cut:=cut) (Ea hok) hv;generalize (kY x cut (v+1) v (List.replicate (A0 x) false)).1=r at *;simp[hlt,has,hall];refine Ab (Bw x) ?_;simp[hno];refine⟨by omega,?_⟩;have hat:=iZ hv;have hset:(List.replicate (A0 x) [D.bool false]).set v [.bool true]=((List.replicate (A0 x) false).set v true).map (e1 CZ):=by rw[N4,Hg]
   have hst:=X3 (cut:=cut) hv;generalize (List.replicate (A0 x) false).set v true=o0 at *;simp[hat,hset];refine AB [false,false,true,true,false,false,false,false,false,true,true] (fun i:Nat×List Bool=>i.1≤v∧OV x cut v i.1 i.2) (fun i:Nat×List Bool=>[(10,.d (.int .i64 i.1))]) (fun i:Nat×List Bool=>[(2,.arr 4 true (i.2.map (e1 CZ)))]) (fun i:Nat×List Bool=>i.1) (v,o0) ?_ ?_ ?_
   · exact⟨Nat.le_refl _,hst⟩
   · exact⟨[0,1,2],by simp⟩
   clear hI hS hμ hst;rintro I S μ hI hS hμ ⟨q,o⟩ ⟨hq,hsc⟩;simp only at hq hsc;have hol:=hsc.1;by_cases hq0:q=0
   · subst hq0
     have hr0:r=false:=by
      cases r with
      | false=>rfl
      | true=>exact absurd (hE.1 rfl) (dJ hok hv hsc)
     subst hr0;simp
   obtain⟨k,rfl⟩:∃ k,q=k+1:=⟨q - 1,by omega⟩;have hat:=DG (s:=o) (v:=k+1) (by omega);have w4:IntKind.i64.wrap (k:Int)=(k:Int):=Ad (by omega) (by omega);have ht:((k:Int)+1).toNat=k+1:=by omega
   have h0:(0:Int)<(k:Int)+1:=by omega
   have h1:¬ (k:Int)+1<0:=by omega
   have hok0:O9 cut (k+1)↔¬ (((k:Int)+1)∈cut):=by unfold O9;simp
   rcases Ep (AX o (k+1)) with hb|hb
   case inr =>
    simp[ht,hat,hb,w4,h0,h1];exact Ae hI hS hμ (k,o) ⟨by simp;omega,Td hsc (by simp[hb])⟩ (by simp) ⟨[0,1,2],by simp⟩
   simp[ht,hat,hb,w4,h0,h1];refine Ab (JK cut ((k:Int)+1) (by omega)) ?_;simp;rcases Ep (Li cut ((k:Int)+1)) with hm|hm
   · have hmem:((k:Int)+1)∈cut:=Wu hm;simp[hm,w4];exact Ae hI hS hμ (k,o) ⟨by simp;omega,Td hsc (fun h=>(hok0.1 h.2) hmem)⟩ (by simp) ⟨[0,1,2],by simp⟩
   have hopn:O9 cut (k+1):=hok0.2 (of_decide_eq_false hm);simp[hm];refine Ab (BJ x ⟨n1,n2⟩ n3) ?_;simp;by_cases hf:k+1<Aa x
   · have hr1:r=true:=hE.2 (bN hsc hb hopn hf);subst hr1;simp[show (k:Int)+1<1+x.1+x.2.1.length by omega,show ¬ 1+x.1+(x.2.1.length:Int)≤(k:Int)+1 by omega]
   obtain⟨ha,a1,a2,a3,a4,a5,a6⟩:=C3 hok (v:=k+1) (by omega) (by omega);have w1:IntKind.i64.wrap ((k:Int)+1 - (1+x.1+x.2.1.length))=(k:Int)+1 - (1+x.1+x.2.1.length):=Ad (by omega) (by omega);have hti:((k:Int)+1 - (1+x.1+x.2.1.length)).toNat=k+1 - Aa x:=by omega
   have hL:(At (Aj x (k+1))).length=2:=rfl;have hn0:¬ (k:Int)+1 - (1+x.1+x.2.1.length)<0:=by omega
   have q1:IntKind.i64.wrap ((Aj x (k+1)).1.tdiv 2)=(CK x (k+1):Int):=by rw[Int.tdiv_eq_ediv_of_nonneg a1,a3];exact Ad (by omega) (by omega)
   have q2:IntKind.i64.wrap ((Aj x (k+1)).2.tdiv 2)=(CW x (k+1):Int):=by rw[Int.tdiv_eq_ediv_of_nonneg a2,a4];exact Ad (by omega) (by omega)
   have hnx:=bL hok hv hq hsc hb hopn (by omega);have hatA:=DG (s:=o) (v:=CK x (k+1)) (by omega);have hsetA:=Hg (s:=o) (v:=CK x (k+1)) (b:=true);have hlA:(o.set (CK x (k+1)) true).length=o.length:=by simp
   generalize o.set (CK x (k+1)) true=sA at *;have hatB:=DG (s:=sA) (v:=CW x (k+1)) (by omega);have hsetB:=Hg (s:=sA) (v:=CW x (k+1)) (b:=true);generalize sA.set (CW x (k+1)) true=sB at *;simp[show ¬ (k:Int)+1<1+x.1+x.2.1.length by omega,show 1+x.1+(x.2.1.length:Int)≤(k:Int)+1 by omega];refine⟨by kernel_rfl,?_⟩;refine Ab (BJ x ⟨n1,n2⟩ n3) ?_;simp[w1,hti,hL,hn0,ha,At,q1,q2,hatA,hsetA,hatB,hsetB,w4];exact Ae hI hS hμ (k,sB) ⟨by simp;omega,hnx⟩ (by simp) ⟨[0,1,2],by simp⟩
end Go.Proofs.YtnjedabjbeipeaaGreat
