/-
  Cubes and covers by the reference, by abstract walks.
  Conditions: those typed in each theorem.
-/
import Derived.Test.YtnjedabjbeipeaaGreatTg
namespace Go.Proofs.YtnjedabjbeipeaaGreat
open Go.RowKit Go.ChangeShapes Go.WideShapes
set_option linter.unusedSimpArgs false
set_option linter.unusedVariables false
set_option maxRecDepth 100000
set_option maxHeartbeats 10000000
abbrev icb (c:Ai):X:=.agg [.int .i64 c.1,.int .i64 c.2]
abbrev fH (L:List Ai):X:=.d (.sl 133 (L.map At))
abbrev itb (n:Nat) (b:Int):X:=.agg [.int .i64 (n:Int),.int .i64 b]
theorem Xu (n:Nat) (c:Ai) (hn:n≤4):BA Tryz.prog 120 [.d (.int .i64 (n:Int)),icb c] (.d (.bool (Ld n c))):=by
 have k0:=EX (n:Int) 0 4;rw[AP.2 (by omega:(0:Int)≤n∧(n:Int)≤4)] at k0;have hsh:=K3 (n:=n) (by omega);have h2:=JF hn;have k1:=EX c.1 0 (((2 ^ n:Nat):Int) - 1);have k2:=EX c.2 0 (((2 ^ n:Nat):Int) - 1);have hC:Ld n c=(DX c.1 0 (((2 ^ n:Nat):Int) - 1)&&(DX c.2 0 (((2 ^ n:Nat):Int) - 1)&&(FK c.2 c.1==0))):=rfl;rw[hC];clear hC;generalize 2 ^ n=N at *;have w1:IntKind.i64.wrap ((N:Int) - 1)=(N:Int) - 1:=Ad (by omega) (by omega);generalize DX c.1 0 ((N:Int) - 1)=r1 at *;generalize DX c.2 0 ((N:Int) - 1)=r2 at *;refine B7 (by kernel_rfl) Tryz.func120 rfl rfl rfl ?_
 cases r1 with
 | false =>
   simp;refine AH 26 (by kernel_rfl) ?_;simp;refine Ab (k0) ?_;simp[hsh,w1];refine Ab (k1) ?_;simp
 | true =>
   cases r2 with
   | false =>
     simp;refine AH 26 (by kernel_rfl) ?_;simp;refine Ab (k0) ?_;simp[hsh,w1];refine Ab (k1) ?_;simp[hsh,w1];refine Ab (k2) ?_;simp
   | true =>
     simp;refine AH 26 (by kernel_rfl) ?_;simp;refine Ab (k0) ?_;simp[hsh,w1];refine Ab (k1) ?_;simp[hsh,w1];refine Ab (k2) ?_;simp
theorem aI (n:Nat) (b:Int) (c:Ai) (hn:n≤4):BA Tryz.prog 119 [itb n b,icb c] (.d (.bool (JQ n b c))):=by
 have hsh:=K3 (n:=n) (by omega);have h2:=JF hn;have hno:=fun i hi h=>mN (n:=n) (b:=b) (c:=c) (i:=i) hi h;have hye:=eY (n:=n) (b:=b) (c:=c);generalize JQ n b c=R at *;generalize 2 ^ n=N at *;refine A6 (by kernel_rfl) Tryz.func119 rfl rfl rfl ?_;simp;refine AJ [false,false,true,true,false,true] (fun i:Nat=>i≤N∧∀ j,j<i→Qk b c j=false) (fun i:Nat=>[(5,.d (.int .i64 i))]) (fun i:Nat=>fun sl=>sl) (fun i:Nat=>N - i) 0 ?_ ?_ ?_
 · exact⟨Nat.zero_le _,fun j hj=>absurd hj (by omega)⟩
 · exact⟨[0,1],by simp⟩
 rintro I S μ hI hS hμ i ⟨hi,hall⟩;by_cases hlt:i<N
 · have w1:IntKind.i64.wrap ((i:Int)+1)=(i:Int)+1:=Ad (by omega) (by omega);have hb:Qk b c i=((C0 (i:Int) c.1==c.2)&&(C0 (DD b (i:Int)) 1==0)):=rfl
   have hnx:Qk b c i=false→∀ j,j<i+1→Qk b c j=false:=fun e j hj=>by
    by_cases h:j=i
    · rw[h];exact e
    · exact hall j (by omega)
   rcases Ep (C0 (i:Int) c.1==c.2) with h1|h1
   · rcases Ep (C0 (DD b (i:Int)) 1==0) with h3|h3
     · rw[h1,h3] at hb;have hR:=hno i hlt hb;subst hR;simp[hsh,hlt,h1,h3]
     · rw[h1,h3] at hb;simp[hsh,hlt,h1,h3,w1];exact Ae hI hS hμ (i+1) ⟨by omega,hnx hb⟩ (by omega) ⟨[0,1],by simp⟩
   · rw[h1,Bool.false_and] at hb;simp[hsh,hlt,h1,w1];exact Ae hI hS hμ (i+1) ⟨by omega,hnx hb⟩ (by omega) ⟨[0,1],by simp⟩
 obtain rfl:i=N:=by omega
 have hR:=hye hall;subst hR;simp[hsh,hlt]
theorem QT (n:Nat) (L:List Ai) (hn:n≤4) (hl:L.length≤1048576):BA Tryz.prog 114 [.d (.int .i64 (n:Int)),fH L] (.d (.bool (Cm n L))):=by
 have k0:=EX (n:Int) 0 4;rw[AP.2 (by omega:(0:Int)≤n∧(n:Int)≤4)] at k0;refine A6 (by kernel_rfl) Tryz.func114 rfl rfl rfl ?_;simp;refine Ab (k0) ?_;simp;by_cases h81:L.length≤81
 case neg =>
  have hf:Cm n L=false:=by unfold Cm;rw[BH h81];rfl
  simp[show (81:Int)<(L.length:Int) by omega,show ¬ (L.length:Int)≤81 by omega,hf]
 have hC:Cm n L=L.all (Ld n):=by unfold Cm;rw[A8 h81];rfl
 rw[hC];simp[show ¬ (81:Int)<(L.length:Int) by omega,show (L.length:Int)≤81 by omega];refine AJ [true,true,false,false,false,true] (fun i:Nat=>i≤L.length∧(L.take i).all (Ld n)=true) (fun i:Nat=>[(5,.d (.int .i64 i))]) (fun i:Nat=>fun sl=>sl) (fun i:Nat=>L.length - i) 0 ?_ ?_ ?_
 · exact⟨Nat.zero_le _,by simp⟩
 · exact⟨[],by simp⟩
 rintro I S μ hI hS hμ i ⟨hi,hall⟩;by_cases hlt:i<L.length
 · obtain⟨c,hc⟩:∃ c,L[i]? = some c:=⟨_,A1 hlt⟩;have kc:=Xu n c hn;have hL:(At c).length=2:=rfl;have w1:IntKind.i64.wrap ((i:Int)+1)=(i:Int)+1:=Ad (by omega) (by omega)
   cases hk:Ld n c with
   | false =>
     rw[hk] at kc;rw[E5 hc hk];simp[A8 hlt,hc,hL,At];refine Ab (kc) ?_;simp
   | true =>
     rw[hk] at kc;simp[A8 hlt,hc,hL,At];refine Ab (kc) ?_;simp[w1];exact Ae hI hS hμ (i+1) ⟨by omega,by rw[De hc,hall,hk];rfl⟩ (by omega) ⟨[],by simp⟩
 obtain rfl:i=L.length:=by omega
 rw[List.take_length] at hall;simp[hlt,BH hlt,hall]
theorem SV (n:Nat) (L:List Ai) (hn:n≤4) (hl:L.length≤1000):BA Tryz.prog 103 [.d (.int .i64 (n:Int)),fH L] (.d (.int .i64 (IZ n L))):=by
 have k0:=QT n L hn (by omega);have hV:IZ n L=if Cm n L=true then L4 n L L.length else -1:=rfl;generalize IZ n L=V at *;refine A6 (by kernel_rfl) Tryz.func103 rfl rfl rfl ?_;simp;refine Ab (k0) ?_;simp
 cases hk:Cm n L with
 | false =>
   rw[hk,if_neg (by simp)] at hV;simp[hV]
 | true =>
 rw[hk,if_pos rfl] at hV;subst hV;simp;refine AJ [true,true,false,false,false,true,true] (fun i:Nat=>i≤L.length) (fun i:Nat=>[(5,.d (.int .i64 (L4 n L i))),(6,.d (.int .i64 i))]) (fun i:Nat=>fun sl=>sl) (fun i:Nat=>L.length - i) 0 ?_ ?_ ?_
 · exact Nat.zero_le _
 · exact⟨[],by simp[L4]⟩
 rintro I S μ hI hS hμ i hi;by_cases hlt:i<L.length
 · obtain⟨c,hc⟩:∃ c,L[i]? = some c:=⟨_,A1 hlt⟩;have hL:(At c).length=2:=rfl;have hst:L4 n L (i+1)=L4 n L i+NV c n:=by rw[L4,hc];rfl
   have hr:=Wy (n:=n) (L:=L) i
   have hr2:L4 n L i≤4000:=by
    have h1:(n:Int)*i≤4*i:=Int.mul_le_mul_of_nonneg_right (by omega) (by omega);omega
   have w1:IntKind.i64.wrap ((i:Int)+1)=(i:Int)+1:=Ad (by omega) (by omega);obtain⟨t2,ht2⟩:∃ t2,L4 n L (i+1)=t2:=⟨_,rfl⟩;rw[ht2] at hst;generalize L4 n L i=t1 at *;simp[A8 hlt];refine AJ [true,true,false,false,false,true,true,true] (fun k:Nat=>k≤n) (fun k:Nat=>[(5,.d (.int .i64 (t1+NV c k))),(7,.d (.int .i64 k))]) (fun k:Nat=>fun sl=>sl) (fun k:Nat=>n - k) 0 ?_ ?_ ?_
   · exact Nat.zero_le _
   · exact⟨[],by simp[NV]⟩
   rintro I2 S2 μ2 hI2 hS2 hμ2 k hk2;have hcr:=L8 (c:=c) k;by_cases hlt2:k<n
   · have hst2:NV c (k+1)=NV c k+C0 (DD c.1 (k:Int)) 1:=rfl;have hcr2:=L8 (c:=c) (k+1);have w2:IntKind.i64.wrap ((k:Int)+1)=(k:Int)+1:=Ad (by omega) (by omega);have w3:IntKind.i64.wrap (t1+NV c k+C0 (DD c.1 (k:Int)) 1)=t1+NV c (k+1):=by rw[Ad (by omega) (by omega)];omega
     simp[hlt2,hc,hL,At,w2,w3];exact Ae hI2 hS2 hμ2 (k+1) (by omega) (by omega) ⟨[],by simp⟩
   obtain rfl:k=n:=by omega
   rw[←hst];simp[hlt2,w1];exact Ae hI hS hμ (i+1) (by omega) (by omega) ⟨[],by simp[ht2]⟩
 obtain rfl:i=L.length:=by omega
 simp[hlt,BH hlt]
theorem eU (n:Nat) (L:List Ai) (skip:Int) (hn:n≤4) (hl:L.length≤1000):BA Tryz.prog 112 [.d (.int .i64 (n:Int)),fH L,.d (.int .i64 skip)] (.agg [.int .i64 (n:Int),.int .i64 (JX L skip (2 ^ n))]):=by
 have hsh:=K3 (n:=n) (by omega);have h2:=JF hn;generalize 2 ^ n=N at *;refine B7 (by kernel_rfl) Tryz.func112 rfl rfl rfl ?_;simp;refine AJ [true,true,true,false,false,false,true,true,true] (fun i:Nat=>i≤N) (fun i:Nat=>[(8,.d (.int .i64 i))]) (fun i:Nat=>fun sl=>sl.take 1++[.var 118 [.d (.int .i64 (n:Int)),.d (.int .i64 (JX L skip i))]]) (fun i:Nat=>N - i) 0 ?_ ?_ ?_
 · exact Nat.zero_le _
 · exact⟨[0,1],by simp[JX]⟩
 rintro I S μ hI hS hμ i hi;by_cases hlt:i<N
 · have hst:JX L skip (i+1)=if fJ L skip i=true then JX L skip i+ES 1 (i:Int) else JX L skip i:=rfl;have hr:=Wr (cs:=L) (skip:=skip) i (by omega);have hp16:2 ^ i≤2 ^ 16:=qF (by decide) (by omega);have hp16':2 ^ 16=65536:=rfl;have hsi:=K3 (n:=i) (by omega);have w1:IntKind.i64.wrap ((i:Int)+1)=(i:Int)+1:=Ad (by omega) (by omega);have w3:IntKind.i64.wrap (JX L skip i+ES 1 (i:Int))=JX L skip i+ES 1 (i:Int):=by rw[hsi];exact Ad (by omega) (by omega)
   obtain⟨t2,ht2⟩:∃ t2,JX L skip (i+1)=t2:=⟨_,rfl⟩;rw[ht2] at hst;generalize JX L skip i=t1 at *;simp[hsh,hlt];refine AJ [true,true,true,false,false,false,true,true,true,true] (fun k:Nat=>k≤L.length∧∀ j,j<k→Vm L skip i j=false) (fun k:Nat=>[(9,.d (.int .i64 k))]) (fun k:Nat=>fun sl=>sl) (fun k:Nat=>L.length - k) 0 ?_ ?_ ?_
   · exact⟨Nat.zero_le _,fun j hj=>absurd hj (by omega)⟩
   · exact⟨[0,1],by simp⟩
   rintro I2 S2 μ2 hI2 hS2 hμ2 k ⟨hk,hall⟩;by_cases hlt2:k<L.length
   · obtain⟨c,hc⟩:∃ c,L[k]? = some c:=⟨_,A1 hlt2⟩;have hL:(At c).length=2:=rfl;have hh:Vm L skip i k=(!((k:Int)==skip)&&(C0 (i:Int) c.1==c.2)):=by unfold Vm;rw[hc];rfl
     have w2:IntKind.i64.wrap ((k:Int)+1)=(k:Int)+1:=Ad (by omega) (by omega)
     have hnx:Vm L skip i k=false→∀ j,j<k+1→Vm L skip i j=false:=fun e j hj=>by
      by_cases h:j=k
      · rw[h];exact e
      · exact hall j (by omega)
     rcases Ep ((k:Int)==skip) with h1|h1
     · rw[h1] at hh;have hne:((k:Int) != skip)=false:=by simp[bne,h1]
       simp[A8 hlt2];refine AH 18 (by kernel_rfl) ?_;simp[hne,h1,w2];exact Ae hI2 hS2 hμ2 (k+1) ⟨by omega,hnx (by rw[hh];rfl)⟩ (by omega) ⟨[0,1],by simp⟩
     · have hne:((k:Int) != skip)=true:=by simp[bne,h1]
       rcases Ep (C0 (i:Int) c.1==c.2) with h3|h3
       · rw[h1,h3] at hh;rw[if_pos (nE hlt2 hh)] at hst;simp[A8 hlt2];refine AH 18 (by kernel_rfl) ?_;simp[hne,h1,h3,hc,hL,At];refine AH 6 (by kernel_rfl) ?_;simp[w3,w1];exact Ae hI hS hμ (i+1) (by omega) (by omega) ⟨[0,1],by simp[ht2,hst]⟩
       · rw[h1,h3] at hh;simp[A8 hlt2];refine AH 18 (by kernel_rfl) ?_;simp[hne,h1,h3,hc,hL,At,w2];exact Ae hI2 hS2 hμ2 (k+1) ⟨by omega,hnx (by rw[hh];rfl)⟩ (by omega) ⟨[0,1],by simp⟩
   obtain rfl:k=L.length:=by omega
   rw[pT hall,if_neg (by simp)] at hst;simp[hlt2,BH hlt2,w1];exact Ae hI hS hμ (i+1) (by omega) (by omega) ⟨[0,1],by simp[ht2,hst]⟩
 obtain rfl:i=N:=by omega
 simp[hsh,hlt]
theorem WG (n:Nat) (b:Int) (h:DE n b=true):BA Tryz.prog 110 [itb n b] (fH (HZ n b)):=by
 have hn:=PR h;have k0:=Jk (n:Int) b;rw[h] at k0;have hsh:=K3 (n:=n) (by omega);have h2:=JF hn;have kI:=fun c=>aI n b c hn;have hpl:=fun ca=>Po (b:=b) hn ca;have hst0:∀ ca,Xy n b (ca+1)=Xy n b ca++UZ n b ca (2 ^ n):=fun ca=>rfl;unfold HZ;generalize 2 ^ n=N at *;refine B7 (by kernel_rfl) Tryz.func110 rfl rfl rfl ?_;simp;refine Ab (k0) ?_;simp;refine AJ [false,true,false,true,true] (fun ca:Nat=>ca≤N) (fun ca:Nat=>[(3,.ref 1),(4,.d (.int .i64 ca))]) (fun ca:Nat=>fun sl=>sl.take 1++[.arr 133 true ((Xy n b ca).map At)]) (fun ca:Nat=>N - ca) 0 ?_ ?_ ?_
 · exact Nat.zero_le _
 · exact⟨[0,1],by simp[Xy]⟩
 rintro I S μ hI hS hμ ca hca;by_cases hlt:ca<N
 · have hst:=hst0 ca;have hcl:=hpl ca;obtain⟨s2,hs2⟩:∃ s2,Xy n b (ca+1)=s2:=⟨_,rfl⟩;rw[hs2] at hst;generalize Xy n b ca=s1 at *;have w1:IntKind.i64.wrap ((ca:Int)+1)=(ca:Int)+1:=Ad (by omega) (by omega);simp[hsh,hlt];refine AJ [false,true,false,true,true,true] (fun v:Nat=>v≤N) (fun v:Nat=>[(3,.ref 1),(5,.d (.int .i64 v))]) (fun v:Nat=>fun sl=>sl.take 1++[.arr 133 true (s1.map At++(UZ n b ca v).map At)]) (fun v:Nat=>N - v) 0 ?_ ?_ ?_
   · exact Nat.zero_le _
   · exact⟨[0,1],by simp[UZ]⟩
   rintro I2 S2 μ2 hI2 hS2 hμ2 v hv;have hvl:=Us (n:=n) (b:=b) (ca:=ca) v;by_cases hlt2:v<N
   · have hsv:UZ n b ca (v+1)=if iC n b ((ca:Int),(v:Int))=true then UZ n b ca v++[((ca:Int),(v:Int))] else UZ n b ca v:=rfl;have hkc:iC n b ((ca:Int),(v:Int))=((FK (v:Int) (ca:Int)==0)&&(JQ n b ((ca:Int),(v:Int))&&RF n b ((ca:Int),(v:Int)) n)):=rfl;have kI0:=kI ((ca:Int),(v:Int));have w2:IntKind.i64.wrap ((v:Int)+1)=(v:Int)+1:=Ad (by omega) (by omega);obtain⟨p2,hp2⟩:∃ p2,UZ n b ca (v+1)=p2:=⟨_,rfl⟩;rw[hp2] at hsv;generalize UZ n b ca v=p1 at *;rcases Ep (FK (v:Int) (ca:Int)==0) with h1|h1
     · have hne:(FK (v:Int) (ca:Int) != 0)=false:=by simp[bne,h1]
       cases hI3:JQ n b ((ca:Int),(v:Int)) with
       | false =>
         rw[h1,hI3] at hkc;rw[hkc,if_neg (by simp)] at hsv;rw[hI3] at kI0;simp[hsh,hlt2,hne,h1];refine Ab (kI0) ?_;simp[w2];exact Ae hI2 hS2 hμ2 (v+1) (by omega) (by omega) ⟨[0,1],by simp[hp2,hsv]⟩
       | true =>
         rw[h1,hI3,Bool.true_and,Bool.true_and] at hkc;rw[hI3] at kI0;rw[hkc] at hsv;simp[hsh,hlt2,hne,h1];refine Ab (kI0) ?_;simp;refine AJ [false,true,false,true,true,true,true,true,true] (fun k:Nat=>k≤n) (fun k:Nat=>[(7,.d (.bool (RF n b ((ca:Int),(v:Int)) k))),(8,.d (.int .i64 k))]) (fun k:Nat=>fun sl=>sl) (fun k:Nat=>n - k) 0 ?_ ?_ ?_
         · exact Nat.zero_le _
         · exact⟨[0,1,2],by simp[RF]⟩
         rintro I3 S3 μ3 hI3' hS3 hμ3 k hk;by_cases hlt3:k<n
         · have hpk:RF n b ((ca:Int),(v:Int)) (k+1)=(RF n b ((ca:Int),(v:Int)) k&&qU n b ((ca:Int),(v:Int)) k):=rfl;have hps:qU n b ((ca:Int),(v:Int)) k=!((C0 (DD (ca:Int) (k:Int)) 1==1)&&JQ n b (U2 ((ca:Int),(v:Int)) k)):=rfl;have kI4:=kI (U2 ((ca:Int),(v:Int)) k);have hlc:icb (U2 ((ca:Int),(v:Int)) k)=.agg [.int .i64 (FK (ca:Int) (ES 1 (k:Int))),.int .i64 (FK (v:Int) (ES 1 (k:Int)))]:=rfl;rw[hlc] at kI4;have w3:IntKind.i64.wrap ((k:Int)+1)=(k:Int)+1:=Ad (by omega) (by omega);obtain⟨q2,hq2⟩:∃ q2,RF n b ((ca:Int),(v:Int)) (k+1)=q2:=⟨_,rfl⟩;rw[hq2] at hpk;generalize RF n b ((ca:Int),(v:Int)) k=q1 at *;rcases Ep (C0 (DD (ca:Int) (k:Int)) 1==1) with h4|h4
           · cases hI4:JQ n b (U2 ((ca:Int),(v:Int)) k) with
             | false =>
               rw[h4,hI4] at hps;rw[hps] at hpk;rw[hI4] at kI4;simp[hlt3];refine AH 18 (by kernel_rfl) ?_;simp[h4];refine Ab (kI4) ?_;simp[w3];exact Ae hI3' hS3 hμ3 (k+1) (by omega) (by omega) ⟨[0,1,2],by simp[hq2,hpk]⟩
             | true =>
               rw[h4,hI4] at hps;rw[hps] at hpk;rw[hI4] at kI4;simp[hlt3];refine AH 18 (by kernel_rfl) ?_;simp[h4];refine Ab (kI4) ?_;simp[w3];exact Ae hI3' hS3 hμ3 (k+1) (by omega) (by omega) ⟨[0,1,2],by simp[hq2,hpk]⟩
           · rw[h4] at hps;rw[hps] at hpk;simp[hlt3];refine AH 18 (by kernel_rfl) ?_;simp[h4,w3];exact Ae hI3' hS3 hμ3 (k+1) (by omega) (by omega) ⟨[0,1,2],by simp[hq2,hpk]⟩
         obtain rfl:k=n:=by omega
         generalize RF k b ((ca:Int),(v:Int)) k=q at *
         cases q with
         | false =>
           rw[if_neg (by simp)] at hsv;simp[hlt3,w2];exact Ae hI2 hS2 hμ2 (v+1) (by omega) (by omega) ⟨[0,1],by simp[hp2,hsv]⟩
         | true =>
           rw[if_pos rfl] at hsv;have hsvm:p2.map At=p1.map At++[[.int .i64 (ca:Int),.int .i64 (v:Int)]]:=by rw[hsv,Gh];rfl
           simp[hlt3];refine Ak Nb rfl (by simp) rfl (by simp) (by simp) (by first | (simp;done)|(simp;omega)) (by simp[AR,AL]) ?_;simp[w2];exact Ae hI2 hS2 hμ2 (v+1) (by omega) (by omega) ⟨[0,4],by simp[hp2,hsvm]⟩
     · rw[h1] at hkc;rw[hkc,Bool.false_and,if_neg (by simp)] at hsv;have hne:(FK (v:Int) (ca:Int) != 0)=true:=by simp[bne,h1]
       simp[hsh,hlt2,hne,h1,w2];exact Ae hI2 hS2 hμ2 (v+1) (by omega) (by omega) ⟨[0,1],by simp[hp2,hsv]⟩
   obtain rfl:v=N:=by omega
   have hsm:s2.map At=s1.map At++(UZ n b ca v).map At:=by rw[hst,Gh]
   simp[hsh,hlt2,w1];exact Ae hI hS hμ (ca+1) (by omega) (by omega) ⟨[0,1],by simp[hs2,hsm]⟩
 obtain rfl:ca=N:=by omega
 simp[hsh,hlt]
theorem Sp {es:List (List D)} (h:∀ c∈es,∃ x:Ai,c=At x):(∀ c∈es,c.length=2)∧AR es:=by
 refine⟨fun c hc=>?_,fun c hc d hd=>?_⟩
 · obtain⟨x,rfl⟩:=h c hc;rfl
 · obtain⟨x,rfl⟩:=h c hc;simp only[At,e2,AC,List.mem_cons,List.not_mem_nil,or_false] at hd;rcases hd with rfl|rfl<;>rfl
theorem Sf (n:Nat) (b:Int) (h:DE n b=true):CM Tryz.prog 101 [.agg [.d (.int .i64 (n:Int)),.d (.int .i64 b)]] [] (.d (.sl 133 ((Hl n b).map At))) []:=by
 have hn:=PR h;have k0:=Jk (n:Int) b;rw[h] at k0;have kP:=WG n b h
 have hpl:(HZ n b).length≤256:=by
  have h1:=Po (b:=b) hn (2 ^ n);have h2:=(JF hn).2;show (Xy n b (2 ^ n)).length≤256;generalize 2 ^ n=N at *;omega
 obtain⟨R,hR⟩:∃ R,Hl n b=R:=⟨_,rfl⟩;have hR2:=hR;unfold Hl at hR2;rw[hR];generalize HZ n b=P at *;have w0:IntKind.i64.wrap ((P.length:Int) - 1)=(P.length:Int) - 1:=Ad (by omega) (by omega);refine BE (by kernel_rfl) Tryz.func101 rfl rfl rfl (by simp[Bl,Later]) (by simp[BP,Ah.live]) ?_;simp;refine Ab (kP) ?_;simp;refine Ab (k0) ?_;simp[w0];refine AJ [false,true,false,true,true] (fun p:Nat×List Ai=>p.1≤p.2.length∧p.2.length≤256∧oW n b p.1 p.2=R) (fun p:Nat×List Ai=>[(3,.d (.sl 133 (p.2.map At))),(4,.d (.int .i64 ((p.1:Int) - 1)))]) (fun p:Nat×List Ai=>fun sl=>sl.take 1) (fun p:Nat×List Ai=>p.1) (P.length,P) ?_ ?_ ?_
 · exact⟨Nat.le_refl _,hpl,hR2⟩
 · exact⟨[0],by simp⟩
 rintro I S μ hI hS hμ ⟨k,L⟩ ⟨q1,q2,q3⟩;simp only at q1 q2 q3
 match k,q1,q3 with
 | 0,q1,q3 =>
   have q3':L=R:=q3;subst q3';simp;exact⟨[],by simp⟩
 | k+1,q1,q3 =>
   have kT:=eU n L (k:Int) hn (by omega);rw[oW] at q3;have hki:((k+1:Nat):Int) - 1=(k:Int):=by omega
   rw[hki];have w1:IntKind.i64.wrap ((k:Int) - 1)=(k:Int) - 1:=Ad (by omega) (by omega);have w2:IntKind.i64.wrap ((k:Int)+1)=((k+1:Nat):Int):=by rw[Ad (by omega) (by omega)];omega
   generalize JX L (k:Int) (2 ^ n)=tb at *;by_cases hb:tb=b
   · rw[if_pos hb] at q3;subst hb;have hlm:(L.take k++L.drop (k+1)).map At=(L.map At).take k++(L.map At).drop (k+1):=by rw[Gh,List.map_take,List.map_drop]
     have hll:(L.take k++L.drop (k+1)).length=L.length - 1:=by simp;omega
     obtain⟨k1,hk1⟩:∃ k1,k+1=k1:=⟨_,rfl⟩;rw[hk1] at w2 hlm q1;rw[hk1] at hll q3;have ht1:=Sp (es:=(L.map At).take k) fun c hc=>by obtain⟨x,_,rfl⟩:=CE.1 (List.mem_of_mem_take hc);exact⟨x,rfl⟩
     have ht2:=Sp (es:=(L.map At).drop k1) fun c hc=>by obtain⟨x,_,rfl⟩:=CE.1 (List.mem_of_mem_drop hc);exact⟨x,rfl⟩
     have hal:((L.map At).all fun c=>c.length==Tryz.prog.cellsOf 133)=true:=by
      rw[GA];intro c hc;obtain⟨x,_,rfl⟩:=CE.1 hc;simp[At,e2]
     have htk:List.take L.length (L.map At)=L.map At:=O6 (by simp);generalize L.take k++L.drop k1=L2 at *;simp;refine AH 7 (by kernel_rfl) ?_;simp;refine Ab (kT) ?_;simp;refine Av [(4,[5,6,7,8]),(9,[]),(10,[])] (by kernel_rfl) ?_;simp[w2,show k≤L.length by omega,show k1≤L.length by omega,htk,At];refine Ak Nb rfl (by simp) rfl (by simp) (by rw[TI];exact ht1.1) (by simp;omega) (fun _=>ht1.2) ?_;simp[w2,show k1≤L.length by omega,htk,At];refine Ak Nb rfl (by simp) rfl (by simp) (by rw[TI];exact ht2.1) (by simp;omega) (fun _=>ht2.2) ?_;simp[w1];exact Ae hI hS hμ (k,L2) ⟨by simp only;omega,by simp only;omega,q3⟩ (by simp only;omega) ⟨[0],by simp[hlm]⟩
   · rw[if_neg hb] at q3;have hbe:(tb==b)=false:=by simpa using hb
     simp;refine AH 7 (by kernel_rfl) ?_;simp;refine Ab (kT) ?_;simp[hbe,w1];exact Ae hI hS hμ (k,L) ⟨by simp only;omega,q2,q3⟩ (by simp only;omega) ⟨[0],by simp⟩
end Go.Proofs.YtnjedabjbeipeaaGreat
