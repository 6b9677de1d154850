/-
  Cubes and covers by the reference, by abstract walks.
  Conditions: those typed in each theorem.
-/
import Derived.Test.YtnjedabjbeipeaaGreatTg
namespace Go.Proofs.YtnjedabjbeipeaaGreat
open Go.RowKit Go.ChangeShapes Go.WideShapes
set_option linter.unusedSimpArgs false
set_option linter.unusedVariables false
set_option maxRecDepth 100000
set_option maxHeartbeats 10000000
abbrev icb (c:Ai):X:=.agg [.int .i64 c.1,.int .i64 c.2]
abbrev iF (L:List Ai):X:=.d (.sl 133 (L.map At))
abbrev itb (n:Nat) (b:Int):X:=.agg [.int .i64 (n:Int),.int .i64 b]
theorem V8 (n:Nat) (c:Ai) (hn:n≤4):BA Tryz.prog 120 [.d (.int .i64 (n:Int)),icb c] (.d (.bool (Lc n c))):=by
 have k0:=EW (n:Int) 0 4;rw[AP.2 (by omega:(0:Int)≤n∧(n:Int)≤4)] at k0;have hsh:=K3 (n:=n) (by omega);have h2:=Jk hn;have k1:=EW c.1 0 (((2 ^ n:Nat):Int) - 1);have k2:=EW c.2 0 (((2 ^ n:Nat):Int) - 1);have hC:Lc n c=(DX c.1 0 (((2 ^ n:Nat):Int) - 1)&&(DX c.2 0 (((2 ^ n:Nat):Int) - 1)&&(FQ c.2 c.1==0))):=rfl;rw[hC];clear hC;generalize 2 ^ n=N at *;have w1:IntKind.i64.wrap ((N:Int) - 1)=(N:Int) - 1:=Ad (by omega) (by omega);generalize DX c.1 0 ((N:Int) - 1)=r1 at *;generalize DX c.2 0 ((N:Int) - 1)=r2 at *;refine B7 (by kernel_rfl) Tryz.func120 rfl rfl rfl ?_
 cases r1 with
 | false =>
   simp;refine AH 26 (by kernel_rfl) ?_;simp;refine Ab (k0) ?_;simp[hsh,w1];refine Ab (k1) ?_;simp
 | true =>
   cases r2 with
   | false =>
     simp;refine AH 26 (by kernel_rfl) ?_;simp;refine Ab (k0) ?_;simp[hsh,w1];refine Ab (k1) ?_;simp[hsh,w1];refine Ab (k2) ?_;simp
   | true =>
     simp;refine AH 26 (by kernel_rfl) ?_;simp;refine Ab (k0) ?_;simp[hsh,w1];refine Ab (k1) ?_;simp[hsh,w1];refine Ab (k2) ?_;simp
theorem bE (n:Nat) (b:Int) (c:Ai) (hn:n≤4):BA Tryz.prog 119 [itb n b,icb c] (.d (.bool (JS n b c))):=by
 have hsh:=K3 (n:=n) (by omega);have h2:=Jk hn;have hno:=fun i hi h=>mX (n:=n) (b:=b) (c:=c) (i:=i) hi h;have hye:=iN (n:=n) (b:=b) (c:=c);generalize JS n b c=R at *;generalize 2 ^ n=N at *;refine A6 (by kernel_rfl) Tryz.func119 rfl rfl rfl ?_;simp;refine AJ [false,false,true,true,false,true] (fun i:Nat=>i≤N∧∀ j,j<i→Qp b c j=false) (fun i:Nat=>[(5,.d (.int .i64 i))]) (fun i:Nat=>fun sl=>sl) (fun i:Nat=>N - i) 0 ?_ ?_ ?_
 · exact⟨Nat.zero_le _,fun j hj=>absurd hj (by omega)⟩
 · exact⟨[0,1],by simp⟩
 rintro I S μ hI hS hμ i ⟨hi,hall⟩;by_cases hlt:i<N
 · have w1:IntKind.i64.wrap ((i:Int)+1)=(i:Int)+1:=Ad (by omega) (by omega);have hb:Qp b c i=((C0 (i:Int) c.1==c.2)&&(C0 (DB b (i:Int)) 1==0)):=rfl
   have hnx:Qp b c i=false→∀ j,j<i+1→Qp b c j=false:=fun e j hj=>by
    by_cases h:j=i
    · rw[h];exact e
    · exact hall j (by omega)
   rcases Ep (C0 (i:Int) c.1==c.2) with h1|h1
   · rcases Ep (C0 (DB b (i:Int)) 1==0) with h3|h3
     · rw[h1,h3] at hb;have hR:=hno i hlt hb;subst hR;simp[hsh,hlt,h1,h3]
     · rw[h1,h3] at hb;simp[hsh,hlt,h1,h3,w1];exact Ae hI hS hμ (i+1) ⟨by omega,hnx hb⟩ (by omega) ⟨[0,1],by simp⟩
   · rw[h1,Bool.false_and] at hb;simp[hsh,hlt,h1,w1];exact Ae hI hS hμ (i+1) ⟨by omega,hnx hb⟩ (by omega) ⟨[0,1],by simp⟩
 obtain rfl:i=N:=by omega
 have hR:=hye hall;subst hR;simp[hsh,hlt]
theorem PT (n:Nat) (L:List Ai) (hn:n≤4) (hl:L.length≤1048576):BA Tryz.prog 114 [.d (.int .i64 (n:Int)),iF L] (.d (.bool (Cm n L))):=by
 have k0:=EW (n:Int) 0 4;rw[AP.2 (by omega:(0:Int)≤n∧(n:Int)≤4)] at k0;refine A6 (by kernel_rfl) Tryz.func114 rfl rfl rfl ?_;simp;refine Ab (k0) ?_;simp;by_cases h81:L.length≤81
 case neg =>
  have hf:Cm n L=false:=by unfold Cm;rw[BH h81];rfl
  simp[show (81:Int)<(L.length:Int) by omega,show ¬ (L.length:Int)≤81 by omega,hf]
 have hC:Cm n L=L.all (Lc n):=by unfold Cm;rw[A8 h81];rfl
 rw[hC];simp[show ¬ (81:Int)<(L.length:Int) by omega,show (L.length:Int)≤81 by omega];refine AJ [true,true,false,false,false,true] (fun i:Nat=>i≤L.length∧(L.take i).all (Lc n)=true) (fun i:Nat=>[(5,.d (.int .i64 i))]) (fun i:Nat=>fun sl=>sl) (fun i:Nat=>L.length - i) 0 ?_ ?_ ?_
 · exact⟨Nat.zero_le _,by simp⟩
 · exact⟨[],by simp⟩
 rintro I S μ hI hS hμ i ⟨hi,hall⟩;by_cases hlt:i<L.length
 · obtain⟨c,hc⟩:∃ c,L[i]? = some c:=⟨_,A1 hlt⟩;have kc:=V8 n c hn;have hL:(At c).length=2:=rfl;have w1:IntKind.i64.wrap ((i:Int)+1)=(i:Int)+1:=Ad (by omega) (by omega)
   cases hk:Lc n c with
   | false =>
     rw[hk] at kc;rw[EV hc hk];simp[A8 hlt,hc,hL,At];refine Ab (kc) ?_;simp
   | true =>
     rw[hk] at kc;simp[A8 hlt,hc,hL,At];refine Ab (kc) ?_;simp[w1];exact Ae hI hS hμ (i+1) ⟨by omega,by rw[De hc,hall,hk];rfl⟩ (by omega) ⟨[],by simp⟩
 obtain rfl:i=L.length:=by omega
 rw[List.take_length] at hall;simp[hlt,BH hlt,hall]
theorem TB (n:Nat) (L:List Ai) (hn:n≤4) (hl:L.length≤1000):BA Tryz.prog 103 [.d (.int .i64 (n:Int)),iF L] (.d (.int .i64 (IP n L))):=by
 have k0:=PT n L hn (by omega);have hV:IP n L=if Cm n L=true then LL n L L.length else -1:=rfl;generalize IP n L=V at *;refine A6 (by kernel_rfl) Tryz.func103 rfl rfl rfl ?_;simp;refine Ab (k0) ?_;simp
 cases hk:Cm n L with
 | false =>
   rw[hk,if_neg (by simp)] at hV;simp[hV]
 | true =>
 rw[hk,if_pos rfl] at hV;subst hV;simp;refine AJ [true,true,false,false,false,true,true] (fun i:Nat=>i≤L.length) (fun i:Nat=>[(5,.d (.int .i64 (LL n L i))),(6,.d (.int .i64 i))]) (fun i:Nat=>fun sl=>sl) (fun i:Nat=>L.length - i) 0 ?_ ?_ ?_
 · exact Nat.zero_le _
 · exact⟨[],by simp[LL]⟩
 rintro I S μ hI hS hμ i hi;by_cases hlt:i<L.length
 · obtain⟨c,hc⟩:∃ c,L[i]? = some c:=⟨_,A1 hlt⟩;have hL:(At c).length=2:=rfl;have hst:LL n L (i+1)=LL n L i+NU c n:=by rw[LL,hc];rfl
   have hr:=WN (n:=n) (L:=L) i
   have hr2:LL n L i≤4000:=by
    have h1:(n:Int)*i≤4*i:=Int.mul_le_mul_of_nonneg_right (by omega) (by omega);omega
   have w1:IntKind.i64.wrap ((i:Int)+1)=(i:Int)+1:=Ad (by omega) (by omega);obtain⟨t2,ht2⟩:∃ t2,LL n L (i+1)=t2:=⟨_,rfl⟩;rw[ht2] at hst;generalize LL n L i=t1 at *;simp[A8 hlt];refine AJ [true,true,false,false,false,true,true,true] (fun k:Nat=>k≤n) (fun k:Nat=>[(5,.d (.int .i64 (t1+NU c k))),(7,.d (.int .i64 k))]) (fun k:Nat=>fun sl=>sl) (fun k:Nat=>n - k) 0 ?_ ?_ ?_
   · exact Nat.zero_le _
   · exact⟨[],by simp[NU]⟩
   rintro I2 S2 μ2 hI2 hS2 hμ2 k hk2;have hcr:=M7 (c:=c) k;by_cases hlt2:k<n
   · have hst2:NU c (k+1)=NU c k+C0 (DB c.1 (k:Int)) 1:=rfl;have hcr2:=M7 (c:=c) (k+1);have w2:IntKind.i64.wrap ((k:Int)+1)=(k:Int)+1:=Ad (by omega) (by omega);have w3:IntKind.i64.wrap (t1+NU c k+C0 (DB c.1 (k:Int)) 1)=t1+NU c (k+1):=by rw[Ad (by omega) (by omega)];omega
     simp[hlt2,hc,hL,At,w2,w3];exact Ae hI2 hS2 hμ2 (k+1) (by omega) (by omega) ⟨[],by simp⟩
   obtain rfl:k=n:=by omega
   rw[←hst];simp[hlt2,w1];exact Ae hI hS hμ (i+1) (by omega) (by omega) ⟨[],by simp[ht2]⟩
 obtain rfl:i=L.length:=by omega
 simp[hlt,BH hlt]
theorem iO (n:Nat) (L:List Ai) (skip:Int) (hn:n≤4) (hl:L.length≤1000):BA Tryz.prog 112 [.d (.int .i64 (n:Int)),iF L,.d (.int .i64 skip)] (.agg [.int .i64 (n:Int),.int .i64 (JY L skip (2 ^ n))]):=by
 have hsh:=K3 (n:=n) (by omega);have h2:=Jk hn;generalize 2 ^ n=N at *;refine B7 (by kernel_rfl) Tryz.func112 rfl rfl rfl ?_;simp;refine AJ [true,true,true,false,false,false,true,true,true] (fun i:Nat=>i≤N) (fun i:Nat=>[(8,.d (.int .i64 i))]) (fun i:Nat=>fun sl=>sl.take 1++[.var 118 [.d (.int .i64 (n:Int)),.d (.int .i64 (JY L skip i))]]) (fun i:Nat=>N - i) 0 ?_ ?_ ?_
 · exact Nat.zero_le _
 · exact⟨[0,1],by simp[JY]⟩
 rintro I S μ hI hS hμ i hi;by_cases hlt:i<N
 · have hst:JY L skip (i+1)=if iC L skip i=true then JY L skip i+ET 1 (i:Int) else JY L skip i:=rfl;have hr:=Wv (cs:=L) (skip:=skip) i (by omega);have hp16:2 ^ i≤2 ^ 16:=qK (by decide) (by omega);have hp16':2 ^ 16=65536:=rfl;have hsi:=K3 (n:=i) (by omega);have w1:IntKind.i64.wrap ((i:Int)+1)=(i:Int)+1:=Ad (by omega) (by omega);have w3:IntKind.i64.wrap (JY L skip i+ET 1 (i:Int))=JY L skip i+ET 1 (i:Int):=by rw[hsi];exact Ad (by omega) (by omega)
   obtain⟨t2,ht2⟩:∃ t2,JY L skip (i+1)=t2:=⟨_,rfl⟩;rw[ht2] at hst;generalize JY L skip i=t1 at *;simp[hsh,hlt];refine AJ [true,true,true,false,false,false,true,true,true,true] (fun k:Nat=>k≤L.length∧∀ j,j<k→WB L skip i j=false) (fun k:Nat=>[(9,.d (.int .i64 k))]) (fun k:Nat=>fun sl=>sl) (fun k:Nat=>L.length - k) 0 ?_ ?_ ?_
   · exact⟨Nat.zero_le _,fun j hj=>absurd hj (by omega)⟩
   · exact⟨[0,1],by simp⟩
   rintro I2 S2 μ2 hI2 hS2 hμ2 k ⟨hk,hall⟩;by_cases hlt2:k<L.length
   · obtain⟨c,hc⟩:∃ c,L[k]? = some c:=⟨_,A1 hlt2⟩;have hL:(At c).length=2:=rfl;have hh:WB L skip i k=(!((k:Int)==skip)&&(C0 (i:Int) c.1==c.2)):=by unfold WB;rw[hc];rfl
     have w2:IntKind.i64.wrap ((k:Int)+1)=(k:Int)+1:=Ad (by omega) (by omega)
     have hnx:WB L skip i k=false→∀ j,j<k+1→WB L skip i j=false:=fun e j hj=>by
      by_cases h:j=k
      · rw[h];exact e
      · exact hall j (by omega)
     rcases Ep ((k:Int)==skip) with h1|h1
     · rw[h1] at hh;have hne:((k:Int) != skip)=false:=by simp[bne,h1]
       simp[A8 hlt2];refine AH 18 (by kernel_rfl) ?_;simp[hne,h1,w2];exact Ae hI2 hS2 hμ2 (k+1) ⟨by omega,hnx (by rw[hh];rfl)⟩ (by omega) ⟨[0,1],by simp⟩
     · have hne:((k:Int) != skip)=true:=by simp[bne,h1]
       rcases Ep (C0 (i:Int) c.1==c.2) with h3|h3
       · rw[h1,h3] at hh;rw[if_pos (nW hlt2 hh)] at hst;simp[A8 hlt2];refine AH 18 (by kernel_rfl) ?_;simp[hne,h1,h3,hc,hL,At];refine AH 6 (by kernel_rfl) ?_;simp[w3,w1];exact Ae hI hS hμ (i+1) (by omega) (by omega) ⟨[0,1],by simp[ht2,hst]⟩
       · rw[h1,h3] at hh;simp[A8 hlt2];refine AH 18 (by kernel_rfl) ?_;simp[hne,h1,h3,hc,hL,At,w2];exact Ae hI2 hS2 hμ2 (k+1) ⟨by omega,hnx (by rw[hh];rfl)⟩ (by omega) ⟨[0,1],by simp⟩
   obtain rfl:k=L.length:=by omega
   rw[qO hall,if_neg (by simp)] at hst;simp[hlt2,BH hlt2,w1];exact Ae hI hS hμ (i+1) (by omega) (by omega) ⟨[0,1],by simp[ht2,hst]⟩
 obtain rfl:i=N:=by omega
 simp[hsh,hlt]
theorem W3 (n:Nat) (b:Int) (h:DE n b=true):BA Tryz.prog 110 [itb n b] (iF (H1 n b)):=by
 have hn:=Rb h;have k0:=Jj (n:Int) b;rw[h] at k0;have hsh:=K3 (n:=n) (by omega);have h2:=Jk hn;have kI:=fun c=>bE n b c hn;have hpl:=fun ca=>Pj (b:=b) hn ca;have hst0:∀ ca,Xw n b (ca+1)=Xw n b ca++U0 n b ca (2 ^ n):=fun ca=>rfl;unfold H1;generalize 2 ^ n=N at *;refine B7 (by kernel_rfl) Tryz.func110 rfl rfl rfl ?_;simp;refine Ab (k0) ?_;simp;refine AJ [false,true,false,true,true] (fun ca:Nat=>ca≤N) (fun ca:Nat=>[(3,.ref 1),(4,.d (.int .i64 ca))]) (fun ca:Nat=>fun sl=>sl.take 1++[.arr 133 true ((Xw n b ca).map At)]) (fun ca:Nat=>N - ca) 0 ?_ ?_ ?_
 · exact Nat.zero_le _
 · exact⟨[0,1],by simp[Xw]⟩
 rintro I S μ hI hS hμ ca hca;by_cases hlt:ca<N
 · have hst:=hst0 ca;have hcl:=hpl ca;obtain⟨s2,hs2⟩:∃ s2,Xw n b (ca+1)=s2:=⟨_,rfl⟩;rw[hs2] at hst;generalize Xw n b ca=s1 at *;have w1:IntKind.i64.wrap ((ca:Int)+1)=(ca:Int)+1:=Ad (by omega) (by omega);simp[hsh,hlt];refine AJ [false,true,false,true,true,true] (fun v:Nat=>v≤N) (fun v:Nat=>[(3,.ref 1),(5,.d (.int .i64 v))]) (fun v:Nat=>fun sl=>sl.take 1++[.arr 133 true (s1.map At++(U0 n b ca v).map At)]) (fun v:Nat=>N - v) 0 ?_ ?_ ?_
   · exact Nat.zero_le _
   · exact⟨[0,1],by simp[U0]⟩
   rintro I2 S2 μ2 hI2 hS2 hμ2 v hv;have hvl:=UT (n:=n) (b:=b) (ca:=ca) v;by_cases hlt2:v<N
   · have hsv:U0 n b ca (v+1)=if kQ n b ((ca:Int),(v:Int))=true then U0 n b ca v++[((ca:Int),(v:Int))] else U0 n b ca v:=rfl;have hkc:kQ n b ((ca:Int),(v:Int))=((FQ (v:Int) (ca:Int)==0)&&(JS n b ((ca:Int),(v:Int))&&RD n b ((ca:Int),(v:Int)) n)):=rfl;have kI0:=kI ((ca:Int),(v:Int));have w2:IntKind.i64.wrap ((v:Int)+1)=(v:Int)+1:=Ad (by omega) (by omega);obtain⟨p2,hp2⟩:∃ p2,U0 n b ca (v+1)=p2:=⟨_,rfl⟩;rw[hp2] at hsv;generalize U0 n b ca v=p1 at *;rcases Ep (FQ (v:Int) (ca:Int)==0) with h1|h1
     · have hne:(FQ (v:Int) (ca:Int) != 0)=false:=by simp[bne,h1]
       cases hI3:JS n b ((ca:Int),(v:Int)) with
       | false =>
         rw[h1,hI3] at hkc;rw[hkc,if_neg (by simp)] at hsv;rw[hI3] at kI0;simp[hsh,hlt2,hne,h1];refine Ab (kI0) ?_;simp[w2];exact Ae hI2 hS2 hμ2 (v+1) (by omega) (by omega) ⟨[0,1],by simp[hp2,hsv]⟩
       | true =>
         rw[h1,hI3,Bool.true_and,Bool.true_and] at hkc;rw[hI3] at kI0;rw[hkc] at hsv;simp[hsh,hlt2,hne,h1];refine Ab (kI0) ?_;simp;refine AJ [false,true,false,true,true,true,true,true,true] (fun k:Nat=>k≤n) (fun k:Nat=>[(7,.d (.bool (RD n b ((ca:Int),(v:Int)) k))),(8,.d (.int .i64 k))]) (fun k:Nat=>fun sl=>sl) (fun k:Nat=>n - k) 0 ?_ ?_ ?_
         · exact Nat.zero_le _
         · exact⟨[0,1,2],by simp[RD]⟩
         rintro I3 S3 μ3 hI3' hS3 hμ3 k hk;by_cases hlt3:k<n
         · have hpk:RD n b ((ca:Int),(v:Int)) (k+1)=(RD n b ((ca:Int),(v:Int)) k&&qR n b ((ca:Int),(v:Int)) k):=rfl;have hps:qR n b ((ca:Int),(v:Int)) k=!((C0 (DB (ca:Int) (k:Int)) 1==1)&&JS n b (WZ ((ca:Int),(v:Int)) k)):=rfl;have kI4:=kI (WZ ((ca:Int),(v:Int)) k);have hlc:icb (WZ ((ca:Int),(v:Int)) k)=.agg [.int .i64 (FQ (ca:Int) (ET 1 (k:Int))),.int .i64 (FQ (v:Int) (ET 1 (k:Int)))]:=rfl;rw[hlc] at kI4;have w3:IntKind.i64.wrap ((k:Int)+1)=(k:Int)+1:=Ad (by omega) (by omega);obtain⟨q2,hq2⟩:∃ q2,RD n b ((ca:Int),(v:Int)) (k+1)=q2:=⟨_,rfl⟩;rw[hq2] at hpk;generalize RD n b ((ca:Int),(v:Int)) k=q1 at *;rcases Ep (C0 (DB (ca:Int) (k:Int)) 1==1) with h4|h4
           · cases hI4:JS n b (WZ ((ca:Int),(v:Int)) k) with
             | false =>
               rw[h4,hI4] at hps;rw[hps] at hpk;rw[hI4] at kI4;simp[hlt3];refine AH 18 (by kernel_rfl) ?_;simp[h4];refine Ab (kI4) ?_;simp[w3];exact Ae hI3' hS3 hμ3 (k+1) (by omega) (by omega) ⟨[0,1,2],by simp[hq2,hpk]⟩
             | true =>
               rw[h4,hI4] at hps;rw[hps] at hpk;rw[hI4] at kI4;simp[hlt3];refine AH 18 (by kernel_rfl) ?_;simp[h4];refine Ab (kI4) ?_;simp[w3];exact Ae hI3' hS3 hμ3 (k+1) (by omega) (by omega) ⟨[0,1,2],by simp[hq2,hpk]⟩
           · rw[h4] at hps;rw[hps] at hpk;simp[hlt3];refine AH 18 (by kernel_rfl) ?_;simp[h4,w3];exact Ae hI3' hS3 hμ3 (k+1) (by omega) (by omega) ⟨[0,1,2],by simp[hq2,hpk]⟩
         obtain rfl:k=n:=by omega
         generalize RD k b ((ca:Int),(v:Int)) k=q at *
         cases q with
         | false =>
           rw[if_neg (by simp)] at hsv;simp[hlt3,w2];exact Ae hI2 hS2 hμ2 (v+1) (by omega) (by omega) ⟨[0,1],by simp[hp2,hsv]⟩
         | true =>
           rw[if_pos rfl] at hsv;have hsvm:p2.map At=p1.map At++[[.int .i64 (ca:Int),.int .i64 (v:Int)]]:=by rw[hsv,Gp];rfl
           simp[hlt3];refine Ak Nh rfl (by simp) rfl (by simp) (by simp) (by first | (simp;done)|(simp;omega)) (by simp[AR,AL]) ?_;simp[w2];exact Ae hI2 hS2 hμ2 (v+1) (by omega) (by omega) ⟨[0,4],by simp[hp2,hsvm]⟩
     · rw[h1] at hkc;rw[hkc,Bool.false_and,if_neg (by simp)] at hsv;have hne:(FQ (v:Int) (ca:Int) != 0)=true:=by simp[bne,h1]
       simp[hsh,hlt2,hne,h1,w2];exact Ae hI2 hS2 hμ2 (v+1) (by omega) (by omega) ⟨[0,1],by simp[hp2,hsv]⟩
   obtain rfl:v=N:=by omega
   have hsm:s2.map At=s1.map At++(U0 n b ca v).map At:=by rw[hst,Gp]
   simp[hsh,hlt2,w1];exact Ae hI hS hμ (ca+1) (by omega) (by omega) ⟨[0,1],by simp[hs2,hsm]⟩
 obtain rfl:ca=N:=by omega
 simp[hsh,hlt]
theorem Tj {es:List (List D)} (h:∀ c∈es,∃ x:Ai,c=At x):(∀ c∈es,c.length=2)∧AR es:=by
 refine⟨fun c hc=>?_,fun c hc d hd=>?_⟩
 · obtain⟨x,rfl⟩:=h c hc;rfl
 · obtain⟨x,rfl⟩:=h c hc;simp only[At,e2,AC,List.mem_cons,List.not_mem_nil,or_false] at hd;rcases hd with rfl|rfl<;>rfl
theorem S9 (n:Nat) (b:Int) (h:DE n b=true):CN Tryz.prog 101 [.agg [.d (.int .i64 (n:Int)),.d (.int .i64 b)]] [] (.d (.sl 133 ((Hl n b).map At))) []:=by
 have hn:=Rb h;have k0:=Jj (n:Int) b;rw[h] at k0;have kP:=W3 n b h
 have hpl:(H1 n b).length≤256:=by
  have h1:=Pj (b:=b) hn (2 ^ n);have h2:=(Jk hn).2;show (Xw n b (2 ^ n)).length≤256;generalize 2 ^ n=N at *;omega
 obtain⟨R,hR⟩:∃ R,Hl n b=R:=⟨_,rfl⟩;have hR2:=hR;unfold Hl at hR2;rw[hR];generalize H1 n b=P at *;have w0:IntKind.i64.wrap ((P.length:Int) - 1)=(P.length:Int) - 1:=Ad (by omega) (by omega);refine BD (by kernel_rfl) Tryz.func101 rfl rfl rfl (by simp[Bl,Later]) (by simp[BO,Ah.live]) ?_;simp;refine Ab (kP) ?_;simp;refine Ab (k0) ?_;simp[w0];refine AJ [false,true,false,true,true] (fun p:Nat×List Ai=>p.1≤p.2.length∧p.2.length≤256∧pJ n b p.1 p.2=R) (fun p:Nat×List Ai=>[(3,.d (.sl 133 (p.2.map At))),(4,.d (.int .i64 ((p.1:Int) - 1)))]) (fun p:Nat×List Ai=>fun sl=>sl.take 1) (fun p:Nat×List Ai=>p.1) (P.length,P) ?_ ?_ ?_
 · exact⟨Nat.le_refl _,hpl,hR2⟩
 · exact⟨[0],by simp⟩
 rintro I S μ hI hS hμ ⟨k,L⟩ ⟨q1,q2,q3⟩;simp only at q1 q2 q3
 match k,q1,q3 with
 | 0,q1,q3 =>
   have q3':L=R:=q3;subst q3';simp;exact⟨[],by simp⟩
 | k+1,q1,q3 =>
   have kT:=iO n L (k:Int) hn (by omega);rw[pJ] at q3;have hki:((k+1:Nat):Int) - 1=(k:Int):=by omega
   rw[hki];have w1:IntKind.i64.wrap ((k:Int) - 1)=(k:Int) - 1:=Ad (by omega) (by omega);have w2:IntKind.i64.wrap ((k:Int)+1)=((k+1:Nat):Int):=by rw[Ad (by omega) (by omega)];omega
   generalize JY L (k:Int) (2 ^ n)=tb at *;by_cases hb:tb=b
   · rw[if_pos hb] at q3;subst hb;have hlm:(L.take k++L.drop (k+1)).map At=(L.map At).take k++(L.map At).drop (k+1):=by rw[Gp,List.map_take,List.map_drop]
     have hll:(L.take k++L.drop (k+1)).length=L.length - 1:=by simp;omega
     obtain⟨k1,hk1⟩:∃ k1,k+1=k1:=⟨_,rfl⟩;rw[hk1] at w2 hlm q1;rw[hk1] at hll q3;have ht1:=Tj (es:=(L.map At).take k) fun c hc=>by obtain⟨x,_,rfl⟩:=CF.1 (List.mem_of_mem_take hc);exact⟨x,rfl⟩
     have ht2:=Tj (es:=(L.map At).drop k1) fun c hc=>by obtain⟨x,_,rfl⟩:=CF.1 (List.mem_of_mem_drop hc);exact⟨x,rfl⟩
     have hal:((L.map At).all fun c=>c.length==Tryz.prog.cellsOf 133)=true:=by
      rw[Gy];intro c hc;obtain⟨x,_,rfl⟩:=CF.1 hc;simp[At,e2]
     have htk:List.take L.length (L.map At)=L.map At:=O3 (by simp);generalize L.take k++L.drop k1=L2 at *;simp;refine AH 7 (by kernel_rfl) ?_;simp;refine Ab (kT) ?_;simp;refine Av [(4,[5,6,7,8]),(9,[]),(10,[])] (by kernel_rfl) ?_;simp[w2,show k≤L.length by omega,show k1≤L.length by omega,htk,At];refine Ak Nh rfl (by simp) rfl (by simp) (by rw[Tq];exact ht1.1) (by simp;omega) (fun _=>ht1.2) ?_;simp[w2,show k1≤L.length by omega,htk,At];refine Ak Nh rfl (by simp) rfl (by simp) (by rw[Tq];exact ht2.1) (by simp;omega) (fun _=>ht2.2) ?_;simp[w1];exact Ae hI hS hμ (k,L2) ⟨by simp only;omega,by simp only;omega,q3⟩ (by simp only;omega) ⟨[0],by simp[hlm]⟩
   · rw[if_neg hb] at q3;have hbe:(tb==b)=false:=by simpa using hb
     simp;refine AH 7 (by kernel_rfl) ?_;simp;refine Ab (kT) ?_;simp[hbe,w1];exact Ae hI hS hμ (k,L) ⟨by simp only;omega,q2,q3⟩ (by simp only;omega) ⟨[0],by simp⟩
end Go.Proofs.YtnjedabjbeipeaaGreat
