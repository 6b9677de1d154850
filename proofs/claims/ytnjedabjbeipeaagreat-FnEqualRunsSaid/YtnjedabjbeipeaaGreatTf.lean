/-
  Cubes and covers by the reference, by abstract walks.
  Conditions: those typed in each theorem.
-/
import Derived.Test.YtnjedabjbeipeaaGreatTg
namespace Go.Proofs.YtnjedabjbeipeaaGreat
open Go.RowKit Go.ChangeShapes Go.WideShapes
set_option linter.unusedSimpArgs false
set_option linter.unusedVariables false
set_option maxRecDepth 100000
set_option maxHeartbeats 10000000
abbrev icb (c:Ai):X:=.agg [.int .i64 c.1,.int .i64 c.2]
abbrev gW (L:List Ai):X:=.d (.sl 133 (L.map At))
abbrev itb (n:Nat) (b:Int):X:=.agg [.int .i64 (n:Int),.int .i64 b]
theorem V9 (n:Nat) (c:Ai) (hn:n≤4):Bx Tryz.prog 120 [.d (.int .i64 (n:Int)),icb c] (.d (.bool (KB n c))):=by
 have k0:=EN (n:Int) 0 4;rw[AP.2 (by omega:(0:Int)≤n∧(n:Int)≤4)] at k0;have hsh:=KI (n:=n) (by omega);have h2:=IF hn;have k1:=EN c.1 0 (((2 ^ n:Nat):Int) - 1);have k2:=EN c.2 0 (((2 ^ n:Nat):Int) - 1);have hC:KB n c=(DM c.1 0 (((2 ^ n:Nat):Int) - 1)&&(DM c.2 0 (((2 ^ n:Nat):Int) - 1)&&(Fp c.2 c.1==0))):=rfl;rw[hC];clear hC;generalize 2 ^ n=N at *;have w1:IntKind.i64.wrap ((N:Int) - 1)=(N:Int) - 1:=Ad (by omega) (by omega);generalize DM c.1 0 ((N:Int) - 1)=r1 at *;generalize DM c.2 0 ((N:Int) - 1)=r2 at *;refine B3 (by kernel_rfl) Tryz.func120 rfl rfl rfl ?_
 cases r1 with
 | false =>
   simp;refine AJ 26 (by kernel_rfl) ?_;simp;refine Ab (k0) ?_;simp[hsh,w1];refine Ab (k1) ?_;simp
 | true =>
   cases r2 with
   | false =>
     simp;refine AJ 26 (by kernel_rfl) ?_;simp;refine Ab (k0) ?_;simp[hsh,w1];refine Ab (k1) ?_;simp[hsh,w1];refine Ab (k2) ?_;simp
   | true =>
     simp;refine AJ 26 (by kernel_rfl) ?_;simp;refine Ab (k0) ?_;simp[hsh,w1];refine Ab (k1) ?_;simp[hsh,w1];refine Ab (k2) ?_;simp
theorem aJ (n:Nat) (b:Int) (c:Ai) (hn:n≤4):Bx Tryz.prog 119 [itb n b,icb c] (.d (.bool (Jt n b c))):=by
 have hsh:=KI (n:=n) (by omega);have h2:=IF hn;have hno:=fun i hi h=>nF (n:=n) (b:=b) (c:=c) (i:=i) hi h;have hye:=fE (n:=n) (b:=b) (c:=c);generalize Jt n b c=R at *;generalize 2 ^ n=N at *;refine A5 (by kernel_rfl) Tryz.func119 rfl rfl rfl ?_;simp;refine AH [false,false,true,true,false,true] (fun i:Nat=>i≤N∧∀ j,j<i→Pj b c j=false) (fun i:Nat=>[(5,.d (.int .i64 i))]) (fun i:Nat=>fun sl=>sl) (fun i:Nat=>N - i) 0 ?_ ?_ ?_
 · exact⟨Nat.zero_le _,fun j hj=>absurd hj (by omega)⟩
 · exact⟨[0,1],by simp⟩
 rintro I S μ hI hS hμ i ⟨hi,hall⟩;by_cases hlt:i<N
 · have w1:IntKind.i64.wrap ((i:Int)+1)=(i:Int)+1:=Ad (by omega) (by omega);have hb:Pj b c i=((CR (i:Int) c.1==c.2)&&(CR (Dm b (i:Int)) 1==0)):=rfl
   have hnx:Pj b c i=false→∀ j,j<i+1→Pj b c j=false:=fun e j hj=>by
    by_cases h:j=i
    · rw[h];exact e
    · exact hall j (by omega)
   rcases ABu (CR (i:Int) c.1==c.2) with h1|h1
   · rcases ABu (CR (Dm b (i:Int)) 1==0) with h3|h3
     · rw[h1,h3] at hb;have hR:=hno i hlt hb;subst hR;simp[hsh,hlt,h1,h3]
     · rw[h1,h3] at hb;simp[hsh,hlt,h1,h3,w1];exact Ae hI hS hμ (i+1) ⟨by omega,hnx hb⟩ (by omega) ⟨[0,1],by simp⟩
   · rw[h1,Bool.false_and] at hb;simp[hsh,hlt,h1,w1];exact Ae hI hS hμ (i+1) ⟨by omega,hnx hb⟩ (by omega) ⟨[0,1],by simp⟩
 obtain rfl:i=N:=by omega
 have hR:=hye hall;subst hR;simp[hsh,hlt]
theorem P0 (n:Nat) (L:List Ai) (hn:n≤4) (hl:L.length≤1048576):Bx Tryz.prog 114 [.d (.int .i64 (n:Int)),gW L] (.d (.bool (Ci n L))):=by
 have k0:=EN (n:Int) 0 4;rw[AP.2 (by omega:(0:Int)≤n∧(n:Int)≤4)] at k0;refine A5 (by kernel_rfl) Tryz.func114 rfl rfl rfl ?_;simp;refine Ab (k0) ?_;simp;by_cases h81:L.length≤81
 case neg =>
  have hf:Ci n L=false:=by unfold Ci;rw[zz3 h81];rfl
  simp[show (81:Int)<(L.length:Int) by omega,show ¬ (L.length:Int)≤81 by omega,hf]
 have hC:Ci n L=L.all (KB n):=by unfold Ci;rw[zz2 h81];rfl
 rw[hC];simp[show ¬ (81:Int)<(L.length:Int) by omega,show (L.length:Int)≤81 by omega];refine AH [true,true,false,false,false,true] (fun i:Nat=>i≤L.length∧(L.take i).all (KB n)=true) (fun i:Nat=>[(5,.d (.int .i64 i))]) (fun i:Nat=>fun sl=>sl) (fun i:Nat=>L.length - i) 0 ?_ ?_ ?_
 · exact⟨Nat.zero_le _,by simp⟩
 · exact⟨[],by simp⟩
 rintro I S μ hI hS hμ i ⟨hi,hall⟩;by_cases hlt:i<L.length
 · obtain⟨c,hc⟩:∃ c,L[i]? = some c:=⟨_,zz0 hlt⟩;have kc:=V9 n c hn;have hL:(At c).length=2:=rfl;have w1:IntKind.i64.wrap ((i:Int)+1)=(i:Int)+1:=Ad (by omega) (by omega)
   cases hk:KB n c with
   | false =>
     rw[hk] at kc;rw[EO hc hk];simp[zz2 hlt,hc,hL,At];refine Ab (kc) ?_;simp
   | true =>
     rw[hk] at kc;simp[zz2 hlt,hc,hL,At];refine Ab (kc) ?_;simp[w1];exact Ae hI hS hμ (i+1) ⟨by omega,by rw[C6 hc,hall,hk];rfl⟩ (by omega) ⟨[],by simp⟩
 obtain rfl:i=L.length:=by omega
 rw[List.take_length] at hall;simp[hlt,zz3 hlt,hall]
theorem RX (n:Nat) (L:List Ai) (hn:n≤4) (hl:L.length≤1000):Bx Tryz.prog 103 [.d (.int .i64 (n:Int)),gW L] (.d (.int .i64 (Io n L))):=by
 have k0:=P0 n L hn (by omega);have hV:Io n L=if Ci n L=true then Lw n L L.length else -1:=rfl;generalize Io n L=V at *;refine A5 (by kernel_rfl) Tryz.func103 rfl rfl rfl ?_;simp;refine Ab (k0) ?_;simp
 cases hk:Ci n L with
 | false =>
   rw[hk,if_neg (by simp)] at hV;simp[hV]
 | true =>
 rw[hk,if_pos rfl] at hV;subst hV;simp;refine AH [true,true,false,false,false,true,true] (fun i:Nat=>i≤L.length) (fun i:Nat=>[(5,.d (.int .i64 (Lw n L i))),(6,.d (.int .i64 i))]) (fun i:Nat=>fun sl=>sl) (fun i:Nat=>L.length - i) 0 ?_ ?_ ?_
 · exact Nat.zero_le _
 · exact⟨[],by simp[Lw]⟩
 rintro I S μ hI hS hμ i hi;by_cases hlt:i<L.length
 · obtain⟨c,hc⟩:∃ c,L[i]? = some c:=⟨_,zz0 hlt⟩;have hL:(At c).length=2:=rfl;have hst:Lw n L (i+1)=Lw n L i+Ng c n:=by rw[Lw,hc];rfl
   have hr:=VV (n:=n) (L:=L) i
   have hr2:Lw n L i≤4000:=by
    have h1:(n:Int)*i≤4*i:=Int.mul_le_mul_of_nonneg_right (by omega) (by omega);omega
   have w1:IntKind.i64.wrap ((i:Int)+1)=(i:Int)+1:=Ad (by omega) (by omega);obtain⟨t2,ht2⟩:∃ t2,Lw n L (i+1)=t2:=⟨_,rfl⟩;rw[ht2] at hst;generalize Lw n L i=t1 at *;simp[zz2 hlt];refine AH [true,true,false,false,false,true,true,true] (fun k:Nat=>k≤n) (fun k:Nat=>[(5,.d (.int .i64 (t1+Ng c k))),(7,.d (.int .i64 k))]) (fun k:Nat=>fun sl=>sl) (fun k:Nat=>n - k) 0 ?_ ?_ ?_
   · exact Nat.zero_le _
   · exact⟨[],by simp[Ng]⟩
   rintro I2 S2 μ2 hI2 hS2 hμ2 k hk2;have hcr:=L5 (c:=c) k;by_cases hlt2:k<n
   · have hst2:Ng c (k+1)=Ng c k+CR (Dm c.1 (k:Int)) 1:=rfl;have hcr2:=L5 (c:=c) (k+1);have w2:IntKind.i64.wrap ((k:Int)+1)=(k:Int)+1:=Ad (by omega) (by omega);have w3:IntKind.i64.wrap (t1+Ng c k+CR (Dm c.1 (k:Int)) 1)=t1+Ng c (k+1):=by rw[Ad (by omega) (by omega)];omega
     simp[hlt2,hc,hL,At,w2,w3];exact Ae hI2 hS2 hμ2 (k+1) (by omega) (by omega) ⟨[],by simp⟩
   obtain rfl:k=n:=by omega
   rw[←hst];simp[hlt2,w1];exact Ae hI hS hμ (i+1) (by omega) (by omega) ⟨[],by simp[ht2]⟩
 obtain rfl:i=L.length:=by omega
 simp[hlt,zz3 hlt]
theorem gF (n:Nat) (L:List Ai) (skip:Int) (hn:n≤4) (hl:L.length≤1000):Bx Tryz.prog 112 [.d (.int .i64 (n:Int)),gW L,.d (.int .i64 skip)] (.agg [.int .i64 (n:Int),.int .i64 (Jv L skip (2 ^ n))]):=by
 have hsh:=KI (n:=n) (by omega);have h2:=IF hn;generalize 2 ^ n=N at *;refine B3 (by kernel_rfl) Tryz.func112 rfl rfl rfl ?_;simp;refine AH [true,true,true,false,false,false,true,true,true] (fun i:Nat=>i≤N) (fun i:Nat=>[(8,.d (.int .i64 i))]) (fun i:Nat=>fun sl=>sl.take 1++[.var 118 [.d (.int .i64 (n:Int)),.d (.int .i64 (Jv L skip i))]]) (fun i:Nat=>N - i) 0 ?_ ?_ ?_
 · exact Nat.zero_le _
 · exact⟨[0,1],by simp[Jv]⟩
 rintro I S μ hI hS hμ i hi;by_cases hlt:i<N
 · have hst:Jv L skip (i+1)=if fK L skip i=true then Jv L skip i+EC 1 (i:Int) else Jv L skip i:=rfl;have hr:=V5 (cs:=L) (skip:=skip) i (by omega);have hp16:2 ^ i≤2 ^ 16:=ABy (by decide) (by omega);have hp16':2 ^ 16=65536:=rfl;have hsi:=KI (n:=i) (by omega);have w1:IntKind.i64.wrap ((i:Int)+1)=(i:Int)+1:=Ad (by omega) (by omega);have w3:IntKind.i64.wrap (Jv L skip i+EC 1 (i:Int))=Jv L skip i+EC 1 (i:Int):=by rw[hsi];exact Ad (by omega) (by omega)
   obtain⟨t2,ht2⟩:∃ t2,Jv L skip (i+1)=t2:=⟨_,rfl⟩;rw[ht2] at hst;generalize Jv L skip i=t1 at *;simp[hsh,hlt];refine AH [true,true,true,false,false,false,true,true,true,true] (fun k:Nat=>k≤L.length∧∀ j,j<k→Vy L skip i j=false) (fun k:Nat=>[(9,.d (.int .i64 k))]) (fun k:Nat=>fun sl=>sl) (fun k:Nat=>L.length - k) 0 ?_ ?_ ?_
   · exact⟨Nat.zero_le _,fun j hj=>absurd hj (by omega)⟩
   · exact⟨[0,1],by simp⟩
   rintro I2 S2 μ2 hI2 hS2 hμ2 k ⟨hk,hall⟩;by_cases hlt2:k<L.length
   · obtain⟨c,hc⟩:∃ c,L[k]? = some c:=⟨_,zz0 hlt2⟩;have hL:(At c).length=2:=rfl;have hh:Vy L skip i k=(!((k:Int)==skip)&&(CR (i:Int) c.1==c.2)):=by unfold Vy;rw[hc];rfl
     have w2:IntKind.i64.wrap ((k:Int)+1)=(k:Int)+1:=Ad (by omega) (by omega)
     have hnx:Vy L skip i k=false→∀ j,j<k+1→Vy L skip i j=false:=fun e j hj=>by
      by_cases h:j=k
      · rw[h];exact e
      · exact hall j (by omega)
     rcases ABu ((k:Int)==skip) with h1|h1
     · rw[h1] at hh;have hne:((k:Int) != skip)=false:=by simp[bne,h1]
       simp[zz2 hlt2];refine AJ 18 (by kernel_rfl) ?_;simp[hne,h1,w2];exact Ae hI2 hS2 hμ2 (k+1) ⟨by omega,hnx (by rw[hh];rfl)⟩ (by omega) ⟨[0,1],by simp⟩
     · have hne:((k:Int) != skip)=true:=by simp[bne,h1]
       rcases ABu (CR (i:Int) c.1==c.2) with h3|h3
       · rw[h1,h3] at hh;rw[if_pos (mG hlt2 hh)] at hst;simp[zz2 hlt2];refine AJ 18 (by kernel_rfl) ?_;simp[hne,h1,h3,hc,hL,At];refine AJ 6 (by kernel_rfl) ?_;simp[w3,w1];exact Ae hI hS hμ (i+1) (by omega) (by omega) ⟨[0,1],by simp[ht2,hst]⟩
       · rw[h1,h3] at hh;simp[zz2 hlt2];refine AJ 18 (by kernel_rfl) ?_;simp[hne,h1,h3,hc,hL,At,w2];exact Ae hI2 hS2 hμ2 (k+1) ⟨by omega,hnx (by rw[hh];rfl)⟩ (by omega) ⟨[0,1],by simp⟩
   obtain rfl:k=L.length:=by omega
   rw[oK hall,if_neg (by simp)] at hst;simp[hlt2,zz3 hlt2,w1];exact Ae hI hS hμ (i+1) (by omega) (by omega) ⟨[0,1],by simp[ht2,hst]⟩
 obtain rfl:i=N:=by omega
 simp[hsh,hlt]
theorem VK (n:Nat) (b:Int) (h:Dq n b=true):Bx Tryz.prog 110 [itb n b] (gW (Hy n b)):=by
 have hn:=QL h;have k0:=Jj (n:Int) b;rw[h] at k0;have hsh:=KI (n:=n) (by omega);have h2:=IF hn;have kI:=fun c=>aJ n b c hn;have hpl:=fun ca=>OW (b:=b) hn ca;have hst0:∀ ca,WY n b (ca+1)=WY n b ca++Us n b ca (2 ^ n):=fun ca=>rfl;unfold Hy;generalize 2 ^ n=N at *;refine B3 (by kernel_rfl) Tryz.func110 rfl rfl rfl ?_;simp;refine Ab (k0) ?_;simp;refine AH [false,true,false,true,true] (fun ca:Nat=>ca≤N) (fun ca:Nat=>[(3,.ref 1),(4,.d (.int .i64 ca))]) (fun ca:Nat=>fun sl=>sl.take 1++[.arr 133 true ((WY n b ca).map At)]) (fun ca:Nat=>N - ca) 0 ?_ ?_ ?_
 · exact Nat.zero_le _
 · exact⟨[0,1],by simp[WY]⟩
 rintro I S μ hI hS hμ ca hca;by_cases hlt:ca<N
 · have hst:=hst0 ca;have hcl:=hpl ca;obtain⟨s2,hs2⟩:∃ s2,WY n b (ca+1)=s2:=⟨_,rfl⟩;rw[hs2] at hst;generalize WY n b ca=s1 at *;have w1:IntKind.i64.wrap ((ca:Int)+1)=(ca:Int)+1:=Ad (by omega) (by omega);simp[hsh,hlt];refine AH [false,true,false,true,true,true] (fun v:Nat=>v≤N) (fun v:Nat=>[(3,.ref 1),(5,.d (.int .i64 v))]) (fun v:Nat=>fun sl=>sl.take 1++[.arr 133 true (s1.map At++(Us n b ca v).map At)]) (fun v:Nat=>N - v) 0 ?_ ?_ ?_
   · exact Nat.zero_le _
   · exact⟨[0,1],by simp[Us]⟩
   rintro I2 S2 μ2 hI2 hS2 hμ2 v hv;have hvl:=T7 (n:=n) (b:=b) (ca:=ca) v;by_cases hlt2:v<N
   · have hsv:Us n b ca (v+1)=if iX n b ((ca:Int),(v:Int))=true then Us n b ca v++[((ca:Int),(v:Int))] else Us n b ca v:=rfl;have hkc:iX n b ((ca:Int),(v:Int))=((Fp (v:Int) (ca:Int)==0)&&(Jt n b ((ca:Int),(v:Int))&&Rl n b ((ca:Int),(v:Int)) n)):=rfl;have kI0:=kI ((ca:Int),(v:Int));have w2:IntKind.i64.wrap ((v:Int)+1)=(v:Int)+1:=Ad (by omega) (by omega);obtain⟨p2,hp2⟩:∃ p2,Us n b ca (v+1)=p2:=⟨_,rfl⟩;rw[hp2] at hsv;generalize Us n b ca v=p1 at *;rcases ABu (Fp (v:Int) (ca:Int)==0) with h1|h1
     · have hne:(Fp (v:Int) (ca:Int) != 0)=false:=by simp[bne,h1]
       cases hI3:Jt n b ((ca:Int),(v:Int)) with
       | false =>
         rw[h1,hI3] at hkc;rw[hkc,if_neg (by simp)] at hsv;rw[hI3] at kI0;simp[hsh,hlt2,hne,h1];refine Ab (kI0) ?_;simp[w2];exact Ae hI2 hS2 hμ2 (v+1) (by omega) (by omega) ⟨[0,1],by simp[hp2,hsv]⟩
       | true =>
         rw[h1,hI3,Bool.true_and,Bool.true_and] at hkc;rw[hI3] at kI0;rw[hkc] at hsv;simp[hsh,hlt2,hne,h1];refine Ab (kI0) ?_;simp;refine AH [false,true,false,true,true,true,true,true,true] (fun k:Nat=>k≤n) (fun k:Nat=>[(7,.d (.bool (Rl n b ((ca:Int),(v:Int)) k))),(8,.d (.int .i64 k))]) (fun k:Nat=>fun sl=>sl) (fun k:Nat=>n - k) 0 ?_ ?_ ?_
         · exact Nat.zero_le _
         · exact⟨[0,1,2],by simp[Rl]⟩
         rintro I3 S3 μ3 hI3' hS3 hμ3 k hk;by_cases hlt3:k<n
         · have hpk:Rl n b ((ca:Int),(v:Int)) (k+1)=(Rl n b ((ca:Int),(v:Int)) k&&pA n b ((ca:Int),(v:Int)) k):=rfl;have hps:pA n b ((ca:Int),(v:Int)) k=!((CR (Dm (ca:Int) (k:Int)) 1==1)&&Jt n b (WK ((ca:Int),(v:Int)) k)):=rfl;have kI4:=kI (WK ((ca:Int),(v:Int)) k);have hlc:icb (WK ((ca:Int),(v:Int)) k)=.agg [.int .i64 (Fp (ca:Int) (EC 1 (k:Int))),.int .i64 (Fp (v:Int) (EC 1 (k:Int)))]:=rfl;rw[hlc] at kI4;have w3:IntKind.i64.wrap ((k:Int)+1)=(k:Int)+1:=Ad (by omega) (by omega);obtain⟨q2,hq2⟩:∃ q2,Rl n b ((ca:Int),(v:Int)) (k+1)=q2:=⟨_,rfl⟩;rw[hq2] at hpk;generalize Rl n b ((ca:Int),(v:Int)) k=q1 at *;rcases ABu (CR (Dm (ca:Int) (k:Int)) 1==1) with h4|h4
           · cases hI4:Jt n b (WK ((ca:Int),(v:Int)) k) with
             | false =>
               rw[h4,hI4] at hps;rw[hps] at hpk;rw[hI4] at kI4;simp[hlt3];refine AJ 18 (by kernel_rfl) ?_;simp[h4];refine Ab (kI4) ?_;simp[w3];exact Ae hI3' hS3 hμ3 (k+1) (by omega) (by omega) ⟨[0,1,2],by simp[hq2,hpk]⟩
             | true =>
               rw[h4,hI4] at hps;rw[hps] at hpk;rw[hI4] at kI4;simp[hlt3];refine AJ 18 (by kernel_rfl) ?_;simp[h4];refine Ab (kI4) ?_;simp[w3];exact Ae hI3' hS3 hμ3 (k+1) (by omega) (by omega) ⟨[0,1,2],by simp[hq2,hpk]⟩
           · rw[h4] at hps;rw[hps] at hpk;simp[hlt3];refine AJ 18 (by kernel_rfl) ?_;simp[h4,w3];exact Ae hI3' hS3 hμ3 (k+1) (by omega) (by omega) ⟨[0,1,2],by simp[hq2,hpk]⟩
         obtain rfl:k=n:=by omega
         generalize Rl k b ((ca:Int),(v:Int)) k=q at *
         cases q with
         | false =>
           rw[if_neg (by simp)] at hsv;simp[hlt3,w2];exact Ae hI2 hS2 hμ2 (v+1) (by omega) (by omega) ⟨[0,1],by simp[hp2,hsv]⟩
         | true =>
           rw[if_pos rfl] at hsv;have hsvm:p2.map At=p1.map At++[[.int .i64 (ca:Int),.int .i64 (v:Int)]]:=by rw[hsv,ABe];rfl
           simp[hlt3];refine Ak MG rfl (by simp) rfl (by simp) (by simp) (by first | (simp;done)|(simp;omega)) (by simp[AR,AL]) ?_;simp[w2];exact Ae hI2 hS2 hμ2 (v+1) (by omega) (by omega) ⟨[0,4],by simp[hp2,hsvm]⟩
     · rw[h1] at hkc;rw[hkc,Bool.false_and,if_neg (by simp)] at hsv;have hne:(Fp (v:Int) (ca:Int) != 0)=true:=by simp[bne,h1]
       simp[hsh,hlt2,hne,h1,w2];exact Ae hI2 hS2 hμ2 (v+1) (by omega) (by omega) ⟨[0,1],by simp[hp2,hsv]⟩
   obtain rfl:v=N:=by omega
   have hsm:s2.map At=s1.map At++(Us n b ca v).map At:=by rw[hst,ABe]
   simp[hsh,hlt2,w1];exact Ae hI hS hμ (ca+1) (by omega) (by omega) ⟨[0,1],by simp[hs2,hsm]⟩
 obtain rfl:ca=N:=by omega
 simp[hsh,hlt]
theorem RJ {es:List (List D)} (h:∀ c∈es,∃ x:Ai,c=At x):(∀ c∈es,c.length=2)∧AR es:=by
 refine⟨fun c hc=>?_,fun c hc d hd=>?_⟩
 · obtain⟨x,rfl⟩:=h c hc;rfl
 · obtain⟨x,rfl⟩:=h c hc;simp only[At,e2,AC,List.mem_cons,List.not_mem_nil,or_false] at hd;rcases hd with rfl|rfl<;>rfl
theorem S7 (n:Nat) (b:Int) (h:Dq n b=true):CG Tryz.prog 101 [.agg [.d (.int .i64 (n:Int)),.d (.int .i64 b)]] [] (.d (.sl 133 ((GX n b).map At))) []:=by
 have hn:=QL h;have k0:=Jj (n:Int) b;rw[h] at k0;have kP:=VK n b h
 have hpl:(Hy n b).length≤256:=by
  have h1:=OW (b:=b) hn (2 ^ n);have h2:=(IF hn).2;show (WY n b (2 ^ n)).length≤256;generalize 2 ^ n=N at *;omega
 obtain⟨R,hR⟩:∃ R,GX n b=R:=⟨_,rfl⟩;have hR2:=hR;unfold GX at hR2;rw[hR];generalize Hy n b=P at *;have w0:IntKind.i64.wrap ((P.length:Int) - 1)=(P.length:Int) - 1:=Ad (by omega) (by omega);refine BA (by kernel_rfl) Tryz.func101 rfl rfl rfl (by simp[Bi,Later]) (by simp[BN,Ah.live]) ?_;simp;refine Ab (kP) ?_;simp;refine Ab (k0) ?_;simp[w0];refine AH [false,true,false,true,true] (fun p:Nat×List Ai=>p.1≤p.2.length∧p.2.length≤256∧nR n b p.1 p.2=R) (fun p:Nat×List Ai=>[(3,.d (.sl 133 (p.2.map At))),(4,.d (.int .i64 ((p.1:Int) - 1)))]) (fun p:Nat×List Ai=>fun sl=>sl.take 1) (fun p:Nat×List Ai=>p.1) (P.length,P) ?_ ?_ ?_
 · exact⟨Nat.le_refl _,hpl,hR2⟩
 · exact⟨[0],by simp⟩
 rintro I S μ hI hS hμ ⟨k,L⟩ ⟨q1,q2,q3⟩;simp only at q1 q2 q3
 match k,q1,q3 with
 | 0,q1,q3 =>
   have q3':L=R:=q3;subst q3';simp;exact⟨[],by simp⟩
 | k+1,q1,q3 =>
   have kT:=gF n L (k:Int) hn (by omega);rw[nR] at q3;have hki:((k+1:Nat):Int) - 1=(k:Int):=by omega
   rw[hki];have w1:IntKind.i64.wrap ((k:Int) - 1)=(k:Int) - 1:=Ad (by omega) (by omega);have w2:IntKind.i64.wrap ((k:Int)+1)=((k+1:Nat):Int):=by rw[Ad (by omega) (by omega)];omega
   generalize Jv L (k:Int) (2 ^ n)=tb at *;by_cases hb:tb=b
   · rw[if_pos hb] at q3;subst hb;have hlm:(L.take k++L.drop (k+1)).map At=(L.map At).take k++(L.map At).drop (k+1):=by rw[ABe,List.map_take,List.map_drop]
     have hll:(L.take k++L.drop (k+1)).length=L.length - 1:=by simp;omega
     obtain⟨k1,hk1⟩:∃ k1,k+1=k1:=⟨_,rfl⟩;rw[hk1] at w2 hlm q1;rw[hk1] at hll q3;have ht1:=RJ (es:=(L.map At).take k) fun c hc=>by obtain⟨x,_,rfl⟩:=ABc.1 (List.mem_of_mem_take hc);exact⟨x,rfl⟩
     have ht2:=RJ (es:=(L.map At).drop k1) fun c hc=>by obtain⟨x,_,rfl⟩:=ABc.1 (List.mem_of_mem_drop hc);exact⟨x,rfl⟩
     have hal:((L.map At).all fun c=>c.length==Tryz.prog.cellsOf 133)=true:=by
      rw[zz8];intro c hc;obtain⟨x,_,rfl⟩:=ABc.1 hc;simp[At,e2]
     have htk:List.take L.length (L.map At)=L.map At:=AB8 (by simp);generalize L.take k++L.drop k1=L2 at *;simp;refine AJ 7 (by kernel_rfl) ?_;simp;refine Ab (kT) ?_;simp;refine Av [(4,[5,6,7,8]),(9,[]),(10,[])] (by kernel_rfl) ?_;simp[w2,show k≤L.length by omega,show k1≤L.length by omega,htk,At];refine Ak MG rfl (by simp) rfl (by simp) (by rw[Sf];exact ht1.1) (by simp;omega) (fun _=>ht1.2) ?_;simp[w2,show k1≤L.length by omega,htk,At];refine Ak MG rfl (by simp) rfl (by simp) (by rw[Sf];exact ht2.1) (by simp;omega) (fun _=>ht2.2) ?_;simp[w1];exact Ae hI hS hμ (k,L2) ⟨by simp only;omega,by simp only;omega,q3⟩ (by simp only;omega) ⟨[0],by simp[hlm]⟩
   · rw[if_neg hb] at q3;have hbe:(tb==b)=false:=by simpa using hb
     simp;refine AJ 7 (by kernel_rfl) ?_;simp;refine Ab (kT) ?_;simp[hbe,w1];exact Ae hI hS hμ (k,L) ⟨by simp only;omega,q2,q3⟩ (by simp only;omega) ⟨[0],by simp⟩
end Go.Proofs.YtnjedabjbeipeaaGreat
