/-
  Refactoring by the reference, the whole, by an abstract walk.
  Conditions: those typed in each theorem.
-/
import Derived.Test.YtnjedabjbeipeaaGreatTi
import Derived.Test.YtnjedabjbeipeaaGreatSf
import Derived.Test.YtnjedabjbeipeaaGreatSe
namespace Go.Proofs.YtnjedabjbeipeaaGreat
open Go.RowKit Go.ChangeShapes Go.WideShapes
set_option linter.unusedSimpArgs false
set_option linter.unusedVariables false
set_option maxRecDepth 100000
set_option maxHeartbeats 10000000
theorem VZ (x:AK) (hok0:Al x=true) (h3x:x.2.2.1.length<300):CG Tryz.prog 30 [RW x] [] (RW (Lu x)) []:=by
 have hx0:=BZ hok0;have hg0:=CJ hok0;have kO:=Co x hx0 hg0;rw[hok0] at kO;have kH:=QD x hx0 hg0 hok0 h3x;have hok:=J3 hok0;have hRG:Lu x=if 40<(CB x).2.2.1.length then CB x else jY 41 0 (CB x):=rfl;generalize Lu x=RG at *;generalize CB x=h0 at *;have n40:=(AA hok).1.2.2.2.1;refine BA (by kernel_rfl) Tryz.func30 rfl rfl rfl (by simp[Bi,Later]) (by simp[BN,Ah.live]) ?_;simp;refine Ab (kO) ?_;simp;by_cases h40:40<h0.2.2.1.length
 · rw[if_pos h40] at hRG;subst hRG;refine Ac (kH) [] [] (by simp) ?_;simp[show (40:Int)<(RG.2.2.1.length:Int) by omega];exact⟨[],by simp⟩
 rw[if_neg h40] at hRG;refine Ac (kH) [] [] (by simp) ?_;simp[show ¬ (40:Int)<(h0.2.2.1.length:Int) by omega,show (h0.2.2.1.length:Int)≤40 by omega];refine AH [false,false,true,true,true] (fun p:Nat×Nat×AK=>p.1+p.2.1=41∧Al p.2.2=true∧p.2.2.2.2.1.length≤40∧RG=jY p.1 p.2.1 p.2.2) (fun p:Nat×Nat×AK=>[(3,.ptr 2 0),(4,.d (.int .i64 p.2.1))]) (fun p:Nat×Nat×AK=>fun _=>[ED x,zG,ED p.2.2]) (fun p:Nat×Nat×AK=>p.1) (41,0,h0) ?_ ?_ ?_
 · exact⟨rfl,hok,by simp only;omega,hRG⟩
 · exact⟨[0,1,2],by simp[zG,ED]⟩
 rintro I S μ hI hS hμ ⟨n,i,h⟩ ⟨q1,q2,q3,q4⟩;simp only at q1 q2 q3 q4;by_cases hlt:i<h.2.2.1.length
 · obtain⟨m,rfl⟩:∃ m,n=m+1:=⟨n - 1,by omega⟩;rw[jY,if_pos hlt] at q4;have hx:=BZ q2;have hg:=CJ q2;obtain⟨⟨n1,n2,n3,n4,n5,n6⟩,-,-,-⟩:=AA q2;obtain⟨hF,hgl,hNi,hno⟩:=A7 q2;have hN:=Bp h;obtain⟨en1,en2,en3'⟩:=bV q2 (i:=i) (by omega);have hgood:=(IZ q2 (Aa h+i) (by omega)).1;have kE:=Yc h (Aa h+i) hx hg q2 (by omega) en2 (fun c hc=>(hgood c hc).len);have hbel:=fun q c hq hm=>XJ q2 (i:=i) (by omega) (q:=q) (c:=c) hq hm;have kF:=BE h ⟨n1,n2⟩ n3;rw[show 1+h.1+(h.2.1.length:Int)=((Aa h:Nat):Int) by omega] at kF;have kRA:=fun c hm hin=>VJ h i c q2 hlt hm hin;have hrb:=fun cs=>XO q2 (i:=i) cs;obtain⟨v,hv⟩:∃ v,Aa h+i=v:=⟨_,rfl⟩;have w0:IntKind.i64.wrap ((Aa h:Int)+(i:Int))=(v:Int):=by rw[Ad (by omega) (by omega)];omega
   rw[hv] at kE en1 en2 en3' hgood hbel q4;rw[hv] at kRA;have w1:IntKind.i64.wrap ((i:Int)+1)=(i:Int)+1:=Ad (by omega) (by omega);generalize hcs:Em h v=cs at *;obtain⟨L1,hL1⟩:∃ L1,cs.length - 1=L1:=⟨_,rfl⟩;have w2:IntKind.i64.wrap ((cs.length:Int) - 1)=(L1:Int):=by rw[Ad (by omega) (by omega)];omega
   rw[hL1] at q4;simp[zz2 hlt];refine Av [(5,[]),(6,[])] (by kernel_rfl) ?_;simp[Ao];refine Ab (kF) ?_;simp[Ao,w0];refine Ax (kE) [] [] (by simp) (by simp[A9]) ?_;simp;refine AH [false,false,true,true,true,true,true] (fun k:Nat=>k≤L1∧RG=jY m (i+1) (pR h i ((cs.take L1).drop k))) (fun k:Nat=>[(6,.d (.int .i64 k))]) (fun k:Nat=>fun sl=>sl) (fun k:Nat=>L1 - k) 0 ?_ ?_ ?_
   · exact⟨Nat.zero_le _,q4⟩
   · exact⟨[0,1,2],by simp⟩
   rintro I2 S2 μ2 hI2 hS2 hμ2 k ⟨hk,hkR⟩;by_cases hlt2:k<L1
   · obtain⟨c,hc⟩:∃ c,cs[k]? = some c:=⟨_,zz0 (by omega)⟩;have hmap:=en3' k c hc (by omega);have hin:=hbel k c hc hmap;have kR:=kRA c hmap hin;have hcL:(Az c).length=1:=rfl
     have Gf:(cs.take L1).drop k=c::(cs.take L1).drop (k+1):=by
      have hkl:k<(cs.take L1).length:=by rw[ACC];omega
      rw[List.drop_eq_getElem_cons hkl]
      congr 1
      rw[List.getElem_take];exact (zz1.1 hc).2
     rw[Gf,pR] at hkR;have w3:IntKind.i64.wrap ((k:Int)+1)=(k:Int)+1:=Ad (by omega) (by omega);have hmok:=YC q2 (i:=i) (c:=c);generalize Rr h i c=G at *;obtain⟨g,ob⟩:=G;simp only at hkR kR hmok
     cases ob with
     | false =>
       rw[if_neg (by simp)] at hkR;simp[w2,hlt2,zz2 hlt2];refine JL [(9,[13]),(10,[13]),(11,[13]),(12,[13]),(14,[]),(15,[])] (by kernel_rfl) ?_;simp[Ao];refine Ab (kF) ?_;simp[Ao,w0,hc,Az];refine BK [(9,[13])] (by kernel_rfl) ?_;simp[AE,AF,List.erase_cons];refine Ax (kR) [] [] (by simp) (by simp[A9]) ?_;simp;refine BK [(10,[13])] (by kernel_rfl) ?_;simp[AE,AF,List.erase_cons];refine BK [(11,[13]),(12,[13])] (by kernel_rfl) ?_;simp[AE,AF,List.erase_cons];refine⟨?_,?_⟩
       · refine BK [(12,[13]),(14,[])] (by kernel_rfl) ?_;simp[AE,AF,List.erase_cons];refine⟨?_,?_⟩
         · refine BK [(14,[])] (by kernel_rfl) ?_;simp[AE,AF,List.erase_cons];refine BK [(15,[])] (by kernel_rfl) ?_;simp[AE,AF,List.erase_cons,w3];exact Ae hI2 hS2 hμ2 (k+1) ⟨by omega,hkR⟩ (by omega) ⟨[0,1,2],by simp⟩
         · refine BK [(12,[13])] (by kernel_rfl) ?_;simp[AE,AF,List.erase_cons];refine BK [(15,[])] (by kernel_rfl) ?_;simp[AE,AF,List.erase_cons,w3];exact Ae hI2 hS2 hμ2 (k+1) ⟨by omega,hkR⟩ (by omega) ⟨[0,1,2],by simp⟩
       · refine BK [(11,[13])] (by kernel_rfl) ?_;simp[AE,AF,List.erase_cons];refine BK [(14,[])] (by kernel_rfl) ?_;simp[AE,AF,List.erase_cons];refine BK [(15,[])] (by kernel_rfl) ?_;simp[AE,AF,List.erase_cons,w3];exact Ae hI2 hS2 hμ2 (k+1) ⟨by omega,hkR⟩ (by omega) ⟨[0,1,2],by simp⟩
     | true =>
       by_cases hsm:g.2.2.1.length<h.2.2.1.length
       · rw[if_pos ⟨rfl,hsm⟩] at hkR;simp[w2,hlt2,zz2 hlt2];refine JL [(9,[13]),(10,[13]),(11,[13]),(12,[13]),(14,[]),(15,[])] (by kernel_rfl) ?_;simp[Ao];refine Ab (kF) ?_;simp[Ao,w0,hc,Az];refine BK [(9,[13])] (by kernel_rfl) ?_;simp[AE,AF,List.erase_cons];refine Ax (kR) [] [] (by simp) (by simp[A9]) ?_;simp;refine BK [(10,[13])] (by kernel_rfl) ?_;simp[AE,AF,List.erase_cons];refine BK [(11,[13]),(12,[13])] (by kernel_rfl) ?_;simp[AE,AF,List.erase_cons];refine⟨?_,?_⟩
         · refine BK [(12,[13]),(14,[])] (by kernel_rfl) ?_;simp[AE,AF,List.erase_cons];refine⟨?_,?_⟩
           · refine BK [(14,[])] (by kernel_rfl) ?_;simp[AE,AF,List.erase_cons];refine BK [(15,[])] (by kernel_rfl) ?_;simp[AE,AF,List.erase_cons,zz2 hsm,w1];exact Ae hI hS hμ (m,i+1,g) ⟨by simp only;omega,hmok,by simp only;omega,hkR⟩ (by simp only;omega) ⟨[0,1,2],by simp⟩
           · refine BK [(12,[13])] (by kernel_rfl) ?_;simp[AE,AF,List.erase_cons];refine BK [(15,[])] (by kernel_rfl) ?_;simp[AE,AF,List.erase_cons,zz2 hsm,w1];exact Ae hI hS hμ (m,i+1,g) ⟨by simp only;omega,hmok,by simp only;omega,hkR⟩ (by simp only;omega) ⟨[0,1,2],by simp⟩
         · refine BK [(11,[13])] (by kernel_rfl) ?_;simp[AE,AF,List.erase_cons];refine BK [(14,[])] (by kernel_rfl) ?_;simp[AE,AF,List.erase_cons];refine BK [(15,[])] (by kernel_rfl) ?_;simp[AE,AF,List.erase_cons,zz2 hsm,w1];exact Ae hI hS hμ (m,i+1,g) ⟨by simp only;omega,hmok,by simp only;omega,hkR⟩ (by simp only;omega) ⟨[0,1,2],by simp⟩
       · rw[if_neg (fun hh=>hsm hh.2)] at hkR;simp[w2,hlt2,zz2 hlt2];refine JL [(9,[13]),(10,[13]),(11,[13]),(12,[13]),(14,[]),(15,[])] (by kernel_rfl) ?_;simp[Ao];refine Ab (kF) ?_;simp[Ao,w0,hc,Az];refine BK [(9,[13])] (by kernel_rfl) ?_;simp[AE,AF,List.erase_cons];refine Ax (kR) [] [] (by simp) (by simp[A9]) ?_;simp;refine BK [(10,[13])] (by kernel_rfl) ?_;simp[AE,AF,List.erase_cons];refine BK [(11,[13]),(12,[13])] (by kernel_rfl) ?_;simp[AE,AF,List.erase_cons];refine⟨?_,?_⟩
         · refine BK [(12,[13]),(14,[])] (by kernel_rfl) ?_;simp[AE,AF,List.erase_cons];refine⟨?_,?_⟩
           · refine BK [(14,[])] (by kernel_rfl) ?_;simp[AE,AF,List.erase_cons];refine BK [(15,[])] (by kernel_rfl) ?_;simp[AE,AF,List.erase_cons,zz3 hsm,hsm,w3];exact Ae hI2 hS2 hμ2 (k+1) ⟨by omega,hkR⟩ (by omega) ⟨[0,1,2],by simp⟩
           · refine BK [(12,[13])] (by kernel_rfl) ?_;simp[AE,AF,List.erase_cons];refine BK [(15,[])] (by kernel_rfl) ?_;simp[AE,AF,List.erase_cons,zz3 hsm,hsm,w3];exact Ae hI2 hS2 hμ2 (k+1) ⟨by omega,hkR⟩ (by omega) ⟨[0,1,2],by simp⟩
         · refine BK [(11,[13])] (by kernel_rfl) ?_;simp[AE,AF,List.erase_cons];refine BK [(14,[])] (by kernel_rfl) ?_;simp[AE,AF,List.erase_cons];refine BK [(15,[])] (by kernel_rfl) ?_;simp[AE,AF,List.erase_cons,zz3 hsm,hsm,w3];exact Ae hI2 hS2 hμ2 (k+1) ⟨by omega,hkR⟩ (by omega) ⟨[0,1,2],by simp⟩
   obtain rfl:k=L1:=by omega
   have hdn:(cs.take k).drop k=[]:=List.drop_eq_nil_of_le (by rw[ACC];omega);rw[hdn] at hkR;have hkR':RG=jY m (i+1) h:=hkR;simp[w2,hlt2,zz3 hlt2,w1];exact Ae hI hS hμ (m,i+1,h) ⟨by simp only;omega,q2,q3,hkR'⟩ (by simp only;omega) ⟨[0,1,2],by simp⟩
 have hRh:RG=h:=by
  cases n with
  | zero=>exact q4
  | succ n=>rw[jY,if_neg hlt] at q4;exact q4
 subst hRh;simp[hlt,zz3 hlt];exact⟨[],by simp⟩
def pa1 (a:AK) (c:B9):AK×B9 :=
 if a.2.2.1.length=0 then (a,c)
 else ((a.1,a.2.1,a.2.2.1.set (Au c a.2.2.1.length).toNat (Bl ((a.2.2.1[(Au c a.2.2.1.length).toNat]?).getD (0,0)).1 1,((a.2.2.1[(Au c a.2.2.1.length).toNat]?).getD (0,0)).2),a.2.2.2),Ag c a.2.2.1.length)
def pa3 (a:AK) (c:B9):AK×B9:=((a.1,a.2.1,a.2.2.1,a.2.2.2.set 0 (Au c (2*Bw a))),Ag c (2*Bw a))
noncomputable def yV (a:AK) (c:B9):AK×B9 :=
 if Au c 6=0 then (Lu a,Ag c 6) else if Au c 6=1 then pa1 a (Ag c 6) else if Au c 6=2 then Xb (Ag c 6) else if Au c 6=3 then pa3 a (Ag c 6) else (Rk a,Ag c 6)
noncomputable def P3 (c:B9):AK×B9:=yV (Fd c) (OR c)
theorem TC {x:AK} (hok:Al x=true):M7 x:=by
 obtain⟨⟨n1,n2,n3,n4,n5,n6⟩,o1,o2,o3⟩:=AA hok;exact⟨⟨by omega,fun s hs=>by have:=DE (o1 s hs);omega,by omega,by omega⟩,CJ hok⟩
theorem gR {a:AK} {c:B9} (hok:Al a=true) (h2:Bw a≤100):M7 (yV a c).1:=by
 have ht:=TC hok;obtain⟨⟨f1,f2,f3,f4⟩,g1,g2,g3,g4⟩:=ht;obtain⟨⟨n1,n2,n3,n4,n5,n6⟩,o1,o2,o3⟩:=AA hok;unfold yV;split
 · exact TC (aN hok)
 split
 · unfold pa1;split
   · exact⟨⟨f1,f2,f3,f4⟩,g1,g2,g3,g4⟩
   · refine⟨⟨f1,f2,by simpa using f3,f4⟩,g1,g2,fun q hq=>?_,g4⟩;rcases List.mem_or_eq_of_mem_set hq with hq|rfl
     · exact g3 q hq
     · cases hk:a.2.2.1[(Au (Ag c 6) a.2.2.1.length).toNat]? with
       | none =>
         refine⟨?_,?_⟩
         · simp only[Option.getD_none];rw[Bo (by omega) (by omega)];exact⟨by decide,by decide⟩
         · exact⟨by simp,by simp⟩
       | some y =>
         have hy:=g3 y (zz6 hk);have hr:=o3 _ y hk;refine⟨?_,hy.2⟩;simp only[Option.getD_some];have hl:=(zz1.1 hk).1;rw[Bo hr.1.1 (by omega)];have hf:=Bb hr.1.1;have hf2:=O2 (l:=y.1);exact⟨by omega,by omega⟩
 split
 · exact cL
 split
 · refine⟨⟨f1,f2,f3,by simpa [pa3] using f4⟩,fun y hy=>?_,g2,g3,g4⟩;rcases List.mem_or_eq_of_mem_set hy with hy|rfl
   · exact g1 y hy
   · have hb:=AV (Ag c 6) (n:=2*Bw a) (by omega);exact⟨by omega,by omega⟩
 · exact TC (mM hok)
theorem Un (c:B9) (h:c.ok):CG Tryz.prog 12 [.ptr 0 0] [Ce c] (.tup [oL (Fd c),oL (P3 c).1]) [Ce (P3 c).2]:=by
 have k1:=RZ c h;have hok:=MF (c:=c);obtain⟨l1,l2,l3,l4⟩:=O7 c;have hC:=Ys h;have hI:(Fd c).1≤4:=(LM c).1.2;unfold P3;generalize Fd c=a at *;generalize OR c=c0 at *;have kB:=aO a hok (by omega);have kR:=VZ a hok (by omega);obtain⟨⟨n1,n2,n3,n4,n5,n6⟩,o1,o2,o3⟩:=AA hok;have hx:=BZ hok;have kc:=FA a hx;have kz:=AG c0 6 hC (by omega);have hz:=AV c0 (n:=6) (by omega);have hC1:=Aw (n:=6) hC;have hP:yV a c0=if Au c0 6=0 then (Lu a,Ag c0 6) else if Au c0 6=1 then pa1 a (Ag c0 6) else if Au c0 6=2 then Xb (Ag c0 6) else if Au c0 6=3 then pa3 a (Ag c0 6) else (Rk a,Ag c0 6):=rfl;generalize yV a c0=W at *;generalize Au c0 6=z at *;generalize Ag c0 6=c1 at *;have kA:=Vr c1 hC1;have kN:=Bt a;refine BA (by kernel_rfl) Tryz.func12 rfl rfl rfl (by simp[Bi,Later]) (by simp[BN,Ah.live]) ?_;by_cases z0:z=0
 · subst z0;rw[if_pos rfl] at hP;subst hP;simp;refine Ac (k1) [] [0] (by simp) ?_;simp;refine Ac (kB) [] [] (by simp) ?_;simp;refine Ac (kz) [] [0] (by simp) ?_;simp;refine Ac (kR) [] [] (by simp) ?_;simp;refine Av [(2,[1]),(3,[])] (by kernel_rfl) ?_;simp;exact⟨[0],by simp⟩
 by_cases z1:z=1
 · subst z1;rw[if_neg (by omega),if_pos rfl] at hP;unfold pa1 at hP;obtain⟨I,sq,an,os⟩:=a;simp only at hP l1 l2 l3 l4 kc;by_cases h0:an.length=0
   · have ha:an=[]:=zz7 h0;rw[if_pos h0] at hP;subst hP ha;simp;refine Ac (k1) [] [0] (by simp) ?_;simp;refine Ac (kB) [] [] (by simp) ?_;simp;refine Ac (kz) [] [0] (by simp) ?_;simp;refine Ab (kc) ?_;simp[Ao];refine Av [(2,[1]),(3,[])] (by kernel_rfl) ?_;simp;exact⟨[0],by simp⟩
   · rw[if_neg h0] at hP;have hal:decide (0<an.length)=true:=zz2 (by omega);have kb:=AG c1 (an.length:Int) hC1 (by omega);have rb:=AV c1 (n:=(an.length:Int)) (by omega);obtain⟨u,hu⟩:∃ u:Nat,Au c1 (an.length:Int)=(u:Int):=⟨(Au c1 (an.length:Int)).toNat,by omega⟩;rw[hu,Int.toNat_natCast] at hP;rw[hu] at kb rb;generalize Ag c1 (an.length:Int)=c2 at *;obtain⟨y,hy⟩:∃ y,an[u]? = some y:=⟨_,zz0 (by omega)⟩;rw[hy,Option.getD_some] at hP;have hse:(an.map At).set u [D.int .i64 (Bl y.1 1),D.int .i64 y.2]=(an.set u (Bl y.1 1,y.2)).map At:=by rw[List.map_set];rfl
     generalize an.set u (Bl y.1 1,y.2)=an2 at *;have hL:(At y).length=2:=rfl;subst hP;simp;refine Ac (k1) [] [0] (by simp) ?_;simp;refine Ac (kB) [] [] (by simp) ?_;simp;refine Ac (kz) [] [0] (by simp) ?_;simp;refine Ab (kc) ?_;simp[Ao,hal];refine Ac (kb) [] [0] (by simp) ?_;simp;refine AJ 18 (by kernel_rfl) ?_;simp[hy,hL,At,hse];refine Av [(2,[1]),(3,[])] (by kernel_rfl) ?_;simp;exact⟨[0],by simp⟩
 by_cases z2:z=2
 · subst z2;rw[if_neg (by omega),if_neg (by omega),if_pos rfl] at hP;subst hP;simp;refine Ac (k1) [] [0] (by simp) ?_;simp;refine Ac (kB) [] [] (by simp) ?_;simp;refine Ac (kz) [] [0] (by simp) ?_;simp;refine Ac (kA) [] [0] (by simp) ?_;simp;refine Av [(2,[1]),(3,[])] (by kernel_rfl) ?_;simp;exact⟨[0],by simp⟩
 by_cases z3:z=3
 · subst z3;rw[if_neg (by omega),if_neg (by omega),if_neg (by omega),if_pos rfl] at hP;unfold pa3 at hP;have kb:=AG c1 (2*Bw a) hC1 (by omega);have w1:IntKind.i64.wrap (2*Bw a)=2*Bw a:=Ad (by omega) (by omega);generalize Ag c1 (2*Bw a)=c2 at *;generalize Au c1 (2*Bw a)=vv at *;obtain⟨I,sq,an,os⟩:=a;simp only at hP l1 l2 l3 l4 kc;generalize Bw (I,sq,an,os)=nn at *;obtain⟨y,ys,hos⟩:∃ y ys,os=y::ys:=by cases os with|nil=>simp at l3|cons y ys=>exact⟨y,ys,rfl⟩
   subst hos;simp only[List.set_cons_zero] at hP;subst hP;simp;refine Ac (k1) [] [0] (by simp) ?_;simp;refine Ac (kB) [] [] (by simp) ?_;simp;refine Ac (kz) [] [0] (by simp) ?_;simp;refine Ab (kc) ?_;simp[Ao];refine Av [(6,[0,1]),(7,[]),(8,[])] (by kernel_rfl) ?_;simp[Ao];refine Ab (kN) ?_;simp[Ao,w1];refine Ax (kb) [] [0] (by simp) (by simp[A9]) ?_;simp;refine Av [(2,[1]),(3,[])] (by kernel_rfl) ?_;simp;exact⟨[0],by simp[e1,AC]⟩
 rw[if_neg z0,if_neg z1,if_neg z2,if_neg z3] at hP;have b0:(z==0)=false:=by simpa using z0
 have b1:(z==1)=false:=by simpa using z1
 have b2:(z==2)=false:=by simpa using z2
 have b3:(z==3)=false:=by simpa using z3
 subst hP;simp;refine Ac (k1) [] [0] (by simp) ?_;simp;refine Ac (kB) [] [] (by simp) ?_;simp;refine Ac (kz) [] [0] (by simp) ?_;simp[b0,b1,b2,b3];refine Av [(2,[1]),(3,[])] (by kernel_rfl) ?_;simp;exact⟨[0],by simp⟩
theorem Rh (bs:List Int) (h:bs.length≤1048576):CG Tryz.prog 5 [.d (.sl 5 (bs.map (e1 LS)))] [] (.tup [oL (Fd (FW bs)),oL (P3 (FW bs)).1]) []:=by
 have k1:=NF bs h;have k2:=Un (FW bs) (YM h);generalize Fd (FW bs)=a at *;generalize P3 (FW bs)=r at *;generalize FW bs=c1 at *;refine BA (by kernel_rfl) Tryz.func5 rfl rfl rfl (by simp[Bi,Later]) (by simp[BN,Ah.live]) ?_;simp;refine Ac (k1) [] [] (by simp) ?_;simp;refine Ac (k2) [] [2] (by simp) ?_;simp;exact⟨[],by simp⟩
end Go.Proofs.YtnjedabjbeipeaaGreat
