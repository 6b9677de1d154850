/-
  Levels, joined conjunctions and ordered lists by the reference, by abstract walks.
  Conditions: those typed in each theorem.
-/
import Derived.Test.YtnjedabjbeipeaaGreatTa
import Derived.Test.YtnjedabjbeipeaaGreatPd
namespace Go.Proofs.YtnjedabjbeipeaaGreat
open Go.RowKit Go.ChangeShapes Go.WideShapes
set_option linter.unusedSimpArgs false
set_option linter.unusedVariables false
set_option maxRecDepth 100000
set_option maxHeartbeats 10000000
theorem NB (x:AK) (hx:Cz 1048576 x) (hok:Al x=true):Bx Tryz.prog 72 [Ge x] (ints (WW x)):=by
 obtain⟨⟨n1,n2,n3,n4,n5,n6⟩,o1,o2,o3⟩:=AA hok;obtain⟨hF,hgl,hNi,hno⟩:=A7 hok;have hN:=Bp x;have k1:=Co x hx (CJ hok);rw[hok] at k1;have k2:=Bt x;rw[hno] at k2;have k3:=BE x ⟨n1,n2⟩ n3;rw[show 1+x.1+(x.2.1.length:Int)=((Aa x:Nat):Int) by omega] at k3;have hrep:List.replicate (A0 x) [D.int .i64 0]=(Rx x 0).map (e1 AC):=by simp[Rx,e1,AC]
 unfold WW;refine B3 (by kernel_rfl) Tryz.func72 rfl rfl rfl ?_;simp[Ao];refine Ab (k1) ?_;simp[Ao];refine Ab (k2) ?_;simp[Ao];refine⟨by omega,?_⟩;rw[hrep];refine AH [false,true,false,true,true] (fun i:Nat=>i≤x.2.2.1.length) (fun i:Nat=>[(4,.d (.int .i64 i))]) (fun i:Nat=>fun sl=>sl.take 1++[.arr 3 true ((Rx x i).map (e1 AC))]) (fun i:Nat=>x.2.2.1.length - i) 0 ?_ ?_ ?_
 · exact Nat.zero_le _
 · exact⟨[0,1],by simp⟩
 rintro I S μ hI hS hμ i hi;have hll:=T2 (x:=x) i;have hlr:=Za (x:=x) i;by_cases hlt:i<x.2.2.1.length
 · obtain⟨hA,a1,a2,a3,a4,a5,a6⟩:=CW hok (v:=Aa x+i) (by omega) (by omega);rw[Nat.add_sub_cancel_left] at hA;have hst:Rx x (i+1)=(Rx x i).set (Aa x+i) (1+GD (A1 (Rx x i) ((Aj x (Aa x+i)).1 / 2)) (A1 (Rx x i) ((Aj x (Aa x+i)).2 / 2))):=rfl;have hL:(At (Aj x (Aa x+i))).length=2:=rfl;obtain⟨s2,hs2⟩:∃ s2,Rx x (i+1)=s2:=⟨_,rfl⟩;rw[hs2] at hst;generalize Rx x i=s1 at *;generalize Aj x (Aa x+i)=an at *;have t1:=B8 (lv:=s1) (k:=an.1 / 2) (by omega);have t2:=B8 (lv:=s1) (k:=an.2 / 2) (by omega);have p1:0≤A1 s1 (an.1 / 2)∧A1 s1 (an.1 / 2)≤(i:Int):=hlr _ (zz6 t1);have p2:0≤A1 s1 (an.2 / 2)∧A1 s1 (an.2 / 2)≤(i:Int):=hlr _ (zz6 t2);generalize A1 s1 (an.1 / 2)=y1 at *;generalize A1 s1 (an.2 / 2)=y2 at *;have w1:IntKind.i64.wrap ((i:Int)+1)=(i:Int)+1:=Ad (by omega) (by omega);have w2:IntKind.i64.wrap (an.1.tdiv 2)=an.1 / 2:=M5 a1 (by omega);have w3:IntKind.i64.wrap (an.2.tdiv 2)=an.2 / 2:=M5 a2 (by omega);obtain⟨v,hv⟩:∃ v,Aa x+i=v:=⟨_,rfl⟩;have w4:IntKind.i64.wrap ((Aa x:Int)+(i:Int))=(v:Int):=by rw[Ad (by omega) (by omega)];omega
   rw[hv] at hst;have hvl:v<s1.length:=by omega
   have hmx:(if y1<y2 then y2 else y1)=GD y1 y2:=rfl;have hm0:0≤GD y1 y2∧GD y1 y2≤1000:=by unfold GD;split<;>omega
   generalize GD y1 y2=mm at *;have w5:IntKind.i64.wrap (1+mm)=1+mm:=Ad (by omega) (by omega);have hse:(s1.map (e1 AC)).set v [D.int .i64 (1+mm)]=s2.map (e1 AC):=by rw[hst,List.map_set];rfl
   have z1:¬ an.1 / 2<0:=by omega
   have z2:¬ an.2 / 2<0:=by omega
   obtain⟨z0,hz0⟩:∃ z0,s1[v]? = some z0:=⟨_,zz0 hvl⟩;simp[zz2 hlt];refine AJ 28 (by kernel_rfl) ?_;simp[hA,hL,At,Ao];refine Ab (k3) ?_;simp[w4,w2,w3,t1,t2,z1,z2,hA,hL,At,hmx,w5,hz0,hse,w1];exact Ae hI hS hμ (i+1) (by omega) (by omega) ⟨[0,1],by simp[hs2]⟩
 obtain rfl:i=x.2.2.1.length:=by omega
 simp[hlt,zz3 hlt]
theorem Hz {s:List Bool} {k:Nat}:(s.map (e1 CQ)).set k [D.bool true]=(s.set k true).map (e1 CQ):=by rw[List.map_set];rfl
theorem Va {s:List Bool} {k:Nat}:(s.map (e1 CQ)).set k [D.bool false]=(s.set k false).map (e1 CQ):=by rw[List.map_set];rfl
theorem Sb (x:AK) (v:Nat) (hx:Cz 1048576 x) (hok:Al x=true) (h1:Aa x≤v) (h2:v<A0 x):Bx Tryz.prog 70 [Ge x,.d (.int .i64 v)] (ints (Fa x v)):=by
 obtain⟨⟨n1,n2,n3,n4,n5,n6⟩,o1,o2,o3⟩:=AA hok;obtain⟨hF,hgl,hNi,hno⟩:=A7 hok;have hN:=Bp x;have k1:=Co x hx (CJ hok);rw[hok] at k1;have k2:=Bt x;rw[hno] at k2;have k3:=BE x ⟨n1,n2⟩ n3;rw[show 1+x.1+(x.2.1.length:Int)=((Aa x:Nat):Int) by omega] at k3;obtain⟨N2,hN2⟩:∃ N2,2*A0 x=N2:=⟨_,rfl⟩;obtain⟨v2,hv2⟩:∃ v2,2*v=v2:=⟨_,rfl⟩;have w0:IntKind.i64.wrap (2*(A0 x:Int))=(N2:Int):=by rw[Ad (by omega) (by omega)];omega
 have w1:IntKind.i64.wrap (2*(v:Int))=(v2:Int):=by rw[Ad (by omega) (by omega)];omega
 have hrep:(List.replicate N2 [D.bool false]).set v2 [D.bool true]=(QZ x v 0).map (e1 CQ):=by
  rw[show QZ x v 0=(List.replicate (2*A0 x) false).set (2*v) true from rfl,←Hz,List.map_replicate,hN2,hv2];rfl
 have hvN:v2<N2:=by omega
 have hzz:(List.replicate N2 [D.bool false])[v2]? = some [D.bool false]:=by rw[List.getElem?_replicate,if_pos hvN]
 refine B3 (by kernel_rfl) Tryz.func70 rfl rfl rfl ?_;simp[Ao];refine Ab (k1) ?_;simp[Ao];refine Ab (k3) ?_;simp[Ao,show ¬ (v:Int)<(Aa x:Int) by omega,show (Aa x:Int)≤(v:Int) by omega];refine Ab (k2) ?_;simp[Ao,show ¬ (A0 x:Int)≤(v:Int) by omega,show (v:Int)<(A0 x:Int) by omega,h2];refine Ab (k2) ?_;simp[Ao,w0];refine⟨by omega,?_⟩;simp[w1,hzz,hrep];refine AH [false,false,true,false,false,true,true,true] (fun j:Nat=>j≤v+1 - Aa x) (fun j:Nat=>[(7,.d (.int .i64 ((v:Int) - (j:Int))))]) (fun j:Nat=>fun sl=>sl.take 2++[.arr 4 true ((QZ x v j).map (e1 CQ))]) (fun j:Nat=>v+1 - Aa x - j) 0 ?_ ?_ ?_
 · exact Nat.zero_le _
 · exact⟨[0,1,2],by simp⟩
 rintro I S μ hI hS hμ j hj;have hcl:=OV (x:=x) (v:=v) j;by_cases hlt:j<v+1 - Aa x
 · obtain⟨k,hk⟩:∃ k:Nat,v - j=k:=⟨_,rfl⟩;have hki:(v:Int) - (j:Int)=(k:Int):=by omega
   rw[hki];obtain⟨hA,a1,a2,a3,a4,a5,a6⟩:=CW hok (v:=k) (by omega) (by omega);have hst:QZ x v (j+1)=Gq x (QZ x v j) k:=by rw[←hk];rfl
   obtain⟨s2,hs2⟩:∃ s2,QZ x v (j+1)=s2:=⟨_,rfl⟩;rw[hs2] at hst;unfold Gq at hst;generalize QZ x v j=s1 at *;have hat:=Du (s:=s1) (v:=2*k) (by omega);obtain⟨k2,hk2⟩:∃ k2,2*k=k2:=⟨_,rfl⟩;obtain⟨kf,hkf⟩:∃ kf,k - Aa x=kf:=⟨_,rfl⟩;have w2:IntKind.i64.wrap (2*(k:Int))=(k2:Int):=by rw[Ad (by omega) (by omega)];omega
   have w3:IntKind.i64.wrap ((k:Int) - (Aa x:Int))=(kf:Int):=by rw[Ad (by omega) (by omega)];omega
   rw[hk2] at hst hat;rw[hkf] at hA;have hk2l:k2<s1.length:=by omega
   have w4:IntKind.i64.wrap ((k:Int) - 1)=(v:Int) - ((j:Int)+1):=by rw[Ad (by omega) (by omega)];omega
   have hL:(At (Aj x k)).length=2:=rfl;have hge:(Aa x:Int)≤(k:Int):=by omega
   have hge2:¬ (k:Int)<(Aa x:Int):=by omega
   cases hb:AX s1 k2 with
   | false =>
     rw[hb,if_neg (by simp)] at hst;rw[hb] at hat;simp;refine Ab (k3) ?_;simp[Ao,hge,hge2,w2,hat,w4];exact Ae hI hS hμ (j+1) (by omega) (by omega) ⟨[0,1,2],by simp[hs2,hst]⟩
   | true =>
     rw[hb,if_pos rfl] at hst;rw[hb] at hat;generalize Aj x k=an at *;obtain⟨u1,hu1⟩:∃ u1:Nat,an.1=(u1:Int):=⟨an.1.toNat,by omega⟩;obtain⟨u2,hu2⟩:∃ u2:Nat,an.2=(u2:Int):=⟨an.2.toNat,by omega⟩;rw[hu1,hu2,Int.toNat_natCast,Int.toNat_natCast] at hst;have e0:=Va (s:=s1) (k:=k2);have e1':=Hz (s:=s1.set k2 false) (k:=u1);have e2':=Hz (s:=(s1.set k2 false).set u1 true) (k:=u2);obtain⟨z0,hz0⟩:∃ z0,(s1.set k2 false)[u1]? = some z0:=⟨_,zz0 (by rw[ABf];omega)⟩;obtain⟨z1,hz1⟩:∃ z1,((s1.set k2 false).set u1 true)[u2]? = some z1:=⟨_,zz0 (by rw[ABf,ABf];omega)⟩;rw[←hst] at e2';have l1:(s1.set k2 false).length=2*A0 x:=by rw[ABf];exact hcl
     have l2:((s1.set k2 false).set u1 true).length=2*A0 x:=by rw[ABf];exact l1
     generalize (s1.set k2 false).set u1 true=m2 at *;generalize s1.set k2 false=m1 at *;have hen:At an=[D.int .i64 (u1:Int),D.int .i64 (u2:Int)]:=by rw[←hu1,←hu2];rfl
     rw[hen] at hL;simp;refine Ab (k3) ?_;simp[Ao,hge,hge2,w2,hat];refine AJ 9 (by kernel_rfl) ?_;simp[Ao];refine Ab (k3) ?_;simp[Ao,w3,hA,hL,hen,w2,hat,e0,hz0,e1',hz1,e2',w4,hcl,l1,l2,hk2l];exact Ae hI hS hμ (j+1) (by omega) (by omega) ⟨[0,1,2],by simp[hs2]⟩
 obtain rfl:j=v+1 - Aa x:=by omega
 clear hI hS hμ;rw[hN2] at hcl;have hcj:Fa x v=CM (QZ x v (v+1 - Aa x)) N2:=by unfold Fa CV;rw[hcl]
 rw[hcj];generalize QZ x v (v+1 - Aa x)=m at *;simp;refine Ab (k3) ?_;simp[Ao,show ¬ (Aa x:Int)≤(v:Int) - ((v+1 - Aa x:Nat):Int) by omega,show (v:Int) - ((v+1 - Aa x:Nat):Int)<(Aa x:Int) by omega];refine AH [false,false,false,false,false,true,true,false,false,true] (fun k:Nat=>k≤N2) (fun k:Nat=>[(5,.ref 1),(9,.d (.int .i64 k))]) (fun k:Nat=>fun sl=>sl.take 1++[.arr 3 true ((CM m k).map (e1 AC)),.arr 4 true (m.map (e1 CQ))]) (fun k:Nat=>N2 - k) 0 ?_ ?_ ?_
 · exact Nat.zero_le _
 · exact⟨[0,1,2],by simp[CM]⟩
 rintro I S μ hI hS hμ k hk;by_cases hlt2:k<N2
 · have hat:=Du (s:=m) (v:=k) (by omega);have hst:=JA (s:=m) (k:=k)
   have hml:(CM m k).length≤1000:=by
    unfold CM;rw[AB7];have:=List.length_filter_le (AX m) (List.range k);rw[List.length_range] at this;omega
   have w2:IntKind.i64.wrap ((k:Int)+1)=(k:Int)+1:=Ad (by omega) (by omega)
   cases hb:AX m k with
   | false =>
     rw[hb,if_neg (by simp)] at hst;rw[hb] at hat;simp[hcl,zz2 hlt2,hat,w2];exact Ae hI hS hμ (k+1) (by omega) (by omega) ⟨[0,1,2],by simp[hst]⟩
   | true =>
     rw[hb,if_pos rfl] at hst;rw[hb] at hat;generalize CM m k=ms at *;simp[hcl,zz2 hlt2,hat];refine Ak As rfl (by simp) rfl (by simp) (by simp) (by first | (simp;done)|(simp;omega)) (by simp[AR,AL]) ?_;simp[w2];exact Ae hI hS hμ (k+1) (by omega) (by omega) ⟨[0,4,2],by simp[hst]⟩
 obtain rfl:k=N2:=by omega
 simp[hcl,hlt2,zz3 hlt2]
end Go.Proofs.YtnjedabjbeipeaaGreat
