/-
  Adding covers by the reference, by an abstract walk.
  Conditions: those typed in each theorem.
-/
import Derived.Test.YtnjedabjbeipeaaGreatTf
namespace Go.Proofs.YtnjedabjbeipeaaGreat
open Go.RowKit Go.ChangeShapes Go.WideShapes
set_option linter.unusedSimpArgs false
set_option linter.unusedVariables false
set_option maxRecDepth 100000
set_option maxHeartbeats 10000000
theorem SM {fa:Int} {lits:List Int} {c:Ai} {an0:List Ai} {k:Nat} (hf:(I7 fa lits c an0 k).2.2=false):∀ d,(I7 fa lits c an0 (k+d)).2.2=false
 | 0=>hf
 | d+1=>by
   have ih:=SM hf d;show (I7 fa lits c an0 (k+d+1)).2.2=false;rw[I7,if_pos ih];exact ih
theorem TK {fa:Int} {lits:List Int} {cs an0:List Ai} {i:Nat} (hf:(H5 fa lits cs an0 i).2.2=false):∀ d,(H5 fa lits cs an0 (i+d)).2.2=false
 | 0=>hf
 | d+1=>by
   have ih:=TK hf d;show (H5 fa lits cs an0 (i+d+1)).2.2=false;rw[H5,if_pos ih];exact ih
def sT (x:AK) (lits:List Int) (cs:List Ai):AK×Int :=
 if Cm lits.length cs=true∧(H5 (Aa x) lits cs x.2.2.1 cs.length).2.2=true then (Ap x (H5 (Aa x) lits cs x.2.2.1 cs.length).1,(H5 (Aa x) lits cs x.2.2.1 cs.length).2.1) else (x,-1)
theorem Lz (x:AK) (lits:List Int) (cs:List Ai) (hok:Al x=true) (h4:lits.length≤4) (hlr:∀ y∈lits,0≤y∧y<2*(A0 x:Int)) (hcl:cs.length≤1000) :
 BA Tryz.prog 104 [GD x,ints lits,fH cs] (.tup [GD (sT x lits cs).1,.d (.int .i64 (sT x lits cs).2)]):=by
 have hx:=B3 hok;have hg:=CT hok;obtain⟨⟨n1,n2,n3,n4,n5,n6⟩,-,-,-⟩:=AA hok;obtain⟨hF,hgl,hNi,hno⟩:=A9 hok;have hN:=Br x;have k1:=Cr x hx hg;rw[hok] at k1;have k2:=Bw x;rw[hno] at k2;have kc:=FV x hx;have kV:=QT lits.length cs h4 (by omega);have hf0:0<Aa x:=by unfold Aa;omega
 have hf1:Aa x≤40:=by unfold Aa;omega
 have hR:sT x lits cs=if Cm lits.length cs=true∧(H5 (Aa x) lits cs x.2.2.1 cs.length).2.2=true then (Ap x (H5 (Aa x) lits cs x.2.2.1 cs.length).1,(H5 (Aa x) lits cs x.2.2.1 cs.length).2.1) else (x,-1):=rfl;have hA:=QQ hok;have hSok:=fun i=>QU (fa:=(Aa x:Int)) (lits:=lits) (an0:=x.2.2.1) (n0:=x.2.2.1.length) (cs:=cs) (by omega) ⟨Nat.le_refl _,n4,hA,by simp only;omega⟩ (fun y hy=>by have:=hlr y hy;omega) i
 have hbad:∀ i,i≤cs.length→(H5 (Aa x) lits cs x.2.2.1 i).2.2=false→sT x lits cs=(x,-1):=fun i hi hf=>by
  have:=TK hf (cs.length - i);rw[show i+(cs.length - i)=cs.length by omega] at this;rw[hR,if_neg (fun h=>by rw[this] at h;exact Bool.false_ne_true h.2)]
 have hwok:∀ an:List Ai,x.2.2.1.length≤an.length→an.length≤300→G5 (Aa x) an→Al (Ap x an)=true:=fun an h1 h2 h3=>CY hok h1 h2 h3;refine B7 (by kernel_rfl) Tryz.func104 rfl rfl rfl ?_;simp[Ao];refine Ab (k1) ?_;simp[Ao,show ¬ (4:Int)<(lits.length:Int) by omega,show (lits.length:Int)≤4 by omega];refine Ab (kV) ?_;simp
 cases hcv:Cm lits.length cs with
 | false =>
   rw[hcv,if_neg (by simp)] at hR;rw[hR];simp;refine Ab (kc) ?_;simp[Ao]
 | true =>
 rw[hcv] at hR;simp
 --[dev
 refine AJ [false,true,true,true,false,false,true,false,true] (fun i:Nat=>i≤lits.length) (fun i:Nat=>[(8,.d (.int .i64 i))]) (fun i:Nat=>fun sl=>sl) (fun i:Nat=>lits.length - i) 0 ?_ ?_ ?_
 · exact Nat.zero_le _
 · exact⟨[0,1],by simp⟩
 rintro I S μ hI hS hμ i hi;by_cases hlt:i<lits.length
 · obtain⟨y,hy⟩:∃ y,lits[i]? = some y:=⟨_,A1 hlt⟩;have hyr:=hlr y (D4 hy);have kL:=H7 y (A0 x) (by unfold J0;omega) (by omega);rw[AP.2 (by omega:(0:Int)≤y∧y≤2*(A0 x:Int) - 1)] at kL;have w1:IntKind.i64.wrap ((i:Int)+1)=(i:Int)+1:=Ad (by omega) (by omega);simp[A8 hlt];refine AH 8 (by kernel_rfl) ?_;simp[hy,Ao];refine Ab (k2) ?_;simp[Ao];refine Ab (kL) ?_;simp[w1];exact Ae hI hS hμ (i+1) (by omega) (by omega) ⟨[0,1],by simp⟩
 obtain rfl:i=lits.length:=by omega
 clear hI hS hμ
 --]dev
 simp[hlt,BH hlt];refine Ab (kc) ?_;simp[Ao];refine AJ [false,true,true,true,false,false,true,false,false,true,true,true] (fun i:Nat=>i≤cs.length∧(H5 (Aa x) lits cs x.2.2.1 i).2.2=true) (fun i:Nat=>[(9,.ptr 5 0),(10,.d (.int .i64 (H5 (Aa x) lits cs x.2.2.1 i).2.1)),(11,.d (.int .i64 i))]) (fun i:Nat=>fun _=>[E2 x,zG,.arr 57 true (x.2.1.map AY),.arr 63 true ((H5 (Aa x) lits cs x.2.2.1 i).1.map At),.arr 3 true (x.2.2.2.map (e1 AC)),.var 28 [.d (.int .i64 x.1),.ref 2,.ref 3,.ref 4]]) (fun i:Nat=>cs.length - i) 0 ?_ ?_ ?_
 · exact⟨Nat.zero_le _,rfl⟩
 · exact⟨[0,1,2,3,4,5],by simp[H5,E2,zG]⟩
 rintro I S μ hI hS hμ i ⟨hi,hfl⟩;have hSi:=hSok i;by_cases hlt2:i<cs.length
 · obtain⟨cu,hcu⟩:∃ cu,cs[i]? = some cu:=⟨_,A1 hlt2⟩;have hL:(At cu).length=2:=rfl
   have hst:H5 (Aa x) lits cs x.2.2.1 (i+1)=if (H5 (Aa x) lits cs x.2.2.1 i).2.2=false then H5 (Aa x) lits cs x.2.2.1 i
    else (fun q:List Ai×Int×Bool=>if q.2.2=false then (q.1,0,false) else if Gw (Aa x) q.1 (H5 (Aa x) lits cs x.2.2.1 i).2.1 q.2.1<0 then (q.1,0,false) else (Ar q.1 (Af (H5 (Aa x) lits cs x.2.2.1 i).2.1) (Af q.2.1),Gw (Aa x) q.1 (H5 (Aa x) lits cs x.2.2.1 i).2.1 q.2.1,true)) (I7 (Aa x) lits cu (H5 (Aa x) lits cs x.2.2.1 i).1 lits.length):=by
    rw[H5,hcu];rfl
   have hbd:=hbad (i+1) (by omega);obtain⟨S2,hS2⟩:∃ S2,H5 (Aa x) lits cs x.2.2.1 (i+1)=S2:=⟨_,rfl⟩;rw[hS2] at hst hbd;generalize H5 (Aa x) lits cs x.2.2.1 i=S1 at *;obtain⟨an,s,bb⟩:=S1;simp only at hfl;subst hfl;simp only[Bool.true_eq_false,if_false] at hst;obtain⟨i1,i2,i3,i4⟩:=hSi;simp only at i1 i2 i3 i4;have hPok:=fun k hk=>YW (fa:=(Aa x:Int)) (lits:=lits) (c:=cu) (an0:=an) (n0:=an.length) (by omega) ⟨Nat.le_refl _,i2,i3,by simp only;omega⟩ (fun y hy=>by have:=hlr y hy;omega) k hk;have w1:IntKind.i64.wrap ((i:Int)+1)=(i:Int)+1:=Ad (by omega) (by omega);have hpf:=fun k hf=>SM (fa:=(Aa x:Int)) (lits:=lits) (c:=cu) (an0:=an) (k:=k) hf;simp[A8 hlt2];refine AJ [false,true,true,true,false,false,true,false,false,true,true,true,true,true] (fun k:Nat=>k≤lits.length∧(I7 (Aa x) lits cu an k).2.2=true) (fun k:Nat=>[(9,.ptr 5 0),(12,.d (.int .i64 (I7 (Aa x) lits cu an k).2.1)),(13,.d (.int .i64 k))]) (fun k:Nat=>fun _=>[E2 x,zG,.arr 57 true (x.2.1.map AY),.arr 63 true ((I7 (Aa x) lits cu an k).1.map At),.arr 3 true (x.2.2.2.map (e1 AC)),.var 28 [.d (.int .i64 x.1),.ref 2,.ref 3,.ref 4]]) (fun k:Nat=>lits.length - k) 0 ?_ ?_ ?_
   · exact⟨Nat.zero_le _,rfl⟩
   · exact⟨[0,1,2,3,4,5],by simp[I7]⟩
   rintro I2 S2' μ2 hI2 hS2' hμ2 k ⟨hk,hfk⟩;have hPk:=hPok k hk;have hpfk:=hpf (k+1);by_cases hlt3:k<lits.length
   · have hstk:I7 (Aa x) lits cu an (k+1)=if (I7 (Aa x) lits cu an k).2.2=false then I7 (Aa x) lits cu an k
      else if C0 (DD cu.1 (k:Int)) 1=1 then (if AZ (Aa x) (I7 (Aa x) lits cu an k).1 (I7 (Aa x) lits cu an k).2.1 (JP lits cu k)<0 then ((I7 (Aa x) lits cu an k).1,(I7 (Aa x) lits cu an k).2.1,false) else (Ar (I7 (Aa x) lits cu an k).1 (I7 (Aa x) lits cu an k).2.1 (JP lits cu k),AZ (Aa x) (I7 (Aa x) lits cu an k).1 (I7 (Aa x) lits cu an k).2.1 (JP lits cu k),true))
      else I7 (Aa x) lits cu an k:=rfl
     obtain⟨P2,hP2⟩:∃ P2,I7 (Aa x) lits cu an (k+1)=P2:=⟨_,rfl⟩;rw[hP2] at hstk hpfk;generalize I7 (Aa x) lits cu an k=P1 at *;obtain⟨an2,p,bb⟩:=P1;simp only at hfk;subst hfk;simp only[Bool.true_eq_false,if_false] at hstk;obtain⟨j1,j2,j3,j4⟩:=hPk;simp only at j1 j2 j3 j4;have w2:IntKind.i64.wrap ((k:Int)+1)=(k:Int)+1:=Ad (by omega) (by omega);have hrl:=Tt (lits:=lits) (c:=cu) (k:=k) (n:=(Aa x:Int)+an2.length) hlt3 (fun y hy=>by have:=hlr y hy;omega) (by omega);have hlt4:lits[k]? = some (A3 lits k):=by have:=Cc (lv:=lits) (k:=(k:Int)) (by omega);rwa [Int.toNat_natCast] at this
     have hla:Bm (Bm (A3 lits (k:Int)) 1) (C0 (DD cu.2 (k:Int)) 1)=JP lits cu k:=rfl;generalize JP lits cu k=lt at *;have hokA:=hwok an2 (by omega) j2 j3;have kD:=DW (Ap x an2) p lt hokA (by omega) (by omega);have hwN:(A0 (Ap x an2):Int)=Aa x+an2.length:=by rw[Ct];omega
     rw[Gu (by omega) (by omega)] at kD;have e1':Ap (Ap x an2) (Ar (Ap x an2).2.2.1 p lt)=Ap x (Ar an2 p lt):=rfl;have e2':AZ (Aa (Ap x an2)) (Ap x an2).2.2.1 p lt=AZ (Aa x) an2 p lt:=rfl;rw[e1',e2'] at kD;generalize AZ (Aa x) an2 p lt=v at *;generalize Ar an2 p lt=an3 at *;generalize A3 lits (k:Int)=lk at *;rcases Ep (C0 (DD cu.1 (k:Int)) 1==1) with hb|hb
     · rw[if_pos (by simpa using hb)] at hstk;by_cases hv:v<0
       · rw[if_pos hv] at hstk;have hff:=hpfk (by rw[hstk]) (lits.length - (k+1));rw[show k+1+(lits.length - (k+1))=lits.length by omega] at hff;rw[hff] at hst;simp only[if_true] at hst;have hRb:=hbd (by rw[hst]);rw[hRb];simp[A8 hlt3,hcu,hL,At,hb];refine Av [(21,[19]),(22,[])] (by kernel_rfl) ?_;simp[hlt4,hcu,hL,At,hla];refine Ab (kD) ?_;simp[Ap,Ao,hv,A8 hv];refine Ab (kc) ?_;simp[Ao]
       · rw[if_neg hv] at hstk;simp[A8 hlt3,hcu,hL,At,hb];refine Av [(21,[19]),(22,[])] (by kernel_rfl) ?_;simp[hlt4,hcu,hL,At,hla];refine Ab (kD) ?_;simp[Ap,Ao,hv,BH hv,w2];exact Ae hI2 hS2' hμ2 (k+1) ⟨by omega,by rw[hP2,hstk]⟩ (by omega) ⟨[0,1,6,7,8,5],by simp[hP2,hstk]⟩
     · rw[if_neg (by simpa using hb)] at hstk;simp[A8 hlt3,hcu,hL,At,hb,w2];exact Ae hI2 hS2' hμ2 (k+1) ⟨by omega,by rw[hP2,hstk]⟩ (by omega) ⟨[0,1,2,3,4,5],by simp[hP2,hstk]⟩
   obtain rfl:k=lits.length:=by omega
   clear hI2 hS2' hμ2 hpfk hpf hPok;generalize I7 (Aa x) lits cu an lits.length=P1 at *;obtain⟨an2,p,bb⟩:=P1;simp only at hfk;subst hfk;simp only[Bool.true_eq_false,if_false] at hst;obtain⟨j1,j2,j3,j4⟩:=hPk;simp only at j1 j2 j3 j4;have hokA:=hwok an2 (by omega) j2 j3;have hwN:(A0 (Ap x an2):Int)=Aa x+an2.length:=by rw[Ct];omega
   have kO:=JI (Ap x an2) s p hokA (by omega) (by omega);rw[PB (by omega) (by omega)] at kO;have e1':Ap (Ap x an2) (Ar (Ap x an2).2.2.1 (Af s) (Af p))=Ap x (Ar an2 (Af s) (Af p)):=rfl;have e2':Gw (Aa (Ap x an2)) (Ap x an2).2.2.1 s p=Gw (Aa x) an2 s p:=rfl;rw[e1',e2'] at kO;generalize Gw (Aa x) an2 s p=v at *;generalize Ar an2 (Af s) (Af p)=an3 at *;by_cases hv:v<0
   · rw[if_pos hv] at hst kO;have hRb:=hbd (by rw[hst]);rw[hRb];simp[hlt3,BH hlt3];refine Ab (kO) ?_;simp[Ap,Ao];refine Ab (kc) ?_;simp[Ao]
   · rw[if_neg hv] at hst kO;simp[hlt3,BH hlt3];refine Ab (kO) ?_;simp[Ap,Ao,hv,BH hv,w1];exact Ae hI hS hμ (i+1) ⟨by omega,by rw[hS2,hst]⟩ (by omega) ⟨[0,1,6,7,8,5],by simp[hS2,hst]⟩
 obtain rfl:i=cs.length:=by omega
 rw[if_pos ⟨rfl,hfl⟩] at hR;rw[hR];generalize H5 (Aa x) lits cs x.2.2.1 cs.length=S1 at *;simp[hlt2,BH hlt2,Ap,Ao]
end Go.Proofs.YtnjedabjbeipeaaGreat
