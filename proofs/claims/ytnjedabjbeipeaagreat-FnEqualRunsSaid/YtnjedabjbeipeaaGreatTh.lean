/-
  Adding covers by the reference, by an abstract walk.
  Conditions: those typed in each theorem.
-/
import Derived.Test.YtnjedabjbeipeaaGreatTf
namespace Go.Proofs.YtnjedabjbeipeaaGreat
open Go.RowKit Go.ChangeShapes Go.WideShapes
set_option linter.unusedSimpArgs false
set_option linter.unusedVariables false
set_option maxRecDepth 100000
set_option maxHeartbeats 10000000
theorem SV {fa:Int} {lits:List Int} {c:Ai} {an0:List Ai} {k:Nat} (hf:(Iw fa lits c an0 k).2.2=false):∀ d,(Iw fa lits c an0 (k+d)).2.2=false
 | 0=>hf
 | d+1=>by
   have ih:=SV hf d;show (Iw fa lits c an0 (k+d+1)).2.2=false;rw[Iw,if_pos ih];exact ih
theorem R3 {fa:Int} {lits:List Int} {cs an0:List Ai} {i:Nat} (hf:(HK fa lits cs an0 i).2.2=false):∀ d,(HK fa lits cs an0 (i+d)).2.2=false
 | 0=>hf
 | d+1=>by
   have ih:=R3 hf d;show (HK fa lits cs an0 (i+d+1)).2.2=false;rw[HK,if_pos ih];exact ih
def rM (x:AK) (lits:List Int) (cs:List Ai):AK×Int :=
 if Ci lits.length cs=true∧(HK (Aa x) lits cs x.2.2.1 cs.length).2.2=true then (Ap x (HK (Aa x) lits cs x.2.2.1 cs.length).1,(HK (Aa x) lits cs x.2.2.1 cs.length).2.1) else (x,-1)
theorem K1 (x:AK) (lits:List Int) (cs:List Ai) (hok:Al x=true) (h4:lits.length≤4) (hlr:∀ y∈lits,0≤y∧y<2*(A0 x:Int)) (hcl:cs.length≤1000) :
 Bx Tryz.prog 104 [Ge x,ints lits,gW cs] (.tup [Ge (rM x lits cs).1,.d (.int .i64 (rM x lits cs).2)]):=by
 have hx:=BZ hok;have hg:=CJ hok;obtain⟨⟨n1,n2,n3,n4,n5,n6⟩,-,-,-⟩:=AA hok;obtain⟨hF,hgl,hNi,hno⟩:=A7 hok;have hN:=Bp x;have k1:=Co x hx hg;rw[hok] at k1;have k2:=Bt x;rw[hno] at k2;have kc:=FA x hx;have kV:=P0 lits.length cs h4 (by omega);have hf0:0<Aa x:=by unfold Aa;omega
 have hf1:Aa x≤40:=by unfold Aa;omega
 have hR:rM x lits cs=if Ci lits.length cs=true∧(HK (Aa x) lits cs x.2.2.1 cs.length).2.2=true then (Ap x (HK (Aa x) lits cs x.2.2.1 cs.length).1,(HK (Aa x) lits cs x.2.2.1 cs.length).2.1) else (x,-1):=rfl;have hA:=PU hok;have hSok:=fun i=>Pw (fa:=(Aa x:Int)) (lits:=lits) (an0:=x.2.2.1) (n0:=x.2.2.1.length) (cs:=cs) (by omega) ⟨Nat.le_refl _,n4,hA,by simp only;omega⟩ (fun y hy=>by have:=hlr y hy;omega) i
 have hbad:∀ i,i≤cs.length→(HK (Aa x) lits cs x.2.2.1 i).2.2=false→rM x lits cs=(x,-1):=fun i hi hf=>by
  have:=R3 hf (cs.length - i);rw[show i+(cs.length - i)=cs.length by omega] at this;rw[hR,if_neg (fun h=>by rw[this] at h;exact Bool.false_ne_true h.2)]
 have hwok:∀ an:List Ai,x.2.2.1.length≤an.length→an.length≤300→GR (Aa x) an→Al (Ap x an)=true:=fun an h1 h2 h3=>CS hok h1 h2 h3;refine B3 (by kernel_rfl) Tryz.func104 rfl rfl rfl ?_;simp[Ao];refine Ab (k1) ?_;simp[Ao,show ¬ (4:Int)<(lits.length:Int) by omega,show (lits.length:Int)≤4 by omega];refine Ab (kV) ?_;simp
 cases hcv:Ci lits.length cs with
 | false =>
   rw[hcv,if_neg (by simp)] at hR;rw[hR];simp;refine Ab (kc) ?_;simp[Ao]
 | true =>
 rw[hcv] at hR;simp;refine AH [false,true,true,true,false,false,true,false,true] (fun i:Nat=>i≤lits.length) (fun i:Nat=>[(8,.d (.int .i64 i))]) (fun i:Nat=>fun sl=>sl) (fun i:Nat=>lits.length - i) 0 ?_ ?_ ?_
 · exact Nat.zero_le _
 · exact⟨[0,1],by simp⟩
 rintro I S μ hI hS hμ i hi;by_cases hlt:i<lits.length
 · obtain⟨y,hy⟩:∃ y,lits[i]? = some y:=⟨_,zz0 hlt⟩;have hyr:=hlr y (zz6 hy);have kL:=Hl y (A0 x) (by unfold Jy;omega) (by omega);rw[AP.2 (by omega:(0:Int)≤y∧y≤2*(A0 x:Int) - 1)] at kL;have w1:IntKind.i64.wrap ((i:Int)+1)=(i:Int)+1:=Ad (by omega) (by omega);simp[zz2 hlt];refine AJ 8 (by kernel_rfl) ?_;simp[hy,Ao];refine Ab (k2) ?_;simp[Ao];refine Ab (kL) ?_;simp[w1];exact Ae hI hS hμ (i+1) (by omega) (by omega) ⟨[0,1],by simp⟩
 obtain rfl:i=lits.length:=by omega
 clear hI hS hμ;simp[hlt,zz3 hlt];refine Ab (kc) ?_;simp[Ao];refine AH [false,true,true,true,false,false,true,false,false,true,true,true] (fun i:Nat=>i≤cs.length∧(HK (Aa x) lits cs x.2.2.1 i).2.2=true) (fun i:Nat=>[(9,.ptr 5 0),(10,.d (.int .i64 (HK (Aa x) lits cs x.2.2.1 i).2.1)),(11,.d (.int .i64 i))]) (fun i:Nat=>fun _=>[ED x,zG,.arr 57 true (x.2.1.map AY),.arr 63 true ((HK (Aa x) lits cs x.2.2.1 i).1.map At),.arr 3 true (x.2.2.2.map (e1 AC)),.var 28 [.d (.int .i64 x.1),.ref 2,.ref 3,.ref 4]]) (fun i:Nat=>cs.length - i) 0 ?_ ?_ ?_
 · exact⟨Nat.zero_le _,rfl⟩
 · exact⟨[0,1,2,3,4,5],by simp[HK,ED,zG]⟩
 rintro I S μ hI hS hμ i ⟨hi,hfl⟩;have hSi:=hSok i;by_cases hlt2:i<cs.length
 · obtain⟨cu,hcu⟩:∃ cu,cs[i]? = some cu:=⟨_,zz0 hlt2⟩;have hL:(At cu).length=2:=rfl
   have hst:HK (Aa x) lits cs x.2.2.1 (i+1)=if (HK (Aa x) lits cs x.2.2.1 i).2.2=false then HK (Aa x) lits cs x.2.2.1 i
    else (fun q:List Ai×Int×Bool=>if q.2.2=false then (q.1,0,false) else if F7 (Aa x) q.1 (HK (Aa x) lits cs x.2.2.1 i).2.1 q.2.1<0 then (q.1,0,false) else (Ar q.1 (Af (HK (Aa x) lits cs x.2.2.1 i).2.1) (Af q.2.1),F7 (Aa x) q.1 (HK (Aa x) lits cs x.2.2.1 i).2.1 q.2.1,true)) (Iw (Aa x) lits cu (HK (Aa x) lits cs x.2.2.1 i).1 lits.length):=by
    rw[HK,hcu];rfl
   have hbd:=hbad (i+1) (by omega);obtain⟨S2,hS2⟩:∃ S2,HK (Aa x) lits cs x.2.2.1 (i+1)=S2:=⟨_,rfl⟩;rw[hS2] at hst hbd;generalize HK (Aa x) lits cs x.2.2.1 i=S1 at *;obtain⟨an,s,bb⟩:=S1;simp only at hfl;subst hfl;simp only[Bool.true_eq_false,if_false] at hst;obtain⟨i1,i2,i3,i4⟩:=hSi;simp only at i1 i2 i3 i4;have hPok:=fun k hk=>Yg (fa:=(Aa x:Int)) (lits:=lits) (c:=cu) (an0:=an) (n0:=an.length) (by omega) ⟨Nat.le_refl _,i2,i3,by simp only;omega⟩ (fun y hy=>by have:=hlr y hy;omega) k hk;have w1:IntKind.i64.wrap ((i:Int)+1)=(i:Int)+1:=Ad (by omega) (by omega);have hpf:=fun k hf=>SV (fa:=(Aa x:Int)) (lits:=lits) (c:=cu) (an0:=an) (k:=k) hf;simp[zz2 hlt2];refine AH [false,true,true,true,false,false,true,false,false,true,true,true,true,true] (fun k:Nat=>k≤lits.length∧(Iw (Aa x) lits cu an k).2.2=true) (fun k:Nat=>[(9,.ptr 5 0),(12,.d (.int .i64 (Iw (Aa x) lits cu an k).2.1)),(13,.d (.int .i64 k))]) (fun k:Nat=>fun _=>[ED x,zG,.arr 57 true (x.2.1.map AY),.arr 63 true ((Iw (Aa x) lits cu an k).1.map At),.arr 3 true (x.2.2.2.map (e1 AC)),.var 28 [.d (.int .i64 x.1),.ref 2,.ref 3,.ref 4]]) (fun k:Nat=>lits.length - k) 0 ?_ ?_ ?_
   · exact⟨Nat.zero_le _,rfl⟩
   · exact⟨[0,1,2,3,4,5],by simp[Iw]⟩
   rintro I2 S2' μ2 hI2 hS2' hμ2 k ⟨hk,hfk⟩;have hPk:=hPok k hk;have hpfk:=hpf (k+1);by_cases hlt3:k<lits.length
   · have hstk:Iw (Aa x) lits cu an (k+1)=if (Iw (Aa x) lits cu an k).2.2=false then Iw (Aa x) lits cu an k
      else if CR (Dm cu.1 (k:Int)) 1=1 then (if AZ (Aa x) (Iw (Aa x) lits cu an k).1 (Iw (Aa x) lits cu an k).2.1 (Jq lits cu k)<0 then ((Iw (Aa x) lits cu an k).1,(Iw (Aa x) lits cu an k).2.1,false) else (Ar (Iw (Aa x) lits cu an k).1 (Iw (Aa x) lits cu an k).2.1 (Jq lits cu k),AZ (Aa x) (Iw (Aa x) lits cu an k).1 (Iw (Aa x) lits cu an k).2.1 (Jq lits cu k),true))
      else Iw (Aa x) lits cu an k:=rfl
     obtain⟨P2,hP2⟩:∃ P2,Iw (Aa x) lits cu an (k+1)=P2:=⟨_,rfl⟩;rw[hP2] at hstk hpfk;generalize Iw (Aa x) lits cu an k=P1 at *;obtain⟨an2,p,bb⟩:=P1;simp only at hfk;subst hfk;simp only[Bool.true_eq_false,if_false] at hstk;obtain⟨j1,j2,j3,j4⟩:=hPk;simp only at j1 j2 j3 j4;have w2:IntKind.i64.wrap ((k:Int)+1)=(k:Int)+1:=Ad (by omega) (by omega);have hrl:=SP (lits:=lits) (c:=cu) (k:=k) (n:=(Aa x:Int)+an2.length) hlt3 (fun y hy=>by have:=hlr y hy;omega) (by omega);have hlt4:lits[k]? = some (A1 lits k):=by have:=B8 (lv:=lits) (k:=(k:Int)) (by omega);rwa [Int.toNat_natCast] at this
     have hla:Bl (Bl (A1 lits (k:Int)) 1) (CR (Dm cu.2 (k:Int)) 1)=Jq lits cu k:=rfl;generalize Jq lits cu k=lt at *;have hokA:=hwok an2 (by omega) j2 j3;have kD:=DI (Ap x an2) p lt hokA (by omega) (by omega);have hwN:(A0 (Ap x an2):Int)=Aa x+an2.length:=by rw[Cq];omega
     rw[F6 (by omega) (by omega)] at kD;have e1':Ap (Ap x an2) (Ar (Ap x an2).2.2.1 p lt)=Ap x (Ar an2 p lt):=rfl;have e2':AZ (Aa (Ap x an2)) (Ap x an2).2.2.1 p lt=AZ (Aa x) an2 p lt:=rfl;rw[e1',e2'] at kD;generalize AZ (Aa x) an2 p lt=v at *;generalize Ar an2 p lt=an3 at *;generalize A1 lits (k:Int)=lk at *;rcases ABu (CR (Dm cu.1 (k:Int)) 1==1) with hb|hb
     · rw[if_pos (by simpa using hb)] at hstk;by_cases hv:v<0
       · rw[if_pos hv] at hstk;have hff:=hpfk (by rw[hstk]) (lits.length - (k+1));rw[show k+1+(lits.length - (k+1))=lits.length by omega] at hff;rw[hff] at hst;simp only[if_true] at hst;have hRb:=hbd (by rw[hst]);rw[hRb];simp[zz2 hlt3,hcu,hL,At,hb];refine Av [(21,[19]),(22,[])] (by kernel_rfl) ?_;simp[hlt4,hcu,hL,At,hla];refine Ab (kD) ?_;simp[Ap,Ao,hv,zz2 hv];refine Ab (kc) ?_;simp[Ao]
       · rw[if_neg hv] at hstk;simp[zz2 hlt3,hcu,hL,At,hb];refine Av [(21,[19]),(22,[])] (by kernel_rfl) ?_;simp[hlt4,hcu,hL,At,hla];refine Ab (kD) ?_;simp[Ap,Ao,hv,zz3 hv,w2];exact Ae hI2 hS2' hμ2 (k+1) ⟨by omega,by rw[hP2,hstk]⟩ (by omega) ⟨[0,1,6,7,8,5],by simp[hP2,hstk]⟩
     · rw[if_neg (by simpa using hb)] at hstk;simp[zz2 hlt3,hcu,hL,At,hb,w2];exact Ae hI2 hS2' hμ2 (k+1) ⟨by omega,by rw[hP2,hstk]⟩ (by omega) ⟨[0,1,2,3,4,5],by simp[hP2,hstk]⟩
   obtain rfl:k=lits.length:=by omega
   clear hI2 hS2' hμ2 hpfk hpf hPok;generalize Iw (Aa x) lits cu an lits.length=P1 at *;obtain⟨an2,p,bb⟩:=P1;simp only at hfk;subst hfk;simp only[Bool.true_eq_false,if_false] at hst;obtain⟨j1,j2,j3,j4⟩:=hPk;simp only at j1 j2 j3 j4;have hokA:=hwok an2 (by omega) j2 j3;have hwN:(A0 (Ap x an2):Int)=Aa x+an2.length:=by rw[Cq];omega
   have kO:=IA (Ap x an2) s p hokA (by omega) (by omega);rw[OJ (by omega) (by omega)] at kO;have e1':Ap (Ap x an2) (Ar (Ap x an2).2.2.1 (Af s) (Af p))=Ap x (Ar an2 (Af s) (Af p)):=rfl;have e2':F7 (Aa (Ap x an2)) (Ap x an2).2.2.1 s p=F7 (Aa x) an2 s p:=rfl;rw[e1',e2'] at kO;generalize F7 (Aa x) an2 s p=v at *;generalize Ar an2 (Af s) (Af p)=an3 at *;by_cases hv:v<0
   · rw[if_pos hv] at hst kO;have hRb:=hbd (by rw[hst]);rw[hRb];simp[hlt3,zz3 hlt3];refine Ab (kO) ?_;simp[Ap,Ao];refine Ab (kc) ?_;simp[Ao]
   · rw[if_neg hv] at hst kO;simp[hlt3,zz3 hlt3];refine Ab (kO) ?_;simp[Ap,Ao,hv,zz3 hv,w1];exact Ae hI hS hμ (i+1) ⟨by omega,by rw[hS2,hst]⟩ (by omega) ⟨[0,1,6,7,8,5],by simp[hS2,hst]⟩
 obtain rfl:i=cs.length:=by omega
 rw[if_pos ⟨rfl,hfl⟩] at hR;rw[hR];generalize HK (Aa x) lits cs x.2.2.1 cs.length=S1 at *;simp[hlt2,zz3 hlt2,Ap,Ao]
end Go.Proofs.YtnjedabjbeipeaaGreat
