/-
  Refactoring at a cut by the program, by an abstract walk.
  Conditions: those typed in each theorem.
-/
import Derived.Test.YtnjedabjbeipeaaYk
import Derived.Test.YtnjedabjbeipeaaYj
namespace Go.Proofs.Ytnjedabjbeipeaa
open Go.RowKit Go.ChangeShapes Go.WideShapes
set_option linter.unusedSimpArgs false
set_option linter.unusedVariables false
set_option maxRecDepth 100000
set_option maxHeartbeats 10000000
noncomputable def Q3 (h:AB) (i:Nat) (c:List Int):List Ah:=Lj c.length (Ws h c (Aa h+i))
noncomputable def Q9 (h:AB) (i:Nat) (c:List Int):List Ah:=Lj c.length (jY h c (Aa h+i))
noncomputable def Di (h:AB) (i:Nat) (c:List Int):List Ah×Int:=if N4 (Q9 h i c) (Q9 h i c).length<N4 (Q3 h i c) (Q3 h i c).length then (Q9 h i c,1) else (Q3 h i c,0)
theorem Kl {h:AB} {i:Nat} {c:List Int}:(Di h i c).2=0∨(Di h i c).2=1:=by
 unfold Di;split
 · exact .inr rfl
 · exact .inl rfl
noncomputable def X1 (h:AB) (i:Nat) (c:List Int):List Int×List Ah×Bool:=ED h i c (Di h i c).1 (Di h i c).2 h.2.2.1.length
def pK (h:AB) (s:List Int×List Ah×Bool):AB:=(h.1,h.2.1.map (Do s.1),s.2.1,h.2.2.2.map (Ap s.1))
noncomputable def Wq (h:AB) (i:Nat) (c:List Int):AB×Bool:=if (X1 h i c).2.2=false then ((0,[],[],[]),false) else (Mv (pK h (X1 h i c)),true)
theorem Wu {h:AB} (hok:Aj h=true) {i:Nat} {c:List Int}:Aj (pK h (X1 h i c))=true:=by
 have I:=Qm hok (i0:=i) (c:=c) (cov:=(Di h i c).1) (Kl (h:=h) (i:=i) (c:=c)) _ (Nat.le_refl _);exact LK hok I.an I.pl I.ok
theorem RI {h:AB} {i:Nat} {c:List Int} (h4:c.length≤4):(Di h i c).1.length≤81∧∀ d∈(Di h i c).1,JD c.length d:=by
 have hA:=HJ (n:=c.length) (b:=Ws h c (Aa h+i)) h4;have hB:=HJ (n:=c.length) (b:=jY h c (Aa h+i)) h4;unfold Di;split
 · exact⟨hB.1,hB.2.1⟩
 · exact⟨hA.1,hA.2.1⟩
theorem Xx (h:AB) (i0:Nat) (c:List Int) (hok:Aj h=true) (hi0:i0<h.2.2.1.length) (h4:c.length≤4) (hin:∀ y∈c,0≤y∧y<((Aa h+i0:Nat):Int)) :
 BS Try.prog 71 [T4 h,.d (.int .i64 ((Aa h+i0:Nat):Int)),.d (B3 3 (e1 Az) c)] [] (.tup [qY (Wq h i0 c).1,.d (.bool (Wq h i0 c).2)]) []:=by
 have hx:=Bj hok;obtain⟨⟨n1,n2,n3,n4,n5,n6⟩,-,-,-⟩:=Ax hok;obtain⟨hF,hgl,hNi,hno⟩:=Bz hok;have hN:=Bn h;have hF1:1≤Aa h∧Aa h≤33:=by unfold Aa;omega
 have hv:Aa h+i0<AR h:=by omega
 have kF:=AW h ⟨n1,n2⟩ n3;rw[←hF] at kF;have kT:=TX h c (Aa h+i0) hx hok h4 hv;obtain⟨to1,to2⟩:=oW (x:=h) (c:=c) hv h4;have kM1:=R5 c.length (Ws h c (Aa h+i0)) to1;have kM2:=R5 c.length (jY h c (Aa h+i0)) to2;have kN:=QT (Vc h c (Aa h+i0)) c.length (Mr hv) LM to1;have hcA:Lj c.length (Ws h c (Aa h+i0))=Q3 h i0 c:=rfl;have hcB:Lj c.length (jY h c (Aa h+i0))=Q9 h i0 c:=rfl;have hA:=HJ (n:=c.length) (b:=Ws h c (Aa h+i0)) h4;have hB:=HJ (n:=c.length) (b:=jY h c (Aa h+i0)) h4;have hn1:BP (Vc h c (Aa h+i0))=Ws h c (Aa h+i0):=rfl;have hn2:BP ((Vc h c (Aa h+i0)).map fun b=>1 - b)=jY h c (Aa h+i0):=rfl;rw[hn1,hn2] at kN;rw[hcA] at kM1 hA;rw[hcB] at kM2 hB;obtain⟨p1,p2⟩:=RI (h:=h) (i:=i0) h4;have hP:Di h i0 c=if N4 (Q9 h i0 c) (Q9 h i0 c).length<N4 (Q3 h i0 c) (Q3 h i0 c).length then (Q9 h i0 c,1) else (Q3 h i0 c,0):=rfl;have hfl:=Kl (h:=h) (i:=i0) (c:=c);have hraok:=fun i hi=>Qm hok (i0:=i0) (c:=c) (cov:=(Di h i0 c).1) hfl i hi;have hG:Wq h i0 c=if (X1 h i0 c).2.2=false then ((0,[],[],[]),false) else (Mv (pK h (X1 h i0 c)),true):=rfl;have kS:=K1 (pK h (X1 h i0 c)) (Wu hok);have hRR:X1 h i0 c=ED h i0 c (Di h i0 c).1 (Di h i0 c).2 h.2.2.1.length:=rfl;rw[hRR] at kS hG;generalize Mv (pK h (ED h i0 c (Di h i0 c).1 (Di h i0 c).2 h.2.2.1.length))=SG at *;generalize Wq h i0 c=G at *;generalize Ws h c (Aa h+i0)=tb at *;generalize jY h c (Aa h+i0)=tn at *;have kL1:=Sj c.length (Q3 h i0 c) h4 hA.1 hA.2.1;have kL2:=Sj c.length (Q9 h i0 c) h4 hB.1 hB.2.1;generalize Q3 h i0 c=cA at *;generalize Q9 h i0 c=cB at *;obtain⟨⟨cov,fl⟩,hcf⟩:∃ p,Di h i0 c=p:=⟨_,rfl⟩;rw[hcf] at hP hfl p1 p2 hraok kS hG;simp only at hfl p1 p2 hraok kS hG
 have hcases:(N4 cB cB.length<N4 cA cA.length∧¬ N4 cA cA.length≤N4 cB cB.length∧cB=cov∧fl=1)∨(¬ N4 cB cB.length<N4 cA cA.length∧N4 cA cA.length≤N4 cB cB.length∧cA=cov∧fl=0):=by
  by_cases hc:N4 cB cB.length<N4 cA cA.length
  · rw[if_pos hc] at hP;obtain⟨rfl,rfl⟩:=Prod.mk.inj hP;exact .inl ⟨hc,by omega,rfl,rfl⟩
  · rw[if_neg hc] at hP;obtain⟨rfl,rfl⟩:=Prod.mk.inj hP;exact .inr ⟨hc,by omega,rfl,rfl⟩
 have hcok:D0 c.length cov=true:=LC p1 p2;have kE:=HO h hx;have kLL:=DX h hx hok;have hstop:=fun i hf d=>Ng (h:=h) (i0:=i0) (c:=c) (cov:=cov) (fl:=fl) (i:=i) hf d;have hr0:∀ fl,ED h i0 c cov fl 0=(BQ (Aa h),[],true):=fun fl=>rfl;have hql:(h.2.1.map CF).length=h.2.1.length:=by simp
 have kC:=fun pl an=>JY h pl an hx;generalize hsq:h.2.1.map CF=sq at *;have hsl:∀ s∈h.2.1,F7 (AR h) s.2.2:=fun s hs l hl=>D5 hok l (List.mem_append_right _ (List.mem_flatten.2 ⟨_,ACP.2 ⟨s,hs,rfl⟩,hl⟩));have hol:F7 (AR h) h.2.2.2:=fun l hl=>D5 hok l (List.mem_append_left _ hl);clear hP hcf hA hB hcA hcB hn1 hn2 to1 to2 hRR;obtain⟨v0,hv0⟩:∃ v0:Int,((Aa h+i0:Nat):Int)=v0:=⟨_,rfl⟩;rw[hv0] at kT hin ⊢;refine Bl (by kernel_rfl) Try.func71 rfl rfl rfl (by simp[AZ,Later]) (by simp[Bi,Ag.live]) ?_;simp[AL];refine Ab (kT) ?_;simp;refine Ac (kM1) [] [] (by simp) ?_;simp;refine Ab (kN) ?_;simp;refine Ac (kM2) [] [] (by simp) ?_;simp;refine AJ 9 (by kernel_rfl) ?_;simp;refine Ab (kL2) ?_;simp;refine Ab (kL1) ?_;simp;rcases hcases with ⟨hc,hc3,h1,h2⟩|⟨hc,hc3,h1,h2⟩
 all_goals
  simp only[h1] at hc hc3;simp[h1,hc,hc3];refine Ac (kE) [] [] (by simp) ?_;simp;refine Ab (kLL) ?_;simp[AL];refine As [false,true,true,true,false,false,true,false,false,true,false,true,true,true,false,false,false,false,false,false,false,false,false,false,false,false,false,false,false,false,false,false,false,false,false,false,false,false,false,false,false,false,false,false,false,true,true,true] (fun j:Nat=>j≤h.2.2.1.length∧(ED h i0 c cov fl j).2.2=true) (fun j:Nat=>[(9,.d (.sl 138 (cov.map Ao))),(11,.d (.int .i64 fl)),(12,.ptr 4 0),(13,.ref 5),(47,.d (.int .i64 j))]) (fun j:Nat=>fun _=>[gZ h,uQ,LF sq,Mu (ED h i0 c cov fl j).2.1,YU h.1 2 3,Sd (Cd (ED h i0 c cov fl j).1 (AR h))]) (fun j:Nat=>h.2.2.1.length - j) 0 ?_ ?_ ?_
  · exact⟨Nat.zero_le _,rfl⟩
  · exact⟨[0,1,3,4,5,6],by simp[hr0,h2]⟩
  clear h1 h2 hc hc3 kT kM1 kM2 kN kL1 kL2 kE kLL hr0;rintro I S μ hI hS hμ j ⟨hj,hfj⟩;have q1:=hraok j hj;by_cases hlt:j<h.2.2.1.length
  · obtain⟨hA,a1,a2,a3,a4,a5,a6⟩:=Cy hok (v:=Aa h+j) (by omega) (by omega);rw[Nat.add_sub_cancel_left] at hA
    have hst:ED h i0 c cov fl (j+1)=if (ED h i0 c cov fl j).2.2=false then ED h i0 c cov fl j
     else if j=i0 then (fun q:List Ah×Int×Bool=>if D0 c.length cov=false∨q.2.2=false then ((ED h i0 c cov fl j).1,(ED h i0 c cov fl j).2.1,false) else ((ED h i0 c cov fl j).1++[Bd q.2.1 fl],q.1,true)) (GU (Aa h) (c.map (Av (ED h i0 c cov fl j).1)) cov (ED h i0 c cov fl j).2.1 cov.length)
     else if AG (Aa h) (ED h i0 c cov fl j).2.1 (Ap (ED h i0 c cov fl j).1 (Al h (Aa h+j)).1) (Ap (ED h i0 c cov fl j).1 (Al h (Aa h+j)).2)<0 then ((ED h i0 c cov fl j).1,(ED h i0 c cov fl j).2.1,false)
     else ((ED h i0 c cov fl j).1++[AG (Aa h) (ED h i0 c cov fl j).2.1 (Ap (ED h i0 c cov fl j).1 (Al h (Aa h+j)).1) (Ap (ED h i0 c cov fl j).1 (Al h (Aa h+j)).2)],Ak (ED h i0 c cov fl j).2.1 (Ap (ED h i0 c cov fl j).1 (Al h (Aa h+j)).1) (Ap (ED h i0 c cov fl j).1 (Al h (Aa h+j)).2),true):=rfl
    have hlast:=fun e=>hstop (j+1) e (h.2.2.1.length - (j+1));rw[show j+1+(h.2.2.1.length - (j+1))=h.2.2.1.length by omega] at hlast;have hbad:(ED h i0 c cov fl (j+1)).2.2=false→G=((0,[],[],[]),false):=fun e=>by rw[hG,if_pos (hlast e)]
    obtain⟨R2,hR2⟩:∃ R2,ED h i0 c cov fl (j+1)=R2:=⟨_,rfl⟩;rw[hR2] at hst hbad;clear hlast hstop hraok kS;generalize ED h i0 c cov fl j=s1 at *;obtain⟨to,an,bb⟩:=s1;simp only at hfj;subst hfj;simp only[Bool.true_eq_false,if_false] at hst;have hl:=q1.len rfl;have hpl:=q1.pl;have h3:=q1.an;have hoa:=q1.ok;simp only at hl hpl h3 hoa ⊢;have hpl2:=Bw hpl (by omega);have w1:IntKind.i64.wrap ((j:Int)+1)=(j:Int)+1:=Af (by omega) (by omega);have w3:IntKind.i64.wrap ((Aa h:Int)+j)=(to.length:Int):=by rw[Af (by omega) (by omega)];omega
    generalize Al h (Aa h+j)=A at *;have hL:(Ao A).length=2:=rfl;have hplen:=Gx (p:=to) (n:=AR h) (by omega);have hset:=fun v:Int=>Fr (p:=to) (n:=AR h) (v:=v) (by omega);have hpt:(Cd to (AR h))[to.length]? = some (Av (Cd to (AR h)) to.length):=CJ (k:=to.length) (by omega);by_cases hji:j=i0
    · subst hji;rw[if_pos rfl] at hst;have hbe:((to.length:Int)==v0)=true:=by rw[beq_iff_eq];omega
      have hbe2:(to.length:Int)=v0:=by omega
      have hcat:∀ y∈c,(Cd to (AR h))[y.toNat]? = some (Av to y):=fun y hy=>by
       have:=hin y hy;have e:=CJ (lv:=Cd to (AR h)) (k:=y) (by omega);rw[e]
       congr 1
       exact Dy this.1 (by omega)
      have hlr:∀ y∈c.map (Av to),0≤y∧y<2*((Aa h:Int)+(an.length:Int)):=fun y hy=>by
       obtain⟨z,_,rfl⟩:=ACP.1 hy;exact hpl2 z
      have kV:=Xu h.1 (Aa h) sq an (c.map (Av to)) cov ⟨n1,n2⟩ (by omega) (by omega) h3 hoa (by rw[ACH];exact h4) hlr (by omega);have hS:=Nr (fa:=Aa h) (lits:=c.map (Av to)) (an0:=an) (n0:=an.length) (cs:=cov) (by omega) ⟨Nat.le_refl _,h3,hoa,by simp only;omega⟩ hlr cov.length;simp only[hcok,Bool.true_eq_false,false_or] at hst;have hvq:oX (GU (Aa h) (c.map (Av to)) cov an cov.length)=if (GU (Aa h) (c.map (Av to)) cov an cov.length).2.2=true then (GU (Aa h) (c.map (Av to)) cov an cov.length).2.1 else -1:=rfl;generalize GU (Aa h) (c.map (Av to)) cov an cov.length=q at *;generalize oX q=av at *;obtain⟨qa,qs,qb⟩:=q;obtain⟨-,-,-,s4⟩:=hS;simp only at s4 hvq hst kV;simp[zz2 hlt,hA,hL,Ao];refine Ab (kF) ?_;simp[w3,hbe];refine As [false,true,true,true,false,false,true,false,false,true,false,true,true,true,false,false,true,false,true,false,false,false,false,false,false,false,false,false,false,false,false,false,false,false,false,false,false,false,false,false,false,false,false,false,false,true,true,true,false,false,false,false,false,false,false,false,false,false,false,true,true,true] (fun k:Nat=>k≤c.length) (fun k:Nat=>[(18,D9 k 7),(61,.d (.int .i64 k))]) (fun k:Nat=>Ea k ((c.map (Av to)).take k)) (fun k:Nat=>c.length - k) 0 ?_ ?_ ?_
      · exact Nat.zero_le _
      · exact⟨[0,1,2,3,4,5,6],by simp[D9,Ea]⟩
      rintro I2 S2 μ2 hI2 hS2 hμ2 k hk;by_cases hlt2:k<c.length
      · obtain⟨y,hy⟩:∃ y,c[k]? = some y:=⟨_,zz0 hlt2⟩;have hyr:=hin y (zz6 hy);have hya:=hcat y (zz6 hy);have w2:IntKind.i64.wrap ((k:Int)+1)=(k:Int)+1:=Af (by omega) (by omega);have hy2:∀ h:k<c.length,c[k]'h=y:=fun h=>(zz1.1 hy).2;have hx3:(c.map (Av to))[k]? = some (Av to y):=by rw[ACF,hy];rfl
        have hts:=Bh hx3;have htl:((c.map (Av to)).take k).length=k:=by simp;omega
        obtain⟨ms2,hms2⟩:∃ m,(c.map (Av to)).take (k+1)=m:=⟨_,rfl⟩;rw[hms2] at hts;generalize (c.map (Av to)).take k=ms at *;generalize Av to y=ay at *;by_cases hk0:k=0
        · subst hk0;obtain rfl:=zz7 htl;simp[D9,Ea,zz2 hlt2,hlt2,hy,hy2,hya,show ¬ y<0 by omega];refine Aw AX rfl (by simp) rfl (by simp) (by simp) (by first | (simp;done)|(simp;omega)) (by simp[Bp,A4]) ?_;simp[w2,show IntKind.i64.wrap 1=1 from rfl];exact Ae hI2 hS2 hμ2 1 (by omega) (by omega) ⟨[0,1,2,3,4,5,6,8],by simp[D9,Ea,hms2,hts]⟩
        · simp[D9,Ea,zz2 hlt2,hy,hy2,hya,hk0,show ¬ y<0 by omega];refine Aw AX rfl (by simp) rfl (by simp) (by simp) (by first | (simp;done)|(simp;omega)) (by simp[Bp,A4]) ?_;simp[w2];exact Ae hI2 hS2 hμ2 (k+1) (by omega) (by omega) ⟨[0,1,2,3,4,5,6,9],by simp[D9,Ea,hms2,hts]⟩
      obtain rfl:k=c.length:=by omega
      clear hI2 hS2 hμ2;rw[ACe (by simp)];by_cases hk0:c.length=0
      · have hc0:c=[]:=zz7 hk0;subst hc0;have kV:=UC (xs:=[.ptr 0 0]) (t':=3) kV;by_cases hv:av<0
        · have hqb:qb=false:=by
           cases qb with
           | false=>rfl
           | true=>rw[if_pos rfl] at hvq;omega
          subst hqb;simp only[if_true] at hst;rw[hbad (by rw[hst])];simp[D9,Ea];refine Ac (kV) [] [4,2,3] (by simp) ?_;simp[hv,zz2 hv];exact⟨[],by simp⟩
        · have hqb:qb=true:=by
           cases qb with
           | true=>rfl
           | false=>rw[if_neg (by simp)] at hvq;omega
          subst hqb;rw[if_pos rfl] at hvq;subst hvq;simp only[Bool.true_eq_false,if_false] at hst;simp[D9,Ea];refine Ac (kV) [] [4,2,3] (by simp) ?_;simp[hv,zz3 hv,hbe,hbe2,show v0.toNat=to.length by omega,show ¬ v0<0 by omega,show 0≤v0 by omega,hpt,hset,w1,show 0≤av by omega];exact Ae hI hS hμ (j+1) ⟨by omega,by rw[hR2,hst]⟩ (by omega) ⟨[0,1,2,7,4,5],by simp[hR2,hst]⟩
      · skip
        by_cases hv:av<0
        · have hqb:qb=false:=by
           cases qb with
           | false=>rfl
           | true=>rw[if_pos rfl] at hvq;omega
          subst hqb;simp only[if_true] at hst;rw[hbad (by rw[hst])];simp[D9,Ea,hk0,zz3 hlt2,hlt2];refine Ac (kV) [7] [4,2,3] (by simp) ?_;simp[hv,zz2 hv];exact⟨[],by simp⟩
        · have hqb:qb=true:=by
           cases qb with
           | true=>rfl
           | false=>rw[if_neg (by simp)] at hvq;omega
          subst hqb;rw[if_pos rfl] at hvq;subst hvq;simp only[Bool.true_eq_false,if_false] at hst;simp[D9,Ea,hk0,zz3 hlt2,hlt2];refine Ac (kV) [7] [4,2,3] (by simp) ?_;simp[hv,zz3 hv,hbe,hbe2,show v0.toNat=to.length by omega,show ¬ v0<0 by omega,show 0≤v0 by omega,hpt,hset,w1,show 0≤av by omega];exact Ae hI hS hμ (j+1) ⟨by omega,by rw[hR2,hst]⟩ (by omega) ⟨[0,1,2,8,4,5],by simp[hR2,hst]⟩
    · rw[if_neg hji] at hst;have hbe:((to.length:Int)==v0)=false:=by rw[beq_eq_false_iff_ne];omega
      have kA:=CD (Cd to (AR h)) A.1 (by omega) (by omega);have kB:=CD (Cd to (AR h)) A.2 (by omega) (by omega);rw[Hp (by omega)] at kA kB;have r1:=Bf (l:=A.1) (hpl2 (A.1 / 2)) (by omega);have r2:=Bf (l:=A.2) (hpl2 (A.2 / 2)) (by omega);generalize Ap to A.1=x1 at *;generalize Ap to A.2=x2 at *;have kD:=LW h.1 (Aa h) sq an x1 x2 ⟨n1,n2⟩ (by omega) (by omega) (by omega) (by omega) (by omega);generalize AG (Aa h) an x1 x2=v at *;generalize Ak an x1 x2=an2 at *;by_cases hv:v<0
      · rw[if_pos hv] at hst;rw[hbad (by rw[hst])];simp[zz2 hlt,hA,hL,Ao];refine Ab (kF) ?_;simp[w3,hbe];refine AJ 8 (by kernel_rfl) ?_;simp;refine Ab (kA) ?_;simp;refine Ab (kB) ?_;simp;refine Ac (kD) [] [4,2,3] (by simp) ?_;simp[hv,zz2 hv];exact⟨[],by simp⟩
      · rw[if_neg hv] at hst;simp[zz2 hlt,hA,hL,Ao];refine Ab (kF) ?_;simp[w3,hbe];refine AJ 8 (by kernel_rfl) ?_;simp;refine Ab (kA) ?_;simp;refine Ab (kB) ?_;simp;refine Ac (kD) [] [4,2,3] (by simp) ?_;simp[hv,zz3 hv,hbe,hpt,hset,w1,show 0≤v by omega];exact Ae hI hS hμ (j+1) ⟨by omega,by rw[hR2,hst]⟩ (by omega) ⟨[0,1,2,7,4,5],by simp[hR2,hst]⟩
  obtain rfl:j=h.2.2.1.length:=by omega
  rw[if_neg (by rw[hfj];simp)] at hG;clear hraok hstop;have hl:=q1.len hfj;unfold pK at kS;generalize ED h i0 c cov fl h.2.2.1.length=s1 at *;obtain⟨to,an,bb⟩:=s1;simp only at hl kS ⊢;have hl2:to.length=AR h:=by omega
  rw[Hi hl2];have kC2:=kC to an (by omega) (by rw[hl2];exact hsl) (by rw[hl2];exact hol);rw[hG];simp[hlt,zz3 hlt];refine Ac (kC2) [5] [4,2,3] (by simp) ?_;simp;refine Ac (kS) [2,3,6] [] (by simp) ?_;simp;exact⟨[],by simp⟩
end Go.Proofs.Ytnjedabjbeipeaa
