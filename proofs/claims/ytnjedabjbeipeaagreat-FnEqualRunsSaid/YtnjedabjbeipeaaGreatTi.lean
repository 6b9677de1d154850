/-
  Refactoring by the reference, by abstract walks.
  Conditions: those typed in each theorem.
-/
import Derived.Test.YtnjedabjbeipeaaGreatTh
import Derived.Test.YtnjedabjbeipeaaGreatTd
namespace Go.Proofs.YtnjedabjbeipeaaGreat
open Go.RowKit Go.ChangeShapes Go.WideShapes
set_option linter.unusedSimpArgs false
set_option linter.unusedVariables false
set_option maxRecDepth 100000
set_option maxHeartbeats 10000000
theorem VF (h:AK) (i0:Nat) (c:List Int) (hok:Al h=true) (hi0:i0<h.2.2.1.length) (hm:LK h c i0=true) (hin:∀ y∈c,0≤y∧y<((Aa h+i0:Nat):Int)) :
 CM Tryz.prog 78 [TC h,.d (.int .i64 ((Aa h+i0:Nat):Int)),.d (.sl 3 (c.map (e1 AC)))] [] (.tup [TC (R7 h i0 c).1,.d (.bool (R7 h i0 c).2)]) []:=by
 have hx:=B3 hok;have hg:=CT hok;obtain⟨⟨n1,n2,n3,n4,n5,n6⟩,-,-,-⟩:=AA hok;obtain⟨hF,hgl,hNi,hno⟩:=A9 hok;have hN:=Br h;have hf0:0<Aa h:=by unfold Aa;omega
 have hf1:Aa h≤40:=by unfold Aa;omega
 obtain⟨v,hv⟩:∃ v,Aa h+i0=v:=⟨_,rfl⟩;have hvN:v<A0 h:=by omega
 have hm2:=hm;simp only[LK,Bool.and_eq_true,Bool.not_eq_true'] at hm2;obtain⟨hhas,hcut⟩:=hm2;rw[hv] at hhas hcut hin;have hcut2:=hcut;simp only[Iz,Bool.and_eq_true,decide_eq_true_eq] at hcut2;have h4:c.length≤4:=hcut2.1.1.1;have kCut:=P7 h v c hx hg hok hvN (by omega);rw[hcut] at kCut;have kF:=BJ h ⟨n1,n2⟩ n3;rw[show 1+h.1+(h.2.1.length:Int)=((Aa h:Nat):Int) by omega] at kF;have kHas:=JK c (v:Int) (by omega);rw[hhas] at kHas;have kTab:=R0 h c v hx hg hok hcut hvN;obtain⟨tok,tnk⟩:=qQ (x:=h) (c:=c) hvN h4;have hRC:IA h i0 c=if IZ c.length (Hl c.length (Fz c.length - Pw h c v))<IZ c.length (Hl c.length (Pw h c v)) then (Hl c.length (Fz c.length - Pw h c v),1) else (Hl c.length (Pw h c v),0):=by rw[←hv];rfl
 have htn:DE c.length (Fz c.length - Pw h c v)=true:=by
  have h1:=tok;unfold DE at h1 ⊢;simp only[Bool.and_eq_true] at h1 ⊢;have h2:=AP.1 h1.2;exact⟨h1.1,AP.2 (by omega)⟩
 have kTn:=RJ c.length (Pw h c v) tok;have kM1:=Sf c.length (Pw h c v) tok;have kM2:=Sf c.length (Fz c.length - Pw h c v) htn;have m1:=PP (n:=c.length) (b:=Pw h c v) h4;have m2:=PP (n:=c.length) (b:=Fz c.length - Pw h c v) h4;generalize Fz c.length - Pw h c v=tn at *;generalize Pw h c v=tb at *;have kL1:=SV c.length (Hl c.length tb) h4 (by omega);have kL2:=SV c.length (Hl c.length tn) h4 (by omega);have hRG:R7 h i0 c=if (R9 h i0 c).2.2=false then (h,false) else (IE (h.1,h.2.1.map (Dx (R9 h i0 c).1),(R9 h i0 c).2.1,h.2.2.2.map (Aq (R9 h i0 c).1)),true):=rfl;have hRR:R9 h i0 c=H6 h i0 c (IA h i0 c).1 (IA h i0 c).2 h.2.2.1.length:=rfl;have hfl:=Ok (h:=h) (i:=i0) (c:=c);generalize R7 h i0 c=RG at *;generalize R9 h i0 c=RR at *;generalize IA h i0 c=RC at *;obtain⟨cov,fl⟩:=RC;simp only at hRR hfl
 have hcov:cov.length≤256:=by
  split at hRC
  · obtain⟨rfl,-⟩:=Prod.mk.inj hRC;exact m2.1
  · obtain⟨rfl,-⟩:=Prod.mk.inj hRC;exact m1.1
 have hKok:=fun i hi=>XR hok (i0:=i0) (c:=c) (cov:=cov) hfl i hi;have hKf:=fun i hf=>Sv (h:=h) (i0:=i0) (c:=c) (cov:=cov) (fl:=fl) (i:=i) hf
 have hbad:∀ i,i≤h.2.2.1.length→(H6 h i0 c cov fl i).2.2=false→RG=(h,false):=fun i hi hf=>by
  have:=hKf i hf (h.2.2.1.length - i);rw[show i+(h.2.2.1.length - i)=h.2.2.1.length by omega] at this;rw[hRG,hRR,if_pos this]
 have kc:=FV h hx;have kE:=Hx h hx ⟨n1,n2⟩ n3;have hmok:=iM hok;have hmF:=F9 (x:=h);obtain⟨zs,hzs⟩:∃ zs,h.2.1.map CI=zs:=⟨_,rfl⟩;rw[hzs] at kE;have hmz:EP h=(h.1,zs,[],[]):=by unfold EP;rw[hzs]
 have hwA:∀ an:List Ai,Ap (EP h) an=(h.1,zs,an,[]):=fun an=>by rw[hmz];rfl
 have kFin:=fun (to:List Int) (an:List Ai) (a1:an.length≤300) (a2:JY (Aa h+an.length) to) (a3:BU (Aa h) 0 an=true) (a4:to.length=A0 h)=>HY h to an hx hok a1 a2 a3 a4;rw[hzs] at kFin;have hb0:H6 h i0 c cov fl 0=(BD (Aa h),[],true):=rfl;have k7:∀ b,BA Tryz.prog 19 [.d (.bool b)] (.d (.int .i64 (Pb b))):=fun b=>P9 b;rw[hv];obtain⟨fb,hfb⟩:∃ fb,decide (IZ c.length (Hl c.length tn)<IZ c.length (Hl c.length tb))=fb:=⟨_,rfl⟩
 have hRC2:cov=(if fb=true then Hl c.length tn else Hl c.length tb)∧fl=Pb fb:=by
  rw[←hfb];by_cases hd:IZ c.length (Hl c.length tn)<IZ c.length (Hl c.length tb)
  · rw[if_pos hd] at hRC;obtain⟨e1,e2⟩:=Prod.mk.inj hRC;rw[A8 hd];exact⟨e1,e2⟩
  · rw[if_neg hd] at hRC;obtain⟨e1,e2⟩:=Prod.mk.inj hRC;rw[BH hd];exact⟨e1,e2⟩
 obtain⟨hc1,hc2⟩:=hRC2;have k7:=k7 fb;rw[←hc2] at k7;clear hRC m1 m2;generalize IZ c.length (Hl c.length tn)=l2 at *;generalize IZ c.length (Hl c.length tb)=l1 at *;generalize Hl c.length tn=L2 at *;generalize Hl c.length tb=L1 at *;have hge:¬ (v:Int)<(Aa h:Int):=by omega
 have hge2:(Aa h:Int)≤(v:Int):=by omega
 refine BE (by kernel_rfl) Tryz.func78 rfl rfl rfl (by simp[Bl,Later]) (by simp[BP,Ah.live]) ?_;simp;refine Ab (kCut) ?_;simp[Ao];refine Ab (kF) ?_;simp[Ao,hge,hge2];refine Ab (kHas) ?_;simp;refine Ab (kTab) ?_;simp[Ao];refine Ac (kM1) [] [] (by simp) ?_;simp;refine Ab (kTn) ?_;simp;refine Ac (kM2) [] [] (by simp) ?_;simp;refine AH 10 (by kernel_rfl) ?_;simp;refine Ab (kL2) ?_;simp;refine Ab (kL1) ?_;simp[hfb]
 cases fb with
 | false =>
   simp only[Bool.false_eq_true,if_false] at hc1;subst hc1;simp;refine Ab (kE) ?_;simp[Ao];refine AJ [false,true,true,true,false,false,true,false,false,true,false,true,true,true,true] (fun i:Nat=>i≤h.2.2.1.length∧(H6 h i0 c cov fl i).2.2=true) (fun i:Nat=>[(9,.d (.sl 133 (cov.map At))),(11,.d (.bool false)),(12,.ptr 3 0),(13,.ref 2),(14,.d (.int .i64 i))]) (fun i:Nat=>fun _=>[E2 h,zG,.arr 3 true ((H6 h i0 c cov fl i).1.map (e1 AC)),.var 28 [.d (.int .i64 h.1),.ref 4,.ref 5,.ref 6],.arr 57 true (zs.map AY),.arr 63 true ((H6 h i0 c cov fl i).2.1.map At),.arr 3 true []]) (fun i:Nat=>h.2.2.1.length - i) 0 ?_ ?_ ?_
   · exact⟨Nat.zero_le _,rfl⟩
   · exact⟨[0,1,6,7,3,4,5],by simp[hb0,zG,E2]⟩
   rintro I S μ hI hS hμ i ⟨hi,hfli⟩;have hIm:=hKok i hi;by_cases hlt:i<h.2.2.1.length
   · obtain⟨⟨to,an,bb⟩,hst⟩:∃ s,H6 h i0 c cov fl i=s:=⟨_,rfl⟩;rw[hst] at hfli hIm;simp only at hfli;subst hfli;have hl:=hIm.len rfl;have hpl:=hIm.pl;have h3:=hIm.an;have ho:=hIm.ok;simp only at hl hpl h3 ho;have hokA:Al (Ap (EP h) an)=true:=CY hmok (by rw[hmz];simp) h3 (by rw[hmF];exact ho);have hwN:(A0 (Ap (EP h) an):Int)=Aa h+an.length:=by rw[Ct,hmF];omega
     have w1:IntKind.i64.wrap ((i:Int)+1)=(i:Int)+1:=Ad (by omega) (by omega);have hbd:=hbad (i+1) (by omega);have hd:=A8 hlt;obtain⟨R2,hR2⟩:∃ R2,H6 h i0 c cov fl (i+1)=R2:=⟨_,rfl⟩;by_cases he:i=i0
     · subst he;have w0:IntKind.i64.wrap ((Aa h:Int)+(i:Int))=(v:Int):=by rw[Ad (by omega) (by omega)];omega
       have hstp:R2=(fun q:List Ai×Int×Bool=>if Cm c.length cov=false∨q.2.2=false then (to,an,false) else (to++[Bm q.2.1 fl],q.1,true)) (H5 (Aa h) (c.map (A3 to)) cov an cov.length):=by
        rw[←hR2,H6,hst];simp only[Bool.true_eq_false,if_false,if_true]
       rw[hR2] at hbd;rw[hst];simp only;simp[hd];refine Ab (kF) ?_;simp[Ao,w0];refine AJ [false,true,true,true,false,false,true,false,false,true,false,true,true,true,true,true,false,true,true] (fun j:Nat=>j≤c.length) (fun j:Nat=>[(17,.ref 8),(18,.d (.int .i64 j))]) (fun j:Nat=>fun sl=>sl.take 8++[.arr 3 true (((c.take j).map (A3 to)).map (e1 AC))]) (fun j:Nat=>c.length - j) 0 ?_ ?_ ?_
       · exact Nat.zero_le _
       · exact⟨[0,1,2,3,4,5,6,7,8],by simp⟩
       rintro I2 S2 μ2 hI2 hS2 hμ2 j hj;have htl:(c.take j).length=j:=by rw[Gf];omega
       by_cases hlt2:j<c.length
       · obtain⟨y,hy⟩:∃ y,c[j]? = some y:=⟨_,A1 hlt2⟩;have hyr:=hin y (D4 hy);have hty:=Cc (lv:=to) (k:=y) (by omega);have hnx:((c.take (j+1)).map (A3 to)).map (e1 AC)=((c.take j).map (A3 to)).map (e1 AC)++[[.int .i64 (A3 to y)]]:=by rw[Bb hy,Gh,Gh];rfl
         have hml:(((c.take j).map (A3 to)).map (e1 AC)).length=j:=by rw[Fy,Fy,htl]
         have w2:IntKind.i64.wrap ((j:Int)+1)=(j:Int)+1:=Ad (by omega) (by omega);have hy0:¬ y<0:=by omega
         obtain⟨m2,hm2⟩:∃ m2,((c.take (j+1)).map (A3 to)).map (e1 AC)=m2:=⟨_,rfl⟩;rw[hm2] at hnx;generalize ((c.take j).map (A3 to)).map (e1 AC)=m1 at *;generalize A3 to y=ty at *;simp[A8 hlt2,hy,hty,hy0];refine Ak As rfl (by simp) rfl (by simp) (by simp) (by first | (simp;done)|(simp;omega)) (by simp[AR,AL]) ?_;simp[w2];refine Ae hI2 hS2 hμ2 (j+1) (by omega) (by omega) ⟨[0,1,2,3,4,5,6,7,10],?_⟩;rw[hm2];simp[hnx]
       obtain rfl:j=c.length:=by omega
       clear hI2 hS2 hμ2;rw[List.take_length]
       have hlr:∀ y∈c.map (A3 to),0≤y∧y<2*((Aa h:Int)+(an.length:Int)):=fun y hy=>by
        obtain⟨z,_,rfl⟩:=CE.1 hy;exact BK hpl (by omega) z
       have hlc:(c.map (A3 to)).length=c.length:=Fy _;have kA:=Lz (Ap (EP h) an) (c.map (A3 to)) cov hokA (by omega) (fun y hy=>by have:=hlr y hy;omega) (by omega);have hSa:=QU (fa:=Aa h) (lits:=c.map (A3 to)) (an0:=an) (n0:=an.length) (cs:=cov) (by omega) ⟨Nat.le_refl _,h3,ho,by simp only;omega⟩ hlr cov.length
       have hAR:sT (Ap (EP h) an) (c.map (A3 to)) cov=if Cm c.length cov=true∧(H5 (Aa h) (c.map (A3 to)) cov an cov.length).2.2=true then (Ap (EP h) (H5 (Aa h) (c.map (A3 to)) cov an cov.length).1,(H5 (Aa h) (c.map (A3 to)) cov an cov.length).2.1) else (Ap (EP h) an,-1):=by
        rw[←hlc,←hmF];rfl
       rw[hAR] at kA;clear hAR;generalize H5 (Aa h) (c.map (A3 to)) cov an cov.length=q at *;generalize c.map (A3 to)=lits at *;simp only at hstp;rw[hwA] at kA hokA hwN;by_cases hcq:Cm c.length cov=true∧q.2.2=true
       · rw[if_pos hcq,hwA] at kA;rw[if_neg (by rw[hcq.1,hcq.2];simp)] at hstp;obtain⟨p1,p2,p3,p4⟩:=hSa;obtain⟨an2,s2,b2⟩:=q;simp only at kA hstp p4;have hs0:0≤s2:=p4.1;have hxr:=GZ p4 (by simp only at p2;omega) hfl;generalize hxv:Bm s2 fl=xv at *;simp[hlt2,BH hlt2];refine Ab (kA) ?_;simp[Ao,hs0,A8 hs0,show ¬ s2<0 by omega];refine Ab (k7) ?_;simp[hxv,show ¬ xv<0 by omega,show 0≤xv by omega];refine Ak As rfl (by simp) rfl (by simp) (by simp) (by first | (simp;done)|(simp;omega)) (by simp[AR,AL]) ?_;simp[w1];exact Ae hI hS hμ (i+1) ⟨by omega,by rw[hR2,hstp]⟩ (by omega) ⟨[0,1,13,3,9,10,11],by simp[hR2,hstp]⟩
       · rw[if_neg hcq] at kA
         have hq2:Cm c.length cov=false∨q.2.2=false:=by
          cases h5:Cm c.length cov with
          | false=>exact .inl rfl
          | true =>
            cases h6:q.2.2 with
            | false=>exact .inr rfl
            | true=>exact absurd ⟨h5,h6⟩ hcq
         rw[if_pos hq2] at hstp;have hRb:=hbd (by rw[hstp]);rw[hRb];simp only at kA;simp[hlt2,BH hlt2];refine Ab (kA) ?_;simp[Ao];refine Ab (kc) ?_;simp[Ao];exact⟨[],by simp⟩
     · have hne:Aa h+i≠v:=by omega
       obtain⟨k,hk⟩:∃ k,Aa h+i=k:=⟨_,rfl⟩;have w0:IntKind.i64.wrap ((Aa h:Int)+(i:Int))=(k:Int):=by rw[Ad (by omega) (by omega)];omega
       have hkv:((k:Int)==(v:Int))=false:=by simp;omega
       have hkv2:¬ k=v:=by omega
       have hstp:R2=if AZ (Aa h) an (Aq to (Aj h k).1) (Aq to (Aj h k).2)<0 then (to,an,false)
        else (to++[AZ (Aa h) an (Aq to (Aj h k).1) (Aq to (Aj h k).2)],Ar an (Aq to (Aj h k).1) (Aq to (Aj h k).2),true):=by
        rw[←hR2,H6,hst,←hk];simp only[Bool.true_eq_false,if_false,if_neg he]
       rw[hR2] at hbd;rw[hst];simp only;obtain⟨hA,a1,a2,a3,a4,a5,a6⟩:=C3 hok (v:=k) (by omega) (by omega);rw[show k - Aa h=i by omega] at hA;have r1:=Bp (l:=(Aj h k).1) (BK hpl (by omega) ((Aj h k).1 / 2)) (by omega);have r2:=Bp (l:=(Aj h k).2) (BK hpl (by omega) ((Aj h k).2 / 2)) (by omega);have t1:=Cc (lv:=to) (k:=(Aj h k).1 / 2) (by omega);have t2:=Cc (lv:=to) (k:=(Aj h k).2 / 2) (by omega);have m1:Bm (A3 to ((Aj h k).1 / 2)) ((Aj h k).1 % 2)=Aq to (Aj h k).1:=rfl;have m2:Bm (A3 to ((Aj h k).2 / 2)) ((Aj h k).2 % 2)=Aq to (Aj h k).2:=rfl;have b1:=CD (Aj h k).1;have b2:=CD (Aj h k).2;have w2:IntKind.i64.wrap ((Aj h k).1.tdiv 2)=(Aj h k).1 / 2:=N1 a1 (by omega);have w3:IntKind.i64.wrap ((Aj h k).2.tdiv 2)=(Aj h k).2 / 2:=N1 a2 (by omega);have z1:¬ (Aj h k).1 / 2<0:=by omega
       have z2:¬ (Aj h k).2 / 2<0:=by omega
       have hL:(At (Aj h k)).length=2:=rfl;generalize A3 to ((Aj h k).1 / 2)=p1 at *;generalize A3 to ((Aj h k).2 / 2)=p2 at *;generalize (Aj h k).1 / 2=d1 at *;generalize (Aj h k).2 / 2=d2 at *;generalize Aq to (Aj h k).1=x1 at *;generalize Aq to (Aj h k).2=x2 at *;generalize Aj h k=A at *;have kD:=DW (Ap (EP h) an) x1 x2 hokA (by omega) (by omega);rw[Gu (by omega) (by omega)] at kD;have e1':Ap (Ap (EP h) an) (Ar (Ap (EP h) an).2.2.1 x1 x2)=Ap (EP h) (Ar an x1 x2):=rfl;have e2':AZ (Aa (Ap (EP h) an)) (Ap (EP h) an).2.2.1 x1 x2=AZ (Aa (EP h)) an x1 x2:=rfl;rw[e1',e2',hmF] at kD;generalize AZ (Aa h) an x1 x2=vv at *;generalize Ar an x1 x2=an2 at *;rw[hwA,hwA] at kD;by_cases hv2:vv<0
       · rw[if_pos hv2] at hstp;have hRb:=hbd (by rw[hstp]);rw[hRb];simp[hd];refine Ab (kF) ?_;simp[Ao,w0,hkv,hkv2];refine Av [(41,[40]),(42,[])] (by kernel_rfl) ?_;simp[hA,hL,At,t1,t2,m1,m2,b1,b2,w2,w3,z1,z2];refine Ab (kD) ?_;simp[Ao,hv2,A8 hv2];refine Ab (kc) ?_;simp[Ao];exact⟨[],by simp⟩
       · rw[if_neg hv2] at hstp;simp[hd];refine Ab (kF) ?_;simp[Ao,w0,hkv,hkv2];refine Av [(41,[40]),(42,[])] (by kernel_rfl) ?_;simp[hA,hL,At,t1,t2,m1,m2,b1,b2,w2,w3,z1,z2];refine Ab (kD) ?_;simp[Ao,hv2,BH hv2];refine Ak As rfl (by simp) rfl (by simp) (by simp) (by first | (simp;done)|(simp;omega)) (by simp[AR,AL]) ?_;simp[w1];exact Ae hI hS hμ (i+1) ⟨by omega,by rw[hR2,hstp]⟩ (by omega) ⟨[0,1,12,3,8,9,10],by simp[hR2,hstp]⟩
   obtain rfl:i=h.2.2.1.length:=by omega
   rw[←hRR] at hfli hIm;rw[if_neg (by rw[hfli];simp)] at hRG;have hl:=hIm.len hfli;have kFn:=kFin RR.1 RR.2.1 hIm.an hIm.pl hIm.ok (by omega);rw[←hRR,hRG];simp only;simp[hlt,BH hlt];refine Ac (kFn) [2,5,6] [4] (by simp) ?_;simp;exact⟨[],by simp⟩
 | true =>
   simp only[if_true] at hc1;subst hc1;simp;refine Ab (kE) ?_;simp[Ao];refine AJ [false,true,true,true,false,false,true,false,false,true,false,true,true,true,true] (fun i:Nat=>i≤h.2.2.1.length∧(H6 h i0 c cov fl i).2.2=true) (fun i:Nat=>[(9,.d (.sl 133 (cov.map At))),(11,.d (.bool true)),(12,.ptr 3 0),(13,.ref 2),(14,.d (.int .i64 i))]) (fun i:Nat=>fun _=>[E2 h,zG,.arr 3 true ((H6 h i0 c cov fl i).1.map (e1 AC)),.var 28 [.d (.int .i64 h.1),.ref 4,.ref 5,.ref 6],.arr 57 true (zs.map AY),.arr 63 true ((H6 h i0 c cov fl i).2.1.map At),.arr 3 true []]) (fun i:Nat=>h.2.2.1.length - i) 0 ?_ ?_ ?_
   · exact⟨Nat.zero_le _,rfl⟩
   · exact⟨[0,1,6,7,3,4,5],by simp[hb0,zG,E2]⟩
   rintro I S μ hI hS hμ i ⟨hi,hfli⟩;have hIm:=hKok i hi;by_cases hlt:i<h.2.2.1.length
   · obtain⟨⟨to,an,bb⟩,hst⟩:∃ s,H6 h i0 c cov fl i=s:=⟨_,rfl⟩;rw[hst] at hfli hIm;simp only at hfli;subst hfli;have hl:=hIm.len rfl;have hpl:=hIm.pl;have h3:=hIm.an;have ho:=hIm.ok;simp only at hl hpl h3 ho;have hokA:Al (Ap (EP h) an)=true:=CY hmok (by rw[hmz];simp) h3 (by rw[hmF];exact ho);have hwN:(A0 (Ap (EP h) an):Int)=Aa h+an.length:=by rw[Ct,hmF];omega
     have w1:IntKind.i64.wrap ((i:Int)+1)=(i:Int)+1:=Ad (by omega) (by omega);have hbd:=hbad (i+1) (by omega);have hd:=A8 hlt;obtain⟨R2,hR2⟩:∃ R2,H6 h i0 c cov fl (i+1)=R2:=⟨_,rfl⟩;by_cases he:i=i0
     · subst he;have w0:IntKind.i64.wrap ((Aa h:Int)+(i:Int))=(v:Int):=by rw[Ad (by omega) (by omega)];omega
       have hstp:R2=(fun q:List Ai×Int×Bool=>if Cm c.length cov=false∨q.2.2=false then (to,an,false) else (to++[Bm q.2.1 fl],q.1,true)) (H5 (Aa h) (c.map (A3 to)) cov an cov.length):=by
        rw[←hR2,H6,hst];simp only[Bool.true_eq_false,if_false,if_true]
       rw[hR2] at hbd;rw[hst];simp only;simp[hd];refine Ab (kF) ?_;simp[Ao,w0];refine AJ [false,true,true,true,false,false,true,false,false,true,false,true,true,true,true,true,false,true,true] (fun j:Nat=>j≤c.length) (fun j:Nat=>[(17,.ref 8),(18,.d (.int .i64 j))]) (fun j:Nat=>fun sl=>sl.take 8++[.arr 3 true (((c.take j).map (A3 to)).map (e1 AC))]) (fun j:Nat=>c.length - j) 0 ?_ ?_ ?_
       · exact Nat.zero_le _
       · exact⟨[0,1,2,3,4,5,6,7,8],by simp⟩
       rintro I2 S2 μ2 hI2 hS2 hμ2 j hj;have htl:(c.take j).length=j:=by rw[Gf];omega
       by_cases hlt2:j<c.length
       · obtain⟨y,hy⟩:∃ y,c[j]? = some y:=⟨_,A1 hlt2⟩;have hyr:=hin y (D4 hy);have hty:=Cc (lv:=to) (k:=y) (by omega);have hnx:((c.take (j+1)).map (A3 to)).map (e1 AC)=((c.take j).map (A3 to)).map (e1 AC)++[[.int .i64 (A3 to y)]]:=by rw[Bb hy,Gh,Gh];rfl
         have hml:(((c.take j).map (A3 to)).map (e1 AC)).length=j:=by rw[Fy,Fy,htl]
         have w2:IntKind.i64.wrap ((j:Int)+1)=(j:Int)+1:=Ad (by omega) (by omega);have hy0:¬ y<0:=by omega
         obtain⟨m2,hm2⟩:∃ m2,((c.take (j+1)).map (A3 to)).map (e1 AC)=m2:=⟨_,rfl⟩;rw[hm2] at hnx;generalize ((c.take j).map (A3 to)).map (e1 AC)=m1 at *;generalize A3 to y=ty at *;simp[A8 hlt2,hy,hty,hy0];refine Ak As rfl (by simp) rfl (by simp) (by simp) (by first | (simp;done)|(simp;omega)) (by simp[AR,AL]) ?_;simp[w2];refine Ae hI2 hS2 hμ2 (j+1) (by omega) (by omega) ⟨[0,1,2,3,4,5,6,7,10],?_⟩;rw[hm2];simp[hnx]
       obtain rfl:j=c.length:=by omega
       clear hI2 hS2 hμ2;rw[List.take_length]
       have hlr:∀ y∈c.map (A3 to),0≤y∧y<2*((Aa h:Int)+(an.length:Int)):=fun y hy=>by
        obtain⟨z,_,rfl⟩:=CE.1 hy;exact BK hpl (by omega) z
       have hlc:(c.map (A3 to)).length=c.length:=Fy _;have kA:=Lz (Ap (EP h) an) (c.map (A3 to)) cov hokA (by omega) (fun y hy=>by have:=hlr y hy;omega) (by omega);have hSa:=QU (fa:=Aa h) (lits:=c.map (A3 to)) (an0:=an) (n0:=an.length) (cs:=cov) (by omega) ⟨Nat.le_refl _,h3,ho,by simp only;omega⟩ hlr cov.length
       have hAR:sT (Ap (EP h) an) (c.map (A3 to)) cov=if Cm c.length cov=true∧(H5 (Aa h) (c.map (A3 to)) cov an cov.length).2.2=true then (Ap (EP h) (H5 (Aa h) (c.map (A3 to)) cov an cov.length).1,(H5 (Aa h) (c.map (A3 to)) cov an cov.length).2.1) else (Ap (EP h) an,-1):=by
        rw[←hlc,←hmF];rfl
       rw[hAR] at kA;clear hAR;generalize H5 (Aa h) (c.map (A3 to)) cov an cov.length=q at *;generalize c.map (A3 to)=lits at *;simp only at hstp;rw[hwA] at kA hokA hwN;by_cases hcq:Cm c.length cov=true∧q.2.2=true
       · rw[if_pos hcq,hwA] at kA;rw[if_neg (by rw[hcq.1,hcq.2];simp)] at hstp;obtain⟨p1,p2,p3,p4⟩:=hSa;obtain⟨an2,s2,b2⟩:=q;simp only at kA hstp p4;have hs0:0≤s2:=p4.1;have hxr:=GZ p4 (by simp only at p2;omega) hfl;generalize hxv:Bm s2 fl=xv at *;simp[hlt2,BH hlt2];refine Ab (kA) ?_;simp[Ao,hs0,A8 hs0,show ¬ s2<0 by omega];refine Ab (k7) ?_;simp[hxv,show ¬ xv<0 by omega,show 0≤xv by omega];refine Ak As rfl (by simp) rfl (by simp) (by simp) (by first | (simp;done)|(simp;omega)) (by simp[AR,AL]) ?_;simp[w1];exact Ae hI hS hμ (i+1) ⟨by omega,by rw[hR2,hstp]⟩ (by omega) ⟨[0,1,13,3,9,10,11],by simp[hR2,hstp]⟩
       · rw[if_neg hcq] at kA
         have hq2:Cm c.length cov=false∨q.2.2=false:=by
          cases h5:Cm c.length cov with
          | false=>exact .inl rfl
          | true =>
            cases h6:q.2.2 with
            | false=>exact .inr rfl
            | true=>exact absurd ⟨h5,h6⟩ hcq
         rw[if_pos hq2] at hstp;have hRb:=hbd (by rw[hstp]);rw[hRb];simp only at kA;simp[hlt2,BH hlt2];refine Ab (kA) ?_;simp[Ao];refine Ab (kc) ?_;simp[Ao];exact⟨[],by simp⟩
     · have hne:Aa h+i≠v:=by omega
       obtain⟨k,hk⟩:∃ k,Aa h+i=k:=⟨_,rfl⟩;have w0:IntKind.i64.wrap ((Aa h:Int)+(i:Int))=(k:Int):=by rw[Ad (by omega) (by omega)];omega
       have hkv:((k:Int)==(v:Int))=false:=by simp;omega
       have hkv2:¬ k=v:=by omega
       have hstp:R2=if AZ (Aa h) an (Aq to (Aj h k).1) (Aq to (Aj h k).2)<0 then (to,an,false)
        else (to++[AZ (Aa h) an (Aq to (Aj h k).1) (Aq to (Aj h k).2)],Ar an (Aq to (Aj h k).1) (Aq to (Aj h k).2),true):=by
        rw[←hR2,H6,hst,←hk];simp only[Bool.true_eq_false,if_false,if_neg he]
       rw[hR2] at hbd;rw[hst];simp only;obtain⟨hA,a1,a2,a3,a4,a5,a6⟩:=C3 hok (v:=k) (by omega) (by omega);rw[show k - Aa h=i by omega] at hA;have r1:=Bp (l:=(Aj h k).1) (BK hpl (by omega) ((Aj h k).1 / 2)) (by omega);have r2:=Bp (l:=(Aj h k).2) (BK hpl (by omega) ((Aj h k).2 / 2)) (by omega);have t1:=Cc (lv:=to) (k:=(Aj h k).1 / 2) (by omega);have t2:=Cc (lv:=to) (k:=(Aj h k).2 / 2) (by omega);have m1:Bm (A3 to ((Aj h k).1 / 2)) ((Aj h k).1 % 2)=Aq to (Aj h k).1:=rfl;have m2:Bm (A3 to ((Aj h k).2 / 2)) ((Aj h k).2 % 2)=Aq to (Aj h k).2:=rfl;have b1:=CD (Aj h k).1;have b2:=CD (Aj h k).2;have w2:IntKind.i64.wrap ((Aj h k).1.tdiv 2)=(Aj h k).1 / 2:=N1 a1 (by omega);have w3:IntKind.i64.wrap ((Aj h k).2.tdiv 2)=(Aj h k).2 / 2:=N1 a2 (by omega);have z1:¬ (Aj h k).1 / 2<0:=by omega
       have z2:¬ (Aj h k).2 / 2<0:=by omega
       have hL:(At (Aj h k)).length=2:=rfl;generalize A3 to ((Aj h k).1 / 2)=p1 at *;generalize A3 to ((Aj h k).2 / 2)=p2 at *;generalize (Aj h k).1 / 2=d1 at *;generalize (Aj h k).2 / 2=d2 at *;generalize Aq to (Aj h k).1=x1 at *;generalize Aq to (Aj h k).2=x2 at *;generalize Aj h k=A at *;have kD:=DW (Ap (EP h) an) x1 x2 hokA (by omega) (by omega);rw[Gu (by omega) (by omega)] at kD;have e1':Ap (Ap (EP h) an) (Ar (Ap (EP h) an).2.2.1 x1 x2)=Ap (EP h) (Ar an x1 x2):=rfl;have e2':AZ (Aa (Ap (EP h) an)) (Ap (EP h) an).2.2.1 x1 x2=AZ (Aa (EP h)) an x1 x2:=rfl;rw[e1',e2',hmF] at kD;generalize AZ (Aa h) an x1 x2=vv at *;generalize Ar an x1 x2=an2 at *;rw[hwA,hwA] at kD;by_cases hv2:vv<0
       · rw[if_pos hv2] at hstp;have hRb:=hbd (by rw[hstp]);rw[hRb];simp[hd];refine Ab (kF) ?_;simp[Ao,w0,hkv,hkv2];refine Av [(41,[40]),(42,[])] (by kernel_rfl) ?_;simp[hA,hL,At,t1,t2,m1,m2,b1,b2,w2,w3,z1,z2];refine Ab (kD) ?_;simp[Ao,hv2,A8 hv2];refine Ab (kc) ?_;simp[Ao];exact⟨[],by simp⟩
       · rw[if_neg hv2] at hstp;simp[hd];refine Ab (kF) ?_;simp[Ao,w0,hkv,hkv2];refine Av [(41,[40]),(42,[])] (by kernel_rfl) ?_;simp[hA,hL,At,t1,t2,m1,m2,b1,b2,w2,w3,z1,z2];refine Ab (kD) ?_;simp[Ao,hv2,BH hv2];refine Ak As rfl (by simp) rfl (by simp) (by simp) (by first | (simp;done)|(simp;omega)) (by simp[AR,AL]) ?_;simp[w1];exact Ae hI hS hμ (i+1) ⟨by omega,by rw[hR2,hstp]⟩ (by omega) ⟨[0,1,12,3,8,9,10],by simp[hR2,hstp]⟩
   obtain rfl:i=h.2.2.1.length:=by omega
   rw[←hRR] at hfli hIm;rw[if_neg (by rw[hfli];simp)] at hRG;have hl:=hIm.len hfli;have kFn:=kFin RR.1 RR.2.1 hIm.an hIm.pl hIm.ok (by omega);rw[←hRR,hRG];simp only;simp[hlt,BH hlt];refine Ac (kFn) [2,5,6] [4] (by simp) ?_;simp;exact⟨[],by simp⟩
end Go.Proofs.YtnjedabjbeipeaaGreat
