/-
  Refactoring by the reference, by abstract walks.
  Conditions: those typed in each theorem.
-/
import Derived.Test.YtnjedabjbeipeaaGreatTh
import Derived.Test.YtnjedabjbeipeaaGreatTd
namespace Go.Proofs.YtnjedabjbeipeaaGreat
open Go.RowKit Go.ChangeShapes Go.WideShapes
set_option linter.unusedSimpArgs false
set_option linter.unusedVariables false
set_option maxRecDepth 100000
set_option maxHeartbeats 10000000
theorem VJ (h:AK) (i0:Nat) (c:List Int) (hok:Al h=true) (hi0:i0<h.2.2.1.length) (hm:K8 h c i0=true) (hin:∀ y∈c,0≤y∧y<((Aa h+i0:Nat):Int)) :
 CG Tryz.prog 78 [RW h,.d (.int .i64 ((Aa h+i0:Nat):Int)),.d (.sl 3 (c.map (e1 AC)))] [] (.tup [RW (Rr h i0 c).1,.d (.bool (Rr h i0 c).2)]) []:=by
 have hx:=BZ hok;have hg:=CJ hok;obtain⟨⟨n1,n2,n3,n4,n5,n6⟩,-,-,-⟩:=AA hok;obtain⟨hF,hgl,hNi,hno⟩:=A7 hok;have hN:=Bp h;have hf0:0<Aa h:=by unfold Aa;omega
 have hf1:Aa h≤40:=by unfold Aa;omega
 obtain⟨v,hv⟩:∃ v,Aa h+i0=v:=⟨_,rfl⟩;have hvN:v<A0 h:=by omega
 have hm2:=hm;simp only[K8,Bool.and_eq_true,Bool.not_eq_true'] at hm2;obtain⟨hhas,hcut⟩:=hm2;rw[hv] at hhas hcut hin;have hcut2:=hcut;simp only[H7,Bool.and_eq_true,decide_eq_true_eq] at hcut2;have h4:c.length≤4:=hcut2.1.1.1;have kCut:=Qv h v c hx hg hok hvN (by omega);rw[hcut] at kCut;have kF:=BE h ⟨n1,n2⟩ n3;rw[show 1+h.1+(h.2.1.length:Int)=((Aa h:Nat):Int) by omega] at kF;have kHas:=I0 c (v:Int) (by omega);rw[hhas] at kHas;have kTab:=Re h c v hx hg hok hcut hvN;obtain⟨tok,tnk⟩:=oG (x:=h) (c:=c) hvN h4;have hRC:H8 h i0 c=if Io c.length (GX c.length (Fi c.length - ON h c v))<Io c.length (GX c.length (ON h c v)) then (GX c.length (Fi c.length - ON h c v),1) else (GX c.length (ON h c v),0):=by rw[←hv];rfl
 have htn:Dq c.length (Fi c.length - ON h c v)=true:=by
  have h1:=tok;unfold Dq at h1 ⊢;simp only[Bool.and_eq_true] at h1 ⊢;have h2:=AP.1 h1.2;exact⟨h1.1,AP.2 (by omega)⟩
 have kTn:=Ra c.length (ON h c v) tok;have kM1:=S7 c.length (ON h c v) tok;have kM2:=S7 c.length (Fi c.length - ON h c v) htn;have m1:=Ql (n:=c.length) (b:=ON h c v) h4;have m2:=Ql (n:=c.length) (b:=Fi c.length - ON h c v) h4;generalize Fi c.length - ON h c v=tn at *;generalize ON h c v=tb at *;have kL1:=RX c.length (GX c.length tb) h4 (by omega);have kL2:=RX c.length (GX c.length tn) h4 (by omega);have hRG:Rr h i0 c=if (Ry h i0 c).2.2=false then (h,false) else (Ia (h.1,h.2.1.map (Dr (Ry h i0 c).1),(Ry h i0 c).2.1,h.2.2.2.map (Aq (Ry h i0 c).1)),true):=rfl;have hRR:Ry h i0 c=Hm h i0 c (H8 h i0 c).1 (H8 h i0 c).2 h.2.2.1.length:=rfl;have hfl:=Of (h:=h) (i:=i0) (c:=c);generalize Rr h i0 c=RG at *;generalize Ry h i0 c=RR at *;generalize H8 h i0 c=RC at *;obtain⟨cov,fl⟩:=RC;simp only at hRR hfl
 have hcov:cov.length≤256:=by
  split at hRC
  · obtain⟨rfl,-⟩:=Prod.mk.inj hRC;exact m2.1
  · obtain⟨rfl,-⟩:=Prod.mk.inj hRC;exact m1.1
 have hKok:=fun i hi=>XP hok (i0:=i0) (c:=c) (cov:=cov) hfl i hi;have hKf:=fun i hf=>SH (h:=h) (i0:=i0) (c:=c) (cov:=cov) (fl:=fl) (i:=i) hf
 have hbad:∀ i,i≤h.2.2.1.length→(Hm h i0 c cov fl i).2.2=false→RG=(h,false):=fun i hi hf=>by
  have:=hKf i hf (h.2.2.1.length - i);rw[show i+(h.2.2.1.length - i)=h.2.2.1.length by omega] at this;rw[hRG,hRR,if_pos this]
 have kc:=FA h hx;have kE:=Hb h hx ⟨n1,n2⟩ n3;have hmok:=iD hok;have hmF:=FN (x:=h);obtain⟨zs,hzs⟩:∃ zs,h.2.1.map CE=zs:=⟨_,rfl⟩;rw[hzs] at kE;have hmz:Ez h=(h.1,zs,[],[]):=by unfold Ez;rw[hzs]
 have hwA:∀ an:List Ai,Ap (Ez h) an=(h.1,zs,an,[]):=fun an=>by rw[hmz];rfl
 have kFin:=fun (to:List Int) (an:List Ai) (a1:an.length≤300) (a2:Jw (Aa h+an.length) to) (a3:BR (Aa h) 0 an=true) (a4:to.length=A0 h)=>HF h to an hx hok a1 a2 a3 a4;rw[hzs] at kFin;have hb0:Hm h i0 c cov fl 0=(BB (Aa h),[],true):=rfl;have k7:∀ b,Bx Tryz.prog 19 [.d (.bool b)] (.d (.int .i64 (Ow b))):=fun b=>Pp b;rw[hv];obtain⟨fb,hfb⟩:∃ fb,decide (Io c.length (GX c.length tn)<Io c.length (GX c.length tb))=fb:=⟨_,rfl⟩
 have hRC2:cov=(if fb=true then GX c.length tn else GX c.length tb)∧fl=Ow fb:=by
  rw[←hfb];by_cases hd:Io c.length (GX c.length tn)<Io c.length (GX c.length tb)
  · rw[if_pos hd] at hRC;obtain⟨e1,e2⟩:=Prod.mk.inj hRC;rw[zz2 hd];exact⟨e1,e2⟩
  · rw[if_neg hd] at hRC;obtain⟨e1,e2⟩:=Prod.mk.inj hRC;rw[zz3 hd];exact⟨e1,e2⟩
 obtain⟨hc1,hc2⟩:=hRC2;have k7:=k7 fb;rw[←hc2] at k7;clear hRC m1 m2;generalize Io c.length (GX c.length tn)=l2 at *;generalize Io c.length (GX c.length tb)=l1 at *;generalize GX c.length tn=L2 at *;generalize GX c.length tb=L1 at *;have hge:¬ (v:Int)<(Aa h:Int):=by omega
 have hge2:(Aa h:Int)≤(v:Int):=by omega
 refine BA (by kernel_rfl) Tryz.func78 rfl rfl rfl (by simp[Bi,Later]) (by simp[BN,Ah.live]) ?_;simp;refine Ab (kCut) ?_;simp[Ao];refine Ab (kF) ?_;simp[Ao,hge,hge2];refine Ab (kHas) ?_;simp;refine Ab (kTab) ?_;simp[Ao];refine Ac (kM1) [] [] (by simp) ?_;simp;refine Ab (kTn) ?_;simp;refine Ac (kM2) [] [] (by simp) ?_;simp;refine AJ 10 (by kernel_rfl) ?_;simp;refine Ab (kL2) ?_;simp;refine Ab (kL1) ?_;simp[hfb]
 cases fb with
 | false =>
   simp only[Bool.false_eq_true,if_false] at hc1;subst hc1;simp;refine Ab (kE) ?_;simp[Ao];refine AH [false,true,true,true,false,false,true,false,false,true,false,true,true,true,true] (fun i:Nat=>i≤h.2.2.1.length∧(Hm h i0 c cov fl i).2.2=true) (fun i:Nat=>[(9,.d (.sl 133 (cov.map At))),(11,.d (.bool false)),(12,.ptr 3 0),(13,.ref 2),(14,.d (.int .i64 i))]) (fun i:Nat=>fun _=>[ED h,zG,.arr 3 true ((Hm h i0 c cov fl i).1.map (e1 AC)),.var 28 [.d (.int .i64 h.1),.ref 4,.ref 5,.ref 6],.arr 57 true (zs.map AY),.arr 63 true ((Hm h i0 c cov fl i).2.1.map At),.arr 3 true []]) (fun i:Nat=>h.2.2.1.length - i) 0 ?_ ?_ ?_
   · exact⟨Nat.zero_le _,rfl⟩
   · exact⟨[0,1,6,7,3,4,5],by simp[hb0,zG,ED]⟩
   rintro I S μ hI hS hμ i ⟨hi,hfli⟩;have hIm:=hKok i hi;by_cases hlt:i<h.2.2.1.length
   · obtain⟨⟨to,an,bb⟩,hst⟩:∃ s,Hm h i0 c cov fl i=s:=⟨_,rfl⟩;rw[hst] at hfli hIm;simp only at hfli;subst hfli;have hl:=hIm.len rfl;have hpl:=hIm.pl;have h3:=hIm.an;have ho:=hIm.ok;simp only at hl hpl h3 ho;have hokA:Al (Ap (Ez h) an)=true:=CS hmok (by rw[hmz];simp) h3 (by rw[hmF];exact ho);have hwN:(A0 (Ap (Ez h) an):Int)=Aa h+an.length:=by rw[Cq,hmF];omega
     have w1:IntKind.i64.wrap ((i:Int)+1)=(i:Int)+1:=Ad (by omega) (by omega);have hbd:=hbad (i+1) (by omega);have hd:=zz2 hlt;obtain⟨R2,hR2⟩:∃ R2,Hm h i0 c cov fl (i+1)=R2:=⟨_,rfl⟩;by_cases he:i=i0
     · subst he;have w0:IntKind.i64.wrap ((Aa h:Int)+(i:Int))=(v:Int):=by rw[Ad (by omega) (by omega)];omega
       have hstp:R2=(fun q:List Ai×Int×Bool=>if Ci c.length cov=false∨q.2.2=false then (to,an,false) else (to++[Bl q.2.1 fl],q.1,true)) (HK (Aa h) (c.map (A1 to)) cov an cov.length):=by
        rw[←hR2,Hm,hst];simp only[Bool.true_eq_false,if_false,if_true]
       rw[hR2] at hbd;rw[hst];simp only;simp[hd];refine Ab (kF) ?_;simp[Ao,w0];refine AH [false,true,true,true,false,false,true,false,false,true,false,true,true,true,true,true,false,true,true] (fun j:Nat=>j≤c.length) (fun j:Nat=>[(17,.ref 8),(18,.d (.int .i64 j))]) (fun j:Nat=>fun sl=>sl.take 8++[.arr 3 true (((c.take j).map (A1 to)).map (e1 AC))]) (fun j:Nat=>c.length - j) 0 ?_ ?_ ?_
       · exact Nat.zero_le _
       · exact⟨[0,1,2,3,4,5,6,7,8],by simp⟩
       rintro I2 S2 μ2 hI2 hS2 hμ2 j hj;have htl:(c.take j).length=j:=by rw[ACC];omega
       by_cases hlt2:j<c.length
       · obtain⟨y,hy⟩:∃ y,c[j]? = some y:=⟨_,zz0 hlt2⟩;have hyr:=hin y (zz6 hy);have hty:=B8 (lv:=to) (k:=y) (by omega);have hnx:((c.take (j+1)).map (A1 to)).map (e1 AC)=((c.take j).map (A1 to)).map (e1 AC)++[[.int .i64 (A1 to y)]]:=by rw[Ba hy,ABe,ABe];rfl
         have hml:(((c.take j).map (A1 to)).map (e1 AC)).length=j:=by rw[AB7,AB7,htl]
         have w2:IntKind.i64.wrap ((j:Int)+1)=(j:Int)+1:=Ad (by omega) (by omega);have hy0:¬ y<0:=by omega
         obtain⟨m2,hm2⟩:∃ m2,((c.take (j+1)).map (A1 to)).map (e1 AC)=m2:=⟨_,rfl⟩;rw[hm2] at hnx;generalize ((c.take j).map (A1 to)).map (e1 AC)=m1 at *;generalize A1 to y=ty at *;simp[zz2 hlt2,hy,hty,hy0];refine Ak As rfl (by simp) rfl (by simp) (by simp) (by first | (simp;done)|(simp;omega)) (by simp[AR,AL]) ?_;simp[w2];refine Ae hI2 hS2 hμ2 (j+1) (by omega) (by omega) ⟨[0,1,2,3,4,5,6,7,10],?_⟩;rw[hm2];simp[hnx]
       obtain rfl:j=c.length:=by omega
       clear hI2 hS2 hμ2;rw[List.take_length]
       have hlr:∀ y∈c.map (A1 to),0≤y∧y<2*((Aa h:Int)+(an.length:Int)):=fun y hy=>by
        obtain⟨z,_,rfl⟩:=ABc.1 hy;exact BH hpl (by omega) z
       have hlc:(c.map (A1 to)).length=c.length:=AB7 _;have kA:=K1 (Ap (Ez h) an) (c.map (A1 to)) cov hokA (by omega) (fun y hy=>by have:=hlr y hy;omega) (by omega);have hSa:=Pw (fa:=Aa h) (lits:=c.map (A1 to)) (an0:=an) (n0:=an.length) (cs:=cov) (by omega) ⟨Nat.le_refl _,h3,ho,by simp only;omega⟩ hlr cov.length
       have hAR:rM (Ap (Ez h) an) (c.map (A1 to)) cov=if Ci c.length cov=true∧(HK (Aa h) (c.map (A1 to)) cov an cov.length).2.2=true then (Ap (Ez h) (HK (Aa h) (c.map (A1 to)) cov an cov.length).1,(HK (Aa h) (c.map (A1 to)) cov an cov.length).2.1) else (Ap (Ez h) an,-1):=by
        rw[←hlc,←hmF];rfl
       rw[hAR] at kA;clear hAR;generalize HK (Aa h) (c.map (A1 to)) cov an cov.length=q at *;generalize c.map (A1 to)=lits at *;simp only at hstp;rw[hwA] at kA hokA hwN;by_cases hcq:Ci c.length cov=true∧q.2.2=true
       · rw[if_pos hcq,hwA] at kA;rw[if_neg (by rw[hcq.1,hcq.2];simp)] at hstp;obtain⟨p1,p2,p3,p4⟩:=hSa;obtain⟨an2,s2,b2⟩:=q;simp only at kA hstp p4;have hs0:0≤s2:=p4.1;have hxr:=GP p4 (by simp only at p2;omega) hfl;generalize hxv:Bl s2 fl=xv at *;simp[hlt2,zz3 hlt2];refine Ab (kA) ?_;simp[Ao,hs0,zz2 hs0,show ¬ s2<0 by omega];refine Ab (k7) ?_;simp[hxv,show ¬ xv<0 by omega,show 0≤xv by omega];refine Ak As rfl (by simp) rfl (by simp) (by simp) (by first | (simp;done)|(simp;omega)) (by simp[AR,AL]) ?_;simp[w1];exact Ae hI hS hμ (i+1) ⟨by omega,by rw[hR2,hstp]⟩ (by omega) ⟨[0,1,13,3,9,10,11],by simp[hR2,hstp]⟩
       · rw[if_neg hcq] at kA
         have hq2:Ci c.length cov=false∨q.2.2=false:=by
          cases h5:Ci c.length cov with
          | false=>exact .inl rfl
          | true =>
            cases h6:q.2.2 with
            | false=>exact .inr rfl
            | true=>exact absurd ⟨h5,h6⟩ hcq
         rw[if_pos hq2] at hstp;have hRb:=hbd (by rw[hstp]);rw[hRb];simp only at kA;simp[hlt2,zz3 hlt2];refine Ab (kA) ?_;simp[Ao];refine Ab (kc) ?_;simp[Ao];exact⟨[],by simp⟩
     · have hne:Aa h+i≠v:=by omega
       obtain⟨k,hk⟩:∃ k,Aa h+i=k:=⟨_,rfl⟩;have w0:IntKind.i64.wrap ((Aa h:Int)+(i:Int))=(k:Int):=by rw[Ad (by omega) (by omega)];omega
       have hkv:((k:Int)==(v:Int))=false:=by simp;omega
       have hkv2:¬ k=v:=by omega
       have hstp:R2=if AZ (Aa h) an (Aq to (Aj h k).1) (Aq to (Aj h k).2)<0 then (to,an,false)
        else (to++[AZ (Aa h) an (Aq to (Aj h k).1) (Aq to (Aj h k).2)],Ar an (Aq to (Aj h k).1) (Aq to (Aj h k).2),true):=by
        rw[←hR2,Hm,hst,←hk];simp only[Bool.true_eq_false,if_false,if_neg he]
       rw[hR2] at hbd;rw[hst];simp only;obtain⟨hA,a1,a2,a3,a4,a5,a6⟩:=CW hok (v:=k) (by omega) (by omega);rw[show k - Aa h=i by omega] at hA;have r1:=Bn (l:=(Aj h k).1) (BH hpl (by omega) ((Aj h k).1 / 2)) (by omega);have r2:=Bn (l:=(Aj h k).2) (BH hpl (by omega) ((Aj h k).2 / 2)) (by omega);have t1:=B8 (lv:=to) (k:=(Aj h k).1 / 2) (by omega);have t2:=B8 (lv:=to) (k:=(Aj h k).2 / 2) (by omega);have m1:Bl (A1 to ((Aj h k).1 / 2)) ((Aj h k).1 % 2)=Aq to (Aj h k).1:=rfl;have m2:Bl (A1 to ((Aj h k).2 / 2)) ((Aj h k).2 % 2)=Aq to (Aj h k).2:=rfl;have b1:=CC (Aj h k).1;have b2:=CC (Aj h k).2;have w2:IntKind.i64.wrap ((Aj h k).1.tdiv 2)=(Aj h k).1 / 2:=M5 a1 (by omega);have w3:IntKind.i64.wrap ((Aj h k).2.tdiv 2)=(Aj h k).2 / 2:=M5 a2 (by omega);have z1:¬ (Aj h k).1 / 2<0:=by omega
       have z2:¬ (Aj h k).2 / 2<0:=by omega
       have hL:(At (Aj h k)).length=2:=rfl;generalize A1 to ((Aj h k).1 / 2)=p1 at *;generalize A1 to ((Aj h k).2 / 2)=p2 at *;generalize (Aj h k).1 / 2=d1 at *;generalize (Aj h k).2 / 2=d2 at *;generalize Aq to (Aj h k).1=x1 at *;generalize Aq to (Aj h k).2=x2 at *;generalize Aj h k=A at *;have kD:=DI (Ap (Ez h) an) x1 x2 hokA (by omega) (by omega);rw[F6 (by omega) (by omega)] at kD;have e1':Ap (Ap (Ez h) an) (Ar (Ap (Ez h) an).2.2.1 x1 x2)=Ap (Ez h) (Ar an x1 x2):=rfl;have e2':AZ (Aa (Ap (Ez h) an)) (Ap (Ez h) an).2.2.1 x1 x2=AZ (Aa (Ez h)) an x1 x2:=rfl;rw[e1',e2',hmF] at kD;generalize AZ (Aa h) an x1 x2=vv at *;generalize Ar an x1 x2=an2 at *;rw[hwA,hwA] at kD;by_cases hv2:vv<0
       · rw[if_pos hv2] at hstp;have hRb:=hbd (by rw[hstp]);rw[hRb];simp[hd];refine Ab (kF) ?_;simp[Ao,w0,hkv,hkv2];refine Av [(41,[40]),(42,[])] (by kernel_rfl) ?_;simp[hA,hL,At,t1,t2,m1,m2,b1,b2,w2,w3,z1,z2];refine Ab (kD) ?_;simp[Ao,hv2,zz2 hv2];refine Ab (kc) ?_;simp[Ao];exact⟨[],by simp⟩
       · rw[if_neg hv2] at hstp;simp[hd];refine Ab (kF) ?_;simp[Ao,w0,hkv,hkv2];refine Av [(41,[40]),(42,[])] (by kernel_rfl) ?_;simp[hA,hL,At,t1,t2,m1,m2,b1,b2,w2,w3,z1,z2];refine Ab (kD) ?_;simp[Ao,hv2,zz3 hv2];refine Ak As rfl (by simp) rfl (by simp) (by simp) (by first | (simp;done)|(simp;omega)) (by simp[AR,AL]) ?_;simp[w1];exact Ae hI hS hμ (i+1) ⟨by omega,by rw[hR2,hstp]⟩ (by omega) ⟨[0,1,12,3,8,9,10],by simp[hR2,hstp]⟩
   obtain rfl:i=h.2.2.1.length:=by omega
   rw[←hRR] at hfli hIm;rw[if_neg (by rw[hfli];simp)] at hRG;have hl:=hIm.len hfli;have kFn:=kFin RR.1 RR.2.1 hIm.an hIm.pl hIm.ok (by omega);rw[←hRR,hRG];simp only;simp[hlt,zz3 hlt];refine Ac (kFn) [2,5,6] [4] (by simp) ?_;simp;exact⟨[],by simp⟩
 | true =>
   simp only[if_true] at hc1;subst hc1;simp;refine Ab (kE) ?_;simp[Ao];refine AH [false,true,true,true,false,false,true,false,false,true,false,true,true,true,true] (fun i:Nat=>i≤h.2.2.1.length∧(Hm h i0 c cov fl i).2.2=true) (fun i:Nat=>[(9,.d (.sl 133 (cov.map At))),(11,.d (.bool true)),(12,.ptr 3 0),(13,.ref 2),(14,.d (.int .i64 i))]) (fun i:Nat=>fun _=>[ED h,zG,.arr 3 true ((Hm h i0 c cov fl i).1.map (e1 AC)),.var 28 [.d (.int .i64 h.1),.ref 4,.ref 5,.ref 6],.arr 57 true (zs.map AY),.arr 63 true ((Hm h i0 c cov fl i).2.1.map At),.arr 3 true []]) (fun i:Nat=>h.2.2.1.length - i) 0 ?_ ?_ ?_
   · exact⟨Nat.zero_le _,rfl⟩
   · exact⟨[0,1,6,7,3,4,5],by simp[hb0,zG,ED]⟩
   rintro I S μ hI hS hμ i ⟨hi,hfli⟩;have hIm:=hKok i hi;by_cases hlt:i<h.2.2.1.length
   · obtain⟨⟨to,an,bb⟩,hst⟩:∃ s,Hm h i0 c cov fl i=s:=⟨_,rfl⟩;rw[hst] at hfli hIm;simp only at hfli;subst hfli;have hl:=hIm.len rfl;have hpl:=hIm.pl;have h3:=hIm.an;have ho:=hIm.ok;simp only at hl hpl h3 ho;have hokA:Al (Ap (Ez h) an)=true:=CS hmok (by rw[hmz];simp) h3 (by rw[hmF];exact ho);have hwN:(A0 (Ap (Ez h) an):Int)=Aa h+an.length:=by rw[Cq,hmF];omega
     have w1:IntKind.i64.wrap ((i:Int)+1)=(i:Int)+1:=Ad (by omega) (by omega);have hbd:=hbad (i+1) (by omega);have hd:=zz2 hlt;obtain⟨R2,hR2⟩:∃ R2,Hm h i0 c cov fl (i+1)=R2:=⟨_,rfl⟩;by_cases he:i=i0
     · subst he;have w0:IntKind.i64.wrap ((Aa h:Int)+(i:Int))=(v:Int):=by rw[Ad (by omega) (by omega)];omega
       have hstp:R2=(fun q:List Ai×Int×Bool=>if Ci c.length cov=false∨q.2.2=false then (to,an,false) else (to++[Bl q.2.1 fl],q.1,true)) (HK (Aa h) (c.map (A1 to)) cov an cov.length):=by
        rw[←hR2,Hm,hst];simp only[Bool.true_eq_false,if_false,if_true]
       rw[hR2] at hbd;rw[hst];simp only;simp[hd];refine Ab (kF) ?_;simp[Ao,w0];refine AH [false,true,true,true,false,false,true,false,false,true,false,true,true,true,true,true,false,true,true] (fun j:Nat=>j≤c.length) (fun j:Nat=>[(17,.ref 8),(18,.d (.int .i64 j))]) (fun j:Nat=>fun sl=>sl.take 8++[.arr 3 true (((c.take j).map (A1 to)).map (e1 AC))]) (fun j:Nat=>c.length - j) 0 ?_ ?_ ?_
       · exact Nat.zero_le _
       · exact⟨[0,1,2,3,4,5,6,7,8],by simp⟩
       rintro I2 S2 μ2 hI2 hS2 hμ2 j hj;have htl:(c.take j).length=j:=by rw[ACC];omega
       by_cases hlt2:j<c.length
       · obtain⟨y,hy⟩:∃ y,c[j]? = some y:=⟨_,zz0 hlt2⟩;have hyr:=hin y (zz6 hy);have hty:=B8 (lv:=to) (k:=y) (by omega);have hnx:((c.take (j+1)).map (A1 to)).map (e1 AC)=((c.take j).map (A1 to)).map (e1 AC)++[[.int .i64 (A1 to y)]]:=by rw[Ba hy,ABe,ABe];rfl
         have hml:(((c.take j).map (A1 to)).map (e1 AC)).length=j:=by rw[AB7,AB7,htl]
         have w2:IntKind.i64.wrap ((j:Int)+1)=(j:Int)+1:=Ad (by omega) (by omega);have hy0:¬ y<0:=by omega
         obtain⟨m2,hm2⟩:∃ m2,((c.take (j+1)).map (A1 to)).map (e1 AC)=m2:=⟨_,rfl⟩;rw[hm2] at hnx;generalize ((c.take j).map (A1 to)).map (e1 AC)=m1 at *;generalize A1 to y=ty at *;simp[zz2 hlt2,hy,hty,hy0];refine Ak As rfl (by simp) rfl (by simp) (by simp) (by first | (simp;done)|(simp;omega)) (by simp[AR,AL]) ?_;simp[w2];refine Ae hI2 hS2 hμ2 (j+1) (by omega) (by omega) ⟨[0,1,2,3,4,5,6,7,10],?_⟩;rw[hm2];simp[hnx]
       obtain rfl:j=c.length:=by omega
       clear hI2 hS2 hμ2;rw[List.take_length]
       have hlr:∀ y∈c.map (A1 to),0≤y∧y<2*((Aa h:Int)+(an.length:Int)):=fun y hy=>by
        obtain⟨z,_,rfl⟩:=ABc.1 hy;exact BH hpl (by omega) z
       have hlc:(c.map (A1 to)).length=c.length:=AB7 _;have kA:=K1 (Ap (Ez h) an) (c.map (A1 to)) cov hokA (by omega) (fun y hy=>by have:=hlr y hy;omega) (by omega);have hSa:=Pw (fa:=Aa h) (lits:=c.map (A1 to)) (an0:=an) (n0:=an.length) (cs:=cov) (by omega) ⟨Nat.le_refl _,h3,ho,by simp only;omega⟩ hlr cov.length
       have hAR:rM (Ap (Ez h) an) (c.map (A1 to)) cov=if Ci c.length cov=true∧(HK (Aa h) (c.map (A1 to)) cov an cov.length).2.2=true then (Ap (Ez h) (HK (Aa h) (c.map (A1 to)) cov an cov.length).1,(HK (Aa h) (c.map (A1 to)) cov an cov.length).2.1) else (Ap (Ez h) an,-1):=by
        rw[←hlc,←hmF];rfl
       rw[hAR] at kA;clear hAR;generalize HK (Aa h) (c.map (A1 to)) cov an cov.length=q at *;generalize c.map (A1 to)=lits at *;simp only at hstp;rw[hwA] at kA hokA hwN;by_cases hcq:Ci c.length cov=true∧q.2.2=true
       · rw[if_pos hcq,hwA] at kA;rw[if_neg (by rw[hcq.1,hcq.2];simp)] at hstp;obtain⟨p1,p2,p3,p4⟩:=hSa;obtain⟨an2,s2,b2⟩:=q;simp only at kA hstp p4;have hs0:0≤s2:=p4.1;have hxr:=GP p4 (by simp only at p2;omega) hfl;generalize hxv:Bl s2 fl=xv at *;simp[hlt2,zz3 hlt2];refine Ab (kA) ?_;simp[Ao,hs0,zz2 hs0,show ¬ s2<0 by omega];refine Ab (k7) ?_;simp[hxv,show ¬ xv<0 by omega,show 0≤xv by omega];refine Ak As rfl (by simp) rfl (by simp) (by simp) (by first | (simp;done)|(simp;omega)) (by simp[AR,AL]) ?_;simp[w1];exact Ae hI hS hμ (i+1) ⟨by omega,by rw[hR2,hstp]⟩ (by omega) ⟨[0,1,13,3,9,10,11],by simp[hR2,hstp]⟩
       · rw[if_neg hcq] at kA
         have hq2:Ci c.length cov=false∨q.2.2=false:=by
          cases h5:Ci c.length cov with
          | false=>exact .inl rfl
          | true =>
            cases h6:q.2.2 with
            | false=>exact .inr rfl
            | true=>exact absurd ⟨h5,h6⟩ hcq
         rw[if_pos hq2] at hstp;have hRb:=hbd (by rw[hstp]);rw[hRb];simp only at kA;simp[hlt2,zz3 hlt2];refine Ab (kA) ?_;simp[Ao];refine Ab (kc) ?_;simp[Ao];exact⟨[],by simp⟩
     · have hne:Aa h+i≠v:=by omega
       obtain⟨k,hk⟩:∃ k,Aa h+i=k:=⟨_,rfl⟩;have w0:IntKind.i64.wrap ((Aa h:Int)+(i:Int))=(k:Int):=by rw[Ad (by omega) (by omega)];omega
       have hkv:((k:Int)==(v:Int))=false:=by simp;omega
       have hkv2:¬ k=v:=by omega
       have hstp:R2=if AZ (Aa h) an (Aq to (Aj h k).1) (Aq to (Aj h k).2)<0 then (to,an,false)
        else (to++[AZ (Aa h) an (Aq to (Aj h k).1) (Aq to (Aj h k).2)],Ar an (Aq to (Aj h k).1) (Aq to (Aj h k).2),true):=by
        rw[←hR2,Hm,hst,←hk];simp only[Bool.true_eq_false,if_false,if_neg he]
       rw[hR2] at hbd;rw[hst];simp only;obtain⟨hA,a1,a2,a3,a4,a5,a6⟩:=CW hok (v:=k) (by omega) (by omega);rw[show k - Aa h=i by omega] at hA;have r1:=Bn (l:=(Aj h k).1) (BH hpl (by omega) ((Aj h k).1 / 2)) (by omega);have r2:=Bn (l:=(Aj h k).2) (BH hpl (by omega) ((Aj h k).2 / 2)) (by omega);have t1:=B8 (lv:=to) (k:=(Aj h k).1 / 2) (by omega);have t2:=B8 (lv:=to) (k:=(Aj h k).2 / 2) (by omega);have m1:Bl (A1 to ((Aj h k).1 / 2)) ((Aj h k).1 % 2)=Aq to (Aj h k).1:=rfl;have m2:Bl (A1 to ((Aj h k).2 / 2)) ((Aj h k).2 % 2)=Aq to (Aj h k).2:=rfl;have b1:=CC (Aj h k).1;have b2:=CC (Aj h k).2;have w2:IntKind.i64.wrap ((Aj h k).1.tdiv 2)=(Aj h k).1 / 2:=M5 a1 (by omega);have w3:IntKind.i64.wrap ((Aj h k).2.tdiv 2)=(Aj h k).2 / 2:=M5 a2 (by omega);have z1:¬ (Aj h k).1 / 2<0:=by omega
       have z2:¬ (Aj h k).2 / 2<0:=by omega
       have hL:(At (Aj h k)).length=2:=rfl;generalize A1 to ((Aj h k).1 / 2)=p1 at *;generalize A1 to ((Aj h k).2 / 2)=p2 at *;generalize (Aj h k).1 / 2=d1 at *;generalize (Aj h k).2 / 2=d2 at *;generalize Aq to (Aj h k).1=x1 at *;generalize Aq to (Aj h k).2=x2 at *;generalize Aj h k=A at *;have kD:=DI (Ap (Ez h) an) x1 x2 hokA (by omega) (by omega);rw[F6 (by omega) (by omega)] at kD;have e1':Ap (Ap (Ez h) an) (Ar (Ap (Ez h) an).2.2.1 x1 x2)=Ap (Ez h) (Ar an x1 x2):=rfl;have e2':AZ (Aa (Ap (Ez h) an)) (Ap (Ez h) an).2.2.1 x1 x2=AZ (Aa (Ez h)) an x1 x2:=rfl;rw[e1',e2',hmF] at kD;generalize AZ (Aa h) an x1 x2=vv at *;generalize Ar an x1 x2=an2 at *;rw[hwA,hwA] at kD;by_cases hv2:vv<0
       · rw[if_pos hv2] at hstp;have hRb:=hbd (by rw[hstp]);rw[hRb];simp[hd];refine Ab (kF) ?_;simp[Ao,w0,hkv,hkv2];refine Av [(41,[40]),(42,[])] (by kernel_rfl) ?_;simp[hA,hL,At,t1,t2,m1,m2,b1,b2,w2,w3,z1,z2];refine Ab (kD) ?_;simp[Ao,hv2,zz2 hv2];refine Ab (kc) ?_;simp[Ao];exact⟨[],by simp⟩
       · rw[if_neg hv2] at hstp;simp[hd];refine Ab (kF) ?_;simp[Ao,w0,hkv,hkv2];refine Av [(41,[40]),(42,[])] (by kernel_rfl) ?_;simp[hA,hL,At,t1,t2,m1,m2,b1,b2,w2,w3,z1,z2];refine Ab (kD) ?_;simp[Ao,hv2,zz3 hv2];refine Ak As rfl (by simp) rfl (by simp) (by simp) (by first | (simp;done)|(simp;omega)) (by simp[AR,AL]) ?_;simp[w1];exact Ae hI hS hμ (i+1) ⟨by omega,by rw[hR2,hstp]⟩ (by omega) ⟨[0,1,12,3,8,9,10],by simp[hR2,hstp]⟩
   obtain rfl:i=h.2.2.1.length:=by omega
   rw[←hRR] at hfli hIm;rw[if_neg (by rw[hfli];simp)] at hRG;have hl:=hIm.len hfli;have kFn:=kFin RR.1 RR.2.1 hIm.an hIm.pl hIm.ok (by omega);rw[←hRR,hRG];simp only;simp[hlt,zz3 hlt];refine Ac (kFn) [2,5,6] [4] (by simp) ?_;simp;exact⟨[],by simp⟩
end Go.Proofs.YtnjedabjbeipeaaGreat
