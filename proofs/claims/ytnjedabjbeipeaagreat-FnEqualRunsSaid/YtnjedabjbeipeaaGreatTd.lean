/-
  Balancing by the reference, by an abstract walk.
  Conditions: those typed in each theorem.
-/
import Derived.Test.YtnjedabjbeipeaaGreatTb
import Derived.Test.YtnjedabjbeipeaaGreatTk
namespace Go.Proofs.YtnjedabjbeipeaaGreat
open Go.RowKit Go.ChangeShapes Go.WideShapes
set_option linter.unusedSimpArgs false
set_option linter.unusedVariables false
set_option maxRecDepth 100000
set_option maxHeartbeats 10000000
theorem iD {x:AK} (hok:Al x=true):Al (Ez x)=true:=by
 obtain⟨⟨n1,n2,n3,n4,n5,n6⟩,o1,-,-⟩:=AA hok;have hNm:A0 (Ez x)=Aa x:=by rw[Bp,FN];simp[Ez]
 refine LG ⟨n1,n2⟩ (by simpa [Ez] using n3) (by simp[Ez]) (by simp[Ez]) (fun s hs=>?_) (fun y hy=>by simp[Ez] at hy) (fun s hs y hy=>?_) rfl
 · obtain⟨s0,hs0,rfl⟩:=ABc.1 (show s∈x.2.1.map CE from hs);have:=o1 s0 hs0;unfold Bz CE at *;simpa using this
 · obtain⟨s0,hs0,rfl⟩:=ABc.1 (show s∈x.2.1.map CE from hs);obtain⟨y0,-,rfl⟩:=ABc.1 (show y∈s0.2.2.map fun _=>0 from hy);have:0<Aa x:=by unfold Aa;omega
   rw[hNm];omega
theorem Sm {h:AK} {i:Nat} (hf:(Iv h i).2.2=false):∀ d,(Iv h (i+d)).2.2=false
 | 0=>hf
 | d+1=>by
   have ih:=Sm hf d;show (Iv h (i+d+1)).2.2=false;rw[Iv,if_pos ih];exact ih
theorem U3 {s:List Bool} {rs:List Int} {k:Nat} (h:AX s k=true):∀ j,AX (Kt s rs j) k=true
 | 0=>h
 | j+1=>by
   have ih:=U3 (rs:=rs) h j;show AX ((Kt s rs j).set _ true) k=true;rw[FJ];split
   · rfl
   · exact ih
theorem xE {x:AK} {i:Nat} (hi:i≤(CB x).2.2.1.length) (hf:(Iv (CB x) i).2.2=false):Rk x=CB x:=by
 have:=Sm hf ((CB x).2.2.1.length - i);rw[show i+((CB x).2.2.1.length - i)=(CB x).2.2.1.length by omega] at this;unfold Rk;rw[if_pos this]
theorem aO (x:AK) (hok0:Al x=true) (h3x:x.2.2.1.length<300):CG Tryz.prog 29 [RW x] [] (RW (Rk x)) []:=by
 have hx0:=BZ hok0;have hg0:=CJ hok0;have kO:=Co x hx0 hg0;rw[hok0] at kO;have kH:=QD x hx0 hg0 hok0 h3x;have hok:=J3 hok0;have hbh:=fun i hi hf=>xE (x:=x) (i:=i) hi hf
 have hbt:(Iv (CB x) (CB x).2.2.1.length).2.2=true→Rk x=Ia ((CB x).1,(CB x).2.1.map (Dr (Iv (CB x) (CB x).2.2.1.length).1),(Iv (CB x) (CB x).2.2.1.length).2.1,(CB x).2.2.2.map (Aq (Iv (CB x) (CB x).2.2.1.length).1)):=fun e=>by
  unfold Rk;rw[if_neg (by rw[e];simp)]
 generalize Rk x=BG at *;generalize CB x=h at *;have hx:=BZ hok;have hg:=CJ hok;obtain⟨⟨n1,n2,n3,n4,n5,n6⟩,-,o2,-⟩:=AA hok;obtain⟨hF,hgl,hNi,hno⟩:=A7 hok;have hN:=Bp h;have k2:=Bt h;rw[hno] at k2;have k3:=BE h ⟨n1,n2⟩ n3;rw[show 1+h.1+(h.2.1.length:Int)=((Aa h:Nat):Int) by omega] at k3;have kR:=Jl h hx n3;have hrl:=QQ hok;have kE:=Hb h hx ⟨n1,n2⟩ n3;have hmok:=iD hok;have hmF:=FN (x:=h)
 have hrep:List.replicate (A0 h) [D.bool false]=(Kt (List.replicate (A0 h) false) (Ay h) 0).map (e1 CQ):=by
  show _=(List.replicate (A0 h) false).map (e1 CQ);rw[List.map_replicate];rfl
 refine BA (by kernel_rfl) Tryz.func29 rfl rfl rfl (by simp[Bi,Later]) (by simp[BN,Ah.live]) ?_;simp;refine Ab (kO) ?_;simp;refine Ac (kH) [] [] (by simp) ?_;simp;refine Ab (k3) ?_;simp[Ao];refine Ab (k2) ?_;simp[Ao];refine⟨by omega,?_⟩;rw[hrep];refine Ab (kR) ?_;simp[Ao];refine AH [false,false,true,true,true,true,true,true] (fun i:Nat=>i≤(Ay h).length) (fun i:Nat=>[(7,.d (.int .i64 i))]) (fun i:Nat=>fun _=>[ED x,zG,ED h,.arr 4 true ((Kt (List.replicate (A0 h) false) (Ay h) i).map (e1 CQ)),.arr 3 true ((Ay h).map (e1 AC))]) (fun i:Nat=>(Ay h).length - i) 0 ?_ ?_ ?_
 · exact Nat.zero_le _
 · exact⟨[0,1,2,3,4],by simp⟩
 rintro I S μ hI hS hμ i hi;by_cases hlt:i<(Ay h).length
 · obtain⟨y,hy⟩:∃ y,(Ay h)[i]? = some y:=⟨_,zz0 hlt⟩;have hyr:=o2 y (zz6 hy);have hya:A1 (Ay h) i=y:=by unfold A1;rw[Int.toNat_natCast,hy];rfl
   have hml:=Ka (s:=List.replicate (A0 h) false) (rs:=Ay h) i;rw[List.length_replicate] at hml;have hst:Kt (List.replicate (A0 h) false) (Ay h) (i+1)=(Kt (List.replicate (A0 h) false) (Ay h) i).set (y / 2).toNat true:=by rw[←hya];rfl
   obtain⟨s2,hs2⟩:∃ s2,Kt (List.replicate (A0 h) false) (Ay h) (i+1)=s2:=⟨_,rfl⟩;rw[hs2] at hst;generalize Kt (List.replicate (A0 h) false) (Ay h) i=s1 at *;obtain⟨u,hu⟩:∃ u:Nat,y / 2=(u:Int):=⟨(y / 2).toNat,by omega⟩;have w1:IntKind.i64.wrap (y.tdiv 2)=(u:Int):=by rw[M5 hyr.1 (by omega),hu]
   rw[hu,Int.toNat_natCast] at hst;have hul:u<s1.length:=by omega
   have hat:=Du hul;have hse:=Hz (s:=s1) (k:=u);rw[←hst] at hse;have w2:IntKind.i64.wrap ((i:Int)+1)=(i:Int)+1:=Ad (by omega) (by omega);simp[zz2 hlt,hy,w1,hat,hse,w2];exact Ae hI hS hμ (i+1) (by omega) (by omega) ⟨[0,1,2,3,4],by simp[hs2]⟩
 obtain rfl:i=(Ay h).length:=by omega
 clear hI hS hμ;have h0:Kt (List.replicate (A0 h) false) (Ay h) (Ay h).length=WX h 0:=rfl;rw[h0];have w9:IntKind.i64.wrap ((A0 h:Int) - 1)=(A0 h:Int) - 1:=Ad (by omega) (by omega);simp[hlt,zz3 hlt];refine Ab (k2) ?_;simp[Ao,w9];refine AH [false,false,true,true,true,true,false,false,true] (fun j:Nat=>j≤h.2.2.1.length) (fun j:Nat=>[(8,.d (.int .i64 ((A0 h:Int) - 1 - (j:Int))))]) (fun j:Nat=>fun _=>[ED x,zG,ED h,.arr 4 true ((WX h j).map (e1 CQ))]) (fun j:Nat=>h.2.2.1.length - j) 0 ?_ ?_ ?_
 · exact Nat.zero_le _
 · exact⟨[0,1,2,3],by simp⟩
 rintro I S μ hI hS hμ j hj;have hnl:=TE (h:=h) j;by_cases hlt1:j<h.2.2.1.length
 · obtain⟨k,hk⟩:∃ k:Nat,A0 h - 1 - j=k:=⟨_,rfl⟩;have hki:(A0 h:Int) - 1 - (j:Int)=(k:Int):=by omega
   rw[hki];have hge:(Aa h:Int)≤(k:Int):=by omega
   have hge2:¬ (k:Int)<(Aa h:Int):=by omega
   have kC:=Sb h k hx hok (by omega) (by omega);have hcl:=Ug hok (v:=k) (by omega) (by omega);have hcn:=YX hok (v:=k) (by omega) (by omega);have hcn2:=U5 (v:=k) hgl;have hst:WX h (j+1)=if AX (WX h j) k=true then Kt (WX h j) (Fa h k) (Fa h k).length else WX h j:=by rw[←hk];rfl
   obtain⟨s2,hs2⟩:∃ s2,WX h (j+1)=s2:=⟨_,rfl⟩;rw[hs2] at hst;generalize WX h j=s1 at *;generalize Fa h k=cj at *;have w4:IntKind.i64.wrap ((k:Int) - 1)=(A0 h:Int) - 1 - ((j:Int)+1):=by rw[Ad (by omega) (by omega)];omega
   have hat:=Du (s:=s1) (v:=k) (by omega)
   cases hb:AX s1 k with
   | false =>
     rw[hb,if_neg (by simp)] at hst;rw[hb] at hat;have hcp:0<cj.length:=List.length_pos_iff.2 hcn;simp[hge,hge2];refine Ab (kC) ?_;simp[Ao];refine AH [false,false,true,true,true,true,false,false,true,true,true] (fun i:Nat=>i≤0) (fun i:Nat=>[(9,.d (.sl 3 (cj.map (e1 AC)))),(10,.d (.int .i64 i))]) (fun i:Nat=>fun sl=>sl.take 4) (fun i:Nat=>0) 0 ?_ ?_ ?_
     · exact Nat.zero_le _
     · exact⟨[0,1,2,3],by simp⟩
     rintro I2 S2 μ2 hI2 hS2 hμ2 i hi;obtain rfl:i=0:=by omega
     simp[zz2 hcp,hat,w4];exact Ae hI hS hμ (j+1) (by omega) (by omega) ⟨[0,1,2,3],by simp[hs2,hst]⟩
   | true =>
     rw[hb,if_pos rfl] at hst;simp[hge,hge2];refine Ab (kC) ?_;simp[Ao];refine AH [false,false,true,true,true,true,false,false,true,true,true] (fun i:Nat=>i≤cj.length) (fun i:Nat=>[(9,.d (.sl 3 (cj.map (e1 AC)))),(10,.d (.int .i64 i))]) (fun i:Nat=>fun sl=>sl.take 3++[.arr 4 true ((Kt s1 cj i).map (e1 CQ))]) (fun i:Nat=>cj.length - i) 0 ?_ ?_ ?_
     · exact Nat.zero_le _
     · exact⟨[0,1,2,3],by simp[Kt]⟩
     rintro I2 S2 μ2 hI2 hS2 hμ2 i hi;have hrt:=U3 (rs:=cj) hb i;have hml:=Ka (s:=s1) (rs:=cj) i;have hat2:=Du (s:=Kt s1 cj i) (v:=k) (by omega);rw[hrt] at hat2;by_cases hlt2:i<cj.length
     · obtain⟨y,hy⟩:∃ y,cj[i]? = some y:=⟨_,zz0 hlt2⟩;have hyr:=hcl y (zz6 hy);have hya:A1 cj i=y:=by unfold A1;rw[Int.toNat_natCast,hy];rfl
       have hst2:Kt s1 cj (i+1)=(Kt s1 cj i).set (y / 2).toNat true:=by rw[←hya];rfl
       obtain⟨t2,ht2⟩:∃ t2,Kt s1 cj (i+1)=t2:=⟨_,rfl⟩;rw[ht2] at hst2;generalize Kt s1 cj i=t1 at *;obtain⟨u,hu⟩:∃ u:Nat,y / 2=(u:Int):=⟨(y / 2).toNat,by omega⟩;have w1:IntKind.i64.wrap (y.tdiv 2)=(u:Int):=by rw[M5 hyr.1 (by omega),hu]
       rw[hu,Int.toNat_natCast] at hst2;have hul:u<t1.length:=by omega
       have hatu:=Du hul;have hse:=Hz (s:=t1) (k:=u);rw[←hst2] at hse;have w2:IntKind.i64.wrap ((i:Int)+1)=(i:Int)+1:=Ad (by omega) (by omega);simp[zz2 hlt2,hat2,hy,w1,hatu,hse,w2];exact Ae hI2 hS2 hμ2 (i+1) (by omega) (by omega) ⟨[0,1,2,3],by simp[ht2]⟩
     obtain rfl:i=cj.length:=by omega
     simp[hlt2,zz3 hlt2,w4];exact Ae hI hS hμ (j+1) (by omega) (by omega) ⟨[0,1,2,3],by simp[hs2,hst]⟩
 obtain rfl:j=h.2.2.1.length:=by omega
 clear hI hS hμ;have h1:WX h h.2.2.1.length=ndL h:=rfl;rw[h1] at hnl ⊢;obtain⟨zs,hzs⟩:∃ zs,h.2.1.map CE=zs:=⟨_,rfl⟩;rw[hzs] at kE;have hmz:Ez h=(h.1,zs,[],[]):=by unfold Ez;rw[hzs]
 have hb0:Iv h 0=(BB (Aa h),[],true):=rfl;have hwA:∀ an:List Ai,Ap (Ez h) an=(h.1,zs,an,[]):=fun an=>by rw[hmz];rfl
 have kFin:=fun (to:List Int) (an:List Ai) (a1:an.length≤300) (a2:Jw (Aa h+an.length) to) (a3:BR (Aa h) 0 an=true) (a4:to.length=A0 h)=>HF h to an hx hok a1 a2 a3 a4;rw[hzs] at kFin;obtain⟨nd,hnd⟩:∃ nd,ndL h=nd:=⟨_,rfl⟩;rw[hnd] at hnl ⊢;simp[show ¬ (Aa h:Int)≤(A0 h:Int) - 1 - (h.2.2.1.length:Int) by omega,show (A0 h:Int) - 1 - (h.2.2.1.length:Int)<(Aa h:Int) by omega];refine Ab (kE) ?_;simp[Ao];refine AH [false,false,true,true,false,true,false,false,false,false,false,true,true,true] (fun i:Nat=>i≤h.2.2.1.length∧(Iv h i).2.2=true) (fun i:Nat=>[(11,.ptr 5 0),(12,.ref 4),(13,.d (.int .i64 ((Aa h:Int)+(i:Int))))]) (fun i:Nat=>fun _=>[ED x,zG,ED h,.arr 4 true (nd.map (e1 CQ)),.arr 3 true ((Iv h i).1.map (e1 AC)),.var 28 [.d (.int .i64 h.1),.ref 6,.ref 7,.ref 8],.arr 57 true (zs.map AY),.arr 63 true ((Iv h i).2.1.map At),.arr 3 true []]) (fun i:Nat=>h.2.2.1.length - i) 0 ?_ ?_ ?_
 · exact⟨Nat.zero_le _,rfl⟩
 · exact⟨[0,1,2,3,7,8,4,5,6],by simp[hb0]⟩
 rintro I3 S3 μ3 hI3 hS3 hμ3 i ⟨hi,hfl⟩;have hIm:=Yb hok i hi;by_cases hlt3:i<h.2.2.1.length
 · obtain⟨k,hk⟩:∃ k:Nat,Aa h+i=k:=⟨_,rfl⟩;have hki:(Aa h:Int)+(i:Int)=(k:Int):=by omega
   rw[hki];obtain⟨⟨to,an,bb⟩,hst⟩:∃ s,Iv h i=s:=⟨_,rfl⟩;rw[hst] at hfl hIm;simp only at hfl;subst hfl;have hl:=hIm.len rfl;have hpl:=hIm.pl;have ha3:=hIm.an;have han:=hIm.ok;simp only at hl hpl ha3 han;have hlv:=Sr hok (i:=i) (by omega) hl ha3 hpl han (WW (Ap (Ez h) an))
   have hstp:Iv h (i+1)=if AX nd k=false then (to++[0],an,true) else (fun ls:List Int=>(fun c:List Ai×List Int×Bool=>if c.2.2=false then (to++[0],c.1,false) else ((to++[0]).set k (A1 c.2.1 0),c.1,true))
    (iE (Ez h) (Hd (WW (Ap (Ez h) an)) ls ls.length).length an (Hd (WW (Ap (Ez h) an)) ls ls.length))) ((Fa h k).map (Aq (to++[0]))):=by
    rw[Iv,hst,←hnd,←hk];simp only[Bool.true_eq_false,if_false]
   rw[hst];simp only;obtain⟨to1,ht1⟩:∃ to1,to++[0]=to1:=⟨_,rfl⟩;have ht1m:to1.map (e1 AC)=to.map (e1 AC)++[[.int .i64 0]]:=by rw[←ht1,ABe];rfl
   have ht1l:to1.length=k+1:=by rw[←ht1];simp;omega
   have hkN:k<A0 h:=by omega
   have hp1:Jw (Aa h+an.length) to1:=fun y hy=>by
    rw[←ht1] at hy;rcases ACB.1 hy with hy|hy
    · exact hpl y hy
    · rw[zz9.1 hy];omega
   rw[ht1,hk] at hlv;rw[ht1] at hstp;have kC:=Sb h k hx hok (by omega) (by omega);have hcl:=Ug hok (v:=k) (by omega) (by omega);have hcn2:=U5 (v:=k) hgl;have hat:=Du (s:=nd) (v:=k) (by omega);have w1:IntKind.i64.wrap ((k:Int)+1)=(Aa h:Int)+((i:Int)+1):=by rw[Ad (by omega) (by omega)];omega
   have hkN2:(k:Int)<(A0 h:Int):=by omega
   obtain⟨B2,hB2⟩:∃ B2,Iv h (i+1)=B2:=⟨_,rfl⟩;rw[hB2] at hstp
   cases hb:AX nd k with
   | false =>
     rw[hb,if_pos rfl] at hstp;rw[hb] at hat;simp;refine Ab (k2) ?_;simp[Ao,hkN,hkN2];refine Ak As rfl (by simp) rfl (by simp) (by simp) (by first | (simp;done)|(simp;omega)) (by simp[AR,AL]) ?_;simp[hat,w1];exact Ae hI3 hS3 hμ3 (i+1) ⟨by omega,by rw[hB2,hstp]⟩ (by omega) ⟨[0,1,2,3,10,5,6,7,8],by simp[hB2,hstp,ht1m]⟩
   | true =>
     rw[hb,if_neg (by simp)] at hstp;rw[hb] at hat;have hokA:Al (Ap (Ez h) an)=true:=CS hmok (by rw[hmz];simp) ha3 (by rw[hmF];exact han);have kL:=NB (Ap (Ez h) an) (BZ hokA) hokA;have hwN:(A0 (Ap (Ez h) an):Int)=Aa h+an.length:=by rw[Cq,hmF];omega
     have hlvl:=YG (x:=Ap (Ez h) an);have kM:=EG to1 (Fa h k) (by omega) (by omega) (fun l hl=>by have:=hcl l hl;omega);have hlsl:((Fa h k).map (Aq to1)).length≤800:=by rw[AB7];omega
     have hls:∀ y∈(Fa h k).map (Aq to1),0≤y∧y<2*((Aa h:Int)+an.length):=fun y hy=>by
      obtain⟨l,hl2,rfl⟩:=ABc.1 hy;exact Bn (BH hp1 (by omega) _) (by omega)
     rw[hwA] at kL;generalize Fa h k=cj at *;generalize cj.map (Aq to1)=ls at *;simp only at hstp;obtain⟨lv,hlvd⟩:∃ lv,WW (Ap (Ez h) an)=lv:=⟨_,rfl⟩;rw[hwA] at hlvd;rw[hlvd] at kL;rw[hwA,hlvd] at hstp hlv hlvl;rw[hwA] at hwN hokA;simp;refine Ab (k2) ?_;simp[Ao,hkN,hkN2];refine Ak As rfl (by simp) rfl (by simp) (by simp) (by first | (simp;done)|(simp;omega)) (by simp[AR,AL]) ?_;simp[hat,←ht1m];refine Ab (kL) ?_;simp[Ao];refine Ab (kC) ?_;simp[Ao];refine Ab (kM) ?_;simp;refine AH [false,false,true,true,false,true,false,false,false,false,false,true,true,true,true,true,true,true] (fun j:Nat=>j≤ls.length) (fun j:Nat=>[(12,.ref 4),(14,.d (.sl 3 (lv.map (e1 AC)))),(15,.d (.sl 3 (ls.map (e1 AC)))),(16,.d (.sl 3 ((Hd lv ls j).map (e1 AC)))),(17,.d (.int .i64 j))]) (fun j:Nat=>fun _=>[ED x,zG,ED h,.arr 4 true (nd.map (e1 CQ)),.arr 3 true (to1.map (e1 AC)),.var 28 [.d (.int .i64 h.1),.ref 6,.ref 7,.ref 8],.arr 57 true (zs.map AY),.arr 63 true (an.map At),.arr 3 true []]) (fun j:Nat=>ls.length - j) 0 ?_ ?_ ?_
     · exact Nat.zero_le _
     · exact⟨[0,1,2,3,10,5,6,7,8],by simp[Hd]⟩
     rintro I4 S4 μ4 hI4 hS4 hμ4 j hj;obtain⟨fl1,fl2⟩:=PV (lv:=lv) (ls:=ls) j;by_cases hlt4:j<ls.length
     · obtain⟨y,hy⟩:∃ y,ls[j]? = some y:=⟨_,zz0 hlt4⟩;have hyr:=hls y (zz6 hy);have hya:A1 ls j=y:=by unfold A1;rw[Int.toNat_natCast,hy];rfl
       have hfm:=QS (lv:=lv) (ls:=ls) j hj;have kI:=Oa (Hd lv ls j) lv y (by omega) (by omega) (fun z hz=>by have:=hls z (hfm z hz);omega) (by omega);have hst4:Hd lv ls (j+1)=Lm lv y (Hd lv ls j):=by rw[←hya];rfl
       obtain⟨f2,hf2⟩:∃ f2,Hd lv ls (j+1)=f2:=⟨_,rfl⟩;rw[←hst4,hf2] at kI;generalize Hd lv ls j=f1 at *;have w2:IntKind.i64.wrap ((j:Int)+1)=(j:Int)+1:=Ad (by omega) (by omega);simp[zz2 hlt4,hy];refine Ab (kI) ?_;simp[w2];exact Ae hI4 hS4 hμ4 (j+1) (by omega) (by omega) ⟨[0,1,2,3,4,5,6,7,8],by simp[hf2]⟩
     obtain rfl:j=ls.length:=by omega
     clear hI4 hS4 hμ4;have hl0l:(Hd lv ls ls.length).length≤800:=by omega
     generalize Hd lv ls ls.length=l0 at *;obtain⟨R,hR⟩:∃ R,iE (Ez h) l0.length an l0=R:=⟨_,rfl⟩;rw[hR] at hstp;have hlen1:=hlv.ne;simp[hlt4,zz3 hlt4];refine AH [false,false,true,true,false,true,false,false,false,false,false,true,true,true,false,false,true] (fun p:Nat×List Ai×List Int=>SK (Ez h) p.2.1 p.2.2∧p.2.2.length≤p.1∧p.1≤800∧an.length≤p.2.1.length∧iE (Ez h) p.1 p.2.1 p.2.2=R) (fun p:Nat×List Ai×List Int=>[(11,.ptr 5 0),(12,.ref 4),(16,.d (.sl 3 (p.2.2.map (e1 AC))))]) (fun p:Nat×List Ai×List Int=>fun _=>[ED x,zG,ED h,.arr 4 true (nd.map (e1 CQ)),.arr 3 true (to1.map (e1 AC)),.var 28 [.d (.int .i64 h.1),.ref 6,.ref 7,.ref 8],.arr 57 true (zs.map AY),.arr 63 true (p.2.1.map At),.arr 3 true []]) (fun p:Nat×List Ai×List Int=>p.1) (l0.length,an,l0) ?_ ?_ ?_
     · exact⟨hlv,Nat.le_refl _,hl0l,Nat.le_refl _,hR⟩
     · exact⟨[0,1,2,3,4,5,6,7,8],by simp⟩
     rintro I5 S5 μ5 hI5 hS5 hμ5 ⟨n,a5,l5⟩ ⟨q1,q2,q3,q4,q5⟩;simp only at q1 q2 q3 q4 q5;have hq1:=q1.ls;have hq3:=q1.an;have hqo:=q1.ok;have hqn:=q1.ne;rw[hmF] at hq1;obtain⟨m,rfl⟩:∃ m,n=m+1:=⟨n - 1,by omega⟩;rw[iE] at q5;by_cases hlt5:l5.length≤1
     · rw[if_pos hlt5] at q5;rw[←q5] at hstp;simp only[Bool.true_eq_false,if_false] at hstp
       obtain⟨y0,hl5⟩:∃ y0,l5=[y0]:=by
        cases l5 with
        | nil=>simp at hqn
        | cons y ys=>cases ys with
          | nil=>exact⟨y,rfl⟩
          | cons _ _=>simp at hlt5
       subst hl5;have hy00:A1 [y0] 0=y0:=rfl;rw[hy00] at hstp;have hse:(to1.map (e1 AC)).set k [.int .i64 y0]=(to1.set k y0).map (e1 AC):=by rw[List.map_set];rfl
       generalize to1.set k y0=to2 at *;obtain⟨zt,hzt⟩:∃ zt,to1[k]? = some zt:=⟨_,zz0 (by omega)⟩;clear hIm hq1 hqo q1 q5 hls hcl hp1 hpl hkN hkN2 hR hlv;simp[hzt,hse,w1];exact Ae hI3 hS3 hμ3 (i+1) ⟨by omega,by rw[hB2,hstp]⟩ (by omega) ⟨[0,1,2,3,4,5,6,7,8],by simp[hB2,hstp]⟩
     · rw[if_neg hlt5] at q5;have hcs:=Vp (z:=Ez h) (an:=a5) (l:=l5) (by rw[hmF];omega) q1 hlt5;have hy0:l5[0]? = some (A1 l5 0):=B8 (lv:=l5) (k:=0) (by omega);have hy1:l5[1]? = some (A1 l5 1):=B8 (lv:=l5) (k:=1) (by omega);have hr0:=hq1 _ (zz6 hy0);have hr1:=hq1 _ (zz6 hy1);have Gf:∀ y∈l5.drop 2,y∈l5:=fun y hy=>List.mem_of_mem_drop hy;have hdl:(l5.drop 2).length=l5.length - 2:=List.length_drop;have htk:List.take l5.length (l5.map (e1 AC))=l5.map (e1 AC):=AB8 (by simp);have hdm:(l5.drop 2).map (e1 AC)=(l5.map (e1 AC)).drop 2:=List.map_drop;rw[hmF] at q5 hcs;have hokA5:Al (Ap (Ez h) a5)=true:=CS hmok (by rw[hmz];simp) hq3 hqo;have hwN5:(A0 (Ap (Ez h) a5):Int)=Aa h+a5.length:=by rw[Cq,hmF];omega
       have kD:=DI (Ap (Ez h) a5) (A1 l5 0) (A1 l5 1) hokA5 (by omega) (by omega);rw[F6 (by omega) (by omega)] at kD;have e1':Ap (Ap (Ez h) a5) (Ar (Ap (Ez h) a5).2.2.1 (A1 l5 0) (A1 l5 1))=Ap (Ez h) (Ar a5 (A1 l5 0) (A1 l5 1)):=rfl;have e2':AZ (Aa (Ap (Ez h) a5)) (Ap (Ez h) a5).2.2.1 (A1 l5 0) (A1 l5 1)=AZ (Aa (Ez h)) a5 (A1 l5 0) (A1 l5 1):=rfl;rw[e1',e2',hmF] at kD;have hokB:Al (Ap (Ez h) (Ar a5 (A1 l5 0) (A1 l5 1)))=true:=CS hmok (by rw[hmz];simp) (Bu hq3) (by rw[hmF] at hqo ⊢;exact Gp hqo hr0 hr1);have kL2:=NB (Ap (Ez h) (Ar a5 (A1 l5 0) (A1 l5 1))) (BZ hokB) hokB;have hvr:=BL (fa:=Aa h) (an:=a5) (a:=A1 l5 0) (b:=A1 l5 1) (by omega) hr0 hr1;have hal:=A3 (an:=a5) (a:=A1 l5 0) (b:=A1 l5 1);have hal3:=Bu (a:=A1 l5 0) (b:=A1 l5 1) hq3;generalize AZ (Aa h) a5 (A1 l5 0) (A1 l5 1)=v at *;generalize Ar a5 (A1 l5 0) (A1 l5 1)=a6 at *;have hwN6:(A0 (Ap (Ez h) a6):Int)=Aa h+a6.length:=by rw[Cq,hmF];omega
       have hl6:=YG (x:=Ap (Ez h) a6);rw[hwA] at kD kL2 hokA5 hokB hwN6 hl6 hcs q5;rw[hwA] at kD;generalize WW ((h.1,zs,a6,[]):AK)=lv6 at *;generalize A1 l5 0=y0 at *;generalize A1 l5 1=y1 at *;by_cases hv:v<0
       · rw[if_pos hv] at q5;rw[←q5] at hstp;simp only[if_true] at hstp;have hBG:=hbh (i+1) (by omega) (by rw[hB2,hstp]);simp[show (1:Int)<(l5.length:Int) by omega];refine Av [(12,[10]),(13,[])] (by kernel_rfl) ?_;simp[hy0,hy1];refine Ab (kD) ?_;simp[Ao,hv,zz2 hv];exact⟨[],by simp[hBG]⟩
       · rw[if_neg hv] at q5;obtain⟨c1,c2,c3⟩:=hcs hv;have kI:=Oa (l5.drop 2) lv6 v (by omega) (by omega) (fun y hy=>by have:=hq1 y (Gf y hy);omega) (by omega);rw[show ints (l5.drop 2)=.d (.sl 3 ((l5.map (e1 AC)).drop 2)) by rw[←hdm];rfl] at kI;generalize Lm lv6 v (l5.drop 2)=l6 at *;simp[show (1:Int)<(l5.length:Int) by omega];refine Av [(12,[10]),(13,[])] (by kernel_rfl) ?_;simp[hy0,hy1];refine Ab (kD) ?_;simp[Ao,hv,zz3 hv];refine AJ 7 (by kernel_rfl) ?_;simp[show 2≤l5.length by omega,htk];refine Ab (kL2) ?_;simp[Ao];refine Ab (kI) ?_;simp;exact Ae hI5 hS5 hμ5 (m,a6,l6) ⟨c1,by simp only;omega,by simp only;omega,by simp only;omega,q5⟩ (by simp) ⟨[0,1,2,3,4,5,9,10,11],by simp⟩
 obtain rfl:i=h.2.2.1.length:=by omega
 have hBG:=hbt hfl;obtain⟨⟨to,an,bb⟩,hst⟩:∃ s,Iv h h.2.2.1.length=s:=⟨_,rfl⟩;rw[hst] at hfl hIm hBG;simp only at hfl hBG;subst hfl;have hl:=hIm.len rfl;have kF:=kFin to an hIm.an hIm.pl hIm.ok (by simp only at hl;omega);rw[←hBG] at kF;rw[hst];simp only;simp;refine Ab (k2) ?_;simp[Ao,show ¬ (Aa h:Int)+(h.2.2.1.length:Int)<(A0 h:Int) by omega];refine Ac (kF) [4,7,8] [6] (by simp) ?_;simp;exact⟨[],by simp⟩
end Go.Proofs.YtnjedabjbeipeaaGreat
