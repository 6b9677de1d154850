/-
  The lists of cuts of all nodes, by the program. Abstract walks.
  Conditions: those typed in each theorem.
-/
import Derived.Test.YtnjedabjbeipeaaIr
import Derived.Test.YtnjedabjbeipeaaYl
import Derived.Test.YtnjedabjbeipeaaYh
namespace Go.Proofs.Ytnjedabjbeipeaa
open Go.RowKit Go.ChangeShapes Go.WideShapes
set_option linter.unusedSimpArgs false
set_option linter.unusedVariables false
set_option maxRecDepth 100000
set_option maxHeartbeats 10000000
def EQ (x:AB) (v k:Nat):List (List D):=((Ew x v).take k).map YA++List.replicate (v+1 - k) [.sl 26 []]
theorem dQ {x:AB} {v k:Nat} (hk:k≤v+1):(EQ x v k).length=v+1:=by
 unfold EQ;have:(Ew x v).length=v+1:=CP v;simp;omega
theorem Yk {x:AB} {v k i:Nat} {l:EF} (hk:k≤v+1) (hi:i<k) (h:(Ew x v)[i]? = some l):(EQ x v k)[i]? = some (YA l):=by
 unfold EQ;have h1:(Ew x v).length=v+1:=CP v;rw[zz4 (by simp;omega),ACF,ACi,if_pos hi,h];rfl
theorem gI {x:AB} {v k:Nat} (hk:k<v+1):(EQ x v k)[k]? = some [.sl 26 []]:=by
 unfold EQ;have h1:(Ew x v).length=v+1:=CP v;have h2:(((Ew x v).take k).map YA).length=k:=by simp;omega
 rw[zz5 (by omega),h2,Nat.sub_self,List.getElem?_replicate,if_pos (by omega)]
theorem eJ {x:AB} {v k:Nat} {l:EF} (hk:k<v+1) (h:(Ew x v)[k]? = some l):(EQ x v k).set k (YA l)=EQ x v (k+1):=by
 unfold EQ;have h1:(Ew x v).length=v+1:=CP v;have h2:(((Ew x v).take k).map YA).length=k:=by simp;omega
 rw[List.set_append_right _ _ (by omega),h2,Nat.sub_self,Bh h,ACX,show v+1 - k=(v+1 - (k+1))+1 by omega,List.replicate_succ];simp
theorem dU {x:AB} {v:Nat}:EQ x v (v+1)=(Ew x v).map YA:=by
 unfold EQ;have h1:(Ew x v).length=v+1:=CP v;rw[ACe (by omega),Nat.sub_self];simp
theorem ZE {x:AB} {v:Nat}:EQ x v 0=List.replicate (v+1) [.sl 26 []]:=by simp[EQ]
theorem iG {x:AB} {v j:Nat} (h:j+1≤v):(Ew x v)[j+1]? = some (Oc (Aa x) (B2 x) (B7 x) (Ew x j) (j+1)):=by
 have h1:(Ew x j).length=j+1:=CP j;rw[show Ew x v=GP (Aa x) (B2 x) (B7 x) v from rfl,Fh h];show (Ew x j++[_])[j+1]? = _;rw[zz5 (by omega),h1];simp
theorem Te (x:AB) (v:Nat) (hx:DQ 1048576 x) (hok:Aj x=true) (hv:v<AR x):BS Try.prog 70 [T4 x,.d (.int .i64 v)] [] (.d (.sl 52 ((Ew x v).map YA))) []:=by
 obtain⟨⟨n1,n2,n3,n4,n5,n6⟩,-,-,-⟩:=Ax hok;obtain⟨hF,hgl,hNi,hno⟩:=Bz hok;have hN:=Bn x;have hfp:0<Aa x:=by unfold Aa;omega
 have wv:IntKind.i64.wrap ((v:Int)+1)=((v+1:Nat):Int):=by rw[Af (by omega) (by omega)];omega
 refine Bl (by kernel_rfl) Try.func70 rfl rfl rfl (by simp[AZ,Later]) (by simp[Bi,Ag.live]) ?_;simp[AL,wv];refine⟨by omega,?_⟩;refine As [false,true,true,false,false,true,true] (fun k:Nat=>k≤v+1) (fun k:Nat=>[(5,.ref 1),(6,.d (.int .i64 k))]) (fun k:Nat=>fun _=>[Ag.var 28 [.d (.int .i64 x.1),.d (B3 31 A7 x.2.1),.d (B3 60 Ao x.2.2.1),.d (B3 3 (e1 Az) x.2.2.2)],.arr 52 false (EQ x v k)]) (fun k:Nat=>v+1 - k) 0 ?_ ?_ ?_
 · exact Nat.zero_le _
 · exact⟨[0,1],by simp[ZE]⟩
 rintro I S μ hI hS hμ k hk;by_cases hlt:k≤v
 case neg =>
  obtain rfl:k=v+1:=by omega
  rw[dU];simp[show ¬ (v:Int)+1≤(v:Int) by omega];exact⟨[],by simp⟩
 have hkv:(k:Int)≤(v:Int):=by omega
 have wk:IntKind.i64.wrap ((k:Int)+1)=((k+1:Nat):Int):=by rw[Af (by omega) (by omega)];omega
 have hkN:k<AR x:=by omega
 have kA:=It x k ⟨n1,n2⟩ n3 n4;have hml:=dQ (x:=x) (v:=v) (k:=k) hk;have hnow:=gI (x:=x) (v:=v) (k:=k) (by omega);have hset:∀ l,(Ew x v)[k]? = some l→(EQ x v k).set k (YA l)=EQ x v (k+1):=fun l h=>eJ (by omega) h;obtain⟨c0,hnow2,hnl,hnt⟩:∃ c0,(EQ x v k)[k]? = some c0∧c0.length=1∧c0.tail=[]:=⟨_,hnow,rfl,rfl⟩;have hnow3:∀ h:k<(EQ x v k).length,(EQ x v k)[k]'h=c0:=fun h=>ACW ((zz0 h).symm.trans hnow2);have hml2:k<(EQ x v k).length:=by omega
 have hnow4:=hnow3 hml2;obtain⟨d0,rfl⟩:=List.length_eq_one_iff.1 hnl;by_cases hk0:k=0
 · subst hk0;have h0:(Ew x v)[0]? = some [[]]:=by rw[show Ew x v=GP (Aa x) (B2 x) (B7 x) v from rfl,Fh (Nat.zero_le v)];rfl
   have hs0:=hset _ h0;have hs0':(EQ x v 0).set 0 [.sl 26 [[.sl 3 []]]]=EQ x v 1:=hs0;have h00:¬ v+1=0:=by omega
   generalize EQ x v 0=M at *;simp[hkv,hnow2,hnow4,hs0',wk,show IntKind.i64.wrap 1=1 from rfl];exact Ae hI hS hμ 1 (by omega) (by omega) ⟨[0,1],by simp⟩
 obtain⟨j,hj⟩:∃ j,k=j+1:=⟨k - 1,by omega⟩;have hent:(Ew x v)[k]? = some (Oc (Aa x) (B2 x) (B7 x) (Ew x j) k):=by rw[hj];exact iG (by omega)
 have hs1:=hset _ hent;have hkb:((k:Int)==0)=false:=by simp;omega
 by_cases hkF:k<Aa x
 · have he:Oc (Aa x) (B2 x) (B7 x) (Ew x j) k=[[(k:Int)]]:=by unfold Oc;rw[if_neg (by omega)];rfl
   rw[he] at hs1;have hs1':(EQ x v k).set k [.sl 26 [[.sl 3 [[.int .i64 (k:Int)]]]]]=EQ x v (k+1):=hs1;rw[zz3 (show ¬ Aa x≤k by omega),Bool.false_and] at kA;obtain⟨M2,hM2⟩:∃ M2,EQ x v (k+1)=M2:=⟨_,rfl⟩;rw[hM2] at hs1';generalize EQ x v k=M at *;simp[hkv,hkb,hk0];refine Ab (kA) ?_;simp[hnow2,hnow4,hs1',wk];exact Ae hI hS hμ (k+1) (by omega) (by omega) ⟨[0,1],by simp[hM2]⟩
 · obtain⟨ha,a1,a2,a3,a4,a5,a6⟩:=Cy hok (v:=k) (by omega) hkN;rw[zz2 (show Aa x≤k by omega),zz2 hkN,Bool.true_and] at kA;obtain⟨ii,hii⟩:∃ i,k - Aa x=i:=⟨_,rfl⟩;rw[hii] at ha;have hdi:decide (ii<x.2.2.1.length)=true:=zz2 (by omega);have hL2:(Ao (Al x k)).length=2:=rfl;have wf:IntKind.i64.wrap ((k:Int) - (1+x.1+(x.2.1.length:Int)))=(ii:Int):=by rw[Af (by omega) (by omega)];omega
   have q1:IntKind.i64.wrap ((Al x k).1.tdiv 2)=(B2 x k:Int):=by rw[Int.tdiv_eq_ediv_of_nonneg a1,a3];exact Af (by omega) (by omega)
   have q2:IntKind.i64.wrap ((Al x k).2.tdiv 2)=(B7 x k:Int):=by rw[Int.tdiv_eq_ediv_of_nonneg a2,a4];exact Af (by omega) (by omega)
   obtain⟨lA,hlA⟩:=Tv (x:=x) (k:=j) (i:=B2 x k) (by omega);obtain⟨lB,hlB⟩:=Tv (x:=x) (k:=j) (i:=B7 x k) (by omega);have rA:=Qy (EM hok) j (by omega) _ _ hlA;have rB:=Qy (EM hok) j (by omega) _ _ hlB
   have he:Oc (Aa x) (B2 x) (B7 x) (Ew x j) k=Kc lA lB++[[(k:Int)]]:=by
    unfold Oc;rw[if_pos (by omega),hlA,hlB];rfl
   have hvA:(Ew x v)[B2 x k]? = some lA:=(Fh (show B2 x k≤v by omega)).trans ((Fh (show B2 x k≤j by omega)).symm.trans hlA);have hvB:(Ew x v)[B7 x k]? = some lB:=(Fh (show B7 x k≤v by omega)).trans ((Fh (show B7 x k≤j by omega)).symm.trans hlB);have mA:=Yk (k:=k) (by omega) (show B2 x k<k by omega) hvA;have mB:=Yk (k:=k) (by omega) (show B7 x k<k by omega) hvB;have dA:decide (B2 x k<(EQ x v k).length)=true:=zz2 (by omega);have dB:decide (B7 x k<(EQ x v k).length)=true:=zz2 (by omega);rw[he] at hs1;have kj:=Oe lA lB j rA.1 rB.1 (fun c hc=>(rA.2 c hc).mono (by omega)) (fun c hc=>(rB.2 c hc).mono (by omega));have hJ:Kc lA lB=((Iu lA lB).filter (FK (Iu lA lB))).take 7:=rfl;rw[hJ] at hs1;have hLA:(YA lA).length=1:=rfl;have hLB:(YA lB).length=1:=rfl;generalize (Iu lA lB).filter (FK (Iu lA lB))=C at *
   have hs1':(EQ x v k).set k [.sl 26 ((C.take 7).map Aq++[[.sl 3 [[.int .i64 (k:Int)]]]])]=EQ x v (k+1):=by
    rw[←hs1];simp[YA,Aq,e1,B3,Az]
   obtain⟨M2,hM2⟩:∃ M2,EQ x v (k+1)=M2:=⟨_,rfl⟩;rw[hM2] at hs1';clear hs1 hset;generalize EQ x v k=M at *;generalize B2 x k=ka at *;generalize B7 x k=kb at *;generalize Al x k=an at *;simp[hkv,hkb,hk0];refine Ab (kA) ?_;simp;refine AJ 9 (by kernel_rfl) ?_;simp[AL];refine Ab (AW x ⟨n1,n2⟩ n3) ?_;simp[wf,ha,hdi,hL2,Ao,AL];refine AJ 12 (by kernel_rfl) ?_;simp[q1,q2,mA,mB,hLA,hLB,YA,e1,B3];by_cases h7:7<C.length
   · have h7':(7:Int)<(C.length:Int):=by omega
     have h7c:((7:Int)).toNat≤C.length:=by omega
     have hCt:(C.map Aq).take 7=(C.take 7).map Aq:=List.map_take.symm;have hC7:(C.take 7).length=7:=by rw[ACL];omega
     have hrl:∀ r,r∈C→(Aq r).length=1:=fun _ _=>rfl;have h7l:7≤C.length:=by omega
     refine Ac (kj) [] [] (by simp) ?_;simp[h7,zz2 h7'];rw[if_pos ⟨h7l,hrl⟩,hCt];generalize C.take 7=C7 at *;simp;refine C6 (by exact rfl) AK (by exact rfl) (by simp) (by simp[Aq,e1]) (by first | (simp;done)|(simp;omega)) ?_;simp[Aq,e1,B3];refine C6 (by exact rfl) AK (by exact rfl) (by simp) (by simp[Aq,e1]) (by first | (simp;done)|(simp;omega)) ?_;simp[Aq,e1,B3,hnow2,hnow4,hs1',wk];exact Ae hI hS hμ (k+1) (by omega) (by omega) ⟨[0,1],by simp[hM2]⟩
   · have h7':¬ (7:Int)<(C.length:Int):=by omega
     have hCt:C.take 7=C:=ACe (by omega);rw[hCt] at hs1';have hC7:C.length≤7:=by omega
     refine Ac (kj) [] [] (by simp) ?_;simp[h7',zz3 h7'];refine C6 (by exact rfl) AK (by exact rfl) (by simp) (by simp[Aq,e1]) (by first | (simp;done)|(simp;omega)) ?_;simp[Aq,e1,B3];refine C6 (by exact rfl) AK (by exact rfl) (by simp) (by simp[Aq,e1]) (by first | (simp;done)|(simp;omega)) ?_;simp[Aq,e1,B3,hnow2,hnow4,hs1',wk];exact Ae hI hS hμ (k+1) (by omega) (by omega) ⟨[0,1],by simp[hM2]⟩
noncomputable def mQ (h:AB) (i:Nat):List (List Int)→AB
 | []=>h
 | c::cs=>if (Wq h i c).2=true∧(Wq h i c).1.2.2.1.length<h.2.2.1.length then (Wq h i c).1 else mQ h i cs
theorem eZ {h:AB} (hok:Aj h=true) {i:Nat} {c:List Int} (ht:(Wq h i c).2=true):Aj (Wq h i c).1=true:=by
 unfold Wq at ht ⊢;split
 · rename_i hf;rw[if_pos hf] at ht
   cases ht
 · exact SZ (Wu hok)
theorem SL {h:AB} (hok:Aj h=true) {i:Nat}:∀ cs,Aj (mQ h i cs)=true∧(mQ h i cs).2.2.1.length≤h.2.2.1.length
 | []=>⟨hok,Nat.le_refl _⟩
 | c::cs=>by
   unfold mQ;split
   · rename_i hc;exact⟨eZ hok hc.1,by omega⟩
   · exact SL hok cs
noncomputable def Zy:Nat→Nat→AB→AB
 | 0,i,h=>h
 | n+1,i,h=>if i<h.2.2.1.length then Zy n (i+1) (mQ h i ((Dz h (Aa h+i)).take ((Dz h (Aa h+i)).length - 1))) else h
theorem eY:∀ (n i:Nat) (h:AB),Aj h=true→Aj (Zy n i h)=true∧(Zy n i h).2.2.1.length≤h.2.2.1.length
 | 0,i,h,hok=>⟨hok,Nat.le_refl _⟩
 | n+1,i,h,hok=>by
   unfold Zy;split
   · obtain⟨a,b⟩:=SL hok (i:=i) ((Dz h (Aa h+i)).take ((Dz h (Aa h+i)).length - 1));obtain⟨c,d⟩:=eY n (i+1) _ a;exact⟨c,by omega⟩
   · exact⟨hok,Nat.le_refl _⟩
noncomputable def QL (x:AB):AB:=Zy 15 0 (Eg x)
theorem VE (x:AB) (hok0:Aj x=true) (h14x:x.2.2.1.length≤14):BS Try.prog 25 [T4 x] [] (qY (QL x)) []:=by
 have hx0:=Bj hok0;have kO:=FU x hx0;rw[hok0] at kO;have kH:=JC x hok0 (by omega);have hok:=IE hok0;have h14:(Eg x).2.2.1.length≤14:=by have:=IC hok0 (by omega);omega
 have hRG:QL x=Zy 15 0 (Eg x):=rfl;generalize QL x=RG at *;generalize Eg x=h0 at *;refine Bl (by kernel_rfl) Try.func25 rfl rfl rfl (by simp[AZ,Later]) (by simp[Bi,Ag.live]) ?_;simp[AL];refine Ab (kO) ?_;simp[AL];refine Ac (kH) [] [] (by simp) ?_;simp[show ¬ (40:Int)<(h0.2.2.1.length:Int) by omega,show (h0.2.2.1.length:Int)≤40 by omega];refine As [false,false,true,true,true] (fun p:Nat×Nat×AB=>p.1+p.2.1=15∧Aj p.2.2=true∧p.2.2.2.2.1.length≤14∧RG=Zy p.1 p.2.1 p.2.2) (fun p:Nat×Nat×AB=>[(3,.ptr 2 0),(4,.d (.int .i64 p.2.1))]) (fun p:Nat×Nat×AB=>fun _=>[gZ x,uQ,gZ p.2.2]) (fun p:Nat×Nat×AB=>p.1) (15,0,h0) ?_ ?_ ?_
 · exact⟨rfl,hok,by simp only;omega,hRG⟩
 · exact⟨[0,1,2],by simp⟩
 clear hRG hok h14 kH kO hx0;rintro I S μ hI hS hμ ⟨n,i,h⟩ ⟨q1,q2,q3,q4⟩;simp only at q1 q2 q3 q4;by_cases hlt:i<h.2.2.1.length
 · obtain⟨m,rfl⟩:∃ m,n=m+1:=⟨n - 1,by omega⟩;rw[Zy,if_pos hlt] at q4;have hx:=Bj q2;obtain⟨⟨n1,n2,n3,n4,n5,n6⟩,-,-,-⟩:=Ax q2;obtain⟨hF,hgl,hNi,hno⟩:=Bz q2;have hN:=Bn h;obtain⟨en1,en2,en3'⟩:=RH q2 (i:=i) (by omega);have hgood:=(Hm q2 (Aa h+i) (by omega)).1;have kE:=Te h (Aa h+i) hx q2 (by omega);have hbel:=fun q c hq hm=>PT q2 (i:=i) (by omega) (q:=q) (c:=c) hq hm;have kF:=AW h ⟨n1,n2⟩ n3;rw[←hF] at kF;have kRA:=fun c h4 hin=>Xx h i c q2 hlt h4 hin;have hrb:=fun cs=>SL q2 (i:=i) cs;obtain⟨v,hv⟩:∃ v,Aa h+i=v:=⟨_,rfl⟩;have w0:IntKind.i64.wrap ((Aa h:Int)+(i:Int))=(v:Int):=by rw[Af (by omega) (by omega)];omega
   rw[hv] at kE en1 en2 en3' hgood hbel q4;rw[hv] at kRA;have w1:IntKind.i64.wrap ((i:Int)+1)=(i:Int)+1:=Af (by omega) (by omega)
   have hGa:(Ew h v)[v]? = some (Dz h v):=by
    obtain⟨l,hl⟩:=Tv (x:=h) (k:=v) (i:=v) (Nat.le_refl _);rw[hl];unfold Dz;rw[hl];rfl
   have hGl:(Ew h v).length=v+1:=CP v;generalize Ew h v=GA at *;generalize hcs:Dz h v=cs at *;obtain⟨L1,hL1⟩:∃ L1,cs.length - 1=L1:=⟨_,rfl⟩;have w2:IntKind.i64.wrap ((cs.length:Int) - 1)=(L1:Int):=by rw[Af (by omega) (by omega)];omega
   rw[hL1] at q4;have hen:(YA cs).length=1:=rfl;have hrow:∀ c:BB,(Aq c).length=1:=fun c=>rfl;have hT:(cs.map Aq).take L1=(cs.take L1).map Aq:=List.map_take.symm;have htl:(cs.take L1).length=L1:=by rw[ACL];omega
   have hat:∀ k c,(cs.take L1)[k]? = some c→k<L1∧cs[k]? = some c:=fun k c hc=>by
    have hk:=(zz1.1 hc).1;rw[htl] at hk;rw[ACi,if_pos hk] at hc;exact⟨hk,hc⟩
   generalize cs.take L1=ts at *;simp[zz2 hlt,AL];refine Ab (kF) ?_;simp[w0];refine Ac (kE) [] [] (by simp) ?_;simp[hGa,hen,YA,e1,Y3,w2,show L1≤cs.length by omega,hrow,hT];refine As [false,false,true,true,true,true,false,false,false,false,false,false,false,false,false,false,false,false,false,false,false,false,false,false,false,false,false,false,false,false,false,false,false,false,false,false,false,false,false,false,false,false,false,true,true,true] (fun k:Nat=>k≤L1∧RG=Zy m (i+1) (mQ h i (ts.drop k))) (fun k:Nat=>[(45,.d (.int .i64 k))]) (fun k:Nat=>fun sl=>sl) (fun k:Nat=>L1 - k) 0 ?_ ?_ ?_
   · exact⟨Nat.zero_le _,q4⟩
   · exact⟨[0,1,2],by simp⟩
   rintro I2 S2 μ2 hI2 hS2 hμ2 k ⟨hk,hkR⟩;by_cases hlt2:k<ts.length
   · obtain⟨c,hc⟩:∃ c,ts[k]? = some c:=⟨_,zz0 hlt2⟩;have hc2:∀ h:k<ts.length,ts[k]'h=c:=fun h=>(zz1.1 hc).2;obtain⟨hk1,hc1⟩:=hat k c hc;have hmap:=en3' k c hc1 (by omega);have hin:=hbel k c hc1 hmap;have kR:=kRA c (hgood c (zz6 hc1)).len hin
     have Ga:ts.drop k=c::ts.drop (k+1):=by
      rw[List.drop_eq_getElem_cons hlt2]
      congr 1
      exact (zz1.1 hc).2
     rw[Ga,mQ] at hkR;have w3:IntKind.i64.wrap ((k:Int)+1)=(k:Int)+1:=Af (by omega) (by omega);have hmok:=fun e=>eZ q2 (i:=i) (c:=c) e;generalize Wq h i c=G at *;obtain⟨g,ob⟩:=G;simp only at hkR kR hmok;have hd2:decide (k<ts.length)=true:=zz2 hlt2
     cases ob with
     | false =>
       rw[if_neg (by simp)] at hkR;simp[hd2,htl,hk1,hc,hc2,hrow,Aq];refine Ac (kR) [] [] (by simp) ?_;simp[w3];exact Ae hI2 hS2 hμ2 (k+1) ⟨by omega,hkR⟩ (by omega) ⟨[0,1,2],by simp[htl]⟩
     | true =>
       by_cases hsm:g.2.2.1.length<h.2.2.1.length
       · rw[if_pos ⟨rfl,hsm⟩] at hkR;simp[hd2,htl,hk1,hc,hc2,hrow,Aq];refine Ac (kR) [] [] (by simp) ?_;simp[show (g.2.2.1.length:Int)<(h.2.2.1.length:Int) by omega,hsm,w1];exact Ae hI hS hμ (m,i+1,g) ⟨by simp only;omega,hmok rfl,by simp only;omega,hkR⟩ (by simp only;omega) ⟨[0,1,2],by simp⟩
       · rw[if_neg (fun e=>hsm e.2)] at hkR;simp[hd2,htl,hk1,hc,hc2,hrow,Aq];refine Ac (kR) [] [] (by simp) ?_;simp[hsm,show ¬ (g.2.2.1.length:Int)<(h.2.2.1.length:Int) by omega,show h.2.2.1.length≤g.2.2.1.length by omega,w3];exact Ae hI2 hS2 hμ2 (k+1) ⟨by omega,hkR⟩ (by omega) ⟨[0,1,2],by simp[htl]⟩
   have hd3:decide (k<ts.length)=false:=zz3 hlt2;rw[List.drop_of_length_le (by omega)] at hkR;simp[hd3,hlt2,w1];exact Ae hI hS hμ (m,i+1,h) ⟨by simp only;omega,q2,q3,hkR⟩ (by simp only;omega) ⟨[0,1,2],by simp⟩
 have hRh:RG=h:=by
  rw[q4]
  cases n with
  | zero=>rfl
  | succ n=>rw[Zy,if_neg hlt]
 rw[hRh];simp[hlt,zz3 hlt];exact⟨[],by simp⟩
end Go.Proofs.Ytnjedabjbeipeaa
