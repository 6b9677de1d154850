/-
  Sweeping and hashing of nets by the reference, by abstract walks.
  Conditions: those typed in each theorem.
-/
import Derived.Test.YtnjedabjbeipeaaGreatPq
namespace Go.Proofs.YtnjedabjbeipeaaGreat
open Go.RowKit Go.ChangeShapes Go.WideShapes
set_option linter.unusedSimpArgs false
set_option linter.unusedVariables false
set_option maxRecDepth 100000
set_option maxHeartbeats 10000000
def IB (to:List Int) (sq:List Cx) (i:Nat):List Cx:=(sq.take i).map (Dx to)++(sq.drop i).map CI
theorem Wv {to:List Int} {sq:List Cx} {i:Nat}:(IB to sq i).length=sq.length:=by unfold IB;simp;omega
theorem Tf {to:List Int} {sq:List Cx}:IB to sq 0=sq.map CI:=by simp[IB]
theorem WY {to:List Int} {sq:List Cx}:IB to sq sq.length=sq.map (Dx to):=by simp[IB]
theorem ZE {to:List Int} {sq:List Cx} {s:Cx} {i:Nat} (h:sq[i]? = some s):(IB to sq i)[i]? = some (CI s):=by
 have hi:=(BZ.1 h).1;unfold IB;rw[ET (by simp;omega)];simp only[Fy,Gf];rw[show i - min i sq.length=0 by omega,Di,CL,Nat.add_zero,h];rfl
theorem U4 {to:List Int} {sq:List Cx} {s:Cx} {i:Nat} (h:sq[i]? = some s):(IB to sq i).set i (Dx to s)=IB to sq (i+1):=by
 obtain⟨hi,e⟩:=BZ.1 h;unfold IB;rw[List.set_append_right _ _ (by simp;omega),Bb h,Gh,FA]
 congr 1
 rw[Fy,Gf,show i - min i sq.length=0 by omega,List.drop_eq_getElem_cons hi,e];rfl
theorem iE {x:AK} {y:Int} (h:y∈x.2.2.2):y∈Ay x:=List.mem_append_left _ h
theorem jH {x:AK} {s:Cx} {y:Int} (hs:s∈x.2.1) (h:y∈s.2.2):y∈Ay x:=List.mem_append_right _ (List.mem_flatten.2 ⟨s.2.2,CE.2 ⟨s,hs,rfl⟩,h⟩)
theorem UE (x:AK) (hx:CF 1048576 x) (hg:Kz x) (hok:Al x=true):BA Tryz.prog 107 [GD x] (ZL (D5 x)):=by
 have kO:=Cr x hx hg;rw[hok] at kO;obtain⟨⟨n1,n2,n3,n4,n5,n6⟩,-,-,-⟩:=AA hok;obtain⟨hF,hgl,hNi,hno⟩:=A9 hok;have kN:=Bw x;rw[hno] at kN;have hrl:=QO hok;have hri:=Nd hok;have kR:=JC x hx n3;have hlr:∀ k,(KY (List.replicate (A0 x) false) (Ay x) k).length=A0 x:=fun k=>by rw[UL];simp
 have hM:D5 x=IF x (KY (List.replicate (A0 x) false) (Ay x) (Ay x).length):=rfl;have kS:=Sd x (KY (List.replicate (A0 x) false) (Ay x) (Ay x).length) hx hok (hlr _);rw[←hM] at kS;generalize D5 x=RM at *;generalize Ay x=rs at *;have hr0:(KY (List.replicate (A0 x) false) rs 0).map (e1 CZ)=List.replicate (A0 x) [D.bool false]:=by rw[N4];rfl
 generalize List.replicate (A0 x) false=s0 at *;refine B7 (by kernel_rfl) Tryz.func107 rfl rfl rfl ?_;simp[Ao];refine Ab (kO) ?_;simp;refine Ab (kN) ?_;simp[show (A0 x:Int)≤1099511627776 by omega];refine Ab (kR) ?_;simp;refine AB [false,true,false,true,true,true] (fun k:Nat=>k≤rs.length) (fun k:Nat=>[(5,.d (.int .i64 k))]) (fun k:Nat=>[(1,.arr 4 true ((KY s0 rs k).map (e1 CZ)))]) (fun k:Nat=>rs.length - k) 0 ?_ ?_ ?_
 · simp
 · exact⟨[0,1,2],by simp[hr0]⟩
 rintro I S μ hI hS hμ k hk;have hlk:=hlr k;by_cases hlt:k<rs.length
 · have hx1:rs[k]? = some rs[k]:=A1 hlt;have w2:IntKind.i64.wrap ((k:Int)+1)=(k:Int)+1:=Ad (by omega) (by omega);have hd:decide (k<rs.length)=true:=A8 hlt;have hyr:=hri _ (Dv hlt);have hnx:KY s0 rs (k+1)=(KY s0 rs k).set (rs[k] / 2).toNat true:=by simp[KY,MB hx1]
   generalize rs[k]=y at *;generalize KY s0 rs k=s at *;obtain⟨q,hq⟩:∃ q:Nat,(q:Int)=y / 2:=⟨(y / 2).toNat,by omega⟩;rw[←hq,Int.toNat_natCast] at hnx;have q1:IntKind.i64.wrap (y.tdiv 2)=(q:Int):=by rw[Int.tdiv_eq_ediv_of_nonneg hyr.1,←hq];exact Ad (by omega) (by omega)
   have hat:=DG (s:=s) (v:=q) (by omega);have hset:=Hg (s:=s) (v:=q) (b:=true);generalize s.set q true=sq at *;simp[hd,hx1,q1,hat,hset,w2];exact Ae hI hS hμ (k+1) (by omega) (by omega) ⟨[0,1,2],by simp[hnx]⟩
 obtain rfl:k=rs.length:=by omega
 simp[hlt,BH hlt];refine Ab (kS) ?_;simp
theorem X6 (y:AK) (hx:CF 1048576 y) (hg:Kz y) (hok:Al y=true):BA Tryz.prog 96 [GD y] (GD (IE y)):=by
 have kO:=Cr y hx hg;rw[hok] at kO;obtain⟨⟨n1,n2,n3,n4,n5,n6⟩,-,-,-⟩:=AA hok;obtain⟨hF,hgl,hNi,hno⟩:=A9 hok;have hN:=Br y;have kR:=UE y hx hg hok;have kE:=Hx y hx ⟨n1,n2⟩ n3;have kF:=BJ y ⟨n1,n2⟩ n3;rw[←hF] at kF;have hri:=Nd hok;have hkl:(D5 y).length=A0 y:=by unfold D5;rw[YL,UL];simp
 have hsw:=fun i hi=>XM (keep:=D5 y) hok i hi;have hS:IE y=(y.1,y.2.1.map (Dx (I8 y (D5 y) y.2.2.1.length).2),(I8 y (D5 y) y.2.2.1.length).1,y.2.2.2.map (Aq (I8 y (D5 y) y.2.2.1.length).2)):=rfl;rw[hS];have hs0:I8 y (D5 y) 0=([],BD (Aa y)):=rfl;have hsx:=fun i=>(show I8 y (D5 y) (i+1)=if AX (D5 y) (Aa y+i)=true then ((I8 y (D5 y) i).1++[(Aq (I8 y (D5 y) i).2 (Aj y (Aa y+i)).1,Aq (I8 y (D5 y) i).2 (Aj y (Aa y+i)).2)],(I8 y (D5 y) i).2++[2*((Aa y:Int)+(I8 y (D5 y) i).1.length)]) else ((I8 y (D5 y) i).1,(I8 y (D5 y) i).2++[0]) from rfl);generalize D5 y=keep at *;refine B7 (by kernel_rfl) Tryz.func96 rfl rfl rfl ?_;simp[Ao];refine Ab (kO) ?_;simp;refine Ab (kR) ?_;simp;refine Ab (kE) ?_;simp[Ao];refine Ab (kF) ?_;simp;refine AJ [false,true,true,true,true,true,true,true] (fun i:Nat=>i≤y.2.2.1.length) (fun i:Nat=>[(4,.ptr 7 0),(5,.ref 6),(6,.d (.int .i64 ((Aa y:Int)+(I8 y keep i).1.length))),(7,.d (.int .i64 i))]) (fun i:Nat=>fun sl=>[E2 y,zG,.arr 4 true (keep.map (e1 CZ)),.arr 57 true ((y.2.1.map CI).map AY),.arr 63 true ((I8 y keep i).1.map At),.arr 3 true [],.arr 3 true ((I8 y keep i).2.map (e1 AC)),.var 28 [.d (.int .i64 y.1),.ref 3,.ref 4,.ref 5]]) (fun i:Nat=>y.2.2.1.length - i) 0 ?_ ?_ ?_
 · simp
 · exact⟨[0,1,2,3,4,5,6,7],by simp[zG,E2,hs0]⟩
 rintro I S μ hI hS hμ i hi;obtain⟨g1,g2,g3,g4⟩:=hsw i hi;by_cases hlt:i<y.2.2.1.length
 · skip
   --[dev
   obtain⟨hA,a1,a2,a3,a4,a5,a6⟩:=C3 hok (v:=Aa y+i) (by omega) (by omega);rw[Nat.add_sub_cancel_left] at hA;have hd:=A8 hlt;have hat:=DG (s:=keep) (v:=Aa y+i) (by omega);have w1:IntKind.i64.wrap ((i:Int)+1)=(i:Int)+1:=Ad (by omega) (by omega);have w3:IntKind.i64.wrap ((Aa y:Int)+i)=((Aa y+i:Nat):Int):=by rw[Ad (by omega) (by omega)];omega
   have hx2:=hsx i
   have kM:=Fb (I8 y keep i).2 [(Aj y (Aa y+i)).1,(Aj y (Aa y+i)).2] (by omega) (by simp) (fun l hl'=>by
    simp only[List.mem_cons,List.not_mem_nil,or_false] at hl'
    rcases hl' with rfl|rfl<;>omega)
   simp only[List.map_cons,List.map_nil] at kM;generalize I8 y keep i=s at *;obtain⟨an,to⟩:=s;simp only at g1 g2 g3 g4 hx2 kM;generalize Aj y (Aa y+i)=A at *;have hL:(At A).length=2:=rfl;generalize Aq to A.1=x1 at *;generalize Aq to A.2=x2 at *;have w4:IntKind.i64.wrap (2*((Aa y:Int)+an.length))=2*((Aa y:Int)+an.length):=Ad (by omega) (by omega);have w5:IntKind.i64.wrap ((Aa y:Int)+an.length+1)=(Aa y:Int)+an.length+1:=Ad (by omega) (by omega);generalize hv:Aa y+i=v at *
   cases hb:AX keep v with
   | false =>
     rw[hb] at hat;rw[hb,if_neg (by simp)] at hx2;simp[hd];refine Ab (kF) ?_;simp[w3,hat];refine Ak As rfl (by simp) rfl (by simp) (by simp) (by first | (simp;done)|(simp;omega)) (by simp[AR,AL]) ?_;simp[w1];exact Ae hI hS hμ (i+1) (by omega) (by omega) ⟨[0,1,2,3,4,5,9,7],by simp[hx2,zG,E2,e1,AC]⟩
   | true =>
     rw[hb] at hat;rw[hb,if_pos rfl] at hx2;simp[hd];refine Ab (kF) ?_;simp[w3,hat];refine AH 16 (by kernel_rfl) ?_;simp[hA,hL,At];refine Ab (kM) ?_;simp;refine AH 10 (by kernel_rfl) ?_;simp;refine Ak En rfl (by simp) rfl (by simp) (by simp) (by first | (simp;done)|(simp;omega)) (by simp[AR,AL]) ?_;simp[w4];refine Ak As rfl (by simp) rfl (by simp) (by simp) (by first | (simp;done)|(simp;omega)) (by simp[AR,AL]) ?_;simp[w5,w1];exact Ae hI hS hμ (i+1) (by omega) (by omega) ⟨[0,1,2,3,11,5,13,7],by simp[hx2,zG,E2,At,e1,e2,AC];omega⟩
   --]dev
 obtain rfl:i=y.2.2.1.length:=by omega
 clear hI hS hμ;have hR:I8 y keep y.2.2.1.length=((I8 y keep y.2.2.1.length).1,(I8 y keep y.2.2.1.length).2):=rfl;generalize (I8 y keep y.2.2.1.length).1=an at *;generalize (I8 y keep y.2.2.1.length).2=to at *;simp[hlt,BH hlt];refine AJ [false,true,true,false,true,true,false,false,false,true] (fun q:Nat=>q≤y.2.1.length) (fun q:Nat=>[(9,.d (.int .i64 q))]) (fun q:Nat=>fun sl=>[E2 y,zG,.arr 4 true (keep.map (e1 CZ)),.arr 57 true ((IB to y.2.1 q).map AY),.arr 63 true (an.map At),.arr 3 true [],.arr 3 true (to.map (e1 AC)),.var 28 [.d (.int .i64 y.1),.ref 3,.ref 4,.ref 5]]) (fun q:Nat=>y.2.1.length - q) 0 ?_ ?_ ?_
 · simp
 · exact⟨[0,1,2,3,4,5,6,7],by simp[zG,E2,Tf]⟩
 rintro I S μ hI hS hμ q hq;have hml:=Wv (to:=to) (sq:=y.2.1) (i:=q);by_cases hlt2:q<y.2.1.length
 · skip
   --[dev
   obtain⟨s,hx1⟩:∃ s,y.2.1[q]? = some s:=⟨_,A1 hlt2⟩;have hat:=ZE (to:=to) hx1;have hset:=U4 (to:=to) hx1;have hsm:=D4 hx1;have hf:=hx.2.1 _ hsm;have kM:=Fb to s.2.2 (by omega) hf (fun l hl=>by have:=hri l (jH hsm hl);omega);have hL:(AY s).length=3:=rfl;have hL2:(AY (CI s)).length=3:=rfl;have w1:IntKind.i64.wrap ((q:Int)+1)=(q:Int)+1:=Ad (by omega) (by omega);have hd:decide (q<y.2.1.length)=true:=A8 hlt2
   have hse:((IB to y.2.1 q).map AY).set q [D.int .i64 s.1,D.int .i64 s.2.1,D.sl 3 ((s.2.2.map (Aq to)).map (e1 AC))]=(IB to y.2.1 (q+1)).map AY:=by
    rw[←hset,List.map_set];simp[AY,e3,AC,Dr,Dx]
   generalize hz2:IB to y.2.1 (q+1)=z2 at *;generalize IB to y.2.1 q=z1 at *;clear hset;generalize s.2.2.map (Aq to)=ml at *;simp[hml,hd];refine AH 13 (by kernel_rfl) ?_;simp[hx1,hL,AY];refine Ab (kM) ?_;simp[hat,hL2,AY,CI,hse,w1];exact Ae hI hS hμ (q+1) (by omega) (by omega) ⟨[0,1,2,3,4,5,6,7],by simp[hz2]⟩
   --]dev
 obtain rfl:q=y.2.1.length:=by omega
 rw[WY];have kM:=Fb to y.2.2.2 (by omega) (by omega) (fun l hl=>by have:=hri l (iE hl);omega);simp[hml,hlt2,BH hlt2];refine Ab (kM) ?_;simp[Ao]
theorem HY (n:AK) (to:List Int) (an:List Ai) (hx:CF 1048576 n) (hok:Al n=true) (h3:an.length≤300) (hp:JY (Aa n+an.length) to) (ha:BU (Aa n) 0 an=true) (ht:to.length=A0 n) :
 CM Tryz.prog 76 [.agg [.d (.int .i64 n.1),.ref 0,.d (Dr 63 At an),.d (.sl 3 [])],TC n,.d (Dr 3 (e1 AC) to)] [.arr 57 true ((n.2.1.map CI).map AY)]
  (TC (IE (n.1,n.2.1.map (Dx to),an,n.2.2.2.map (Aq to)))) [.dead]:=by
 have hz:=KN hok h3 hp ha;have kS:=X6 ((n.1,n.2.1.map (Dx to),an,n.2.2.2.map (Aq to)):AK) (B3 hz) (CT hz) hz;generalize IE ((n.1,n.2.1.map (Dx to),an,n.2.2.2.map (Aq to)):AK)=SG at *;obtain⟨⟨n1,n2,n3,n4,n5,n6⟩,-,-,-⟩:=AA hok;obtain⟨hF,hgl,hNi,hno⟩:=A9 hok;have hri:=Nd hok;refine BE (by kernel_rfl) Tryz.func76 rfl rfl rfl (by simp[Bl,Later]) (by simp[BP,Ah.live]) ?_;simp;refine AJ [false,false,true,true,true,false,true,true] (fun q:Nat=>q≤n.2.1.length) (fun q:Nat=>[(7,.d (.int .i64 q))]) (fun q:Nat=>fun sl=>[.arr 57 true ((IB to n.2.1 q).map AY),.var 28 [.d (.int .i64 n.1),.ref 0,.d (Dr 63 At an),.d (.sl 3 [])],E2 n,zG]) (fun q:Nat=>n.2.1.length - q) 0 ?_ ?_ ?_
 · simp
 · exact⟨[0,1,2,3],by simp[zG,E2,Tf]⟩
 rintro I S μ hI hS hμ q hq;have hml:=Wv (to:=to) (sq:=n.2.1) (i:=q);by_cases hlt2:q<n.2.1.length
 · obtain⟨s,hx1⟩:∃ s,n.2.1[q]? = some s:=⟨_,A1 hlt2⟩;have hat:=ZE (to:=to) hx1;have hset:=U4 (to:=to) hx1;have hsm:=D4 hx1;have hf:=hx.2.1 _ hsm;have kM:=Fb to s.2.2 (by omega) hf (fun l hl=>by have:=hri l (jH hsm hl);omega);have hL:(AY s).length=3:=rfl;have hL2:(AY (CI s)).length=3:=rfl;have w1:IntKind.i64.wrap ((q:Int)+1)=(q:Int)+1:=Ad (by omega) (by omega);have hd:decide (q<n.2.1.length)=true:=A8 hlt2
   have hse:((IB to n.2.1 q).map AY).set q [D.int .i64 s.1,D.int .i64 s.2.1,D.sl 3 ((s.2.2.map (Aq to)).map (e1 AC))]=(IB to n.2.1 (q+1)).map AY:=by
    rw[←hset,List.map_set];simp[AY,e3,AC,Dr,Dx]
   generalize hz2:IB to n.2.1 (q+1)=z2 at *;generalize IB to n.2.1 q=z1 at *;clear hset;generalize s.2.2.map (Aq to)=ml at *;simp[hml,hd];refine AH 13 (by kernel_rfl) ?_;simp[hx1,hL,AY];refine Ab (kM) ?_;simp[hat,hL2,AY,CI,hse,w1];exact Ae hI hS hμ (q+1) (by omega) (by omega) ⟨[0,1,2,3],by simp[hz2]⟩
 obtain rfl:q=n.2.1.length:=by omega
 rw[WY];have kM:=Fb to n.2.2.2 (by omega) (by omega) (fun l hl=>by have:=hri l (iE hl);omega);have hln:(n.2.1.map (Dx to)).length=n.2.1.length:=by simp
 generalize n.2.1.map (Dx to)=sq2 at *;generalize n.2.2.2.map (Aq to)=o2 at *;simp[hml,hln,hlt2,BH hlt2];refine Ab (kM) ?_;simp;refine Ab (kS) ?_;simp[Ao];exact⟨[0],by simp⟩
theorem Qi (x:AK) (hx:CF 1048576 x) (hg:Kz x) (hok:Al x=true) (h3:x.2.2.1.length<300):CM Tryz.prog 69 [TC x] [] (TC (CB x)) []:=by
 have kO:=Cr x hx hg;rw[hok] at kO;obtain⟨⟨n1,n2,n3,n4,n5,n6⟩,-,-,-⟩:=AA hok;obtain⟨hF,hgl,hNi,hno⟩:=A9 hok;have hN:=Br x;have kE:=Hx x hx ⟨n1,n2⟩ n3;obtain⟨m,hm⟩:∃ m:AK,m=(x.1,x.2.1.map CI,[],[]):=⟨_,rfl⟩;have hmF:Aa m=Aa x:=by rw[hm];unfold Aa;simp
 have hmok:Al m=true:=by
  have h0:∀ s∈x.2.1,Bx (CI s)=true:=fun s hs=>by
   have:=(AA hok).2.1 s hs;unfold Bx CI at *;simpa using this
  have hNm:A0 m=Aa x:=by rw[Br,hmF,hm];simp
  refine MV (by rw[hm];omega) (by rw[hm];simpa using n3) (by rw[hm];simp) (by rw[hm];simp) (fun s hs=>?_) (fun y hy=>by rw[hm] at hy;simp at hy) (fun s hs y hy=>?_) (by rw[hm];rfl)
  · rw[hm] at hs;obtain⟨s0,hs0,rfl⟩:=CE.1 hs;exact h0 s0 hs0
  · rw[hm] at hs;obtain⟨s0,hs0,rfl⟩:=CE.1 hs;obtain⟨y0,-,rfl⟩:=CE.1 (show y∈s0.2.2.map fun _=>0 from hy);have:0<Aa x:=by unfold Aa;omega
    rw[hNm];omega
 have hII:=fun i hi=>Y6 hok i hi;have hgo:=fun i hi=>pI hok h3 i hi;have hH:CB x=IE (x.1,x.2.1.map (Dx (mB x).1),(mB x).2.1,x.2.2.2.map (Aq (mB x).1)):=rfl;have hfin:mB x=B5 x (Aa x) (-1) 0 (BD (Aa x)) [] x.2.2.1.length:=rfl;have hs0:B5 x (Aa x) (-1) 0 (BD (Aa x)) [] 0=(BD (Aa x),[],true):=rfl;have kFin:=HY x (mB x).1 (mB x).2.1 hx hok (hII _ (Nat.le_refl _)).an (hII _ (Nat.le_refl _)).pl (hII _ (Nat.le_refl _)).ok (by rw[hfin,(hII _ (Nat.le_refl _)).len (hgo _ (Nat.le_refl _)).1];omega);rw[←hH] at kFin;generalize CB x=HG at *;generalize x.2.1.map CI=zs at *;refine BE (by kernel_rfl) Tryz.func69 rfl rfl rfl (by simp[Bl,Later]) (by simp[BP,Ah.live]) ?_;simp;refine Ab (kO) ?_;simp;refine Ab (kE) ?_;simp[Ao];refine AJ [false,true,true,true,true,true] (fun i:Nat=>i≤x.2.2.1.length) (fun i:Nat=>[(3,.ptr 3 0),(4,.ref 2),(5,.d (.int .i64 i))]) (fun i:Nat=>fun sl=>[E2 x,zG,.arr 3 true ((B5 x (Aa x) (-1) 0 (BD (Aa x)) [] i).1.map (e1 AC)),.var 28 [.d (.int .i64 x.1),.ref 4,.ref 5,.ref 6],.arr 57 true (zs.map AY),.arr 63 true ((B5 x (Aa x) (-1) 0 (BD (Aa x)) [] i).2.1.map At),.arr 3 true []]) (fun i:Nat=>x.2.2.1.length - i) 0 ?_ ?_ ?_
 · simp
 · exact⟨[0,1,5,6,2,3,4],by simp[zG,E2,hs0]⟩
 rintro I S μ hI hS hμ i hi;have q1:=hII i hi;obtain⟨g1,g2⟩:=hgo i hi;by_cases hlt:i<x.2.2.1.length
 · obtain⟨hA,a1,a2,a3,a4,a5,a6⟩:=C3 hok (v:=Aa x+i) (by omega) (by omega);rw[Nat.add_sub_cancel_left] at hA;have hd:=A8 hlt;obtain⟨g3,g4⟩:=hgo (i+1) (by omega);obtain⟨⟨to,an,bb⟩,hst⟩:∃ s,B5 x (Aa x) (-1) 0 (BD (Aa x)) [] i=s:=⟨_,rfl⟩;rw[hst] at g1 g2 q1;simp only at g1 g2;subst g1;have hl:=q1.len rfl;have hpl:=q1.pl;have ha3:=q1.an;have han:=q1.ok;simp only at hl hpl ha3 han
   have hstp:B5 x (Aa x) (-1) 0 (BD (Aa x)) [] (i+1)=(to++[AZ (Aa x) an (Aq to (Aj x (Aa x+i)).1) (Aq to (Aj x (Aa x+i)).2)],Ar an (Aq to (Aj x (Aa x+i)).1) (Aq to (Aj x (Aa x+i)).2),true):=by
    rw[B5,hst] at g3 ⊢;simp only[Bool.true_eq_false,if_false] at g3 ⊢;rw[if_neg (by omega)] at g3 ⊢;split
    · rename_i hneg;rw[if_pos hneg] at g3;simp at g3
    · rfl
   rw[hst];have w1:IntKind.i64.wrap ((i:Int)+1)=(i:Int)+1:=Ad (by omega) (by omega);have r1:=Bp (l:=(Aj x (Aa x+i)).1) (BK hpl (by omega) ((Aj x (Aa x+i)).1 / 2)) (by omega);have r2:=Bp (l:=(Aj x (Aa x+i)).2) (BK hpl (by omega) ((Aj x (Aa x+i)).2 / 2)) (by omega);have t1:=Cc (lv:=to) (k:=(Aj x (Aa x+i)).1 / 2) (by omega);have t2:=Cc (lv:=to) (k:=(Aj x (Aa x+i)).2 / 2) (by omega);have m1:Bm (A3 to ((Aj x (Aa x+i)).1 / 2)) ((Aj x (Aa x+i)).1 % 2)=Aq to (Aj x (Aa x+i)).1:=rfl;have m2:Bm (A3 to ((Aj x (Aa x+i)).2 / 2)) ((Aj x (Aa x+i)).2 % 2)=Aq to (Aj x (Aa x+i)).2:=rfl;have b1:=CD (Aj x (Aa x+i)).1;have b2:=CD (Aj x (Aa x+i)).2;have w2:IntKind.i64.wrap ((Aj x (Aa x+i)).1.tdiv 2)=(Aj x (Aa x+i)).1 / 2:=by rw[Int.tdiv_eq_ediv_of_nonneg a1];exact Ad (by omega) (by omega)
   have w3:IntKind.i64.wrap ((Aj x (Aa x+i)).2.tdiv 2)=(Aj x (Aa x+i)).2 / 2:=by rw[Int.tdiv_eq_ediv_of_nonneg a2];exact Ad (by omega) (by omega)
   have z1:¬ (Aj x (Aa x+i)).1 / 2<0:=by omega
   have z2:¬ (Aj x (Aa x+i)).2 / 2<0:=by omega
   generalize A3 to ((Aj x (Aa x+i)).1 / 2)=p1 at *;generalize A3 to ((Aj x (Aa x+i)).2 / 2)=p2 at *;generalize (Aj x (Aa x+i)).1 / 2=d1 at *;generalize (Aj x (Aa x+i)).2 / 2=d2 at *;generalize Aq to (Aj x (Aa x+i)).1=x1 at *;generalize Aq to (Aj x (Aa x+i)).2=x2 at *;generalize Aj x (Aa x+i)=A at *;have hL:(At A).length=2:=rfl;have hokA:Al (Ap m an)=true:=CY hmok (by rw[hm];simp) ha3 (by rw[hmF];exact han);have hwN:(A0 (Ap m an):Int)=Aa x+an.length:=by rw[Ct,hmF];omega
   have kD:=DW (Ap m an) x1 x2 hokA (by omega) (by omega);rw[Gu (by omega) (by omega)] at kD;have e1':Ap (Ap m an) (Ar (Ap m an).2.2.1 x1 x2)=Ap m (Ar an x1 x2):=rfl;have e2':AZ (Aa (Ap m an)) (Ap m an).2.2.1 x1 x2=AZ (Aa m) an x1 x2:=rfl;rw[e1',e2',hmF] at kD;generalize AZ (Aa x) an x1 x2=v at *;generalize Ar an x1 x2=an2 at *;rw[hm] at kD;simp[hd];refine Av [(42,[40]),(43,[])] (by kernel_rfl) ?_;simp[hA,hL,At,t1,t2,m1,m2,b1,b2,w2,w3,z1,z2];refine Ab (kD) ?_;simp[Ap,Ao];refine Ak As rfl (by simp) rfl (by simp) (by simp) (by first | (simp;done)|(simp;omega)) (by simp[AR,AL]) ?_;simp[w1];exact Ae hI hS hμ (i+1) (by omega) (by omega) ⟨[0,1,12,3,7,8,9],by simp[hstp,zG,E2,e1,AC]⟩
 obtain rfl:i=x.2.2.1.length:=by omega
 rw[←hfin];generalize mB x=R at *;simp[hlt,BH hlt];refine Ac (kFin) [2,5,6] [4] (by simp) ?_;simp;exact⟨[],by simp⟩
end Go.Proofs.YtnjedabjbeipeaaGreat
