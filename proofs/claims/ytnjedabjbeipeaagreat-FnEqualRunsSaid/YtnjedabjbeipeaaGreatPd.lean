/-
  Sweeping and hashing of nets by the reference, by abstract walks.
  Conditions: those typed in each theorem.
-/
import Derived.Test.YtnjedabjbeipeaaGreatPq
namespace Go.Proofs.YtnjedabjbeipeaaGreat
open Go.RowKit Go.ChangeShapes Go.WideShapes
set_option linter.unusedSimpArgs false
set_option linter.unusedVariables false
set_option maxRecDepth 100000
set_option maxHeartbeats 10000000
def H5 (to:List Int) (sq:List Cr) (i:Nat):List Cr:=(sq.take i).map (Dr to)++(sq.drop i).map CE
theorem Vg {to:List Int} {sq:List Cr} {i:Nat}:(H5 to sq i).length=sq.length:=by unfold H5;simp;omega
theorem RK {to:List Int} {sq:List Cr}:H5 to sq 0=sq.map CE:=by simp[H5]
theorem WC {to:List Int} {sq:List Cr}:H5 to sq sq.length=sq.map (Dr to):=by simp[H5]
theorem Y2 {to:List Int} {sq:List Cr} {s:Cr} {i:Nat} (h:sq[i]? = some s):(H5 to sq i)[i]? = some (CE s):=by
 have hi:=(zz1.1 h).1;unfold H5;rw[zz5 (by simp;omega)];simp only[AB7,ACC];rw[show i - min i sq.length=0 by omega,ABz,ABn,Nat.add_zero,h];rfl
theorem UF {to:List Int} {sq:List Cr} {s:Cr} {i:Nat} (h:sq[i]? = some s):(H5 to sq i).set i (Dr to s)=H5 to sq (i+1):=by
 obtain⟨hi,e⟩:=zz1.1 h;unfold H5;rw[List.set_append_right _ _ (by simp;omega),Ba h,ABe,AB2]
 congr 1
 rw[AB7,ACC,show i - min i sq.length=0 by omega,List.drop_eq_getElem_cons hi,e];rfl
theorem eD {x:AK} {y:Int} (h:y∈x.2.2.2):y∈Ay x:=List.mem_append_left _ h
theorem iO {x:AK} {s:Cr} {y:Int} (hs:s∈x.2.1) (h:y∈s.2.2):y∈Ay x:=List.mem_append_right _ (List.mem_flatten.2 ⟨s.2.2,ABc.2 ⟨s,hs,rfl⟩,h⟩)
theorem TY (x:AK) (hx:Cz 1048576 x) (hg:JO x) (hok:Al x=true):Bx Tryz.prog 107 [Ge x] (YH (DS x)):=by
 have kO:=Co x hx hg;rw[hok] at kO;obtain⟨⟨n1,n2,n3,n4,n5,n6⟩,-,-,-⟩:=AA hok;obtain⟨hF,hgl,hNi,hno⟩:=A7 hok;have kN:=Bt x;rw[hno] at kN;have hrl:=QQ hok;have hri:=M9 hok;have kR:=Jl x hx n3;have hlr:∀ k,(Kt (List.replicate (A0 x) false) (Ay x) k).length=A0 x:=fun k=>by rw[Tx];simp
 have hM:DS x=H9 x (Kt (List.replicate (A0 x) false) (Ay x) (Ay x).length):=rfl;have kS:=R5 x (Kt (List.replicate (A0 x) false) (Ay x) (Ay x).length) hx hok (hlr _);rw[←hM] at kS;generalize DS x=RM at *;generalize Ay x=rs at *;have hr0:(Kt (List.replicate (A0 x) false) rs 0).map (e1 CQ)=List.replicate (A0 x) [D.bool false]:=by rw[M1];rfl
 generalize List.replicate (A0 x) false=s0 at *;refine B3 (by kernel_rfl) Tryz.func107 rfl rfl rfl ?_;simp[Ao];refine Ab (kO) ?_;simp;refine Ab (kN) ?_;simp[show (A0 x:Int)≤1099511627776 by omega];refine Ab (kR) ?_;simp;refine AB [false,true,false,true,true,true] (fun k:Nat=>k≤rs.length) (fun k:Nat=>[(5,.d (.int .i64 k))]) (fun k:Nat=>[(1,.arr 4 true ((Kt s0 rs k).map (e1 CQ)))]) (fun k:Nat=>rs.length - k) 0 ?_ ?_ ?_
 · simp
 · exact⟨[0,1,2],by simp[hr0]⟩
 rintro I S μ hI hS hμ k hk;have hlk:=hlr k;by_cases hlt:k<rs.length
 · have hx1:rs[k]? = some rs[k]:=zz0 hlt;have w2:IntKind.i64.wrap ((k:Int)+1)=(k:Int)+1:=Ad (by omega) (by omega);have hd:decide (k<rs.length)=true:=zz2 hlt;have hyr:=hri _ (ABt hlt);have hnx:Kt s0 rs (k+1)=(Kt s0 rs k).set (rs[k] / 2).toNat true:=by simp[Kt,Me hx1]
   generalize rs[k]=y at *;generalize Kt s0 rs k=s at *;obtain⟨q,hq⟩:∃ q:Nat,(q:Int)=y / 2:=⟨(y / 2).toNat,by omega⟩;rw[←hq,Int.toNat_natCast] at hnx;have q1:IntKind.i64.wrap (y.tdiv 2)=(q:Int):=by rw[Int.tdiv_eq_ediv_of_nonneg hyr.1,←hq];exact Ad (by omega) (by omega)
   have hat:=Du (s:=s) (v:=q) (by omega);have hset:=GM (s:=s) (v:=q) (b:=true);generalize s.set q true=sq at *;simp[hd,hx1,q1,hat,hset,w2];exact Ae hI hS hμ (k+1) (by omega) (by omega) ⟨[0,1,2],by simp[hnx]⟩
 obtain rfl:k=rs.length:=by omega
 simp[hlt,zz3 hlt];refine Ab (kS) ?_;simp
theorem XK (y:AK) (hx:Cz 1048576 y) (hg:JO y) (hok:Al y=true):Bx Tryz.prog 96 [Ge y] (Ge (Ia y)):=by
 have kO:=Co y hx hg;rw[hok] at kO;obtain⟨⟨n1,n2,n3,n4,n5,n6⟩,-,-,-⟩:=AA hok;obtain⟨hF,hgl,hNi,hno⟩:=A7 hok;have hN:=Bp y;have kR:=TY y hx hg hok;have kE:=Hb y hx ⟨n1,n2⟩ n3;have kF:=BE y ⟨n1,n2⟩ n3;rw[←hF] at kF;have hri:=M9 hok;have hkl:(DS y).length=A0 y:=by unfold DS;rw[XM,Tx];simp
 have hsw:=fun i hi=>Xs (keep:=DS y) hok i hi;have hS:Ia y=(y.1,y.2.1.map (Dr (Ix y (DS y) y.2.2.1.length).2),(Ix y (DS y) y.2.2.1.length).1,y.2.2.2.map (Aq (Ix y (DS y) y.2.2.1.length).2)):=rfl;rw[hS];have hs0:Ix y (DS y) 0=([],BB (Aa y)):=rfl;have hsx:=fun i=>(show Ix y (DS y) (i+1)=if AX (DS y) (Aa y+i)=true then ((Ix y (DS y) i).1++[(Aq (Ix y (DS y) i).2 (Aj y (Aa y+i)).1,Aq (Ix y (DS y) i).2 (Aj y (Aa y+i)).2)],(Ix y (DS y) i).2++[2*((Aa y:Int)+(Ix y (DS y) i).1.length)]) else ((Ix y (DS y) i).1,(Ix y (DS y) i).2++[0]) from rfl);generalize DS y=keep at *;refine B3 (by kernel_rfl) Tryz.func96 rfl rfl rfl ?_;simp[Ao];refine Ab (kO) ?_;simp;refine Ab (kR) ?_;simp;refine Ab (kE) ?_;simp[Ao];refine Ab (kF) ?_;simp;refine AH [false,true,true,true,true,true,true,true] (fun i:Nat=>i≤y.2.2.1.length) (fun i:Nat=>[(4,.ptr 7 0),(5,.ref 6),(6,.d (.int .i64 ((Aa y:Int)+(Ix y keep i).1.length))),(7,.d (.int .i64 i))]) (fun i:Nat=>fun sl=>[ED y,zG,.arr 4 true (keep.map (e1 CQ)),.arr 57 true ((y.2.1.map CE).map AY),.arr 63 true ((Ix y keep i).1.map At),.arr 3 true [],.arr 3 true ((Ix y keep i).2.map (e1 AC)),.var 28 [.d (.int .i64 y.1),.ref 3,.ref 4,.ref 5]]) (fun i:Nat=>y.2.2.1.length - i) 0 ?_ ?_ ?_
 · simp
 · exact⟨[0,1,2,3,4,5,6,7],by simp[zG,ED,hs0]⟩
 rintro I S μ hI hS hμ i hi;obtain⟨g1,g2,g3,g4⟩:=hsw i hi;by_cases hlt:i<y.2.2.1.length
 · skip
   obtain⟨hA,a1,a2,a3,a4,a5,a6⟩:=CW hok (v:=Aa y+i) (by omega) (by omega);rw[Nat.add_sub_cancel_left] at hA;have hd:=zz2 hlt;have hat:=Du (s:=keep) (v:=Aa y+i) (by omega);have w1:IntKind.i64.wrap ((i:Int)+1)=(i:Int)+1:=Ad (by omega) (by omega);have w3:IntKind.i64.wrap ((Aa y:Int)+i)=((Aa y+i:Nat):Int):=by rw[Ad (by omega) (by omega)];omega
   have hx2:=hsx i
   have kM:=EG (Ix y keep i).2 [(Aj y (Aa y+i)).1,(Aj y (Aa y+i)).2] (by omega) (by simp) (fun l hl'=>by
    simp only[List.mem_cons,List.not_mem_nil,or_false] at hl'
    rcases hl' with rfl|rfl<;>omega)
   simp only[List.map_cons,List.map_nil] at kM;generalize Ix y keep i=s at *;obtain⟨an,to⟩:=s;simp only at g1 g2 g3 g4 hx2 kM;generalize Aj y (Aa y+i)=A at *;have hL:(At A).length=2:=rfl;generalize Aq to A.1=x1 at *;generalize Aq to A.2=x2 at *;have w4:IntKind.i64.wrap (2*((Aa y:Int)+an.length))=2*((Aa y:Int)+an.length):=Ad (by omega) (by omega);have w5:IntKind.i64.wrap ((Aa y:Int)+an.length+1)=(Aa y:Int)+an.length+1:=Ad (by omega) (by omega);generalize hv:Aa y+i=v at *
   cases hb:AX keep v with
   | false =>
     rw[hb] at hat;rw[hb,if_neg (by simp)] at hx2;simp[hd];refine Ab (kF) ?_;simp[w3,hat];refine Ak As rfl (by simp) rfl (by simp) (by simp) (by first | (simp;done)|(simp;omega)) (by simp[AR,AL]) ?_;simp[w1];exact Ae hI hS hμ (i+1) (by omega) (by omega) ⟨[0,1,2,3,4,5,9,7],by simp[hx2,zG,ED,e1,AC]⟩
   | true =>
     rw[hb] at hat;rw[hb,if_pos rfl] at hx2;simp[hd];refine Ab (kF) ?_;simp[w3,hat];refine AJ 16 (by kernel_rfl) ?_;simp[hA,hL,At];refine Ab (kM) ?_;simp;refine AJ 10 (by kernel_rfl) ?_;simp;refine Ak D0 rfl (by simp) rfl (by simp) (by simp) (by first | (simp;done)|(simp;omega)) (by simp[AR,AL]) ?_;simp[w4];refine Ak As rfl (by simp) rfl (by simp) (by simp) (by first | (simp;done)|(simp;omega)) (by simp[AR,AL]) ?_;simp[w5,w1];exact Ae hI hS hμ (i+1) (by omega) (by omega) ⟨[0,1,2,3,11,5,13,7],by simp[hx2,zG,ED,At,e1,e2,AC];omega⟩
 obtain rfl:i=y.2.2.1.length:=by omega
 clear hI hS hμ;have hR:Ix y keep y.2.2.1.length=((Ix y keep y.2.2.1.length).1,(Ix y keep y.2.2.1.length).2):=rfl;generalize (Ix y keep y.2.2.1.length).1=an at *;generalize (Ix y keep y.2.2.1.length).2=to at *;simp[hlt,zz3 hlt];refine AH [false,true,true,false,true,true,false,false,false,true] (fun q:Nat=>q≤y.2.1.length) (fun q:Nat=>[(9,.d (.int .i64 q))]) (fun q:Nat=>fun sl=>[ED y,zG,.arr 4 true (keep.map (e1 CQ)),.arr 57 true ((H5 to y.2.1 q).map AY),.arr 63 true (an.map At),.arr 3 true [],.arr 3 true (to.map (e1 AC)),.var 28 [.d (.int .i64 y.1),.ref 3,.ref 4,.ref 5]]) (fun q:Nat=>y.2.1.length - q) 0 ?_ ?_ ?_
 · simp
 · exact⟨[0,1,2,3,4,5,6,7],by simp[zG,ED,RK]⟩
 rintro I S μ hI hS hμ q hq;have hml:=Vg (to:=to) (sq:=y.2.1) (i:=q);by_cases hlt2:q<y.2.1.length
 · skip
   obtain⟨s,hx1⟩:∃ s,y.2.1[q]? = some s:=⟨_,zz0 hlt2⟩;have hat:=Y2 (to:=to) hx1;have hset:=UF (to:=to) hx1;have hsm:=zz6 hx1;have hf:=hx.2.1 _ hsm;have kM:=EG to s.2.2 (by omega) hf (fun l hl=>by have:=hri l (iO hsm hl);omega);have hL:(AY s).length=3:=rfl;have hL2:(AY (CE s)).length=3:=rfl;have w1:IntKind.i64.wrap ((q:Int)+1)=(q:Int)+1:=Ad (by omega) (by omega);have hd:decide (q<y.2.1.length)=true:=zz2 hlt2
   have hse:((H5 to y.2.1 q).map AY).set q [D.int .i64 s.1,D.int .i64 s.2.1,D.sl 3 ((s.2.2.map (Aq to)).map (e1 AC))]=(H5 to y.2.1 (q+1)).map AY:=by
    rw[←hset,List.map_set];simp[AY,e3,AC,Dh,Dr]
   generalize hz2:H5 to y.2.1 (q+1)=z2 at *;generalize H5 to y.2.1 q=z1 at *;clear hset;generalize s.2.2.map (Aq to)=ml at *;simp[hml,hd];refine AJ 13 (by kernel_rfl) ?_;simp[hx1,hL,AY];refine Ab (kM) ?_;simp[hat,hL2,AY,CE,hse,w1];exact Ae hI hS hμ (q+1) (by omega) (by omega) ⟨[0,1,2,3,4,5,6,7],by simp[hz2]⟩
 obtain rfl:q=y.2.1.length:=by omega
 rw[WC];have kM:=EG to y.2.2.2 (by omega) (by omega) (fun l hl=>by have:=hri l (eD hl);omega);simp[hml,hlt2,zz3 hlt2];refine Ab (kM) ?_;simp[Ao]
theorem HF (n:AK) (to:List Int) (an:List Ai) (hx:Cz 1048576 n) (hok:Al n=true) (h3:an.length≤300) (hp:Jw (Aa n+an.length) to) (ha:BR (Aa n) 0 an=true) (ht:to.length=A0 n) :
 CG Tryz.prog 76 [.agg [.d (.int .i64 n.1),.ref 0,.d (Dh 63 At an),.d (.sl 3 [])],RW n,.d (Dh 3 (e1 AC) to)] [.arr 57 true ((n.2.1.map CE).map AY)]
  (RW (Ia (n.1,n.2.1.map (Dr to),an,n.2.2.2.map (Aq to)))) [.dead]:=by
 have hz:=JH hok h3 hp ha;have kS:=XK ((n.1,n.2.1.map (Dr to),an,n.2.2.2.map (Aq to)):AK) (BZ hz) (CJ hz) hz;generalize Ia ((n.1,n.2.1.map (Dr to),an,n.2.2.2.map (Aq to)):AK)=SG at *;obtain⟨⟨n1,n2,n3,n4,n5,n6⟩,-,-,-⟩:=AA hok;obtain⟨hF,hgl,hNi,hno⟩:=A7 hok;have hri:=M9 hok;refine BA (by kernel_rfl) Tryz.func76 rfl rfl rfl (by simp[Bi,Later]) (by simp[BN,Ah.live]) ?_;simp;refine AH [false,false,true,true,true,false,true,true] (fun q:Nat=>q≤n.2.1.length) (fun q:Nat=>[(7,.d (.int .i64 q))]) (fun q:Nat=>fun sl=>[.arr 57 true ((H5 to n.2.1 q).map AY),.var 28 [.d (.int .i64 n.1),.ref 0,.d (Dh 63 At an),.d (.sl 3 [])],ED n,zG]) (fun q:Nat=>n.2.1.length - q) 0 ?_ ?_ ?_
 · simp
 · exact⟨[0,1,2,3],by simp[zG,ED,RK]⟩
 rintro I S μ hI hS hμ q hq;have hml:=Vg (to:=to) (sq:=n.2.1) (i:=q);by_cases hlt2:q<n.2.1.length
 · obtain⟨s,hx1⟩:∃ s,n.2.1[q]? = some s:=⟨_,zz0 hlt2⟩;have hat:=Y2 (to:=to) hx1;have hset:=UF (to:=to) hx1;have hsm:=zz6 hx1;have hf:=hx.2.1 _ hsm;have kM:=EG to s.2.2 (by omega) hf (fun l hl=>by have:=hri l (iO hsm hl);omega);have hL:(AY s).length=3:=rfl;have hL2:(AY (CE s)).length=3:=rfl;have w1:IntKind.i64.wrap ((q:Int)+1)=(q:Int)+1:=Ad (by omega) (by omega);have hd:decide (q<n.2.1.length)=true:=zz2 hlt2
   have hse:((H5 to n.2.1 q).map AY).set q [D.int .i64 s.1,D.int .i64 s.2.1,D.sl 3 ((s.2.2.map (Aq to)).map (e1 AC))]=(H5 to n.2.1 (q+1)).map AY:=by
    rw[←hset,List.map_set];simp[AY,e3,AC,Dh,Dr]
   generalize hz2:H5 to n.2.1 (q+1)=z2 at *;generalize H5 to n.2.1 q=z1 at *;clear hset;generalize s.2.2.map (Aq to)=ml at *;simp[hml,hd];refine AJ 13 (by kernel_rfl) ?_;simp[hx1,hL,AY];refine Ab (kM) ?_;simp[hat,hL2,AY,CE,hse,w1];exact Ae hI hS hμ (q+1) (by omega) (by omega) ⟨[0,1,2,3],by simp[hz2]⟩
 obtain rfl:q=n.2.1.length:=by omega
 rw[WC];have kM:=EG to n.2.2.2 (by omega) (by omega) (fun l hl=>by have:=hri l (eD hl);omega);have hln:(n.2.1.map (Dr to)).length=n.2.1.length:=by simp
 generalize n.2.1.map (Dr to)=sq2 at *;generalize n.2.2.2.map (Aq to)=o2 at *;simp[hml,hln,hlt2,zz3 hlt2];refine Ab (kM) ?_;simp;refine Ab (kS) ?_;simp[Ao];exact⟨[0],by simp⟩
theorem QD (x:AK) (hx:Cz 1048576 x) (hg:JO x) (hok:Al x=true) (h3:x.2.2.1.length<300):CG Tryz.prog 69 [RW x] [] (RW (CB x)) []:=by
 have kO:=Co x hx hg;rw[hok] at kO;obtain⟨⟨n1,n2,n3,n4,n5,n6⟩,-,-,-⟩:=AA hok;obtain⟨hF,hgl,hNi,hno⟩:=A7 hok;have hN:=Bp x;have kE:=Hb x hx ⟨n1,n2⟩ n3;obtain⟨m,hm⟩:∃ m:AK,m=(x.1,x.2.1.map CE,[],[]):=⟨_,rfl⟩;have hmF:Aa m=Aa x:=by rw[hm];unfold Aa;simp
 have hmok:Al m=true:=by
  have h0:∀ s∈x.2.1,Bz (CE s)=true:=fun s hs=>by
   have:=(AA hok).2.1 s hs;unfold Bz CE at *;simpa using this
  have hNm:A0 m=Aa x:=by rw[Bp,hmF,hm];simp
  refine LG (by rw[hm];omega) (by rw[hm];simpa using n3) (by rw[hm];simp) (by rw[hm];simp) (fun s hs=>?_) (fun y hy=>by rw[hm] at hy;simp at hy) (fun s hs y hy=>?_) (by rw[hm];rfl)
  · rw[hm] at hs;obtain⟨s0,hs0,rfl⟩:=ABc.1 hs;exact h0 s0 hs0
  · rw[hm] at hs;obtain⟨s0,hs0,rfl⟩:=ABc.1 hs;obtain⟨y0,-,rfl⟩:=ABc.1 (show y∈s0.2.2.map fun _=>0 from hy);have:0<Aa x:=by unfold Aa;omega
    rw[hNm];omega
 have hII:=fun i hi=>X2 hok i hi;have hgo:=fun i hi=>oF hok h3 i hi;have hH:CB x=Ia (x.1,x.2.1.map (Dr (jW x).1),(jW x).2.1,x.2.2.2.map (Aq (jW x).1)):=rfl;have hfin:jW x=B0 x (Aa x) (-1) 0 (BB (Aa x)) [] x.2.2.1.length:=rfl;have hs0:B0 x (Aa x) (-1) 0 (BB (Aa x)) [] 0=(BB (Aa x),[],true):=rfl;have kFin:=HF x (jW x).1 (jW x).2.1 hx hok (hII _ (Nat.le_refl _)).an (hII _ (Nat.le_refl _)).pl (hII _ (Nat.le_refl _)).ok (by rw[hfin,(hII _ (Nat.le_refl _)).len (hgo _ (Nat.le_refl _)).1];omega);rw[←hH] at kFin;generalize CB x=HG at *;generalize x.2.1.map CE=zs at *;refine BA (by kernel_rfl) Tryz.func69 rfl rfl rfl (by simp[Bi,Later]) (by simp[BN,Ah.live]) ?_;simp;refine Ab (kO) ?_;simp;refine Ab (kE) ?_;simp[Ao];refine AH [false,true,true,true,true,true] (fun i:Nat=>i≤x.2.2.1.length) (fun i:Nat=>[(3,.ptr 3 0),(4,.ref 2),(5,.d (.int .i64 i))]) (fun i:Nat=>fun sl=>[ED x,zG,.arr 3 true ((B0 x (Aa x) (-1) 0 (BB (Aa x)) [] i).1.map (e1 AC)),.var 28 [.d (.int .i64 x.1),.ref 4,.ref 5,.ref 6],.arr 57 true (zs.map AY),.arr 63 true ((B0 x (Aa x) (-1) 0 (BB (Aa x)) [] i).2.1.map At),.arr 3 true []]) (fun i:Nat=>x.2.2.1.length - i) 0 ?_ ?_ ?_
 · simp
 · exact⟨[0,1,5,6,2,3,4],by simp[zG,ED,hs0]⟩
 rintro I S μ hI hS hμ i hi;have q1:=hII i hi;obtain⟨g1,g2⟩:=hgo i hi;by_cases hlt:i<x.2.2.1.length
 · obtain⟨hA,a1,a2,a3,a4,a5,a6⟩:=CW hok (v:=Aa x+i) (by omega) (by omega);rw[Nat.add_sub_cancel_left] at hA;have hd:=zz2 hlt;obtain⟨g3,g4⟩:=hgo (i+1) (by omega);obtain⟨⟨to,an,bb⟩,hst⟩:∃ s,B0 x (Aa x) (-1) 0 (BB (Aa x)) [] i=s:=⟨_,rfl⟩;rw[hst] at g1 g2 q1;simp only at g1 g2;subst g1;have hl:=q1.len rfl;have hpl:=q1.pl;have ha3:=q1.an;have han:=q1.ok;simp only at hl hpl ha3 han
   have hstp:B0 x (Aa x) (-1) 0 (BB (Aa x)) [] (i+1)=(to++[AZ (Aa x) an (Aq to (Aj x (Aa x+i)).1) (Aq to (Aj x (Aa x+i)).2)],Ar an (Aq to (Aj x (Aa x+i)).1) (Aq to (Aj x (Aa x+i)).2),true):=by
    rw[B0,hst] at g3 ⊢;simp only[Bool.true_eq_false,if_false] at g3 ⊢;rw[if_neg (by omega)] at g3 ⊢;split
    · rename_i hneg;rw[if_pos hneg] at g3;simp at g3
    · rfl
   rw[hst];have w1:IntKind.i64.wrap ((i:Int)+1)=(i:Int)+1:=Ad (by omega) (by omega);have r1:=Bn (l:=(Aj x (Aa x+i)).1) (BH hpl (by omega) ((Aj x (Aa x+i)).1 / 2)) (by omega);have r2:=Bn (l:=(Aj x (Aa x+i)).2) (BH hpl (by omega) ((Aj x (Aa x+i)).2 / 2)) (by omega);have t1:=B8 (lv:=to) (k:=(Aj x (Aa x+i)).1 / 2) (by omega);have t2:=B8 (lv:=to) (k:=(Aj x (Aa x+i)).2 / 2) (by omega);have m1:Bl (A1 to ((Aj x (Aa x+i)).1 / 2)) ((Aj x (Aa x+i)).1 % 2)=Aq to (Aj x (Aa x+i)).1:=rfl;have m2:Bl (A1 to ((Aj x (Aa x+i)).2 / 2)) ((Aj x (Aa x+i)).2 % 2)=Aq to (Aj x (Aa x+i)).2:=rfl;have b1:=CC (Aj x (Aa x+i)).1;have b2:=CC (Aj x (Aa x+i)).2;have w2:IntKind.i64.wrap ((Aj x (Aa x+i)).1.tdiv 2)=(Aj x (Aa x+i)).1 / 2:=by rw[Int.tdiv_eq_ediv_of_nonneg a1];exact Ad (by omega) (by omega)
   have w3:IntKind.i64.wrap ((Aj x (Aa x+i)).2.tdiv 2)=(Aj x (Aa x+i)).2 / 2:=by rw[Int.tdiv_eq_ediv_of_nonneg a2];exact Ad (by omega) (by omega)
   have z1:¬ (Aj x (Aa x+i)).1 / 2<0:=by omega
   have z2:¬ (Aj x (Aa x+i)).2 / 2<0:=by omega
   generalize A1 to ((Aj x (Aa x+i)).1 / 2)=p1 at *;generalize A1 to ((Aj x (Aa x+i)).2 / 2)=p2 at *;generalize (Aj x (Aa x+i)).1 / 2=d1 at *;generalize (Aj x (Aa x+i)).2 / 2=d2 at *;generalize Aq to (Aj x (Aa x+i)).1=x1 at *;generalize Aq to (Aj x (Aa x+i)).2=x2 at *;generalize Aj x (Aa x+i)=A at *;have hL:(At A).length=2:=rfl;have hokA:Al (Ap m an)=true:=CS hmok (by rw[hm];simp) ha3 (by rw[hmF];exact han);have hwN:(A0 (Ap m an):Int)=Aa x+an.length:=by rw[Cq,hmF];omega
   have kD:=DI (Ap m an) x1 x2 hokA (by omega) (by omega);rw[F6 (by omega) (by omega)] at kD;have e1':Ap (Ap m an) (Ar (Ap m an).2.2.1 x1 x2)=Ap m (Ar an x1 x2):=rfl;have e2':AZ (Aa (Ap m an)) (Ap m an).2.2.1 x1 x2=AZ (Aa m) an x1 x2:=rfl;rw[e1',e2',hmF] at kD;generalize AZ (Aa x) an x1 x2=v at *;generalize Ar an x1 x2=an2 at *;rw[hm] at kD;simp[hd];refine Av [(42,[40]),(43,[])] (by kernel_rfl) ?_;simp[hA,hL,At,t1,t2,m1,m2,b1,b2,w2,w3,z1,z2];refine Ab (kD) ?_;simp[Ap,Ao];refine Ak As rfl (by simp) rfl (by simp) (by simp) (by first | (simp;done)|(simp;omega)) (by simp[AR,AL]) ?_;simp[w1];exact Ae hI hS hμ (i+1) (by omega) (by omega) ⟨[0,1,12,3,7,8,9],by simp[hstp,zG,ED,e1,AC]⟩
 obtain rfl:i=x.2.2.1.length:=by omega
 rw[←hfin];generalize jW x=R at *;simp[hlt,zz3 hlt];refine Ac (kFin) [2,5,6] [4] (by simp) ?_;simp;exact⟨[],by simp⟩
end Go.Proofs.YtnjedabjbeipeaaGreat
