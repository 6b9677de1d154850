/-
  Nets as they are drawn: the result as data, or with one of its rows owned. By abstract walks.
  Conditions: those typed in each theorem.
-/
import Derived.Test.YtnjedabjbeipeaaSc
import Derived.Test.YtnjedabjbeipeaaYc
namespace Go.Proofs.Ytnjedabjbeipeaa
open Go.RowKit Go.ChangeShapes Go.WideShapes
set_option linter.unusedSimpArgs false
set_option linter.unusedVariables false
set_option maxRecDepth 100000
set_option maxHeartbeats 10000000
theorem bU (c:EE) (h:c.ok):BS Try.prog 57 [.ptr 0 0] [FS c] (.agg [.d (.int .i64 (GG c).1),.d (B3 31 A7 (GG c).2.1),.d (B3 60 Ao (GG c).2.2.1),.d (B3 3 (e1 Az) (GG c).2.2.2)]) [FS (ayC c)]:=by
 have k1:=Xi c h;generalize GG c=G at *;generalize ayC c=c1 at *;obtain⟨I,sq,an,os⟩:=G;refine Bl (by kernel_rfl) Try.func57 rfl rfl rfl (by simp[AZ,Later]) (by simp[Bi,Ag.live]) ?_;by_cases hs:sq.length=0
 · by_cases ha:an.length=0
   · have hs1:sq=[]:=zz7 hs;subst hs1;have ha1:an=[]:=zz7 ha;subst ha1;simp only[mW,eV,lL,kQ,List.length_nil,List.length_cons,if_true,  List.nil_append,List.cons_append] at k1 ⊢;simp;refine Ac (k1) [] [0] (by simp) ?_;simp;exact⟨[0],by simp⟩
   · have hs1:sq=[]:=zz7 hs;subst hs1;simp only[mW,eV,lL,kQ,List.length_nil,List.length_cons,if_true,if_neg ha,List.nil_append,List.cons_append] at k1 ⊢;simp;refine Ac (k1) [] [0] (by simp) ?_;simp;exact⟨[0],by simp⟩
 · by_cases ha:an.length=0
   · have ha1:an=[]:=zz7 ha;subst ha1;simp only[mW,eV,lL,kQ,List.length_nil,List.length_cons,if_true,if_neg hs,  List.nil_append,List.cons_append] at k1 ⊢;simp;refine Ac (k1) [] [0] (by simp) ?_;simp;exact⟨[0],by simp⟩
   · simp only[mW,eV,lL,kQ,List.length_nil,List.length_cons,if_true,if_neg hs,if_neg ha,List.nil_append,List.cons_append] at k1 ⊢;simp;refine Ac (k1) [] [0] (by simp) ?_;simp;exact⟨[0],by simp⟩
theorem SC (bs:List Int) (h:bs.length≤1048576):BS Try.prog 22 [.d (.sl 5 (bs.map (e1 NA)))] [] (T4 (GG (Iw bs))) []:=by
 have k1:=VC bs h;have k2:=bU (Iw bs) (mC h);generalize GG (Iw bs)=a at *;generalize ayC (Iw bs)=c2 at *;generalize Iw bs=c1 at *;refine Bl (by kernel_rfl) Try.func22 rfl rfl rfl (by simp[AZ,Later]) (by simp[Bi,Ag.live]) ?_;simp;refine Ac (k1) [] [] (by simp) ?_;simp;refine Ac (k2) [] [1] (by simp) ?_;simp;exact⟨[],by simp⟩
def nK (h:AB):Nat→List Bool
 | 0=>Og (List.replicate (AR h) false) (At h) (At h).length
 | j+1=>if Be (nK h j) (AR h - 1 - j)=true then Og (nK h j) (Cz h (AR h - 1 - j)) (Cz h (AR h - 1 - j)).length else nK h j
def Jo (h:AB):List Bool:=nK h h.2.2.1.length
theorem PN {h:AB}:∀ j,(nK h j).length=AR h
 | 0=>by simp[nK,KH]
 | j+1=>by
   unfold nK;split
   · rw[KH,PN j]
   · exact PN j
theorem Wi (x:AB) (hok:Aj x=true):BS Try.prog 59 [T4 x] [] (.ref 0) [.arr 4 true ((Jo x).map (e1 EV))]:=by
 have hx:=Bj hok;obtain⟨⟨n1,n2,n3,n4,n5,n6⟩,-,-,-⟩:=Ax hok;obtain⟨hF,hgl,hNi,hno⟩:=Bz hok;have hN:=Bn x;have kF:=AW x ⟨n1,n2⟩ n3;rw[←hF] at kF;have kN:=BL x ⟨n1,n2⟩ n3 n4;rw[hNi] at kN;have kR:=F8 x hx n3;have hrl:=PZ hok;have hri:=D5 hok;have hM:Jo x=nK x x.2.2.1.length:=rfl;rw[hM];have hn0:nK x 0=Og (List.replicate (AR x) false) (At x) (At x).length:=rfl;generalize At x=rs at *;have hr0:List.replicate (AR x) [D.bool false]=(Og (List.replicate (AR x) false) rs 0).map (e1 EV):=by rw[Og,List.map_replicate];rfl
 have hlr:∀ k,(Og (List.replicate (AR x) false) rs k).length=AR x:=fun k=>by rw[KH];simp
 generalize List.replicate (AR x) false=s0 at *;refine Cv (by kernel_rfl) Try.func59 rfl rfl rfl (by simp[AZ,Later]) (by simp[Bi,Ag.live]) ?_;simp[AL];refine Ab (kN) ?_;simp;refine⟨by omega,?_⟩;refine Ab (kR) ?_;simp[hr0];refine AY [false,true,false,true,false,false,false,false,false,false,false,false,false,true,true,true] (fun k:Nat=>k≤rs.length) (fun k:Nat=>[(15,.d (.int .i64 k))]) (fun k:Nat=>[(1,.arr 4 true ((Og s0 rs k).map (e1 EV)))]) (fun k:Nat=>rs.length - k) 0 ?_ ?_ ?_
 · simp
 · exact⟨[0,1,2],by simp[hr0]⟩
 rintro I S μ hI hS hμ k hk;have hlk:=hlr k;by_cases hlt:k<rs.length
 · have hx1:rs[k]? = some rs[k]:=zz0 hlt;have w2:IntKind.i64.wrap ((k:Int)+1)=(k:Int)+1:=Af (by omega) (by omega);have hd:decide (k<rs.length)=true:=zz2 hlt;have hyr:=hri _ (AB7 hlt);have hnx:Og s0 rs (k+1)=(Og s0 rs k).set (rs[k] / 2).toNat true:=by simp[Og,Eh hx1]
   generalize rs[k]=y at *;generalize Og s0 rs k=s at *;obtain⟨q,hq⟩:∃ q:Nat,(q:Int)=y / 2:=⟨(y / 2).toNat,by omega⟩;rw[←hq,Int.toNat_natCast] at hnx;have q1:IntKind.i64.wrap (y.tdiv 2)=(q:Int):=by rw[Int.tdiv_eq_ediv_of_nonneg hyr.1,←hq];exact Af (by omega) (by omega)
   have hat:=IX (s:=s) (v:=q) (by omega);have hset:=P6 (s:=s) (v:=q) (b:=true);generalize s.set q true=sq at *;simp[hd,hx1,q1,hat,hset,w2];exact Ae hI hS hμ (k+1) (by omega) (by omega) ⟨[0,1,2],by simp[hnx]⟩
 obtain rfl:k=rs.length:=by omega
 clear hI hS hμ;have w0:IntKind.i64.wrap ((AR x:Int) - 1)=(AR x:Int) - 1:=Af (by omega) (by omega);simp[hlt,zz3 hlt,←hn0];refine Ab (kN) ?_;simp[w0];refine As [false,true,false,true,false,false,true] (fun j:Nat=>j≤x.2.2.1.length) (fun j:Nat=>[(6,.d (.int .i64 ((AR x:Int) - 1 - j)))]) (fun j:Nat=>fun _=>[gZ x,.arr 4 true ((nK x j).map (e1 EV))]) (fun j:Nat=>x.2.2.1.length - j) 0 ?_ ?_ ?_
 · exact Nat.zero_le _
 · exact⟨[0,1],by simp⟩
 rintro I S μ hI hS hμ j hj;have hlj:=PN (h:=x) j;by_cases hlt2:j<x.2.2.1.length
 · obtain⟨v,hv⟩:∃ v:Nat,v=AR x - 1 - j:=⟨_,rfl⟩;have hvi:(AR x:Int) - 1 - (j:Int)=(v:Int):=by omega
   have hnx:nK x (j+1)=if Be (nK x j) v=true then Og (nK x j) (Cz x v) (Cz x v).length else nK x j:=by rw[hv];rfl
   have kJ:=J6 x v hok (by omega) (by omega);obtain⟨⟨c1,c2,c3⟩,c4⟩:=Iv hok (v:=v) (by omega) (by omega);have hat:=IX (s:=nK x j) (v:=v) (by omega);have w2:IntKind.i64.wrap ((v:Int) - 1)=(AR x:Int) - 1 - ((j+1:Nat):Int):=by rw[Af (by omega) (by omega)];omega
   have hge:(Aa x:Int)≤(v:Int):=by omega
   generalize Cz x v=cs at *;generalize nK x j=s at *;rw[hvi]
   cases hb:Be s v with
   | false =>
     rw[hb] at hat;rw[if_neg (by rw[hb];simp)] at hnx;simp[AL];refine Ab (kF) ?_;simp[hge,zz2 hge,hat,w2];exact Ae hI hS hμ (j+1) (by omega) (by omega) ⟨[0,1],by simp[hnx]⟩
   | true =>
     rw[hb] at hat;rw[if_pos hb] at hnx;simp[AL];refine Ab (kF) ?_;simp[hge,zz2 hge,hat];refine Ac (kJ) [] [] (by simp) ?_;simp;have hc0:s=Og s cs 0:=rfl;have hcl:∀ k,(Og s cs k).length=AR x:=fun k=>by rw[KH];exact hlj
     refine AY [false,true,false,true,false,false,true,false,false,false,false,false,false,false,false,false,false,false,false,false,false,false,false,false,false,false,false,false,false,false,false,false,false,false,false,false,false,false,false,false,true,true,true] (fun k:Nat=>k≤cs.length) (fun k:Nat=>[(42,.d (.int .i64 k))]) (fun k:Nat=>[(1,.arr 4 true ((Og s cs k).map (e1 EV)))]) (fun k:Nat=>cs.length - k) 0 ?_ ?_ ?_
     · simp
     · exact⟨[0,1],by simp[←hc0]⟩
     clear hc0;rintro I2 S2 μ2 hI2 hS2 hμ2 k hk;have hlk:=hcl k;by_cases hlt:k<cs.length
     · have hx1:cs[k]? = some cs[k]:=zz0 hlt;have w3:IntKind.i64.wrap ((k:Int)+1)=(k:Int)+1:=Af (by omega) (by omega);have hd:decide (k<cs.length)=true:=zz2 hlt;have hyr:=c2 _ (AB7 hlt);have hnx2:Og s cs (k+1)=(Og s cs k).set (cs[k] / 2).toNat true:=by simp[Og,Eh hx1]
       generalize cs[k]=y at *;generalize Og s cs k=s1 at *;obtain⟨q,hq⟩:∃ q:Nat,(q:Int)=y / 2:=⟨(y / 2).toNat,by omega⟩;rw[←hq,Int.toNat_natCast] at hnx2;have q1:IntKind.i64.wrap (y.tdiv 2)=(q:Int):=by rw[Int.tdiv_eq_ediv_of_nonneg hyr.1,←hq];exact Af (by omega) (by omega)
       have hat:=IX (s:=s1) (v:=q) (by omega);have hset:=P6 (s:=s1) (v:=q) (b:=true);generalize s1.set q true=sq at *;simp[hd,hx1,q1,hat,hset,w3];exact Ae hI2 hS2 hμ2 (k+1) (by omega) (by omega) ⟨[0,1],by simp[hnx2]⟩
     obtain rfl:k=cs.length:=by omega
     simp[hlt,zz3 hlt,←hnx,w2];exact Ae hI hS hμ (j+1) (by omega) (by omega) ⟨[0,1],by simp⟩
 obtain rfl:j=x.2.2.1.length:=by omega
 have hge:¬ (Aa x:Int)≤(AR x:Int) - 1 - (x.2.2.1.length:Int):=by omega
 simp[AL];refine Ab (kF) ?_;simp[hge,zz3 hge];exact⟨[1],by simp⟩
end Go.Proofs.Ytnjedabjbeipeaa
