/-
  Comparing two nets by the search, by abstract walks: both sides.
  Conditions: those typed in each theorem.
-/
import Derived.Test.YtnjedabjbeipeaaGreatRo
import Derived.Test.YtnjedabjbeipeaaGreatPq
namespace Go.Proofs.YtnjedabjbeipeaaGreat
open Go.RowKit Go.ChangeShapes Go.WideShapes Go.ChangeAt
set_option linter.unusedSimpArgs false
set_option linter.unusedVariables false
set_option maxRecDepth 100000
set_option maxHeartbeats 10000000
theorem NI {n:Nat} {l:Int} (h:0≤l∧l<2*(n:Int)) (hn:n≤400):Hq n (A5 l)=true∧Hq n (-(A5 l))=true:=by
 have hv:1≤A5 l∧A5 l≤n∨-(n:Int)≤A5 l∧A5 l≤-1:=by
  unfold A5;rw[if_pos (AP.2 (by omega))];split<;>omega
 unfold Hq;constructor
 · rw[AP.2 (by omega:-(n:Int)≤A5 l∧A5 l≤n)];simp;omega
 · rw[AP.2 (by omega:-(n:Int)≤-(A5 l)∧-(A5 l)≤n)];simp;omega
theorem Ql {n:Nat} {v:Nat} (h:v<n):Hq n ((v:Int)+1)=true∧Hq n (-((v:Int)+1))=true:=by
 unfold Hq;constructor
 · rw[AP.2 (by omega:-(n:Int)≤(v:Int)+1∧(v:Int)+1≤n)];simp;omega
 · rw[AP.2 (by omega:-(n:Int)≤-((v:Int)+1)∧-((v:Int)+1)≤n)];simp;omega
theorem Nl {x:AK} {lit:Int} (h:Dm x lit=true):Gk (Df x lit).1 (Df x lit).2=true:=by
 unfold Df;rw[if_pos h];unfold Dm at h;simp only[Bool.and_eq_true] at h;obtain⟨hok,hl⟩:=h;have hl:=AP.1 hl;obtain⟨⟨n1,n2,n3,n4,n5,n6⟩,-,-,o3⟩:=AA hok;obtain⟨hF,hgl,hNi,hno⟩:=A9 hok;have hN:=Br x;have hlen:=Oz (lit:=lit) hok;have hrows:=Ma (x:=x) (lit:=lit);unfold Gk;simp only[Bool.and_eq_true,decide_eq_true_eq];refine⟨⟨AP.2 (by omega),by omega⟩,?_⟩;rw[GA];intro c hc;have hc3:=hrows c hc;unfold C6;simp only[Bool.and_eq_true,decide_eq_true_eq];refine⟨by omega,?_⟩;unfold EA DH at hc;rcases CO.1 hc with hc|hc
 · rcases List.mem_cons.1 hc with rfl|hc
   · have:=(Ql (n:=A0 x) (v:=0) (by omega)).2;simpa using this
   · obtain⟨k,hk,hkc⟩:=List.mem_flatMap.1 hc;have hkr:=K2 hk;rw[Fm] at hkr;unfold KJ at hkc;split at hkc
     case isFalse=>simp at hkc
     rename_i hfk;obtain⟨a1,a2,a3,a4,a5,a6,a7⟩:=C3 hok hfk (by omega);have v0:=Ql (n:=A0 x) (v:=k.toNat) (by omega);have v1:=NI (n:=A0 x) (l:=(Aj x k.toNat).1) (by omega) (by omega);have v2:=NI (n:=A0 x) (l:=(Aj x k.toNat).2) (by omega) (by omega);simp only[Lm,List.mem_cons,List.not_mem_nil,or_false] at hkc;rcases hkc with rfl|rfl|rfl
     · simp only[List.all_cons,List.all_nil,v0.2,v1.1,Bool.and_self]
     · simp only[List.all_cons,List.all_nil,v0.2,v2.1,Bool.and_self]
     · simp only[List.all_cons,List.all_nil,v0.1,v1.2,v2.2,Bool.and_self]
 · rw[Hz.1 hc];have:=NI (n:=A0 x) (l:=lit) (by omega) (by omega);simp only[List.all_cons,List.all_nil,this.1,Bool.and_self]
theorem OA {v B:Int} {cls:List BW} (h:Gk v cls=true) (hB:DX B 1 600=true) :
 ((Dn v cls B).1=1∧(Dn v cls B).2.1.length=v.toNat)∨(Dn v cls B).1=2∨(Dn v cls B).1=3:=by
 unfold Dn;rw[if_pos ⟨h,hB⟩];have hv4:=Hm h;obtain⟨n,rfl⟩:∃ n:Nat,v=n:=⟨v.toNat,by omega⟩;have hsf:=FM (GV h) B.toNat B.toNat (List.replicate n 0) [] [] (by simp) (HK n);simp only[Int.toNat_natCast];generalize CN cls B.toNat B.toNat (List.replicate n 0) [] []=r at *;obtain⟨f1,f2,f3,f4⟩:=hsf;split
 · rename_i h1;exact Or.inl ⟨rfl,by simp only[IW];exact (f4 h1).1⟩
 · split
   · exact Or.inr (Or.inl rfl)
   · exact Or.inr (Or.inr rfl)
theorem X0 {v B:Int} {cls:List BW} (hB:¬ DX B 1 600=true):Dn v cls B=(0,[],[]):=by
 unfold Dn;rw[if_neg (fun h=>hB h.2)]
def OO (bs:List Bool):List Int:=(bs.drop 1).map Pb
theorem Qx {bs:List Bool}:C5 (OO bs):=M7 fun b _=>by unfold Pb;split<;>simp
theorem VO {bs:List Bool} {k:Nat} {b:Bool} (h:bs[k+1]? = some b):(OO bs)[k]? = some (Pb b):=by
 unfold OO;rw[Di,CL,Nat.add_comm,h];rfl
def Se (I:Nat) (r:Int×List Bool×List BW):Int×Int×List BW:=if r.1=2 then (1,0,r.2.2) else if r.1=1 then (2,C1 (OO r.2.1) I,[]) else (3,0,[])
def IQ (a b:AK) (B:Int):Int×Int×List BW :=
 if Ek a b=true∧DX B 1 600=true then Se (Fx a b).1.toNat (Dn (Df (Fx a b) (DN a b).1).1 (Df (Fx a b) (DN a b).1).2 B) else (0,0,[])
theorem LW {a b:AK} {B:Int} (ho:Ek a b=true):∃ (I:Nat) (gs:List Cx) (gan:List Ai) (l:Int),
 Fx a b=((I:Int),gs,gan,[l])∧(DN a b).1=l∧Al ((I:Int),gs,gan,[l])=true∧I≤20∧J0 l∧Dm ((I:Int),gs,gan,[l]) l=true∧I<(Df ((I:Int),gs,gan,[l]) l).1.toNat:=by
 obtain⟨g1,g2,g3⟩:=Zk ho;generalize Fx a b=g at *;obtain⟨gi,gs,gan,go⟩:=g;simp only at g2;subst g2;obtain⟨⟨n1,n2,n3,n4,n5,n6⟩,-,o2,-⟩:=AA g1;simp only at n1 n2;obtain⟨I,rfl⟩:∃ n:Nat,gi=n:=⟨gi.toNat,by omega⟩;have hl:=o2 (DN a b).1 (by simp[Ay])
 have hcok:Dm ((I:Int),gs,gan,[(DN a b).1]) (DN a b).1=true:=by
  unfold Dm;rw[g1,Bool.true_and];exact AP.2 (by omega)
 refine⟨I,gs,gan,_,rfl,rfl,g1,by omega,g3,hcok,?_⟩;unfold Df;rw[if_pos hcok];simp only[Int.toNat_natCast];unfold A0;simp only[Int.toNat_natCast];omega
theorem cL (a b:AK) (B:Int) (ha:CF 1048576 a) (hb:CF 1048576 b):BA Tryz.prog 8 [GD a,GD b,.d (.int .i64 B)] (.tup [.d (.int .i64 (IQ a b B).1),.d (.int .i64 (IQ a b B).2.1),VU (IQ a b B).2.2]):=by
 have hC:IQ a b B=if Ek a b=true∧DX B 1 600=true then Se (Fx a b).1.toNat (Dn (Df (Fx a b) (DN a b).1).1 (Df (Fx a b) (DN a b).1).2 B) else (0,0,[]):=rfl;have km:=Ya a b ha hb
 cases ho:Ek a b with
 | false =>
   rw[ho] at hC km;rw[if_neg (by simp)] at hC;rw[hC];refine B7 (by kernel_rfl) Tryz.func8 rfl rfl rfl ?_;simp[Ao];refine Ab (km) ?_;simp[Ao,e1]
 | true =>
 rw[ho] at hC km;have hkr:=Fl B 1 600
 cases hr:DX B 1 600 with
 | false =>
   rw[hr] at hC hkr;rw[if_neg (by simp)] at hC;rw[hC];refine B7 (by kernel_rfl) Tryz.func8 rfl rfl rfl ?_;simp[Ao];refine Ab (km) ?_;simp[Ao,e1];refine Ab (hkr) ?_;simp
 | true =>
 rw[hr] at hC hkr;rw[if_pos ⟨rfl,rfl⟩] at hC;obtain⟨I,gs,gan,l,e1',e2',g1,hI,hlI,hcok,hIv⟩:=LW (B:=B) ho;rw[e1'] at hC km;rw[e2'] at hC;have kn:=Wl ((I:Int),gs,gan,[l]) l (B3 g1);rw[hcok] at kn;have hfc:=PV (x:=((I:Int),gs,gan,[l])) (lit:=l);have hco:=Nl hcok;generalize Df ((I:Int),gs,gan,[l]) l=c at *;have kc:=Y2 c B hfc;have hsc:=OA hco hr;generalize Dn c.1 c.2 B=r at *;obtain⟨cd,bs,pf⟩:=r;simp only[Int.toNat_natCast] at hC hsc kc;unfold Se at hC;simp only at hC;generalize IQ a b B=R at *;rcases hsc with ⟨rfl,hbl⟩|rfl|rfl
 · simp only[show ¬ (1:Int)=2 by omega,if_false,if_true] at hC;subst hC;have hvs:=Qx (bs:=bs);have hat:∀ {k:Nat} {b:Bool},bs[k+1]? = some b→(OO bs)[k]? = some (Pb b):=VO;generalize OO bs=vs at *;refine B7 (by kernel_rfl) Tryz.func8 rfl rfl rfl ?_;simp[Ao];refine Ab (km) ?_;simp[Ao,e1];refine Ab (hkr) ?_;simp[e1];refine Av [(10,[8]),(11,[])] (by kernel_rfl) ?_;simp[Ao,e1];refine Ab (kn) ?_;simp[Ao,EE,e1];refine Ab (kc) ?_;simp[EE];refine AB [false,false,false,false,false,false,false,false,false,true,false,false,false,false,true,false,true,true] (fun k:Nat=>k≤I) (fun k:Nat=>[(16,.d (.int .i64 (C1 vs k))),(17,.d (.int .i64 k))]) (fun k:Nat=>[]) (fun k:Nat=>I - k) 0 ?_ ?_ ?_
   · exact Nat.zero_le _
   · exact⟨[0,1,2,3,4,5,6,7,8,9],by simp[C1]⟩
   rintro J S μ hJ hS hμ k hk;by_cases hlt:k<I
   · have hb1:bs[k+1]? = some (bs.getD (k+1) false):=by rw[List.getD_eq_getElem?_getD,A1 (by omega)];rfl
     have w2:IntKind.i64.wrap ((k:Int)+1)=(k:Int)+1:=Ad (by omega) (by omega);have hvk:=hat hb1;have hor:=Vv hvs hvk (by omega);have hk0:¬ ((k:Int)+1<0):=by omega
     have wk:IntKind.u64.wrap (k:Int)=k:=NM (by omega) (by omega);generalize bs.getD (k+1) false=bb at *
     cases bb with
     | true =>
       simp only[Pb,if_true] at hor;simp[A8 hlt,hlt,w2,hb1,hk0,hor,wk];exact Ae hJ hS hμ (k+1) (by omega) (by omega) ⟨[0,1,2,3,4,5,6,7,8,9],by simp⟩
     | false =>
       have hp0:C1 vs (k+1)=C1 vs k:=by simp[C1,hvk,Pb]
       simp[A8 hlt,hlt,w2,hb1,hk0];exact Ae hJ hS hμ (k+1) (by omega) (by omega) ⟨[0,1,2,3,4,5,6,7,8,9],by simp[hp0]⟩
   obtain rfl:k=I:=by omega
   simp[BH hlt,hlt]
 · simp only[if_true] at hC;subst hC;refine B7 (by kernel_rfl) Tryz.func8 rfl rfl rfl ?_;simp[Ao];refine Ab (km) ?_;simp[Ao,e1];refine Ab (hkr) ?_;simp[e1];refine Av [(10,[8]),(11,[])] (by kernel_rfl) ?_;simp[Ao,e1];refine Ab (kn) ?_;simp[Ao,EE,e1];refine Ab (kc) ?_;simp[EE]
 · simp only[show ¬ (3:Int)=2 by omega,show ¬ (3:Int)=1 by omega,if_false] at hC;subst hC;refine B7 (by kernel_rfl) Tryz.func8 rfl rfl rfl ?_;simp[Ao];refine Ab (km) ?_;simp[Ao,e1];refine Ab (hkr) ?_;simp[e1];refine Av [(10,[8]),(11,[])] (by kernel_rfl) ?_;simp[Ao,e1];refine Ab (kn) ?_;simp[Ao,EE,e1];refine Ab (kc) ?_;simp[EE]
theorem aC (a b:AK) (B:Int) (ha:CF 1048576 a) (hb:CF 1048576 b) (ga:Kz a) (gb:Kz b):BA Tryz.prog 7 [GD a,GD b,.d (.int .i64 B)] (.tup [.d (.int .i64 (IQ a b B).1),.d (.int .i64 (IQ a b B).2.1),VU (IQ a b B).2.2]):=by
 have hC:IQ a b B=if Ek a b=true∧DX B 1 600=true then Se (Fx a b).1.toNat (Dn (Df (Fx a b) (DN a b).1).1 (Df (Fx a b) (DN a b).1).2 B) else (0,0,[]):=rfl;have km:=WT a b ha hb ga gb
 cases ho:Ek a b with
 | false =>
   rw[ho] at hC km;rw[if_neg (by simp)] at hC;rw[hC];refine B7 (by kernel_rfl) Tryz.func7 rfl rfl rfl ?_;simp[Ao];refine Ac (km) [] [] (by simp) ?_;simp[Ao,e1]
 | true =>
 rw[ho] at hC km;obtain⟨I,gs,gan,l,e1',e2',g1,hI,hlI,hcok,hIv⟩:=LW (B:=B) ho;rw[e1'] at hC km;rw[e2'] at hC;have kn:=WL ((I:Int),gs,gan,[l]) l (B3 g1) (CT g1) hlI;rw[hcok] at kn;have hfc:=PV (x:=((I:Int),gs,gan,[l])) (lit:=l);have hco:=Nl hcok;generalize Df ((I:Int),gs,gan,[l]) l=c at *;have kc:=XX c B hfc
 cases hr:DX B 1 600 with
 | false =>
   rw[hr] at hC;rw[if_neg (by simp)] at hC;rw[hC];rw[X0 (by simp[hr])] at kc;refine B7 (by kernel_rfl) Tryz.func7 rfl rfl rfl ?_;simp[Ao];refine Ac (km) [] [] (by simp) ?_;simp[Ao,e1];refine Av [(10,[8]),(11,[])] (by kernel_rfl) ?_;simp[Ao,e1];refine Ab (kn) ?_;simp[Ao,EE,e1];refine Ab (kc) ?_;simp[EE]
 | true =>
 rw[hr] at hC;rw[if_pos ⟨rfl,rfl⟩] at hC;have hsc:=OA hco hr;generalize Dn c.1 c.2 B=r at *;obtain⟨cd,bs,pf⟩:=r;simp only[Int.toNat_natCast] at hC hsc kc;unfold Se at hC;simp only at hC;generalize IQ a b B=R at *;rcases hsc with ⟨rfl,hbl⟩|rfl|rfl
 · simp only[show ¬ (1:Int)=2 by omega,if_false,if_true] at hC;subst hC;have hvs:=Qx (bs:=bs);have hat:∀ {k:Nat} {b:Bool},bs[k+1]? = some b→(OO bs)[k]? = some (Pb b):=VO;generalize OO bs=vs at *;refine B7 (by kernel_rfl) Tryz.func7 rfl rfl rfl ?_;simp[Ao];refine Ac (km) [] [] (by simp) ?_;simp[Ao,e1];refine Av [(10,[8]),(11,[])] (by kernel_rfl) ?_;simp[Ao,e1];refine Ab (kn) ?_;simp[Ao,EE,e1];refine Ab (kc) ?_;simp[EE];refine AB [false,false,false,false,false,false,false,false,false,true,false,false,false,false,true,false,true,true] (fun k:Nat=>k≤I) (fun k:Nat=>[(16,.d (.int .i64 (C1 vs k))),(17,.d (.int .i64 k))]) (fun k:Nat=>[]) (fun k:Nat=>I - k) 0 ?_ ?_ ?_
   · exact Nat.zero_le _
   · exact⟨[0,1,2,3,4,5,6],by simp[C1]⟩
   rintro J S μ hJ hS hμ k hk;by_cases hlt:k<I
   · have hb1:bs[k+1]? = some (bs.getD (k+1) false):=by rw[List.getD_eq_getElem?_getD,A1 (by omega)];rfl
     have w2:IntKind.i64.wrap ((k:Int)+1)=(k:Int)+1:=Ad (by omega) (by omega);have hvk:=hat hb1;have hor:=Sx hvs hvk (by omega);have hk0:¬ ((k:Int)+1<0):=by omega
     generalize bs.getD (k+1) false=bb at *;simp[A8 hlt,hlt,w2,hb1,hk0];refine Ab (P9 bb) ?_;simp[hor,w2];exact Ae hJ hS hμ (k+1) (by omega) (by omega) ⟨[0,1,2,3,4,5,6],by simp⟩
   obtain rfl:k=I:=by omega
   simp[BH hlt,hlt]
 · simp only[if_true] at hC;subst hC;refine B7 (by kernel_rfl) Tryz.func7 rfl rfl rfl ?_;simp[Ao];refine Ac (km) [] [] (by simp) ?_;simp[Ao,e1];refine Av [(10,[8]),(11,[])] (by kernel_rfl) ?_;simp[Ao,e1];refine Ab (kn) ?_;simp[Ao,EE,e1];refine Ab (kc) ?_;simp[EE]
 · simp only[show ¬ (3:Int)=2 by omega,show ¬ (3:Int)=1 by omega,if_false] at hC;subst hC;refine B7 (by kernel_rfl) Tryz.func7 rfl rfl rfl ?_;simp[Ao];refine Ac (km) [] [] (by simp) ?_;simp[Ao,e1];refine Av [(10,[8]),(11,[])] (by kernel_rfl) ?_;simp[Ao,e1];refine Ab (kn) ?_;simp[Ao,EE,e1];refine Ab (kc) ?_;simp[EE]
end Go.Proofs.YtnjedabjbeipeaaGreat
