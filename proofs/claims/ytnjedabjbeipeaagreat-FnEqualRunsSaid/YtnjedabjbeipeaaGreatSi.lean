/-
  Comparing two nets by the search, by abstract walks: both sides.
  Conditions: those typed in each theorem.
-/
import Derived.Test.YtnjedabjbeipeaaGreatRo
import Derived.Test.YtnjedabjbeipeaaGreatPq
namespace Go.Proofs.YtnjedabjbeipeaaGreat
open Go.RowKit Go.ChangeShapes Go.WideShapes Go.ChangeAt
set_option linter.unusedSimpArgs false
set_option linter.unusedVariables false
set_option maxRecDepth 100000
set_option maxHeartbeats 10000000
theorem Nq {n:Nat} {l:Int} (h:0≤l∧l<2*(n:Int)) (hn:n≤400):GZ n (A4 l)=true∧GZ n (-(A4 l))=true:=by
 have hv:1≤A4 l∧A4 l≤n∨-(n:Int)≤A4 l∧A4 l≤-1:=by
  unfold A4;rw[if_pos (AP.2 (by omega))];split<;>omega
 unfold GZ;constructor
 · rw[AP.2 (by omega:-(n:Int)≤A4 l∧A4 l≤n)];simp;omega
 · rw[AP.2 (by omega:-(n:Int)≤-(A4 l)∧-(A4 l)≤n)];simp;omega
theorem Pc {n:Nat} {v:Nat} (h:v<n):GZ n ((v:Int)+1)=true∧GZ n (-((v:Int)+1))=true:=by
 unfold GZ;constructor
 · rw[AP.2 (by omega:-(n:Int)≤(v:Int)+1∧(v:Int)+1≤n)];simp;omega
 · rw[AP.2 (by omega:-(n:Int)≤-((v:Int)+1)∧-((v:Int)+1)≤n)];simp;omega
theorem MM {x:AK} {lit:Int} (h:Db x lit=true):FX (C5 x lit).1 (C5 x lit).2=true:=by
 unfold C5;rw[if_pos h];unfold Db at h;simp only[Bool.and_eq_true] at h;obtain⟨hok,hl⟩:=h;have hl:=AP.1 hl;obtain⟨⟨n1,n2,n3,n4,n5,n6⟩,-,-,o3⟩:=AA hok;obtain⟨hF,hgl,hNi,hno⟩:=A7 hok;have hN:=Bp x;have hlen:=N4 (lit:=lit) hok;have hrows:=Mb (x:=x) (lit:=lit);unfold FX;simp only[Bool.and_eq_true,decide_eq_true_eq];refine⟨⟨AP.2 (by omega),by omega⟩,?_⟩;rw[zz8];intro c hc;have hc3:=hrows c hc;unfold CY;simp only[Bool.and_eq_true,decide_eq_true_eq];refine⟨by omega,?_⟩;unfold Ej Dx at hc;rcases ACB.1 hc with hc|hc
 · rcases List.mem_cons.1 hc with rfl|hc
   · have:=(Pc (n:=A0 x) (v:=0) (by omega)).2;simpa using this
   · obtain⟨k,hk,hkc⟩:=List.mem_flatMap.1 hc;have hkr:=Kx hk;rw[E3] at hkr;unfold Kg at hkc;split at hkc
     case isFalse=>simp at hkc
     rename_i hfk;obtain⟨a1,a2,a3,a4,a5,a6,a7⟩:=CW hok hfk (by omega);have v0:=Pc (n:=A0 x) (v:=k.toNat) (by omega);have v1:=Nq (n:=A0 x) (l:=(Aj x k.toNat).1) (by omega) (by omega);have v2:=Nq (n:=A0 x) (l:=(Aj x k.toNat).2) (by omega) (by omega);simp only[K6,List.mem_cons,List.not_mem_nil,or_false] at hkc;rcases hkc with rfl|rfl|rfl
     · simp only[List.all_cons,List.all_nil,v0.2,v1.1,Bool.and_self]
     · simp only[List.all_cons,List.all_nil,v0.2,v2.1,Bool.and_self]
     · simp only[List.all_cons,List.all_nil,v0.1,v1.2,v2.2,Bool.and_self]
 · rw[zz9.1 hc];have:=Nq (n:=A0 x) (l:=lit) (by omega) (by omega);simp only[List.all_cons,List.all_nil,this.1,Bool.and_self]
theorem NW {v B:Int} {cls:List BT} (h:FX v cls=true) (hB:DM B 1 600=true) :
 ((De v cls B).1=1∧(De v cls B).2.1.length=v.toNat)∨(De v cls B).1=2∨(De v cls B).1=3:=by
 unfold De;rw[if_pos ⟨h,hB⟩];have hv4:=GW h;obtain⟨n,rfl⟩:∃ n:Nat,v=n:=⟨v.toNat,by omega⟩;have hsf:=Ft (Gv h) B.toNat B.toNat (List.replicate n 0) [] [] (by simp) (Hh n);simp only[Int.toNat_natCast];generalize CH cls B.toNat B.toNat (List.replicate n 0) [] []=r at *;obtain⟨f1,f2,f3,f4⟩:=hsf;split
 · rename_i h1;exact Or.inl ⟨rfl,by simp only[Ic];exact (f4 h1).1⟩
 · split
   · exact Or.inr (Or.inl rfl)
   · exact Or.inr (Or.inr rfl)
theorem Yo {v B:Int} {cls:List BT} (hB:¬ DM B 1 600=true):De v cls B=(0,[],[]):=by
 unfold De;rw[if_neg (fun h=>hB h.2)]
def On (bs:List Bool):List Int:=(bs.drop 1).map Ow
theorem QE {bs:List Bool}:CX (On bs):=Nc fun b _=>by unfold Ow;split<;>simp
theorem Vm {bs:List Bool} {k:Nat} {b:Bool} (h:bs[k+1]? = some b):(On bs)[k]? = some (Ow b):=by
 unfold On;rw[ABz,ABn,Nat.add_comm,h];rfl
def Sl (I:Nat) (r:Int×List Bool×List BT):Int×Int×List BT:=if r.1=2 then (1,0,r.2.2) else if r.1=1 then (2,CT (On r.2.1) I,[]) else (3,0,[])
def Ie (a b:AK) (B:Int):Int×Int×List BT :=
 if Ea a b=true∧DM B 1 600=true then Sl (Fg a b).1.toNat (De (C5 (Fg a b) (DC a b).1).1 (C5 (Fg a b) (DC a b).1).2 B) else (0,0,[])
theorem Lv {a b:AK} {B:Int} (ho:Ea a b=true):∃ (I:Nat) (gs:List Cr) (gan:List Ai) (l:Int),
 Fg a b=((I:Int),gs,gan,[l])∧(DC a b).1=l∧Al ((I:Int),gs,gan,[l])=true∧I≤20∧Jy l∧Db ((I:Int),gs,gan,[l]) l=true∧I<(C5 ((I:Int),gs,gan,[l]) l).1.toNat:=by
 obtain⟨g1,g2,g3⟩:=YQ ho;generalize Fg a b=g at *;obtain⟨gi,gs,gan,go⟩:=g;simp only at g2;subst g2;obtain⟨⟨n1,n2,n3,n4,n5,n6⟩,-,o2,-⟩:=AA g1;simp only at n1 n2;obtain⟨I,rfl⟩:∃ n:Nat,gi=n:=⟨gi.toNat,by omega⟩;have hl:=o2 (DC a b).1 (by simp[Ay])
 have hcok:Db ((I:Int),gs,gan,[(DC a b).1]) (DC a b).1=true:=by
  unfold Db;rw[g1,Bool.true_and];exact AP.2 (by omega)
 refine⟨I,gs,gan,_,rfl,rfl,g1,by omega,g3,hcok,?_⟩;unfold C5;rw[if_pos hcok];simp only[Int.toNat_natCast];unfold A0;simp only[Int.toNat_natCast];omega
theorem cH (a b:AK) (B:Int) (ha:Cz 1048576 a) (hb:Cz 1048576 b):Bx Tryz.prog 8 [Ge a,Ge b,.d (.int .i64 B)] (.tup [.d (.int .i64 (Ie a b B).1),.d (.int .i64 (Ie a b B).2.1),US (Ie a b B).2.2]):=by
 have hC:Ie a b B=if Ea a b=true∧DM B 1 600=true then Sl (Fg a b).1.toNat (De (C5 (Fg a b) (DC a b).1).1 (C5 (Fg a b) (DC a b).1).2 B) else (0,0,[]):=rfl;have km:=XD a b ha hb
 cases ho:Ea a b with
 | false =>
   rw[ho] at hC km;rw[if_neg (by simp)] at hC;rw[hC];refine B3 (by kernel_rfl) Tryz.func8 rfl rfl rfl ?_;simp[Ao];refine Ab (km) ?_;simp[Ao,e1]
 | true =>
 rw[ho] at hC km;have hkr:=E8 B 1 600
 cases hr:DM B 1 600 with
 | false =>
   rw[hr] at hC hkr;rw[if_neg (by simp)] at hC;rw[hC];refine B3 (by kernel_rfl) Tryz.func8 rfl rfl rfl ?_;simp[Ao];refine Ab (km) ?_;simp[Ao,e1];refine Ab (hkr) ?_;simp
 | true =>
 rw[hr] at hC hkr;rw[if_pos ⟨rfl,rfl⟩] at hC;obtain⟨I,gs,gan,l,e1',e2',g1,hI,hlI,hcok,hIv⟩:=Lv (B:=B) ho;rw[e1'] at hC km;rw[e2'] at hC;have kn:=Wc ((I:Int),gs,gan,[l]) l (BZ g1);rw[hcok] at kn;have hfc:=QA (x:=((I:Int),gs,gan,[l])) (lit:=l);have hco:=MM hcok;generalize C5 ((I:Int),gs,gan,[l]) l=c at *;have kc:=X9 c B hfc;have hsc:=NW hco hr;generalize De c.1 c.2 B=r at *;obtain⟨cd,bs,pf⟩:=r;simp only[Int.toNat_natCast] at hC hsc kc;unfold Sl at hC;simp only at hC;generalize Ie a b B=R at *;rcases hsc with ⟨rfl,hbl⟩|rfl|rfl
 · simp only[show ¬ (1:Int)=2 by omega,if_false,if_true] at hC;subst hC;have hvs:=QE (bs:=bs);have hat:∀ {k:Nat} {b:Bool},bs[k+1]? = some b→(On bs)[k]? = some (Ow b):=Vm;generalize On bs=vs at *;refine B3 (by kernel_rfl) Tryz.func8 rfl rfl rfl ?_;simp[Ao];refine Ab (km) ?_;simp[Ao,e1];refine Ab (hkr) ?_;simp[e1];refine Av [(10,[8]),(11,[])] (by kernel_rfl) ?_;simp[Ao,e1];refine Ab (kn) ?_;simp[Ao,Eo,e1];refine Ab (kc) ?_;simp[Eo];refine AB [false,false,false,false,false,false,false,false,false,true,false,false,false,false,true,false,true,true] (fun k:Nat=>k≤I) (fun k:Nat=>[(16,.d (.int .i64 (CT vs k))),(17,.d (.int .i64 k))]) (fun k:Nat=>[]) (fun k:Nat=>I - k) 0 ?_ ?_ ?_
   · exact Nat.zero_le _
   · exact⟨[0,1,2,3,4,5,6,7,8,9],by simp[CT]⟩
   rintro J S μ hJ hS hμ k hk;by_cases hlt:k<I
   · have hb1:bs[k+1]? = some (bs.getD (k+1) false):=by rw[List.getD_eq_getElem?_getD,zz0 (by omega)];rfl
     have w2:IntKind.i64.wrap ((k:Int)+1)=(k:Int)+1:=Ad (by omega) (by omega);have hvk:=hat hb1;have hor:=Vs hvs hvk (by omega);have hk0:¬ ((k:Int)+1<0):=by omega
     have wk:IntKind.u64.wrap (k:Int)=k:=M8 (by omega) (by omega);generalize bs.getD (k+1) false=bb at *
     cases bb with
     | true =>
       simp only[Ow,if_true] at hor;simp[zz2 hlt,hlt,w2,hb1,hk0,hor,wk];exact Ae hJ hS hμ (k+1) (by omega) (by omega) ⟨[0,1,2,3,4,5,6,7,8,9],by simp⟩
     | false =>
       have hp0:CT vs (k+1)=CT vs k:=by simp[CT,hvk,Ow]
       simp[zz2 hlt,hlt,w2,hb1,hk0];exact Ae hJ hS hμ (k+1) (by omega) (by omega) ⟨[0,1,2,3,4,5,6,7,8,9],by simp[hp0]⟩
   obtain rfl:k=I:=by omega
   simp[zz3 hlt,hlt]
 · simp only[if_true] at hC;subst hC;refine B3 (by kernel_rfl) Tryz.func8 rfl rfl rfl ?_;simp[Ao];refine Ab (km) ?_;simp[Ao,e1];refine Ab (hkr) ?_;simp[e1];refine Av [(10,[8]),(11,[])] (by kernel_rfl) ?_;simp[Ao,e1];refine Ab (kn) ?_;simp[Ao,Eo,e1];refine Ab (kc) ?_;simp[Eo]
 · simp only[show ¬ (3:Int)=2 by omega,show ¬ (3:Int)=1 by omega,if_false] at hC;subst hC;refine B3 (by kernel_rfl) Tryz.func8 rfl rfl rfl ?_;simp[Ao];refine Ab (km) ?_;simp[Ao,e1];refine Ab (hkr) ?_;simp[e1];refine Av [(10,[8]),(11,[])] (by kernel_rfl) ?_;simp[Ao,e1];refine Ab (kn) ?_;simp[Ao,Eo,e1];refine Ab (kc) ?_;simp[Eo]
theorem ZN (a b:AK) (B:Int) (ha:Cz 1048576 a) (hb:Cz 1048576 b) (ga:JO a) (gb:JO b):Bx Tryz.prog 7 [Ge a,Ge b,.d (.int .i64 B)] (.tup [.d (.int .i64 (Ie a b B).1),.d (.int .i64 (Ie a b B).2.1),US (Ie a b B).2.2]):=by
 have hC:Ie a b B=if Ea a b=true∧DM B 1 600=true then Sl (Fg a b).1.toNat (De (C5 (Fg a b) (DC a b).1).1 (C5 (Fg a b) (DC a b).1).2 B) else (0,0,[]):=rfl;have km:=VQ a b ha hb ga gb
 cases ho:Ea a b with
 | false =>
   rw[ho] at hC km;rw[if_neg (by simp)] at hC;rw[hC];refine B3 (by kernel_rfl) Tryz.func7 rfl rfl rfl ?_;simp[Ao];refine Ac (km) [] [] (by simp) ?_;simp[Ao,e1]
 | true =>
 rw[ho] at hC km;obtain⟨I,gs,gan,l,e1',e2',g1,hI,hlI,hcok,hIv⟩:=Lv (B:=B) ho;rw[e1'] at hC km;rw[e2'] at hC;have kn:=Vz ((I:Int),gs,gan,[l]) l (BZ g1) (CJ g1) hlI;rw[hcok] at kn;have hfc:=QA (x:=((I:Int),gs,gan,[l])) (lit:=l);have hco:=MM hcok;generalize C5 ((I:Int),gs,gan,[l]) l=c at *;have kc:=X4 c B hfc
 cases hr:DM B 1 600 with
 | false =>
   rw[hr] at hC;rw[if_neg (by simp)] at hC;rw[hC];rw[Yo (by simp[hr])] at kc;refine B3 (by kernel_rfl) Tryz.func7 rfl rfl rfl ?_;simp[Ao];refine Ac (km) [] [] (by simp) ?_;simp[Ao,e1];refine Av [(10,[8]),(11,[])] (by kernel_rfl) ?_;simp[Ao,e1];refine Ab (kn) ?_;simp[Ao,Eo,e1];refine Ab (kc) ?_;simp[Eo]
 | true =>
 rw[hr] at hC;rw[if_pos ⟨rfl,rfl⟩] at hC;have hsc:=NW hco hr;generalize De c.1 c.2 B=r at *;obtain⟨cd,bs,pf⟩:=r;simp only[Int.toNat_natCast] at hC hsc kc;unfold Sl at hC;simp only at hC;generalize Ie a b B=R at *;rcases hsc with ⟨rfl,hbl⟩|rfl|rfl
 · simp only[show ¬ (1:Int)=2 by omega,if_false,if_true] at hC;subst hC;have hvs:=QE (bs:=bs);have hat:∀ {k:Nat} {b:Bool},bs[k+1]? = some b→(On bs)[k]? = some (Ow b):=Vm;generalize On bs=vs at *;refine B3 (by kernel_rfl) Tryz.func7 rfl rfl rfl ?_;simp[Ao];refine Ac (km) [] [] (by simp) ?_;simp[Ao,e1];refine Av [(10,[8]),(11,[])] (by kernel_rfl) ?_;simp[Ao,e1];refine Ab (kn) ?_;simp[Ao,Eo,e1];refine Ab (kc) ?_;simp[Eo];refine AB [false,false,false,false,false,false,false,false,false,true,false,false,false,false,true,false,true,true] (fun k:Nat=>k≤I) (fun k:Nat=>[(16,.d (.int .i64 (CT vs k))),(17,.d (.int .i64 k))]) (fun k:Nat=>[]) (fun k:Nat=>I - k) 0 ?_ ?_ ?_
   · exact Nat.zero_le _
   · exact⟨[0,1,2,3,4,5,6],by simp[CT]⟩
   rintro J S μ hJ hS hμ k hk;by_cases hlt:k<I
   · have hb1:bs[k+1]? = some (bs.getD (k+1) false):=by rw[List.getD_eq_getElem?_getD,zz0 (by omega)];rfl
     have w2:IntKind.i64.wrap ((k:Int)+1)=(k:Int)+1:=Ad (by omega) (by omega);have hvk:=hat hb1;have hor:=Sw hvs hvk (by omega);have hk0:¬ ((k:Int)+1<0):=by omega
     generalize bs.getD (k+1) false=bb at *;simp[zz2 hlt,hlt,w2,hb1,hk0];refine Ab (Pp bb) ?_;simp[hor,w2];exact Ae hJ hS hμ (k+1) (by omega) (by omega) ⟨[0,1,2,3,4,5,6],by simp⟩
   obtain rfl:k=I:=by omega
   simp[zz3 hlt,hlt]
 · simp only[if_true] at hC;subst hC;refine B3 (by kernel_rfl) Tryz.func7 rfl rfl rfl ?_;simp[Ao];refine Ac (km) [] [] (by simp) ?_;simp[Ao,e1];refine Av [(10,[8]),(11,[])] (by kernel_rfl) ?_;simp[Ao,e1];refine Ab (kn) ?_;simp[Ao,Eo,e1];refine Ab (kc) ?_;simp[Eo]
 · simp only[show ¬ (3:Int)=2 by omega,show ¬ (3:Int)=1 by omega,if_false] at hC;subst hC;refine B3 (by kernel_rfl) Tryz.func7 rfl rfl rfl ?_;simp[Ao];refine Ac (km) [] [] (by simp) ?_;simp[Ao,e1];refine Av [(10,[8]),(11,[])] (by kernel_rfl) ?_;simp[Ao,e1];refine Ab (kn) ?_;simp[Ao,Eo,e1];refine Ab (kc) ?_;simp[Eo]
end Go.Proofs.YtnjedabjbeipeaaGreat
