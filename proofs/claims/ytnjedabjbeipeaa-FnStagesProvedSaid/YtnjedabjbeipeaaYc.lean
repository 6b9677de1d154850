/-
  Joined conjunctions by the program, by abstract walks.
  Conditions: those typed in each theorem.
-/
import Derived.Test.YtnjedabjbeipeaaYb
import Derived.Test.YtnjedabjbeipeaaIq
namespace Go.Proofs.Ytnjedabjbeipeaa
open Go.RowKit Go.ChangeShapes Go.WideShapes
set_option linter.unusedSimpArgs false
set_option linter.unusedVariables false
set_option maxRecDepth 100000
set_option maxHeartbeats 10000000
theorem W5 (y:AB) (hok:Aj y=true) (h300:y.2.2.1.length<300):BS Try.prog 23 [T4 y] [] (qY (Eg y)) []:=by
 have hx:=Bj hok;have kO:=FU y hx;rw[hok] at kO;have kH:=JC y hok h300;generalize Eg y=G at *;refine Cv (by kernel_rfl) Try.func23 rfl rfl rfl (by simp[AZ,Later]) (by simp[Bi,Ag.live]) ?_;simp[AL];refine Ab (kO) ?_;simp[AL];refine Ac (kH) [] [] (by simp) ?_;simp;exact⟨[],by simp⟩
def kK (x:AB) (l:Int):Bool:=decide (l % 2=0)&&(decide (Aa x≤(l / 2).toNat)&&decide ((l / 2).toNat<AR x))
def KJ (x:AB) (s:List Int):Nat→Int
 | 0=>-1
 | k+1=>if kK x (Av s k)=true then (k:Int) else KJ x s k
def gK (x:AB) (s:List Int) (p:Nat):List Int:=CA (CA (s.take p++s.drop (p+1)) (Al x (Av s p / 2).toNat).1) (Al x (Av s p / 2).toNat).2
def Xs (x:AB):Nat→List Int→List Int
 | 0,s=>s
 | n+1,s=>if KJ x s s.length<0 then s else Xs x n (gK x s (KJ x s s.length).toNat)
def Cz (x:AB) (v:Nat):List Int:=Xs x v (CA [(Al x v).1] (Al x v).2)
theorem H4 {x:AB} {s:List Int}:∀ k,-1≤KJ x s k∧KJ x s k<(k:Int)∧(∀ j:Nat,j<k→KJ x s k<j→kK x (Av s j)=false)∧(0≤KJ x s k→kK x (Av s (KJ x s k))=true)
 | 0=>by simp[KJ]
 | k+1=>by
   obtain⟨h1,h2,h3,h4⟩:=H4 (x:=x) (s:=s) k;unfold KJ;split
   · rename_i h;exact⟨by omega,by omega,fun j hj hk=>by omega,fun _=>h⟩
   · rename_i h;refine⟨h1,by omega,fun j hj hk=>?_,h4⟩;by_cases hjk:j=k
     · subst hjk;simpa using h
     · exact h3 j (by omega) hk
theorem CH {L:List Int} {x y:Int}:y∈CA L x↔y∈L∨y=x:=by
 induction L with
 | nil=>simp[CA]
 | cons z l ih =>
   unfold CA;split
   · rw[List.mem_cons,ih,List.mem_cons,or_assoc]
   · split
     · rename_i h;subst h;simp only[List.mem_cons];exact⟨.inl,fun h=>h.elim id .inl⟩
     · simp[or_comm,or_assoc,or_left_comm]
theorem Qs {L:List Int} {x:Int} (h:L.Pairwise (·<·)):(CA L x).Pairwise (·<·):=by
 induction L with
 | nil=>simp[CA]
 | cons z l ih =>
   rw[List.pairwise_cons] at h;unfold CA;split
   · rw[List.pairwise_cons];refine⟨fun y hy=>?_,ih h.2⟩;rcases CH.1 hy with hy|rfl
     · exact h.1 y hy
     · assumption
   · split
     · rw[List.pairwise_cons];exact h
     · rw[List.pairwise_cons,List.pairwise_cons];refine⟨fun y hy=>?_,h⟩;rcases List.mem_cons.1 hy with rfl|hy
       · omega
       · have:=h.1 y hy;omega
structure N6 (x:AB) (v:Nat) (s:List Int) (m:Nat):Prop where
 asc:s.Pairwise (·<·)
 rng:∀ l∈s,0≤l∧l<2*(v:Int)
 top:∀ l∈s,kK x l=true→(l / 2).toNat<m
theorem Kj {x:AB} {v0:Nat} {s:List Int} {m:Nat} (hok:Aj x=true) (h:N6 x v0 s (m+1)) {p:Nat} (hp:KJ x s s.length=(p:Int)):N6 x v0 (gK x s p) m∧(Aa x≤(Av s p / 2).toNat∧(Av s p / 2).toNat<AR x∧(Av s p / 2).toNat<m+1)∧Av s p % 2=0∧p<s.length∧(gK x s p).length≤s.length+1:=by
 obtain⟨h1,h2,h3,h4⟩:=H4 (x:=x) (s:=s) s.length;have hpl:p<s.length:=by omega
 have hm:Av s p∈s:=by unfold Av;rw[Int.toNat_natCast,zz0 hpl];exact AB7 _
 have he:kK x (Av s p)=true:=by have:=h4 (by omega);rwa [hp] at this
 have ht:=h.top _ hm he;have he2:=he;unfold kK at he2;simp only[Bool.and_eq_true,decide_eq_true_eq] at he2;obtain⟨e1,e2,e3⟩:=he2;have hr:=h.rng _ hm;obtain⟨a0,a1,a2,a3,a4,a5,a6⟩:=Cy hok e2 e3;generalize hv:(Av s p / 2).toNat=v at *
 have hrest:∀ y∈s.take p++s.drop (p+1),y∈s:=fun y hy=>by
  rcases ACE.1 hy with hy|hy
  · exact List.mem_of_mem_take hy
  · exact List.mem_of_mem_drop hy
 have hsub:(s.take p++s.drop (p+1)).Sublist s:=by
  have h5:(s.take p++s.drop (p+1)).Sublist (s.take p++s.drop p):=List.Sublist.append_left (by rw[List.drop_eq_getElem_cons hpl];exact List.sublist_cons_self _ _) _
  rwa [List.take_append_drop] at h5
 have hgt:∀ y∈s.take p++s.drop (p+1),kK x y=true→(y / 2).toNat<m:=fun y hy hey=>by
  have hys:=hrest y hy;have hyr:=h.rng y hys
  have hy2:y % 2=0:=by
   unfold kK at hey;simp only[Bool.and_eq_true,decide_eq_true_eq] at hey;exact hey.1
  have hasc:=h.asc
  have e5:s=s.take p++Av s p::s.drop (p+1):=by
   have e6:s[p]=Av s p:=by unfold Av;rw[Int.toNat_natCast,zz0 hpl];rfl
   rw[←e6,←List.drop_eq_getElem_cons hpl,List.take_append_drop]
  rcases ACE.1 hy with hy|hy
  · rw[e5,List.pairwise_append] at hasc;have:=hasc.2.2 y hy (Av s p) (by simp);omega
  · obtain⟨j,hj,hje⟩:=List.mem_iff_getElem.1 hy;rw[List.getElem_drop] at hje;have hj2:j<s.length - (p+1):=by rw[List.length_drop] at hj;exact hj
    have:=h3 (p+1+j) (by omega) (by omega);have e6:Av s ((p+1+j:Nat):Int)=y:=by unfold Av;rw[Int.toNat_natCast,zz0 (by omega)];exact hje
    rw[e6] at this;rw[hey] at this
    cases this
 refine⟨⟨Qs (Qs (h.asc.sublist hsub)),fun l hl=>?_,fun l hl hle=>?_⟩,⟨e2,e3,ht⟩,e1,hpl,?_⟩
 · unfold gK at hl;rw[hv,CH,CH] at hl;rcases hl with (hl|rfl)|rfl
   · exact h.rng l (hrest l hl)
   · omega
   · omega
 · unfold gK at hl;rw[hv,CH,CH] at hl;rcases hl with (hl|rfl)|rfl
   · exact hgt l hl hle
   · omega
   · omega
 · unfold gK;rw[hv];have l1:=Hr (a:=s.take p++s.drop (p+1)) (x:=(Al x v).1);have l2:=Hr (a:=CA (s.take p++s.drop (p+1)) (Al x v).1) (x:=(Al x v).2);have l3:(s.take p++s.drop (p+1)).length+1=s.length:=by simp;omega
   omega
theorem Mq {x:AB} {v:Nat} (hok:Aj x=true) (h1:Aa x≤v) (h2:v<AR x):N6 x v (CA [(Al x v).1] (Al x v).2) v:=by
 obtain⟨a0,a1,a2,a3,a4,a5,a6⟩:=Cy hok h1 h2;refine⟨Qs (by simp),fun l hl=>?_,fun l hl hle=>?_⟩
 · rw[CH] at hl;rcases hl with hl|rfl
   · rw[zz9.1 hl];omega
   · omega
 · rw[CH] at hl;rcases hl with hl|rfl
   · rw[zz9.1 hl];omega
   · omega
theorem mM {x:AB} {v0:Nat} {s:List Int} (h:N6 x v0 s 0):KJ x s s.length<0:=by
 obtain⟨h1,h2,h3,h4⟩:=H4 (x:=x) (s:=s) s.length;rcases Int.lt_or_le (KJ x s s.length) 0 with h'|h'
 · exact h'
 · obtain⟨p,hp⟩:∃ p:Nat,KJ x s s.length=p:=⟨(KJ x s s.length).toNat,by omega⟩;have hpl:p<s.length:=by omega
   have hm:Av s p∈s:=by unfold Av;rw[Int.toNat_natCast,zz0 hpl];exact AB7 _
   have:=h.top _ hm (by have:=h4 h';rwa [hp] at this);omega
theorem dO {x:AB} {v0:Nat} (hok:Aj x=true):∀ (m:Nat) (s:List Int),N6 x v0 s m→N6 x v0 (Xs x m s) 0
 | 0,s,h=>h
 | m+1,s,h=>by
   unfold Xs;split
   · rename_i hn;refine⟨h.asc,h.rng,fun l hl hle=>?_⟩;obtain⟨h1,h2,h3,h4⟩:=H4 (x:=x) (s:=s) s.length;obtain⟨j,hj,hje⟩:=List.mem_iff_getElem.1 hl;have:=h3 j hj (by omega);have e6:Av s (j:Int)=l:=by unfold Av;rw[Int.toNat_natCast,zz0 hj];exact hje
     rw[e6,hle] at this
     cases this
   · obtain⟨p,hp⟩:∃ p:Nat,KJ x s s.length=p:=⟨(KJ x s s.length).toNat,by omega⟩;rw[hp,Int.toNat_natCast];exact dO hok m _ (Kj hok h hp).1
theorem Y7 {x:AB} {v0:Nat} (hok:Aj x=true):∀ (m:Nat) (s:List Int),N6 x v0 s m→Aa x≤m→(Xs x m s).length≤s.length+(m - Aa x)
 | 0,s,h,hm=>by unfold Aa at hm;omega
 | m+1,s,h,hm=>by
   unfold Xs;split
   · omega
   · rename_i hn;obtain⟨p,hp⟩:∃ p:Nat,KJ x s s.length=p:=⟨(KJ x s s.length).toNat,by have:=(H4 (x:=x) (s:=s) s.length).1;omega⟩;rw[hp,Int.toNat_natCast];obtain⟨c1,c2,c3,c4,c5⟩:=Kj hok h hp;have:=Y7 hok m _ c1 (by omega);omega
theorem Iv {x:AB} {v:Nat} (hok:Aj x=true) (h1:Aa x≤v) (h2:v<AR x):N6 x v (Cz x v) 0∧(Cz x v).length≤2+(v - Aa x):=by
 have h0:=Mq hok h1 h2;refine⟨dO hok v _ h0,?_⟩;have:=Y7 hok v _ h0 h1;have l1:=Hr (a:=[(Al x v).1]) (x:=(Al x v).2);unfold Cz;simp at l1;omega
theorem J6 (x:AB) (v:Nat) (hok:Aj x=true) (h1:Aa x≤v) (h2:v<AR x):BS Try.prog 64 [T4 x,.d (.int .i64 v)] [] (DE (Cz x v)) []:=by
 have hx:=Bj hok;obtain⟨⟨n1,n2,n3,n4,n5,n6⟩,-,-,-⟩:=Ax hok;obtain⟨hF,hgl,hNi,hno⟩:=Bz hok;have hN:=Bn x;have kF:=AW x ⟨n1,n2⟩ n3;rw[←hF] at kF;have h0:=Mq hok h1 h2;obtain⟨a0,a1,a2,a3,a4,a5,a6⟩:=Cy hok h1 h2;have hR:Xs x v (CA [(Al x v).1] (Al x v).2)=Cz x v:=rfl;have l0:=Hr (a:=[(Al x v).1]) (x:=(Al x v).2);generalize Cz x v=R at *;generalize Al x v=A at *;have hL:(Ao A).length=2:=rfl;have w1:IntKind.i64.wrap ((v:Int) - (Aa x:Int))=((v - Aa x:Nat):Int):=by rw[Af (by omega) (by omega)];omega
 have k1:=Df [A.1] A.2 (by simp);generalize hs0:CA [A.1] A.2=s0 at *;refine Bl (by kernel_rfl) Try.func64 rfl rfl rfl (by simp[AZ,Later]) (by simp[Bi,Ag.live]) ?_;simp[AL];refine AJ 9 (by kernel_rfl) ?_;simp;refine Ab (kF) ?_;simp[w1,a0,hL,Ao];refine Ac (k1) [2] [] (by simp) ?_;simp;have l0':s0.length≤2:=by simpa using l0
 refine As [false,false,true,false,false,false,true] (fun q:List Int×Nat=>N6 x v q.1 q.2∧Xs x q.2 q.1=R∧q.1.length+q.2≤2+v) (fun q:List Int×Nat=>[(6,DE q.1)]) (fun q:List Int×Nat=>fun _=>[gZ x]) (fun q:List Int×Nat=>q.2) (s0,v) ?_ ?_ ?_
 · exact⟨h0,hR,by simp only;omega⟩
 · exact⟨[0],by simp⟩
 clear hR h0 hs0 k1 l0 l0' a0 a1 a2 a3 a4 a5 a6 hL w1;rintro I S μ hI hS hμ ⟨s,m⟩ ⟨q1,q2,q3⟩;simp only at q1 q2 q3 hI hμ ⊢;simp[DE,B3];refine As [false,false,true,false,false,false,true,true,false,false,false,false,false,false,false,false,false,false,false,false,false,false,false,false,false,false,true,true,true] (fun k:Nat=>k≤s.length) (fun k:Nat=>[(7,.d (.int .i64 (KJ x s k))),(28,.d (.int .i64 k))]) (fun k:Nat=>fun sl=>sl) (fun k:Nat=>s.length - k) 0 ?_ ?_ ?_
 · exact Nat.zero_le _
 · exact⟨[0],by simp[KJ]⟩
 · rintro I2 S2 μ2 hI2 hS2 hμ2 k hk;by_cases hlt:k<s.length
   · obtain⟨l,hl⟩:∃ l,s[k]? = some l:=⟨_,zz0 hlt⟩;have hlr:=q1.rng l (zz6 hl);have hnx:KJ x s (k+1)=if kK x l=true then (k:Int) else KJ x s k:=by rw[KJ,Eh hl]
     have w1:IntKind.i64.wrap ((k:Int)+1)=(k:Int)+1:=Af (by omega) (by omega);have w2:IntKind.i64.wrap (l.tdiv 2)=((l / 2).toNat:Int):=by rw[Int.tdiv_eq_ediv_of_nonneg hlr.1,Af (by omega) (by omega)];omega
     have w3:l.tmod 2=l % 2:=Int.tmod_eq_emod_of_nonneg hlr.1;have kI:=It x (l / 2).toNat ⟨n1,n2⟩ n3 n4;have hE:kK x l=(decide (l % 2=0)&&(decide (Aa x≤(l / 2).toNat)&&decide ((l / 2).toNat<AR x))):=rfl;generalize (decide (Aa x≤(l / 2).toNat)&&decide ((l / 2).toNat<AR x))=bb at *;generalize (l / 2).toNat=lv at *;generalize KJ x s k=at0 at *;by_cases hz:l % 2=0
     · rw[zz2 hz,Bool.true_and] at hE
       cases bb with
       | true =>
         rw[if_pos hE] at hnx;simp[zz2 hlt,hl,w3,hz,w2];refine Ab (kI) ?_;simp[w1];exact Ae hI2 hS2 hμ2 (k+1) (by omega) (by omega) ⟨[0],by simp[hnx]⟩
       | false =>
         rw[if_neg (by rw[hE];simp)] at hnx;simp[zz2 hlt,hl,w3,hz,w2];refine Ab (kI) ?_;simp[w1];exact Ae hI2 hS2 hμ2 (k+1) (by omega) (by omega) ⟨[0],by simp[hnx]⟩
     · rw[zz3 hz,Bool.false_and] at hE;rw[if_neg (by rw[hE];simp)] at hnx;simp[zz2 hlt,hl,w3,show (l % 2==0)=false by simpa using hz,hz,w2,w1];exact Ae hI2 hS2 hμ2 (k+1) (by omega) (by omega) ⟨[0],by simp[hnx]⟩
   obtain rfl:k=s.length:=by omega
   clear hI2 hS2 hμ2;obtain⟨t1,t2,-,-⟩:=H4 (x:=x) (s:=s) s.length;by_cases hneg:KJ x s s.length<0
   · have hRs:s=R:=by
      rw[←q2]
      cases m with
      | zero=>rfl
      | succ m=>unfold Xs;rw[if_pos hneg]
     subst hRs;simp[hlt,zz3 hlt,hneg,zz2 hneg,DE,B3];exact⟨[],by simp⟩
   obtain⟨p,hp⟩:∃ p:Nat,KJ x s s.length=p:=⟨(KJ x s s.length).toNat,by omega⟩
   cases m with
   | zero=>exact absurd (mM q1) hneg
   | succ m =>
   obtain⟨c1,⟨c2,c3,c4⟩,c5,c6,c7⟩:=Kj hok q1 hp
   have hq2:Xs x m (gK x s p)=R:=by
    rw[←q2]
    conv=>rhs;unfold Xs
    rw[if_neg hneg,hp,Int.toNat_natCast]
   have hsp:s[p]? = some (Av s p):=by have:=CJ (lv:=s) (k:=(p:Int)) (by omega);rwa [Int.toNat_natCast] at this
   have hlr:=q1.rng _ (zz6 hsp);obtain⟨a0,a1,a2,a3,a4,a5,a6⟩:=Cy hok c2 c3;have w2:IntKind.i64.wrap ((Av s p).tdiv 2)=((Av s p / 2).toNat:Int):=by rw[Int.tdiv_eq_ediv_of_nonneg hlr.1,Af (by omega) (by omega)];omega
   have k1:=fun hl=>Df (s.take p++s.drop (p+1)) (Al x (Av s p / 2).toNat).1 hl;have k2:=fun hl=>Df (CA (s.take p++s.drop (p+1)) (Al x (Av s p / 2).toNat).1) (Al x (Av s p / 2).toNat).2 hl;have hcs:CA (CA (s.take p++s.drop (p+1)) (Al x (Av s p / 2).toNat).1) (Al x (Av s p / 2).toNat).2=gK x s p:=rfl;rw[hcs] at k2;generalize gK x s p=s2 at *;generalize (Av s p / 2).toNat=u at *;generalize Al x u=A at *;generalize Av s p=l at *;have hL:(Ao A).length=2:=rfl;have w3:IntKind.i64.wrap ((u:Int) - (Aa x:Int))=((u - Aa x:Nat):Int):=by rw[Af (by omega) (by omega)];omega
   have w4:IntKind.i64.wrap ((p:Int)+1)=((p+1:Nat):Int):=by rw[Af (by omega) (by omega)];omega
   have hA:(s.map (e1 Az)).take p=(s.take p).map (e1 Az):=List.map_take.symm;have hB:(s.map (e1 Az)).drop (p+1)=(s.drop (p+1)).map (e1 Az):=List.map_drop.symm;have hC:(s.map (e1 Az)).take s.length=s.map (e1 Az):=ACe (by simp);have lA:(s.take p).length≤1000:=by rw[ACL];omega
   have lB:(s.drop (p+1)).length≤1000:=by rw[List.length_drop];omega
   rw[hp];generalize s.take p=sA at *;generalize s.drop (p+1)=sB at *;have k1:=k1 (by simp;omega);have li:=Hr (a:=sA++sB) (x:=A.1);have k2:=k2 (by simp at li;omega);generalize CA (sA++sB) A.1=s1 at *;simp[hlt,zz3 hlt,show ¬ (p:Int)<0 by omega,zz3 (show ¬ (p:Int)<0 by omega),DE,B3];refine AJ 13 (by kernel_rfl) ?_;simp[hsp,w2];refine Ab (kF) ?_;simp[w3,a0,hL,Ao];refine AS [(4,[5,6,7,8]),(9,[]),(10,[])] (by kernel_rfl) ?_;simp[show p≤s.length by omega,hA,w4,show (0:Int)≤(p:Int)+1 by omega,show p+1≤s.length by omega,hB,hC];refine Aw AX rfl (by simp) rfl (by simp) (by simp) (by first | (simp;done)|(simp;omega)) (by simp[Bp,A4]) ?_;simp;refine Aw AX rfl (by simp) rfl (by simp) (by simp) (by first | (simp;done)|(simp;omega)) (by simp[Bp,A4]) ?_;simp;refine AS [(3,[4,5]),(6,[]),(7,[])] (by kernel_rfl) ?_;simp;refine Au (k1) [4] [] (by simp) (by simp[Bg]) ?_;simp;refine Au (k2) [] [] (by simp) (by simp[Bg]) ?_;simp;exact Ae hI hS hμ (s2,m) ⟨c1,hq2,by simp only;omega⟩ (by simp only;omega) ⟨[0],by simp⟩
end Go.Proofs.Ytnjedabjbeipeaa
