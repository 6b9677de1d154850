/-
  The search ends with a refutation where the leaves tell everything. Plain lemmas.
  Conditions: those typed in each theorem.
-/
import Derived.Test.YtnjedabjbeipeaaQr
namespace Go.Proofs.Ytnjedabjbeipeaa
open Go.RowKit Go.ChangeShapes Go.WideShapes
set_option linter.unusedSimpArgs false
set_option linter.unusedVariables false
set_option maxRecDepth 100000
set_option maxHeartbeats 10000000
def zF (F:Nat) (p:List Int):Nat:=(List.range F).countP fun m=>p.getD m 0==0
theorem wI {F:Nat} {p:List Int}:zF F p≤F:=by
 unfold zF;have:=List.countP_le_length (p:=fun m=>p.getD m 0==0) (l:=List.range F);simpa using this
theorem dM {F:Nat} {p q:List Int} (h:FM p q):zF F q≤zF F p:=by
 unfold zF;refine List.countP_mono_left fun m _ hq=>?_;simp only[beq_iff_eq] at hq ⊢;apply Classical.byContradiction;intro hp;rw[h.2 m hp] at hq;exact hp hq
theorem gH {F:Nat} {q:List Int} {z:Nat} {x:Int} (hz:z<F) (hl:z<q.length) (h0:q.getD z 0=0) (hx:x≠0):zF F (q.set z x)+1≤zF F q:=by
 unfold zF;refine RN _ (fun m _ hm=>?_) ⟨z,ACJ.2 hz,by simp only[h0];rfl,?_⟩
 · simp only[beq_iff_eq] at hm ⊢;by_cases hmz:m=z
   · subst hmz;exact h0
   · rw[List.getD_eq_getElem?_getD,ACT (fun e=>hmz e.symm)] at hm;rw[List.getD_eq_getElem?_getD];exact hm
 · rw[List.getD_eq_getElem?_getD,ACf hl];simpa using hx
theorem VJ {cls:List BB} {v F:Nat} (hc:BK v cls) (hfix:∀ q:List Int,q.length=v→Cj q→L8 cls q→Am q<F∧Am q<v):∀ (k left:Nat) (p dec:List Int) (pf:List BB),p.length=v→Cj p→zF F p+1≤k→2 ^ (zF F p+1) - 1≤left →
 (C2 cls k left p dec pf).code=2∧left≤(C2 cls k left p dec pf).left+(2 ^ (zF F p+1) - 1)
 | 0,left,p,dec,pf,hp,ht,hk,hl=>by omega
 | k+1,left,p,dec,pf,hp,ht,hk,hl=>by
   have ih:=VJ hc hfix k;have hpos:1≤2 ^ zF F p:=Nat.one_le_two_pow;have hpow:2 ^ (zF F p+1)=2*2 ^ zF F p:=by rw[Nat.pow_succ];omega
   unfold C2;rw[if_neg (by omega)]
   cases hq:En cls p with
   | none=>simp only;exact⟨trivial,by omega⟩
   | some q =>
     simp only;obtain⟨f1,f2,f3⟩:=CZ (by rw[hp];exact hc) ht hq;obtain⟨g1,g2⟩:=Rx (by rw[hp];exact hc) ht hq;obtain⟨zz1,zz2⟩:=hfix q (by omega) f2 g1;have hzu:=dM (F:=F) g2;generalize hR:HA (C2 cls k) (left - 1) dec pf q=R at *;have hz:¬ Am q=q.length:=by omega
     obtain⟨z1,z2⟩:=Zb hz;have s1:=gH (F:=F) (x:=-1) zz1 z1 z2 (by omega);have s2:=gH (F:=F) (x:=1) zz1 z1 z2 (by omega);have p1:2 ^ (zF F (q.set (Am q) (-1))+1)≤2 ^ zF F p:=ACU (by omega) (by omega);have p2:2 ^ (zF F (q.set (Am q) 1)+1)≤2 ^ zF F p:=ACU (by omega) (by omega);obtain⟨a,b⟩:=Mx hR hz;obtain⟨j1,j2⟩:=ih (left - 1) (q.set (Am q) (-1)) (dec++[-((Am q:Int)+1)]) pf (by simp;omega) (D3 f2 _ (by omega)) (by omega) (by omega);have b2:=b j1 _ rfl;obtain⟨i1,i2⟩:=ih (C2 cls k (left - 1) (q.set (Am q) (-1)) (dec++[-((Am q:Int)+1)]) pf).left (q.set (Am q) 1) (dec++[(Am q:Int)+1]) (C2 cls k (left - 1) (q.set (Am q) (-1)) (dec++[-((Am q:Int)+1)]) pf).pf (by simp;omega) (D3 f2 _ (by omega)) (by omega) (by omega);rw[b2.2 i1];exact⟨rfl,by simp only;omega⟩
theorem LI {q:List Int} {c:List Int} {l0:Int} (h:B8 q c=(0,false)) (h0:l0≠0) (ho:∀ l∈c,l=l0∨Bq q l=-1):Bq q l0=1:=by
 apply Classical.byContradiction;intro hn;refine F6 (q:=q) h0 c 0 (.inl rfl) (fun l hl=>?_) h;rcases ho l hl with rfl|h'
 · exact .inr ⟨rfl,hn⟩
 · exact .inl h'
theorem Kz {q:List Int} {l:Int} (hl:l≠0):Bq q (-l)=- Bq q l:=by
 unfold Bq;by_cases h:l<0
 · rw[if_pos h,if_neg (by omega),Int.neg_neg]
 · rw[if_neg h,if_pos (by omega),Int.neg_neg]
theorem Kq {q:List Int} {v:Nat}:Bq q ((v:Int)+1)=q.getD v 0:=by
 unfold Bq;rw[if_neg (by omega),show ((v:Int)+1 - 1).toNat=v by omega]
theorem W3 {l:Int} (hl:0≤l∧l<800):A3 l≠0:=by
 obtain⟨v,hv⟩:∃ v:Nat,l / 2=(v:Int):=⟨(l / 2).toNat,by omega⟩;rcases (by omega:l=2*(v:Int)∨l=2*(v:Int)+1) with e|e
 · rw[e,PF (by omega)];omega
 · rw[e,SN (by omega)];omega
theorem TU {q V:List Int} (hb:Cq V) {l:Int} (hl:0≤l∧l<800) (h:q.getD (l / 2).toNat 0=2*Av V (l / 2) - 1):Bq q (A3 l)=2*AF V l - 1:=by
 obtain⟨v,hv⟩:∃ v:Nat,l / 2=(v:Int):=⟨(l / 2).toNat,by omega⟩;rw[hv,Int.toNat_natCast] at h;have hbv:=G0 hb (v:Int);have hL:AF V l=(Av V (v:Int)+l % 2) % 2:=by unfold AF;rw[hv]
 rcases (by omega:l=2*(v:Int)∨l=2*(v:Int)+1) with e|e
 · rw[hL,e,PF (by omega),Kq,h];omega
 · rw[hL,e,SN (by omega),Kz (by omega),Kq,h];omega
section
variable {x:AB} {lit:Int} (hk:C3 x lit=true) (h3:AR x≤400) {q:List Int} (hq:q.length=AR x) (ht:Cj q) (hf:L8 (CX x lit) q)
include hk h3 hq ht hf
omit hk h3 hq ht in
theorem eK:q.getD 0 0=-1:=by
 have h:=LI (l0:=-1) (hf [-1] (by unfold CX DF;simp)) (by omega) (fun l hl=>.inl (zz9.1 hl));rw[show (-1:Int)=-((0:Nat)+1:Int) from rfl,Kz (by omega),Kq] at h;omega
omit ht in
theorem jH {w:Int} (hs:x.2.1=[]) (hleaf:∀ v:Nat,v<Aa x→q.getD v 0=2*Av (Bu x [] w) v - 1):∀ v:Nat,Mt (Aa x) (B2 x) (B7 x) (lit.toNat / 2) v→q.getD v 0=2*Av (Bu x [] w) v - 1:=by
 unfold C3 at hk;simp only[Bool.and_eq_true] at hk;obtain⟨hok,hr⟩:=hk;have hr:=AN.1 hr;have hV:=D4 (st:=[]) (inp:=w) hok;have hN:=Bn x;obtain⟨s1,s2⟩:=HF (F:=Aa x) (N:=AR x) (ka:=B2 x) (kb:=B7 x) (EM hok) (lit.toNat / 2+1) (lit.toNat / 2) (List.replicate (AR x) false) (by omega) (by omega) (by simp) (fun u _ h=>by rw[Ie] at h;cases h);intro v
 induction v using Nat.strongRecOn with
 | _ v ih =>
   intro hv;by_cases hF:v<Aa x
   · exact hleaf v hF
   have hvl:=hv.le (EM hok) (by omega);have hF':Aa x≤v:=by omega
   obtain⟨a0,a1,a2,a3,a4,a5,a6⟩:=Cy hok hF' (by omega);have eA:=ih _ a5 (hv.snoc_a hF');have eB:=ih _ a6 (hv.snoc_b hF')
   have hm:(v:Int)∈DM (ER x (lit.toNat / 2)):=by
    have:Ob (DM (ER x (lit.toNat / 2))) v=true:=by
     rw[Rs];exact (s2 v).2 (.inr hv)
    exact ACn this
   have hcl:∀ c∈GR x v,B8 q c=(0,false):=fun c hc=>hf c (by
    unfold CX DF;refine List.mem_append_left _ (ACO _ (List.mem_flatMap.2 ⟨_,hm,?_⟩));unfold Jp;rw[Int.toNat_natCast,if_pos hF']
    exact hc)
   have hva:=hV.an _ _ a0;rw[show Aa x+(v - Aa x)=v by omega] at hva;have lA:0≤(Al x v).1∧(Al x v).1<800:=by omega
   have lB:0≤(Al x v).2∧(Al x v).2<800:=by omega
   have vA:=TU (q:=q) hV.bits lA (by rw[a3,Int.toNat_natCast];exact eA);have vB:=TU (q:=q) hV.bits lB (by rw[a4,Int.toNat_natCast];exact eB);have nA:=W3 lA;have nB:=W3 lB;have l1:=DY (Bu x [] w) (Al x v).1;have l2:=DY (Bu x [] w) (Al x v).2;have c1:=hcl _ (show [-((v:Int)+1),A3 (Al x v).1]∈GR x v by unfold GR;simp);have c2:=hcl _ (show [-((v:Int)+1),A3 (Al x v).2]∈GR x v by unfold GR;simp);have c3:=hcl _ (show [(v:Int)+1,-A3 (Al x v).1,-A3 (Al x v).2]∈GR x v by unfold GR;simp);rw[hva];rcases (by omega:AF (Bu x [] w) (Al x v).1=0∨AF (Bu x [] w) (Al x v).1=1) with e|e
   · have:=LI (l0:=-((v:Int)+1)) c1 (by omega) (fun l hl=>by
      simp only[List.mem_cons,List.not_mem_nil,or_false] at hl;rcases hl with rfl|rfl
      · exact .inl rfl
      · exact .inr (by rw[vA,e];decide))
     rw[Kz (by omega),Kq] at this;rw[e,Int.zero_mul];omega
   · rcases (by omega:AF (Bu x [] w) (Al x v).2=0∨AF (Bu x [] w) (Al x v).2=1) with f|f
     · have:=LI (l0:=-((v:Int)+1)) c2 (by omega) (fun l hl=>by
        simp only[List.mem_cons,List.not_mem_nil,or_false] at hl;rcases hl with rfl|rfl
        · exact .inl rfl
        · exact .inr (by rw[vB,f];decide))
       rw[Kz (by omega),Kq] at this;rw[f,Int.mul_zero];omega
     · have:=LI (l0:=(v:Int)+1) c3 (by omega) (fun l hl=>by
        simp only[List.mem_cons,List.not_mem_nil,or_false] at hl;rcases hl with rfl|rfl|rfl
        · exact .inl rfl
        · exact .inr (by rw[Kz nA,vA,e];decide)
        · exact .inr (by rw[Kz nB,vB,f];decide))
       rw[Kq] at this;rw[e,f,this]
       decide
theorem gS (hs:x.2.1=[]) (h60:Aa x≤60) (hz:∀ w:Int,AF (Bu x [] w) lit=0):Am q<Aa x∧Am q<AR x:=by
 have hN:=Bn x
 have key:¬ Aa x≤Am q:=by
  intro hge;have hne:∀ m,m<Aa x→q.getD m 0≠0:=fun m hm=>KY (by omega);have hk2:=hk;unfold C3 at hk2;simp only[Bool.and_eq_true] at hk2;obtain⟨hok,hr⟩:=hk2;have hr:=AN.1 hr;obtain⟨⟨n1,n2,n3,n4,n5,n6⟩,-,-,-⟩:=Ax hok;have hFd:Aa x=1+x.1.toNat:=by unfold Aa;rw[hs];simp
  have hgr:AR x=1+x.1.toNat+x.2.1.length+x.2.2.1.length:=rfl
  have htr:∀ m,m<AR x→q.getD m 0=-1∨q.getD m 0=0∨q.getD m 0=1:=fun m hm=>by
   rw[List.getD_eq_getElem?_getD,zz0 (by omega)];have:=ht _ (AB7 (l:=q) (n:=m) (by omega));simp only[Option.getD_some];omega
  let bs:List Int:=(List.range x.1.toNat).map fun k:Nat=>if q.getD (1+k) 0=1 then (1:Int) else 0
  have hbs:Cq bs:=FY fun y _=>by split<;>omega
  have hleaf:∀ v:Nat,v<Aa x→q.getD v 0=2*Av (Bu x [] (BP bs)) v - 1:=fun v hv=>by
   rw[IG (x:=x) (st:=[]) (by rw[hs];rfl) hv];unfold oO;by_cases h0:v=0
   · subst h0;rw[if_pos rfl,eK hf];rfl
   · rw[if_neg h0,if_pos (by omega)];obtain⟨k,rfl⟩:∃ k,v=1+k:=⟨v - 1,by omega⟩;rw[Nat.add_sub_cancel_left]
     have hx:bs[k]? = some (if q.getD (1+k) 0=1 then (1:Int) else 0):=by
      show ((List.range x.1.toNat).map _)[k]? = _;rw[ACF,ACa (by omega)];rfl
     have e:GF (BP bs) k=_:=fQ hbs (by show (List.map _ _).length≤60;rw[ACH,List.length_range];omega) hx;rw[e];have h1:=hne (1+k) hv;have h2:=htr (1+k) (by omega);split<;>omega
  have hroot:=jH hk h3 hq hf hs hleaf (lit.toNat / 2) (.refl _);have hb:Cq (Bu x [] (BP bs)):=FV;have hv:=TU (q:=q) hb (l:=lit) (by omega) (by rw[show (lit / 2).toNat=lit.toNat / 2 by omega,show lit / 2=((lit.toNat / 2:Nat):Int) by omega];exact hroot);rw[hz] at hv;have h1:=LI (l0:=A3 lit) (hf [A3 lit] (by unfold CX;exact List.mem_append_right _ (zz9.2 rfl))) (W3 (by omega)) (fun l hl=>.inl (zz9.1 hl));rw[h1] at hv;omega
 omega
end
theorem lG {x:AB} {lit:Int}:(CX x lit).length≤3*AR x+2:=by
 have h1:∀ ks:List Int,(ks.flatMap (Jp x)).length≤3*ks.length:=fun ks=>by
  induction ks with
  | nil=>simp
  | cons k ks ih =>
    rw[List.flatMap_cons,ACg,List.length_cons]
    have:(Jp x k).length≤3:=by
     unfold Jp;split
     · simp[GR]
     · simp
    omega
 have h2:(DM (ER x (lit.toNat / 2))).length≤AR x:=by
  have:=QA (s:=ER x (lit.toNat / 2)) (k:=(ER x (lit.toNat / 2)).length);rw[Hg] at this;unfold DM;rw[Hg];exact this
 have:=h1 (DM (ER x (lit.toNat / 2)));unfold CX DF;simp only[ACg,List.length_cons,List.length_nil];omega
theorem ZC {x:AB} {lit:Int} (hk:C3 x lit=true) (hg:AR x≤330) (hs:x.2.1=[]) (hF:Aa x≤8) (hz:∀ w:Int,AF (Bu x [] w) lit=0) :
 ∃ pf,Eb (Ch x lit).1 (Ch x lit).2 600=(2,[],pf)∧JU (Ch x lit).1 (Ch x lit).2 pf=true:=by
 have hcn:=R4 hk;have hL:Ch x lit=((AR x:Int),CX x lit):=if_pos hk;rw[hL] at hcn ⊢;simp only at hcn ⊢;have hlen:=lG (x:=x) (lit:=lit);have hc:=ET hcn;have htr:=FZ (AR x);have hzF:=wI (F:=Aa x) (p:=List.replicate (AR x) (0:Int));have hpow:2 ^ (zF (Aa x) (List.replicate (AR x) (0:Int))+1)≤2 ^ 9:=ACU (by omega) (by omega);obtain⟨e1,e2⟩:=VJ (F:=Aa x) hc (fun q q1 q2 q3=>gS hk (by omega) q1 q2 q3 hs (by omega) hz) 600 600 (List.replicate (AR x) 0) [] [] (by simp) htr (by omega) (by omega);have e3:=F0 hc 600 600 (List.replicate (AR x) 0) [] [] (by simp) htr;have hzl:CV (List.replicate (AR x) (0:Int))=AR x:=by unfold CV;simp
 have e5:=Mo (by omega) hc 600 600 (List.replicate (AR x) 0) [] [] (by simp) htr (fun q q1 _ _ _=>⟨by simpa using q1.symm,fun m h=>by
  exfalso;apply h;rw[List.getD_eq_getElem?_getD,List.getElem?_replicate]
  split<;>rfl⟩) (by simp) (by rw[hzl];simp) (by simpa using hc) e1
 have hS:Eb (AR x:Int) (CX x lit) 600=(fun r:Js=>if r.code=1 then (1,Lr r.model,[]) else if r.code=2 then (2,[],r.pf) else (3,[],[])) (C2 (CX x lit) 600 600 (List.replicate (AR x) 0) [] []):=by
  unfold Eb;rw[if_pos ⟨hcn,by decide⟩];simp only[Int.toNat_natCast];rfl
 rw[hS];generalize C2 (CX x lit) 600 600 (List.replicate (AR x) 0) [] []=r at *;obtain⟨new,n1,n2,n3⟩:=e5;obtain⟨f1,f2,f3⟩:=e3.2.2.1 e1;simp only[List.length_nil,Nat.zero_add] at f1;have hpf:r.pf=new++[[]]:=by rw[n1];simp[DZ]
 refine⟨r.pf,by simp[e1],?_⟩;unfold JU;have hlast:(r.pf.getD (r.pf.length - 1) []).length=0:=by rw[hpf];simp
 rw[hcn,AN.2 (by omega),zz2 (by omega),zz2 hlast,hpf];have:Fx (AR x:Int) (CX x lit) (new++[DZ []])=true:=by simpa using n3
 rw[show (new++[([]:List Int)])=new++[DZ []] from rfl,this];rfl
end Go.Proofs.Ytnjedabjbeipeaa
