/-
  Refactoring keeps the values of the roots. Plain lemmas.
  Conditions: those typed in each theorem.
-/
import Derived.Test.YtnjedabjbeipeaaYm
import Derived.Test.YtnjedabjbeipeaaYo
namespace Go.Proofs.Ytnjedabjbeipeaa
open Go.RowKit Go.ChangeShapes Go.WideShapes
set_option linter.unusedSimpArgs false
set_option linter.unusedVariables false
set_option maxRecDepth 100000
set_option maxHeartbeats 10000000
theorem qE {x:AB} {st:List Int} {inp:Int} {c:List Int} {i:Int} (hok:Aj x=true) (hc:c.Nodup) (hb:∀ (p k:Nat),c[p]? = some (k:Int)→GF i p=Av (Bu x st inp) k):∀ v:Nat,v<AR x→¬ eT (Aa x) (B2 x) (B7 x) c v→HL x c i v=Av (Bu x st inp) v:=fun v=>by
 induction v using Nat.strongRecOn with
 | ind v ih =>
   intro hv hl;by_cases hm:(v:Int)∈c
   · obtain⟨p,hp,e⟩:=List.getElem_of_mem hm;have hp':c[p]? = some (v:Int):=by rw[zz0 hp,e]
     rw[nD hv hc hp'];exact hb p v hp'
   by_cases h0:v=0
   · subst h0;rw[Za hv hm (by unfold Aa;omega)];exact Nd.symm
   have ho:T5 c v:=⟨h0,hm⟩;by_cases hf:v<Aa x
   · exact absurd ⟨v,.refl ho,hf⟩ hl
   have hf':Aa x≤v:=by omega
   obtain⟨a0,a1,a2,a3,a4,a5,a6⟩:=Cy hok hf' hv;have e1:=ih (B2 x v) a5 (by omega) (fun ⟨u,hu,hu'⟩=>hl ⟨u,.a ho hf' hu,hu'⟩);have e2:=ih (B7 x v) a6 (by omega) (fun ⟨u,hu,hu'⟩=>hl ⟨u,.b ho hf' hu,hu'⟩);rw[YH hok hv hm hf',e1,e2,O9 hok hf' hv];unfold AF;rw[a3,a4]
theorem ZB {xs:List Int} (h:QU xs=true):xs.Nodup:=by
 have hs:∀ k:Nat,k+1<xs.length→Av xs k<Av xs ((k:Int)+1):=fun k hk=>by
  have:=zz8.1 h k (ACJ.2 (by omega));simpa using this
 have hlt:∀ d i:Nat,i+d+1<xs.length→Av xs i<Av xs ((i+d+1:Nat):Int):=fun d=>by
  induction d with
  | zero=>intro i hi;have:=hs i hi;exact this
  | succ d ih =>
    intro i hi;have h1:=ih i (by omega);have h2:=hs (i+d+1) (by omega);have e:(((i+d+1:Nat):Int)+1)=((i+(d+1)+1:Nat):Int):=by omega
    rw[e] at h2;omega
 refine List.pairwise_iff_getElem.2 fun i j hi hj hij he=>?_;obtain⟨d,rfl⟩:∃ d,j=i+d+1:=⟨j - i - 1,by omega⟩;have h1:=hlt d i hj;have e1:=Eh (xs:=xs) (k:=i) (zz0 hi);have e2:=Eh (xs:=xs) (k:=i+d+1) (zz0 hj);omega
theorem mF {vs:List Int} (hb:Cq vs) (h:vs.length≤4):∃ p:Nat,BP vs=p∧p<2 ^ vs.length:=by
 have h1:=Iq hb vs.length;obtain⟨p,hp⟩:∃ p:Nat,BP vs=p:=⟨(BP vs).toNat,by have:BP vs=Ck vs vs.length:=rfl;omega⟩;refine⟨p,hp,?_⟩;have e:Ck vs vs.length=p:=hp;rw[e] at h1;have h3:=h1.2
 exact_mod_cast h3
section
variable {V:List Int} {fa:Nat} {An:List Ah} (hV:EP V fa An) {lits:List Int} {an0:List Ah} (hfa:0<fa∧fa≤100) (h3:an0.length≤300) (ho:ES (fa:Int) an0) (hl:∀ y∈lits,0≤y∧y<2*((fa:Int)+(an0.length:Int)))
include hV hfa h3 ho hl
omit ho in
theorem bV {c:Ah} {k:Nat} (hk:k<lits.length):AF V (FN lits c k)=if GF c.2 k=1 then AF V (Av lits k) else 1 - AF V (Av lits k):=by
 have hm:Av lits (k:Int)∈lits:=by unfold Av;rw[Int.toNat_natCast,zz0 hk];exact AB7 _
 have hr:=hl _ hm;have h1:=A8 (a:=Av lits (k:Int)) hr.1 (by omega);have h2:=(AU hr.1).2;have hf:Ad (Av lits (k:Int))<4611686018427387904:=by unfold Ad;split<;>omega
 have hb:=Qg c.2 k;unfold FN;rw[Lo,h1];rcases (by omega:GF c.2 k=0∨GF c.2 k=1) with e|e
 · rw[e,if_neg (by decide),Hl h2 hf,FF hV.bits hr.1]
 · rw[e,if_pos rfl,A8 h2 hf,RP hr.1]
theorem X4 {c:Ah}:∀ k,k≤lits.length→(GW fa lits c an0 k).2.2=true→(GW fa lits c an0 k).1 <+: An→(AF V (GW fa lits c an0 k).2.1=1↔∀ j:Nat,j<k→GF c.1 j=1→AF V (Av lits j)=GF c.2 j)
 | 0,_,_,_=>by
   show AF V 1=1↔_;rw[Yh hV.zero];exact⟨fun _ j hj=>by omega,fun _=>rfl⟩
 | k+1,hk,hf,hp=>by
   have ih:=X4 (c:=c) k (by omega);have hok:=O3 (fa:=(fa:Int)) (lits:=lits) (c:=c) (an0:=an0) (n0:=an0.length) (by omega) ⟨Nat.le_refl _,h3,ho,by simp only;omega⟩ hl k (by omega);have hval:=bV hV hfa h3 hl (c:=c) (k:=k) (by omega);have hrl:=M9 (lits:=lits) (c:=c) (k:=k) (n:=(fa:Int)+an0.length) (by omega) hl (by omega);have hb2:=Qg c.2 k;rw[GW] at hf hp ⊢;generalize GW fa lits c an0 k=s at *;obtain⟨an,p,bb⟩:=s;simp only at ih hf hp hok ⊢;obtain⟨o1,o2,o3,o4⟩:=hok;simp only at o1 o2 o3 o4
   cases bb with
   | false=>simp at hf
   | true =>
   simp only[Bool.true_eq_false,if_false] at hf hp ⊢;by_cases hc:Cp (DB c.1 (k:Int)) 1=1
   · rw[if_pos hc] at hf hp ⊢;have hcb:GF c.1 k=1:=by rw[←Lo];exact hc
     generalize FN lits c k=lt at *;by_cases hv:AG fa an p lt<0
     · rw[if_pos hv] at hf;simp at hf
     rw[if_neg hv] at hp ⊢;simp only at hp ⊢;rw[Ji hV hp ⟨o4.1,by omega⟩ hrl.1 (by omega),GE (HV _) (HV _),ih rfl (DW.trans hp),hval];constructor
     · rintro⟨ha,hb⟩ j hj hcj;by_cases hjk:j=k
       · subst hjk;rcases (by omega:GF c.2 j=0∨GF c.2 j=1) with e|e
         · rw[e,if_neg (by decide)] at hb;rw[e];omega
         · rw[e,if_pos rfl] at hb;rw[e];exact hb
       · exact ha j (by omega) hcj
     · intro ha;refine⟨fun j hj hcj=>ha j (by omega) hcj,?_⟩;have:=ha k (by omega) hcb;rcases (by omega:GF c.2 k=0∨GF c.2 k=1) with e|e
       · rw[e] at this;rw[e,if_neg (by decide)];omega
       · rw[e] at this;rw[e,if_pos rfl];exact this
   · rw[if_neg hc] at hf hp ⊢;simp only at hp ⊢;rw[ih rfl hp];constructor
     · intro ha j hj hcj;by_cases hjk:j=k
       · subst hjk;rw[←Lo] at hcj;exact absurd hcj hc
       · exact ha j (by omega) hcj
     · intro ha j hj hcj;exact ha j (by omega) hcj
omit hV hfa h3 ho hl in
theorem TO {c:Ah}:∀ k,an0 <+: (GW fa lits c an0 k).1
 | 0=>List.prefix_refl _
 | k+1=>by
   have ih:=TO (c:=c) k;rw[GW];split
   · exact ih
   split
   · split
     · exact ih
     · exact ih.trans DW
   · exact ih
omit hV hfa h3 ho hl in
theorem Ya {cs:List Ah}:∀ i,an0 <+: (GU fa lits cs an0 i).1
 | 0=>List.prefix_refl _
 | i+1=>by
   have ih:=Ya (cs:=cs) i;rw[GU];split
   · exact ih
   have hp:=TO (fa:=fa) (lits:=lits) (an0:=(GU fa lits cs an0 i).1) (c:=(cs[i]?).getD (0,0)) lits.length;simp only;split
   · exact ih.trans hp
   split
   · exact ih.trans hp
   · exact (ih.trans hp).trans DW
theorem YG {cs:List Ah}:∀ i,i≤cs.length→(GU fa lits cs an0 i).2.2=true→(GU fa lits cs an0 i).1 <+: An→(AF V (GU fa lits cs an0 i).2.1=1↔∃ c∈cs.take i,∀ j:Nat,j<lits.length→GF c.1 j=1→AF V (Av lits j)=GF c.2 j)
 | 0,_,_,_=>by
   show AF V 0=1↔_;rw[Qn hV.zero];simp
 | i+1,hi,hf,hp=>by
   have ih:=YG (cs:=cs) i (by omega);have hok:=Nr (fa:=(fa:Int)) (lits:=lits) (an0:=an0) (n0:=an0.length) (cs:=cs) (by omega) ⟨Nat.le_refl _,h3,ho,by simp only;omega⟩ hl i;have hx:cs[i]? = some cs[i]:=zz0 (by omega);have hd:(cs[i]?).getD (0,0)=cs[i]:=by rw[hx];rfl
   rw[Bh hx];rw[GU,hd] at hf hp ⊢;generalize cs[i]=cu at *;generalize GU fa lits cs an0 i=s at *;obtain⟨an,z,bb⟩:=s;simp only at ih hf hp hok ⊢;obtain⟨o1,o2,o3,o4⟩:=hok;simp only at o1 o2 o3 o4
   cases bb with
   | false=>simp at hf
   | true =>
   simp only[Bool.true_eq_false,if_false] at hf hp ⊢;have hPok:=O3 (fa:=(fa:Int)) (lits:=lits) (c:=cu) (an0:=an) (n0:=an.length) (by omega) ⟨Nat.le_refl _,o2,o3,by simp only;omega⟩ (fun y hy=>by have:=hl y hy;omega) lits.length (Nat.le_refl _);have hPsem:=X4 hV (lits:=lits) (an0:=an) hfa o2 o3 (fun y hy=>by have:=hl y hy;omega) (c:=cu) lits.length (Nat.le_refl _);have hPpre:=TO (fa:=fa) (lits:=lits) (an0:=an) (c:=cu) lits.length;generalize GW fa lits cu an lits.length=q at *;obtain⟨an2,p,qb⟩:=q;obtain⟨j1,j2,j3,j4⟩:=hPok;simp only at j1 j2 j3 j4 hPsem hPpre hf hp ⊢
   cases qb with
   | false=>simp at hf
   | true =>
   simp only[Bool.true_eq_false,if_false] at hf hp ⊢;by_cases hv:E4 fa an2 z p<0
   · rw[if_pos hv] at hf;simp at hf
   rw[if_neg hv] at hp ⊢;simp only at hp ⊢;have hp2:an2 <+: An:=DW.trans hp;have hor:=XB hV hp ⟨o4.1,by omega⟩ j4.1 (by omega)
   have hone:AF V (E4 fa an2 z p)=1↔AF V z=1∨AF V p=1:=by
    rw[hor];rcases HV (V:=V) z with e|e<;>rcases HV (V:=V) p with f|f<;>rw[e,f]<;>decide
   rw[hone,ih rfl (hPpre.trans hp2),hPsem rfl hp2];constructor
   · rintro (⟨c,hc,h⟩|h)
     · exact⟨c,List.mem_append_left _ hc,h⟩
     · exact⟨cu,List.mem_append_right _ (zz9.2 rfl),h⟩
   · rintro⟨c,hc,h⟩;rcases ACE.1 hc with hc|hc
     · exact .inl ⟨c,hc,h⟩
     · rw[zz9.1 hc] at h;exact .inr h
end
section
variable {h:AB} {i0:Nat} {c:List Int} {st:List Int} {inp:Int}
theorem iO (hok:Aj h=true) (hi0:i0<h.2.2.1.length) (hg:Hj h (Aa h+i0) c) {i:Nat} (hi:i<2 ^ c.length) (hb:∀ (p k:Nat),c[p]? = some (k:Int)→GF (i:Int) p=Av (Bu h st inp) k) :
 (Gw (Di h i0 c).1 i=true∧(Di h i0 c).2=0∨¬ Gw (Di h i0 c).1 i=true∧(Di h i0 c).2=1)↔Av (Bu h st inp) ((Aa h+i0:Nat):Int)=1:=by
 have hN:=Bn h;have hv:Aa h+i0<AR h:=by omega
 have hva:=qE hok (ZB (jF hg.asc)) hb _ hv hg.noleak;have ht:=eP (x:=h) (c:=c) (v:=Aa h+i0) hi;rw[hva] at ht;have hbits:=Mr (x:=h) (c:=c) hv;have hlen:=LM (x:=h) (c:=c) (v:=Aa h+i0);have hA:=YC hg.len hbits hlen hi;have hbits2:Cq ((Vc h c (Aa h+i0)).map fun b=>1 - b):=FY fun b hb=>by have:=hbits b hb;omega
 have hB:=YC (vs:=(Vc h c (Aa h+i0)).map fun b=>1 - b) hg.len hbits2 (by rw[ACH,hlen]) hi;rw[ht] at hA;rw[ACF,ht] at hB;have hcA:Q3 h i0 c=Lj c.length (BP (Vc h c (Aa h+i0))):=rfl;have hcB:Q9 h i0 c=Lj c.length (BP ((Vc h c (Aa h+i0)).map fun b=>1 - b)):=rfl;rw[←hcA] at hA;rw[←hcB] at hB;have hw:=G0 (FV (x:=h) (st:=st) (i:=inp)) ((Aa h+i0:Nat):Int);generalize Av (Bu h st inp) ((Aa h+i0:Nat):Int)=w at *;unfold Di;split
 · simp only[Option.map_some,Option.some.injEq] at hB ⊢;constructor
   · rintro (⟨_,h2⟩|⟨h1,_⟩)
     · omega
     · rw[hB] at h1;omega
   · intro h1;exact .inr ⟨by rw[hB];omega,trivial⟩
 · simp only[Option.some.injEq] at hA ⊢;constructor
   · rintro (⟨h1,_⟩|⟨_,h2⟩)
     · exact hA.1 h1
     · omega
   · intro h1;exact .inl ⟨hA.2 h1,trivial⟩
theorem lN {cov:List Ah} {fl:Int} {i:Nat}:(ED h i0 c cov fl i).2.1 <+: (ED h i0 c cov fl (i+1)).2.1:=by
 rw[ED];split
 · exact List.prefix_refl _
 split
 · simp only;split
   · exact List.prefix_refl _
   · exact Ya (fa:=Aa h) cov.length
 · split
   · exact List.prefix_refl _
   · exact DW
theorem iV (hok:Aj h=true) (hi0:i0<h.2.2.1.length) (hg:Hj h (Aa h+i0) c) (hin:∀ y∈c,0≤y∧y<((Aa h+i0:Nat):Int)) {An:List Ah} {V:List Int} (hV:EP V (Aa h) An) (hleaf:∀ v:Nat,v<Aa h→Av V v=Av (Bu h st inp) v) :
 ∀ i,i≤h.2.2.1.length→(ED h i0 c (Di h i0 c).1 (Di h i0 c).2 i).2.2=true→(ED h i0 c (Di h i0 c).1 (Di h i0 c).2 i).2.1 <+: An→∀ v:Nat,v<Aa h+i→AF V (Av (ED h i0 c (Di h i0 c).1 (Di h i0 c).2 i).1 v)=Av (Bu h st inp) v
 | 0,_,_,_,v,hv=>by
   have e:Av (BQ (Aa h)) (v:Int)=2*(v:Int):=by
    unfold Av BQ;rw[Int.toNat_natCast,ACF,ACa (by omega)];rfl
   show AF V (Av (BQ (Aa h)) v)=_;rw[e,Gq hV.bits (by omega)];exact hleaf v (by omega)
 | i+1,hi,hf,hpre,v,hv=>by
   have hW:=D4 (st:=st) (inp:=inp) hok;have hN:=Bn h;obtain⟨⟨n1,n2,n3,n4,n5,n6⟩,-,-,-⟩:=Ax hok;have hF1:1≤Aa h∧Aa h≤33:=by unfold Aa;omega
   have hflip:=Kl (h:=h) (i:=i0) (c:=c);have hI:=Qm hok (i0:=i0) (c:=c) (cov:=(Di h i0 c).1) hflip i (by omega)
   have hf0:(ED h i0 c (Di h i0 c).1 (Di h i0 c).2 i).2.2=true:=by
    cases hq:(ED h i0 c (Di h i0 c).1 (Di h i0 c).2 i).2.2 with
    | true=>rfl
    | false=>rw[Ng hq 1] at hf;cases hf
   have ih:=iV hok hi0 hg hin hV hleaf i (by omega) hf0 (lN.trans hpre);obtain⟨ha,a1,a2,a3,a4,a5,a6⟩:=Cy hok (v:=Aa h+i) (by omega) (by omega);have hwa:=hW.an i (Al h (Aa h+i)) (by rw[Nat.add_sub_cancel_left] at ha;exact ha);have hcov:=fun {j:Nat} hj hb=>iO (st:=st) (inp:=inp) hok hi0 hg (i:=j) hj hb;obtain⟨pc1,pc2⟩:=RI (h:=h) (i:=i0) hg.len;have hcok:D0 c.length (Di h i0 c).1=true:=LC pc1 pc2;rw[ED] at hf hpre ⊢;generalize ED h i0 c (Di h i0 c).1 (Di h i0 c).2 i=s at *;obtain⟨to,an,bb⟩:=s;simp only at hf0 hf hpre ih hI ⊢;subst hf0;have hl:=hI.len rfl;have hpl:=fun k=>Bw hI.pl (by simp only;omega) k;have h3:=hI.an;have hoa:=hI.ok;simp only at hl hpl h3 hoa;simp only[Bool.true_eq_false,if_false] at hf hpre ⊢;by_cases hii:i=i0
   · subst hii;rw[if_pos rfl] at hf hpre ⊢
     have hlr:∀ y∈c.map (Av to),0≤y∧y<2*((Aa h:Int)+(an.length:Int)):=fun y hy=>by
      obtain⟨z,_,rfl⟩:=ACP.1 hy;exact hpl z
     have hS:=Nr (fa:=(Aa h:Int)) (lits:=c.map (Av to)) (an0:=an) (n0:=an.length) (cs:=(Di h i c).1) (by omega) ⟨Nat.le_refl _,h3,hoa,by simp only;omega⟩ hlr (Di h i c).1.length;have hsem:=YG hV (lits:=c.map (Av to)) (an0:=an) (by omega) h3 hoa hlr (cs:=(Di h i c).1) _ (Nat.le_refl _);rw[List.take_length] at hsem;simp only[hcok,Bool.true_eq_false,false_or] at hf hpre ⊢;generalize GU (Aa h) (c.map (Av to)) (Di h i c).1 an (Di h i c).1.length=q at *;obtain⟨an2,s,qb⟩:=q;obtain⟨-,s2,s3,s4⟩:=hS;simp only at hsem s2 s3 s4 hf hpre ⊢
     cases qb with
     | false=>simp at hf
     | true =>
     simp only[Bool.true_eq_false,if_false] at hpre ⊢;by_cases hv2:v<Aa h+i
     · rw[Dy (by omega) (by omega)];exact ih v hv2
     obtain rfl:v=Aa h+i:=by omega
     have e:Av (to++[Bd s (Di h i c).2]) ((Aa h+i:Nat):Int)=Bd s (Di h i c).2:=by
      unfold Av;rw[Int.toNat_natCast,zz5 (by omega),hl,Nat.sub_self];rfl
     rw[e];have hbs:Cq (c.map (Av (Bu h st inp))):=FY fun y _=>G0 FV y;obtain⟨p,hp1,hp2⟩:=mF hbs (by rw[ACH];exact hg.len);rw[ACH] at hp2
     have hbit:∀ (j:Nat) (y:Int),c[j]? = some y→GF (p:Int) j=Av (Bu h st inp) y:=fun j y hj=>by
      rw[←hp1];have hj':=(zz1.1 hj).1;have:=hg.len;exact Lq hbs (by rw[ACF,hj];rfl) (by omega)
     have hcv:=hcov hp2 (fun j k hj=>hbit j k hj)
     have hlv:∀ j:Nat,j<c.length→AF V (Av (c.map (Av to)) j)=GF (p:Int) j:=fun j hj=>by
      have hx:c[j]? = some c[j]:=zz0 hj;have hy:=hin c[j] (AB7 hj);have e1:Av (c.map (Av to)) (j:Int)=Av to c[j]:=Eh (by rw[ACF,hx];rfl);rw[e1,hbit j _ hx];have:=ih c[j].toNat (by omega);rw[show ((c[j].toNat:Nat):Int)=c[j] by omega] at this;exact this
     have hone:AF V s=1↔Gw (Di h i c).1 p=true:=by
      rw[hsem rfl hpre,RJ];constructor
      · rintro⟨d,hd,hh⟩;refine⟨d,hd,(UU hg.len (pc2 d hd) hp2).2 fun j hj hcj=>?_⟩;rw[←hlv j hj];exact hh j (by rw[ACH];exact hj) hcj
      · rintro⟨d,hd,hh⟩;refine⟨d,hd,fun j hj hcj=>?_⟩;rw[ACH] at hj;rw[hlv j hj];exact (UU hg.len (pc2 d hd) hp2).1 hh j hj hcj
     have hw:=G0 (FV (x:=h) (st:=st) (i:=inp)) ((Aa h+i:Nat):Int);have hls:=HV (V:=V) s;rcases hflip with e0|e1
     · rw[e0,Hl s4.1 (by omega)];rw[e0] at hcv
       have hc2:Gw (Di h i c).1 p=true↔Av (Bu h st inp) ((Aa h+i:Nat):Int)=1:=by
        rw[←hcv];exact⟨fun q=>.inl ⟨q,rfl⟩,fun q=>q.elim (fun q=>q.1) fun q=>absurd q.2 (by decide)⟩
       rw[hc2] at hone;omega
     · rw[e1,A8 s4.1 (by omega),FF hV.bits s4.1];rw[e1] at hcv
       have hc2:¬ Gw (Di h i c).1 p=true↔Av (Bu h st inp) ((Aa h+i:Nat):Int)=1:=by
        rw[←hcv];exact⟨fun q=>.inr ⟨q,rfl⟩,fun q=>q.elim (fun q=>absurd q.2 (by decide)) fun q=>q.1⟩
       rw[←hone] at hc2;omega
   · rw[if_neg hii] at hf hpre ⊢;by_cases hv0:AG (Aa h) an (Ap to (Al h (Aa h+i)).1) (Ap to (Al h (Aa h+i)).2)<0
     · rw[if_pos hv0] at hf;simp at hf
     rw[if_neg hv0] at hpre ⊢;simp only at hpre ⊢;by_cases hv2:v<Aa h+i
     · rw[Dy (by omega) (by omega)];exact ih v hv2
     obtain rfl:v=Aa h+i:=by omega
     have e:Av (to++[AG (Aa h) an (Ap to (Al h (Aa h+i)).1) (Ap to (Al h (Aa h+i)).2)]) ((Aa h+i:Nat):Int)=AG (Aa h) an (Ap to (Al h (Aa h+i)).1) (Ap to (Al h (Aa h+i)).2):=by
      unfold Av;rw[Int.toNat_natCast,zz5 (by omega),hl,Nat.sub_self];rfl
     have m1:AF V (Ap to (Al h (Aa h+i)).1)=AF (Bu h st inp) (Al h (Aa h+i)).1:=by
      refine G7 hV.bits hW.bits (by have:=hpl ((Al h (Aa h+i)).1 / 2);omega) ?_;rw[a3];exact ih _ a5
     have m2:AF V (Ap to (Al h (Aa h+i)).2)=AF (Bu h st inp) (Al h (Aa h+i)).2:=by
      refine G7 hV.bits hW.bits (by have:=hpl ((Al h (Aa h+i)).2 / 2);omega) ?_;rw[a4];exact ih _ a6
     have r1:=Bf (l:=(Al h (Aa h+i)).1) (hpl _) (by omega);have r2:=Bf (l:=(Al h (Aa h+i)).2) (hpl _) (by omega);rw[e,Ji hV hpre ⟨r1.1,by omega⟩ r2.1 (by omega),m1,m2,←hwa]
end
theorem fC {h:AB} {i0:Nat} {c:List Int} (hok:Aj h=true) (hi0:i0<h.2.2.1.length) (hg:Hj h (Aa h+i0) c) (hin:∀ y∈c,0≤y∧y<((Aa h+i0:Nat):Int)) (ht:(Wq h i0 c).2=true):Ei h (Wq h i0 c).1:=by
 have hz:=Wu hok (i:=i0) (c:=c);have I:=Qm hok (i0:=i0) (c:=c) (cov:=(Di h i0 c).1) (Kl (h:=h) (i:=i0) (c:=c)) _ (Nat.le_refl _)
 have hf:(X1 h i0 c).2.2=true:=by
  unfold Wq at ht;split at ht
  · cases ht
  · rename_i hq;simpa using hq
 have hG:(Wq h i0 c).1=Mv (pK h (X1 h i0 c)):=by unfold Wq;rw[if_neg (by rw[hf];simp)]
 rw[hG];obtain⟨⟨n1,n2,n3,n4,n5,n6⟩,-,hri,-⟩:=Ax hok;have hF1:1≤Aa h∧Aa h≤33:=by unfold Aa;omega
 have hN:=Bn h;refine Ei.trans (Mn (to:=(X1 h i0 c).1) (an:=(X1 h i0 c).2.1) fun st inp hs=>?_) (M5 hz);have hV:=On (st:=st) (inp:=inp) (x:=h) (to:=(X1 h i0 c).1) (an:=(X1 h i0 c).2.1) hz;have hW:=D4 (st:=st) (inp:=inp) hok;have h3:(X1 h i0 c).2.1.length≤300:=I.an;refine Py hok hV.bits hW.bits (n:=Aa h+(X1 h i0 c).2.1.length) (by omega) (by rw[Int.natCast_add];exact I.pl) fun l hl=>?_;have hr:=hri l hl;exact iV hok hi0 hg hin hV (fun v hv=>LX hs hv) _ (Nat.le_refl _) hf (List.prefix_refl _) _ (by omega)
theorem V1 {h:AB} {i:Nat} (hok:Aj h=true) (hi:i<h.2.2.1.length):∀ cs:List (List Int),(∀ c∈cs,Hj h (Aa h+i) c∧∀ y∈c,0≤y∧y<((Aa h+i:Nat):Int))→Ei h (mQ h i cs)
 | [],_=>Ei.refl h
 | c::cs,hc=>by
   unfold mQ;split
   · rename_i hq;obtain⟨g1,g2⟩:=hc c (by simp);exact fC hok hi g1 g2 hq.1
   · exact V1 hok hi cs fun d hd=>hc d (by simp[hd])
theorem Vf:∀ (n i:Nat) (h:AB),Aj h=true→Ei h (Zy n i h)
 | 0,i,h,_=>Ei.refl h
 | n+1,i,h,hok=>by
   unfold Zy;split
   · rename_i hi;have hN:=Bn h;have hgood:=(Hm hok (Aa h+i) (by omega)).1;obtain⟨en1,en2,en3'⟩:=RH hok (i:=i) (by omega)
     have hcs:∀ c∈(Dz h (Aa h+i)).take ((Dz h (Aa h+i)).length - 1),Hj h (Aa h+i) c∧∀ y∈c,0≤y∧y<((Aa h+i:Nat):Int):=fun c hc=>by
      obtain⟨q,hq,rfl⟩:=List.mem_iff_getElem.1 hc;rw[ACL] at hq;have hx:(Dz h (Aa h+i))[q]? = some (Dz h (Aa h+i))[q]:=zz0 (by omega);rw[List.getElem_take];exact⟨hgood _ (zz6 hx),PT hok (i:=i) (by omega) hx (en3' q _ hx (by omega))⟩
     exact (V1 hok hi _ hcs).trans (Vf n (i+1) _ (SL hok _).1)
   · exact Ei.refl h
theorem ZX {x:AB} (hok:Aj x=true) (h14:x.2.2.1.length≤14):Aj (QL x)=true∧Ei x (QL x)∧(QL x).2.2.1.length≤105:=by
 have hk:=IE hok;have hl:(Eg x).2.2.1.length≤14:=Nat.le_trans (IC hok (by omega)) h14;obtain⟨a,b⟩:=eY 15 0 _ hk;exact⟨a,(K3 hok (by omega)).trans (Vf 15 0 _ hk),by show (Zy 15 0 (Eg x)).2.2.1.length≤105;omega⟩
end Go.Proofs.Ytnjedabjbeipeaa
