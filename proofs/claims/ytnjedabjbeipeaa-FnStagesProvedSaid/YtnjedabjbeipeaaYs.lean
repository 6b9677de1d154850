/-
  A drawn net and a stage of it are proved equal by an accepted refutation. Plain lemmas.
  Conditions: those typed in each theorem.
-/
import Derived.Test.YtnjedabjbeipeaaYq
import Derived.Test.YtnjedabjbeipeaaYr
namespace Go.Proofs.Ytnjedabjbeipeaa
open Go.RowKit Go.ChangeShapes Go.WideShapes
set_option linter.unusedSimpArgs false
set_option linter.unusedVariables false
set_option maxRecDepth 100000
set_option maxHeartbeats 10000000
theorem W0 {x:AB} (hok:Aj x=true) {an0:List Ah} (h2:ES (Aa x) an0) (h3:an0.length+x.2.2.1.length<300):∀ i,i≤x.2.2.1.length→(Cx x an0 i).2.2=true∧(Cx x an0 i).2.1.length≤an0.length+i
 | 0,_=>⟨rfl,Nat.le_refl _⟩
 | i+1,hi=>by
   obtain⟨g1,g2⟩:=W0 hok h2 h3 i (by omega);have I:=(G6 hok (by omega) h2 (i:=i) (by omega)).1;obtain⟨⟨n1,n2,n3,n4,n5,n6⟩,-,-,-⟩:=Ax hok;have hF1:1≤Aa x∧Aa x≤33:=by unfold Aa;omega
   obtain⟨⟨to,an,bb⟩,hs⟩:∃ s,Cx x an0 i=s:=⟨_,rfl⟩;rw[hs] at g1 g2 I;simp only at g1 g2;subst g1;have hpl:=I.pl;have han:=I.an;simp only at hpl han;have hA:=Bf (l:=(Al x (Aa x+i)).1) (Bw hpl (by omega) _) (by omega);have hB:=Bf (l:=(Al x (Aa x+i)).2) (Bw hpl (by omega) _) (by omega);have hv:=F9 (fa:=Aa x) (an:=an) (a:=Ap to (Al x (Aa x+i)).1) (b:=Ap to (Al x (Aa x+i)).2) (by omega) hA.1 hB.1 (by omega);have hl:=AM (an:=an) (a:=Ap to (Al x (Aa x+i)).1) (b:=Ap to (Al x (Aa x+i)).2);rw[IA hs,if_neg (by omega)];exact⟨rfl,by simp only;omega⟩
theorem Jy {l:Int} (h:0≤l):0≤Ad l:=(AU h).2
theorem Ur {fa:Int} {an:List Ah} {a b:Int} (hf:0≤fa) (ha:0≤a) (hb:0≤b) (h:an.length<300):0≤E4 fa an a b:=by
 have:=F9 (fa:=fa) (an:=an) (a:=Ad a) (b:=Ad b) hf (Jy ha) (Jy hb) h;unfold E4;rw[if_neg (by omega)];exact Jy this
theorem aK {fa:Int} {an:List Ah} {a b:Int} (hf:0≤fa) (ha:0≤a) (hb:0≤b) (h:an.length<297):0≤(Ce fa an a b).1∧(Ce fa an a b).2.length≤an.length+3:=by
 have v1:=F9 (fa:=fa) (an:=an) (a:=a) (b:=Ad b) hf ha (Jy hb) (by omega);have l1:=AM (an:=an) (a:=a) (b:=Ad b);unfold Ce;generalize AG fa an a (Ad b)=p at *;generalize Ak an a (Ad b)=an1 at *;have v2:=F9 (fa:=fa) (an:=an1) (a:=Ad a) (b:=b) hf (Jy ha) hb (by omega);have l2:=AM (an:=an1) (a:=Ad a) (b:=b);rw[if_neg (by omega)];generalize AG fa an1 (Ad a) b=q at *;generalize Ak an1 (Ad a) b=an2 at *;rw[if_neg (by omega)];have v3:=Ur (fa:=fa) (an:=an2) (a:=p) (b:=q) hf v1 v2 (by omega);have l3:=AM (an:=an2) (a:=Ad p) (b:=Ad q);exact⟨v3,by simp only;omega⟩
theorem gQ {fa:Int} (hf:0≤fa) {ra rb:List Int} {an0:List Ah} (hA:∀ k∈ra,0≤k) (hB:∀ k∈rb,0≤k) {n:Nat} (h:an0.length+4*n≤296):∀ i,i≤n→(A1 fa ra rb an0 i).2.2=true∧(A1 fa ra rb an0 i).2.1.length≤an0.length+4*i∧0≤(A1 fa ra rb an0 i).1
 | 0,_=>⟨rfl,Nat.le_refl _,Int.le_refl _⟩
 | i+1,hi=>by
   obtain⟨g1,g2,g3⟩:=gQ hf hA hB h i (by omega)
   have dA:0≤ra.getD i 0:=by
    rw[List.getD_eq_getElem?_getD]
    cases hx:ra[i]? with
    | none=>simp
    | some y=>exact hA y (zz6 hx)
   have dB:0≤rb.getD i 0:=by
    rw[List.getD_eq_getElem?_getD]
    cases hx:rb[i]? with
    | none=>simp
    | some y=>exact hB y (zz6 hx)
   obtain⟨⟨s,an,bb⟩,hs⟩:∃ q,A1 fa ra rb an0 i=q:=⟨_,rfl⟩;rw[hs] at g1 g2 g3;simp only at g1 g2 g3;subst g1;obtain⟨x1,x2⟩:=aK (fa:=fa) (an:=an) hf dA dB (by omega);have o1:=Ur (fa:=fa) (an:=(Ce fa an (ra.getD i 0) (rb.getD i 0)).2) hf g3 x1 (by omega);have o2:=AM (an:=(Ce fa an (ra.getD i 0) (rb.getD i 0)).2) (a:=Ad s) (b:=Ad (Ce fa an (ra.getD i 0) (rb.getD i 0)).1);rw[E7 hs,if_neg (by omega),if_neg (by omega)];exact⟨rfl,by simp only;omega,o1⟩
theorem XX {x y:AB} (hx:Aj x=true) (hy:Aj y=true) (h:Ei x y) (h20:x.1+(x.2.1.length:Int)≤20) (hxn:x.2.2.1.length≤14) (hyn:y.2.2.1.length≤105) (hr:(At x).length≤40):Ft x y=true:=by
 obtain⟨⟨n1,n2,n3,n4,n5,n6⟩,-,-,-⟩:=Ax hx
 have hc:Jm x y=true:=by
  unfold Jm;simp only[Bool.and_eq_true,decide_eq_true_eq];refine⟨⟨⟨⟨⟨⟨hx,hy⟩,h.inp.symm⟩,h.len.symm⟩,h.outs.symm⟩,h20⟩,zz8.2 fun p hp=>?_⟩;obtain⟨i,hi,rfl⟩:=List.mem_iff_getElem.1 hp;rw[List.length_zip] at hi;rw[List.getElem_zip];have:=congrArg (fun L:List Int=>L[i]?) h.kind;simp only[ACF,zz0 (show i<y.2.1.length by omega),zz0 (show i<x.2.1.length by omega),Option.map_some,Option.some.injEq] at this;exact zz2 this.symm
 obtain⟨-,-,e1,e2,e3,e4,e5,e6⟩:=Oz hc;have hF1:1≤Aa x∧Aa x≤33:=by unfold Aa;omega
 obtain⟨f1,l1⟩:=W0 hx (an0:=[]) (by simp[ES,BO]) (by simp;omega) _ (Nat.le_refl _);have I1:=Yp hx
 change (Cc x).2.2=true at f1
 change (Cc x).2.1.length≤_ at l1
 simp only[List.length_nil] at l1;obtain⟨f2,l2⟩:=W0 hy (an0:=(Cc x).2.1) (by rw[e5];exact I1.ok) (by omega) _ (Nat.le_refl _);have I2:=(G6 hy (an0:=(Cc x).2.1) I1.an (by rw[e5];exact I1.ok) (i:=y.2.2.1.length) (Nat.le_refl _))
 change (Ci x y).2.2=true at f2
 change (Ci x y).2.1.length≤_ at l2
 have I2l:(Ci x y).2.1.length≤300:=I2.1.an;have I2le:(Cc x).2.1.length≤(Ci x y).2.1.length:=I2.2;have hpa:=Hb I1.pl (m:=(Aa x:Int)+(Ci x y).2.1.length) (by omega);have hpb:=Hb I2.1.pl (m:=(Aa x:Int)+(Ci x y).2.1.length) (by rw[e5];exact Int.le_refl _)
 have hRa:∀ k∈BH x (Cc x).1,0≤k:=fun k hk=>by
  obtain⟨l,hl,rfl⟩:=ACP.1 hk;exact (Bf (Bw hpa (by omega) _) (by omega)).1
 have hRb:∀ k∈BH y (Ci x y).1,0≤k:=fun k hk=>by
  obtain⟨l,hl,rfl⟩:=ACP.1 hk;exact (Bf (Bw hpb (by omega) _) (by omega)).1
 have hm:=gQ (fa:=(Aa x:Int)) (by omega) hRa hRb (an0:=(Ci x y).2.1) (n:=(At x).length) (by omega) _ (Nat.le_refl _);unfold Ft;rw[hc,f1,f2];exact hm.1
theorem M8 {x y:AB} (hx:Aj x=true) (hy:Aj y=true) (h:Ei x y) (h7:x.1+(x.2.1.length:Int)≤7) (hxn:x.2.2.1.length≤14) (hyn:y.2.2.1.length≤105) (hr:(At x).length≤40) :
 ∃ pf,Jq x y 600=(1,0,pf)∧QJ x y pf=true:=by
 have ho:=XX hx hy h (by omega) hxn hyn hr;obtain⟨⟨n1,n2,n3,n4,n5,n6⟩,-,-,-⟩:=Ax hx
 have hz:∀ w:Int,AF (Bu (DV x y) [] w) (Dx x y).1=0:=fun w=>by
  refine (bQ ho (st:=(List.range x.2.1.length).map fun k:Nat=>GF w (x.1.toNat+k)) (by simp) w (w:=w) fun v hv=>?_).2 (h.val _ w (by simp)).symm;unfold oO;have hF:Aa x=1+x.1.toNat+x.2.1.length:=rfl;by_cases h0:v=0
  · rw[if_pos h0,if_pos h0]
  rw[if_neg h0,if_neg h0,if_pos (by omega)];by_cases h1:v≤x.1.toNat
  · rw[if_pos h1]
  · rw[if_neg h1];obtain⟨k,rfl⟩:∃ k,v=1+x.1.toNat+k:=⟨v - (1+x.1.toNat),by omega⟩;rw[show 1+x.1.toNat+k - 1 - x.1.toNat=k by omega,ACF,ACa (by omega)];have hb:=Qg w (x.1.toNat+k);rw[show 1+x.1.toNat+k - 1=x.1.toNat+k by omega];simp only[Option.map_some,Option.getD_some];omega
 have hG:DV x y=(x.1+(x.2.1.length:Int),[],(Dx x y).2.1,[(Dx x y).1]):=if_pos ho;obtain⟨I,gs,gan,l,c1,c2,c3,c4,c5,c6,c7⟩:=Pe (B:=600) ho;have hok:=(Ox ho).1;have hk:C3 (DV x y) (Dx x y).1=true:=by rw[c1,c2];exact c6
 obtain⟨⟨m1,m2,m3,m4,m5,m6⟩,-,-,-⟩:=Ax hok;have hgr:AR (DV x y)=1+(DV x y).1.toNat+(DV x y).2.1.length+(DV x y).2.2.1.length:=rfl;have hs:(DV x y).2.1=[]:=by rw[hG]
 have h1:(DV x y).1=x.1+(x.2.1.length:Int):=by rw[hG]
 have hFm:Aa (DV x y)=1+(DV x y).1.toNat:=by unfold Aa;rw[hs];simp
 obtain⟨pf,s1,s2⟩:=ZC hk (by rw[hgr,hs];simp only[List.length_nil];omega) hs (by omega) hz;refine⟨pf,?_,?_⟩
 · unfold Jq;rw[if_pos ⟨ho,by decide⟩,s1];rfl
 · unfold QJ;rw[ho,s2];rfl
theorem Tg {x y:AB}:QJ x y []=false:=by
 unfold QJ JU;rw[show rng (([]:List BB).length:Int) 1 600=false by decide];simp
theorem PB (c:EE):(At (GG c)).length≤40:=by
 obtain⟨h1,h2,h3⟩:=OE c;have hok:=Pk (c:=c);obtain⟨⟨n1,n2,n3,n4,n5,n6⟩,o1,-,-⟩:=Ax hok;have hl:=HS (x:=GG c) (k:=(GG c).2.1.length) (M:=4) (fun s hs=>F5 (o1 s hs));rw[HN] at hl;have lS:(GG c).2.1.length=K7 c:=HU _;have lO:(GG c).2.2.2.length=(AP (Jv c).1 4).toNat+1:=I5 _;have b4:=Bc (Jv c).1 (n:=4) (by omega);omega
theorem Mb (c:EE):(GG c).1+((GG c).2.1.length:Int)≤7∧(GG c).2.2.1.length≤14:=by
 obtain⟨h1,h2,h3⟩:=OE c;have lS:(GG c).2.1.length=K7 c:=HU _;have lA:(GG c).2.2.1.length=Ly c:=Km _;have l1:(GG c).1=IM c:=rfl;omega
theorem XK (c:EE):Aj (Eg (GG c))=true∧∃ pf,Jq (GG c) (Eg (GG c)) 600=(1,0,pf)∧QJ (GG c) (Eg (GG c)) pf=true:=by
 obtain⟨h7,h14⟩:=Mb c;have hok:=Pk (c:=c);have hl:=IC hok (by omega);exact⟨IE hok,M8 hok (IE hok) (K3 hok (by omega)) h7 h14 (by omega) (PB c)⟩
theorem ZT (c:EE):Aj (QI (GG c))=true∧∃ pf,Jq (GG c) (QI (GG c)) 600=(1,0,pf)∧QJ (GG c) (QI (GG c)) pf=true:=by
 obtain⟨h7,h14⟩:=Mb c;have hok:=Pk (c:=c);obtain⟨b1,b2,b3⟩:=Zw hok h14;exact⟨b1,M8 hok b1 b2 h7 h14 b3 (PB c)⟩
theorem aS (c:EE):Aj (QL (GG c))=true∧∃ pf,Jq (GG c) (QL (GG c)) 600=(1,0,pf)∧QJ (GG c) (QL (GG c)) pf=true:=by
 obtain⟨h7,h14⟩:=Mb c;have hok:=Pk (c:=c);obtain⟨b1,b2,b3⟩:=ZX hok h14;exact⟨b1,M8 hok b1 b2 h7 h14 b3 (PB c)⟩
end Go.Proofs.Ytnjedabjbeipeaa
