/-
  The value of the root of a net that compares two nets. Plain lemmas.
  Conditions: those typed in each theorem.
-/
import Derived.Test.YtnjedabjbeipeaaUb
namespace Go.Proofs.Ytnjedabjbeipeaa
open Go.RowKit Go.ChangeShapes Go.WideShapes
set_option linter.unusedSimpArgs false
set_option linter.unusedVariables false
set_option maxRecDepth 100000
set_option maxHeartbeats 10000000
theorem fM {N:Nat} {inp:Int} {k:Nat}:∀ K,k<K→1+K≤N→Av (WV N inp K) ((1+k:Nat):Int)=GF inp k
 | 0,h,_=>absurd h (by omega)
 | K+1,h,hN=>by
   show Av ((WV N inp K).set (1+K) (GF inp K)) _=_;rw[Pj (by rw[TI];omega)];by_cases e:k=K
   · subst e;rw[if_pos rfl]
   · rw[if_neg (by omega)];exact fM K (by omega) (by omega)
def oO (I:Nat) (st:List Int) (inp:Int) (v:Nat):Int:=if v=0 then 0 else if v≤I then GF inp (v - 1) else (st[v - 1 - I]?).getD 0 % 2
section
variable {x:AB} {st:List Int} {inp:Int}
theorem IG (hs:st.length=x.2.1.length) {v:Nat} (hv:v<Aa x):Av (Bu x st inp) (v:Int)=oO x.1.toNat st inp v:=by
 have hF:Aa x=1+x.1.toNat+x.2.1.length:=rfl;have hN:=Bn x;unfold oO;by_cases h0:v=0
 · subst h0;rw[if_pos rfl];exact Nd
 rw[if_neg h0];by_cases h1:v≤x.1.toNat
 · rw[if_pos h1,OT hv];have h:=L6 (v0:=oR x inp) (f:=1+x.1.toNat) (st:=st) (q:=v) (k:=0) (by omega) st.length;rw[Nat.zero_add] at h;refine (show Av (Wr x st inp) _=_ from h).trans ?_;obtain⟨k,rfl⟩:∃ k,v=1+k:=⟨v - 1,by omega⟩;show Av (WV (AR x) inp x.1.toNat) _=_;rw[fM x.1.toNat (by omega) (by omega),Nat.add_sub_cancel_left]
 · rw[if_neg h1,OT hv];obtain⟨i,rfl⟩:∃ i,v=1+x.1.toNat+i:=⟨v - (1+x.1.toNat),by omega⟩;have h:=L6 (v0:=oR x inp) (f:=1+x.1.toNat) (st:=st) (q:=1+x.1.toNat+i) (k:=i+1) (by omega) (st.length - (i+1));rw[show i+1+(st.length - (i+1))=st.length by omega] at h;refine (show Av (Wr x st inp) _=_ from h).trans ?_;show Av ((nP (oR x inp) (1+x.1.toNat) st i).set (1+x.1.toNat+i) ((st[i]?).getD 0 % 2)) _=_;rw[Pj (by rw[TS,YD];omega),if_pos rfl,show 1+x.1.toNat+i - 1 - x.1.toNat=i by omega]
end
theorem Tp {l:Int}:Ad l≤l+1:=by unfold Ad;split<;>omega
theorem XB {V:List Int} {fa:Nat} {An an:List Ah} {a b:Int} (hV:EP V fa An) (hp:Ak an (Ad a) (Ad b) <+: An) (ha:0≤a∧a<1048576) (hb:0≤b) (h0:0≤E4 fa an a b):AF V (E4 fa an a b)=1 - (1 - AF V a)*(1 - AF V b):=by
 have f1:=AU ha.1;have f2:=AU hb;have f3:=Tp (l:=a);unfold E4 at h0 ⊢;by_cases hn:AG fa an (Ad a) (Ad b)<0
 · rw[if_pos hn] at h0;omega
 · rw[if_neg hn] at h0 ⊢;rw[FF hV.bits (by omega),Ji hV hp ⟨f1.2,by omega⟩ f2.2 (by omega),FF hV.bits ha.1,FF hV.bits hb]
theorem YL {V:List Int} {a b:Int}:1 - (1 - AF V a)*(1 - AF V b)=0↔AF V a=0∧AF V b=0:=by
 have h1:=DY V a;have h2:=DY V b;rcases (by omega:AF V a=0∨AF V a=1) with e|e<;>rcases (by omega:AF V b=0∨AF V b=1) with e2|e2<;>rw[e,e2]<;>decide
theorem LJ {an:List Ah} {a b:Int} {An:List Ah} (h:Ak an a b <+: An):an <+: An:=DW.trans h
theorem dN {fa:Int} {an:List Ah} {a b:Int}:an <+: (Ce fa an a b).2:=by
 unfold Ce;split
 · exact DW
 · split
   · exact DW.trans DW
   · exact (DW.trans DW).trans DW
theorem lT {V:List Int} {fa:Nat} {An an:List Ah} {a b:Int} (hV:EP V fa An) (hp:(Ce fa an a b).2 <+: An) (hfa:fa≤400) (h300:an.length≤300) (ha:0≤a∧a<2*((fa:Int)+an.length)) (hb:0≤b∧b<2*((fa:Int)+an.length)) (h0:0≤(Ce fa an a b).1) :
 AF V (Ce fa an a b).1=0↔AF V a=AF V b:=by
 have fa1:=AU ha.1;have fb1:=AU hb.1;have fa2:=Tp (l:=a);have fb2:=Tp (l:=b);have l1:=AM (an:=an) (a:=a) (b:=Ad b);have l2:=AM (an:=Ak an a (Ad b)) (a:=Ad a) (b:=b);have g1:=Bv (a:=a) (b:=Ad b) h300;have g2:=Bv (a:=Ad a) (b:=b) g1;unfold Ce at hp h0 ⊢;by_cases hn1:AG fa an a (Ad b)<0
 · rw[if_pos hn1] at h0;simp at h0
 rw[if_neg hn1] at hp h0 ⊢;by_cases hn2:AG fa (Ak an a (Ad b)) (Ad a) b<0
 · rw[if_pos hn2] at h0;simp at h0
 rw[if_neg hn2] at hp h0 ⊢;simp only at hp h0 ⊢;have p1:=BA (fa:=fa) (an:=an) (a:=a) (b:=Ad b) (by omega) ha ⟨fb1.2,by omega⟩;have p2:=BA (fa:=fa) (an:=Ak an a (Ad b)) (a:=Ad a) (b:=b) (by omega) ⟨fa1.2,by omega⟩ ⟨hb.1,by omega⟩;have s1:=Ji hV (LJ (LJ hp)) ⟨ha.1,by omega⟩ fb1.2 (show 0≤AG fa an a (Ad b) by omega);have s2:=Ji hV (LJ hp) ⟨fa1.2,by omega⟩ hb.1 (show 0≤AG fa (Ak an a (Ad b)) (Ad a) b by omega);have s3:=XB hV hp ⟨by omega,by omega⟩ (show 0≤AG fa (Ak an a (Ad b)) (Ad a) b by omega) h0;rw[s3,YL,s1,s2,FF hV.bits ha.1,FF hV.bits hb.1];have h1:=DY V a;have h2:=DY V b;rcases (by omega:AF V a=0∨AF V a=1) with e|e<;>rcases (by omega:AF V b=0∨AF V b=1) with e2|e2<;>rw[e,e2]<;>decide
theorem Lb {fa:Int} {ra rb:List Int} {an0:List Ah} {i:Nat}:∀ d,(A1 fa ra rb an0 (i+d)).2.2=true→(A1 fa ra rb an0 i).2.2=true:=fun d h=>by
 cases hf:(A1 fa ra rb an0 i).2.2 with
 | true=>rfl
 | false=>rw[Bo hf d] at h;cases h
theorem M6 {fa:Int} {ra rb:List Int} {an0:List Ah} {i:Nat}:∀ d,(A1 fa ra rb an0 (i+d)).2.2=true→(A1 fa ra rb an0 i).2.1 <+: (A1 fa ra rb an0 (i+d)).2.1
 | 0,_=>List.prefix_refl _
 | d+1,h=>by
   have h1:=Lb (i:=i+d) 1 h;refine (M6 d h1).trans ?_;have hs:=E7 (fa:=fa) (ra:=ra) (rb:=rb) (an0:=an0) (i:=i+d) (s:=(A1 fa ra rb an0 (i+d)).1) (an:=(A1 fa ra rb an0 (i+d)).2.1) (Prod.ext rfl (Prod.ext rfl h1));rw[show i+(d+1)=i+d+1 by omega] at h ⊢;rw[hs] at h ⊢;split
   · rename_i hn;rw[if_pos hn] at h;cases h
   · rename_i hn;rw[if_neg hn] at h;split
     · rename_i hn2;rw[if_pos hn2] at h;cases h
     · exact dN.trans DW
theorem Ym {V:List Int} {fa:Nat} {An:List Ah} (hV:EP V fa An) {ra rb:List Int} {an0:List Ah} (hfa:0<fa∧fa≤400) (h300:an0.length≤300) (hA:∀ k∈ra,0≤k∧k<2*((fa:Int)+(an0.length:Int))) (hB:∀ k∈rb,0≤k∧k<2*((fa:Int)+(an0.length:Int))) {n:Nat} (hn:n≤ra.length) (hm:n≤rb.length)
 (hflag:(A1 fa ra rb an0 n).2.2=true) (hpre:(A1 fa ra rb an0 n).2.1 <+: An):∀ i,i≤n→(AF V (A1 fa ra rb an0 i).1=0↔∀ j,j<i→AF V (ra.getD j 0)=AF V (rb.getD j 0))
 | 0,_=>by
   constructor
   · intro _ j hj;omega
   · intro _;exact Qn hV.zero
 | i+1,hi=>by
   have ih:=Ym hV hfa h300 hA hB hn hm hflag hpre i (by omega);obtain⟨d,rfl⟩:∃ d,n=i+1+d:=⟨n - (i+1),by omega⟩;have f1:=Lb (i:=i+1) d hflag;have f0:=Lb (i:=i) 1 f1;have p1:=(M6 (i:=i+1) d hflag).trans hpre;have hfc:=Fp (fa:=(fa:Int)) (by omega) h300 hA hB hn hm i (by omega) f0;have hs:=E7 (fa:=(fa:Int)) (ra:=ra) (rb:=rb) (an0:=an0) (i:=i) (s:=(A1 fa ra rb an0 i).1) (an:=(A1 fa ra rb an0 i).2.1) (Prod.ext rfl (Prod.ext rfl f0));generalize A1 fa ra rb an0 i=r at *;obtain⟨s,an,fl⟩:=r;simp only at f0 hfc hs ih;subst f0;rw[hs] at f1 p1 ⊢;by_cases hn1:(Ce fa an (ra.getD i 0) (rb.getD i 0)).1<0
   · rw[if_pos hn1] at f1;cases f1
   rw[if_neg hn1] at f1 p1 ⊢;by_cases hn2:E4 fa (Ce fa an (ra.getD i 0) (rb.getD i 0)).2 s (Ce fa an (ra.getD i 0) (rb.getD i 0)).1<0
   · rw[if_pos hn2] at f1;cases f1
   rw[if_neg hn2] at f1 p1 ⊢;simp only at p1 ⊢;have ga:ra.getD i 0∈ra:=by rw[List.getD_eq_getElem?_getD,zz0 (by omega)];exact AB7 _
   have gb:rb.getD i 0∈rb:=by rw[List.getD_eq_getElem?_getD,zz0 (by omega)];exact AB7 _
   have ra1:=hA _ ga;have rb1:=hB _ gb;have hxl:=Ii (fa:=(fa:Int)) (an:=an) (a:=ra.getD i 0) (b:=rb.getD i 0) (by omega) (by omega) ⟨ra1.1,by omega⟩ ⟨rb1.1,by omega⟩;have s1:=lT hV (LJ p1) (by omega) (by omega) ⟨ra1.1,by omega⟩ ⟨rb1.1,by omega⟩ (show 0≤(Ce fa an (ra.getD i 0) (rb.getD i 0)).1 by omega);have s2:=XB hV p1 ⟨hfc.1.1,by omega⟩ (show 0≤(Ce fa an (ra.getD i 0) (rb.getD i 0)).1 by omega) (by omega);rw[s2,YL,ih,s1];constructor
   · rintro⟨h1,h2⟩ j hj;by_cases e:j=i
     · subst e;exact h2
     · exact h1 j (by omega)
   · intro h;exact⟨fun j hj=>h j (by omega),h i (by omega)⟩
section
variable {a b:AB}
theorem pY (h:Ft a b=true):Jm a b=true∧(Cc a).2.2=true∧(Ci a b).2.2=true∧(Dx a b).2.2=true:=by
 simp only[Ft,Bool.and_eq_true] at h;exact⟨h.1.1.1,h.1.1.2,h.1.2,h.2⟩
theorem MF {x:AB} (hok:Aj x=true) {an0 An:List Ah} (h1:an0.length≤300) (h2:ES (Aa x) an0) (hf:(Cx x an0 x.2.2.1.length).2.2=true) (hpre:(Cx x an0 x.2.2.1.length).2.1 <+: An) {V W:List Int} (hV:EP V (Aa x) An) (hW:EP W (Aa x) x.2.2.1)
 (hleaf:∀ v:Nat,v<Aa x→Av V v=Av W v):∀ l∈At x,AF V (Ap (Cx x an0 x.2.2.1.length).1 l)=AF W l:=by
 have hN:=Bn x;obtain⟨hF,hgl,hNi,hno⟩:=Bz hok;obtain⟨⟨n1,n2,n3,n4,n5,n6⟩,o1,o2,o3⟩:=Ax hok;have hF':Aa x=1+x.1.toNat+x.2.1.length:=rfl;have hI:=fun i hi=>(G6 hok h1 h2 (i:=i) hi).1;have hs:=YB hok (fa:=Aa x) (skip:=-1) (inst:=0) (an0:=an0) (Nat.le_refl _) hV hW hleaf (fun i hi _=>absurd hi (by omega)) (by omega) hI hpre hf x.2.2.1.length (Nat.le_refl _);have I:=hI _ (Nat.le_refl _);intro l hl;have hr:=o2 l hl;have hlen:=I.len hf;have hp:=Bw I.pl (by omega) (l / 2);have h3:=I.an;refine G7 hV.bits hW.bits ⟨hp.1,by omega⟩ ?_;have:=hs (l / 2).toNat (by omega);rw[show (((l / 2).toNat:Nat):Int)=l / 2 by omega] at this;exact this
theorem Yp (hok:Aj a=true):NC (Aa a) (Aa a+a.2.2.1.length) (Cc a):=(G6 hok (by simp) (by simp[ES,BO]) (Nat.le_refl _)).1
theorem lF {x:AB} {an0:List Ah} {n:Nat}:an0 <+: (Cx x an0 n).2.1:=by
 have:=SO (x:=x) (fa:=Aa x) (skip:=-1) (inst:=0) (to0:=BQ (Aa x)) (an0:=an0) (i:=0) n;rw[Nat.zero_add] at this;exact this
theorem KD {α:Type} {f:α→Int} {xs:List α} {j:Nat} (h:j<xs.length):(xs.map f).getD j 0=f xs[j]:=by
 rw[List.getD_eq_getElem?_getD,ACF,zz0 h];rfl
theorem bQ (h:Ft a b=true) {st:List Int} (hs:st.length=a.2.1.length) (inp:Int) {w:Int} (hw:∀ v:Nat,v<Aa a→oO (a.1.toNat+a.2.1.length) [] w v=oO a.1.toNat st inp v) :
 AF (Bu (DV a b) [] w) (Dx a b).1=0↔(At a).map (AF (Bu a st inp))=(At b).map (AF (Bu b st inp)):=by
 obtain⟨hc,f1,f2,f3⟩:=pY h;obtain⟨oa,ob,e1,e2,e3,e4,e5,e6⟩:=Oz hc;obtain⟨⟨n1,n2,n3,n4,n5,n6⟩,o1,o2,o3⟩:=Ax oa;have hm:=(Ox h).1;have hG:DV a b=(a.1+(a.2.1.length:Int),[],(Dx a b).2.1,[(Dx a b).1]):=if_pos h
 have hFm:Aa (DV a b)=Aa a:=by
  rw[hG];show 1+(a.1+(a.2.1.length:Int)).toNat+0=1+a.1.toNat+a.2.1.length;omega
 have hFa:Aa a=1+a.1.toNat+a.2.1.length:=rfl
 have hV:EP (Bu (DV a b) [] w) (Aa a) (Dx a b).2.1:=by
  have:=D4 (st:=[]) (inp:=w) hm;rw[hFm] at this;rw[hG] at this ⊢;exact this
 have hVl:∀ v:Nat,v<Aa a→Av (Bu (DV a b) [] w) v=oO a.1.toNat st inp v:=fun v hv=>by
  rw[IG (x:=DV a b) (by rw[hG];rfl) (by rw[hFm];exact hv)];rw[←hw v hv,hG];show oO (a.1+(a.2.1.length:Int)).toNat [] w v=_;rw[show (a.1+(a.2.1.length:Int)).toNat=a.1.toNat+a.2.1.length by omega]
 generalize Bu (DV a b) [] w=V at *;have hWa:=D4 (st:=st) (inp:=inp) oa;have hWb:=D4 (st:=st) (inp:=inp) ob;have I1:=Yp oa;have I1an:=I1.an;have I2:=(G6 ob (an0:=(Cc a).2.1) I1an (by rw[e5];exact I1.ok) (i:=b.2.2.1.length) (Nat.le_refl _));have p3:(Dx a b).2.1 <+: (Dx a b).2.1:=List.prefix_refl _
 have p2:(Ci a b).2.1 <+: (Dx a b).2.1:=by
  have:=M6 (fa:=(Aa a:Int)) (ra:=BH a (Cc a).1) (rb:=BH b (Ci a b).1) (an0:=(Ci a b).2.1) (i:=0) (At a).length (by rw[Nat.zero_add];exact f3);rw[Nat.zero_add] at this;exact this
 have p1:(Cc a).2.1 <+: (Dx a b).2.1:=lF.trans p2;have ra:=MF oa (an0:=[]) (by simp) (by simp[ES,BO]) f1 p1 hV hWa (fun v hv=>by rw[hVl v hv,IG hs hv]);have rb:=MF ob (an0:=(Cc a).2.1) I1an (by rw[e5];exact I1.ok) f2 p2 (by rw[e5];exact hV) hWb (fun v hv=>by rw[e5] at hv;rw[hVl v hv,IG (by rw[hs,e2]) (by rw[e5];exact hv),e1]);have I2l:(Ci a b).2.1.length≤300:=I2.1.an;have I2le:(Cc a).2.1.length≤(Ci a b).2.1.length:=I2.2;have hpa:=Hb I1.pl (m:=(Aa a:Int)+(Ci a b).2.1.length) (by omega);have hpb:=Hb I2.1.pl (m:=(Aa a:Int)+(Ci a b).2.1.length) (by rw[e5];exact Int.le_refl _)
 have hRa:∀ k∈BH a (Cc a).1,0≤k∧k<2*((Aa a:Int)+((Ci a b).2.1.length:Int)):=fun k hk=>by
  obtain⟨l,hl,rfl⟩:=ACP.1 hk;exact Bf (Bw hpa (by omega) _) (by omega)
 have hRb:∀ k∈BH b (Ci a b).1,0≤k∧k<2*((Aa a:Int)+((Ci a b).2.1.length:Int)):=fun k hk=>by
  obtain⟨l,hl,rfl⟩:=ACP.1 hk;exact Bf (Bw hpb (by omega) _) (by omega)
 have la:(BH a (Cc a).1).length=(At a).length:=ACH _;have lb:(BH b (Ci a b).1).length=(At b).length:=ACH _;have key:=Ym hV (by omega) I2l hRa hRb (n:=(At a).length) (by omega) (by omega) f3 p3 (At a).length (Nat.le_refl _);refine (show _↔_ from key).trans ?_;constructor
 · intro hj;apply List.ext_getElem (by simp;omega);intro j h1 h2;rw[ACH] at h1 h2;have:=hj j h1;unfold BH at this;rw[KD h1,KD h2] at this;have q1:=ra _ (AB7 h1);have q2:=rb _ (AB7 h2);simp only[List.getElem_map];exact q1.symm.trans (this.trans q2)
 · intro he j hj;have h2:j<(At b).length:=by omega
   unfold BH;rw[KD hj,KD h2];have q1:=ra _ (AB7 hj);have q2:=rb _ (AB7 h2);have:=congrArg (fun L:List Int=>L[j]?) he;simp only[ACF,zz0 hj,zz0 h2,Option.map_some,Option.some.injEq] at this;exact q1.trans (this.trans q2.symm)
end
end Go.Proofs.Ytnjedabjbeipeaa
