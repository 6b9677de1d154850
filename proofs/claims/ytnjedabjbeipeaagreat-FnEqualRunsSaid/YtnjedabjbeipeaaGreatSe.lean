/-
  The value of the root of a net that compares two nets. Plain lemmas.
  Conditions: those typed in each theorem.
-/
import Derived.Test.YtnjedabjbeipeaaGreatUf
namespace Go.Proofs.YtnjedabjbeipeaaGreat
open Go.RowKit Go.ChangeShapes Go.WideShapes
set_option linter.unusedSimpArgs false
set_option linter.unusedVariables false
set_option maxRecDepth 100000
set_option maxHeartbeats 10000000
theorem fZ {N:Nat} {inp:Int} {k:Nat}:∀ K,k<K→1+K≤N→A3 (T9 N inp K) ((1+k:Nat):Int)=Xk inp k
 | 0,h,_=>absurd h (by omega)
 | K+1,h,hN=>by
   show A3 ((T9 N inp K).set (1+K) (Xk inp K)) _=_;rw[Ry (by rw[Pk];omega)];by_cases e:k=K
   · subst e;rw[if_pos rfl]
   · rw[if_neg (by omega)];exact fZ K (by omega) (by omega)
def mX (I:Nat) (st:List Int) (inp:Int) (v:Nat):Int:=if v=0 then 0 else if v≤I then Xk inp (v - 1) else (st[v - 1 - I]?).getD 0 % 2
section
variable {x:AK} {st:List Int} {inp:Int}
theorem Rk (hs:st.length=x.2.1.length) {v:Nat} (hv:v<Aa x):A3 (BV x st inp) (v:Int)=mX x.1.toNat st inp v:=by
 have hF:Aa x=1+x.1.toNat+x.2.1.length:=rfl;have hN:=Br x;unfold mX;by_cases h0:v=0
 · subst h0;rw[if_pos rfl];exact Nq
 rw[if_neg h0];by_cases h1:v≤x.1.toNat
 · rw[if_pos h1,Rw hv];have h:=MS (v0:=oV x inp) (f:=1+x.1.toNat) (st:=st) (q:=v) (k:=0) (by omega) st.length;rw[Nat.zero_add] at h;refine (show A3 (VW x st inp) _=_ from h).trans ?_;obtain⟨k,rfl⟩:∃ k,v=1+k:=⟨v - 1,by omega⟩;show A3 (T9 (A0 x) inp x.1.toNat) _=_;rw[fZ x.1.toNat (by omega) (by omega),Nat.add_sub_cancel_left]
 · rw[if_neg h1,Rw hv];obtain⟨i,rfl⟩:∃ i,v=1+x.1.toNat+i:=⟨v - (1+x.1.toNat),by omega⟩;have h:=MS (v0:=oV x inp) (f:=1+x.1.toNat) (st:=st) (q:=1+x.1.toNat+i) (k:=i+1) (by omega) (st.length - (i+1));rw[show i+1+(st.length - (i+1))=st.length by omega] at h;refine (show A3 (VW x st inp) _=_ from h).trans ?_;show A3 ((ZZ (oV x inp) (1+x.1.toNat) st i).set (1+x.1.toNat+i) ((st[i]?).getD 0 % 2)) _=_;rw[Ry (by rw[Pd,Zl];omega),if_pos rfl,show 1+x.1.toNat+i - 1 - x.1.toNat=i by omega]
end
def pM (I:Nat) (st:List Int) (inp:Int):Int:=Hp ((List.range I).map (Xk inp)++st.map (· % 2))
theorem TE {I:Nat} {st:List Int} {inp:Int}:C5 ((List.range I).map (Xk inp)++st.map (· % 2)):=by
 intro v hv;rcases CO.1 hv with hv|hv
 · obtain⟨q,_,rfl⟩:=CE.1 hv;exact Yp _ _
 · obtain⟨q,_,rfl⟩:=CE.1 hv;omega
theorem cI {I:Nat} {st:List Int} {inp:Int} (hl:I+st.length≤60) {v:Nat} (hv:v<1+I+st.length):mX (I+st.length) [] (pM I st inp) v=mX I st inp v:=by
 unfold mX;by_cases h0:v=0
 · rw[if_pos h0,if_pos h0]
 rw[if_neg h0,if_neg h0,if_pos (by omega)];obtain⟨k,rfl⟩:∃ k,v=1+k:=⟨v - 1,by omega⟩;rw[Nat.add_sub_cancel_left];by_cases h1:k<I
 · rw[if_pos (by omega)];exact Vz TE (by simp;omega) (by rw[DZ (by simp;omega),Di,Yx h1];rfl)
 · rw[if_neg (by omega)];refine Vz TE (by simp;omega) ?_;rw[ET (by simp;omega),Fy,List.length_range,Di,A1 (by omega)];rfl
theorem Pm {l:Int}:Af l≤l+1:=by unfold Af;split<;>omega
theorem iU {V:List Int} {fa:Nat} {An an:List Ai} {a b:Int} (hV:Lp V fa An) (hp:Ar an (Af a) (Af b) <+: An) (ha:0≤a∧a<1048576) (hb:0≤b) (h0:0≤Gw fa an a b):Be V (Gw fa an a b)=1 - (1 - Be V a)*(1 - Be V b):=by
 have f1:=Bd ha.1;have f2:=Bd hb;have f3:=Pm (l:=a);unfold Gw at h0 ⊢;by_cases hn:AZ fa an (Af a) (Af b)<0
 · rw[if_pos hn] at h0;omega
 · rw[if_neg hn] at h0 ⊢;rw[HR hV.bits (by omega),Pp hV hp ⟨f1.2,by omega⟩ f2.2 (by omega),HR hV.bits ha.1,HR hV.bits hb]
theorem Zm {V:List Int} {a b:Int}:1 - (1 - Be V a)*(1 - Be V b)=0↔Be V a=0∧Be V b=0:=by
 have h1:=DF V a;have h2:=DF V b;rcases (by omega:Be V a=0∨Be V a=1) with e|e<;>rcases (by omega:Be V b=0∨Be V b=1) with e2|e2<;>rw[e,e2]<;>decide
theorem M1 {an:List Ai} {a b:Int} {An:List Ai} (h:Ar an a b <+: An):an <+: An:=HE.trans h
theorem iS {fa:Int} {an:List Ai} {a b:Int}:an <+: (Cz fa an a b).2:=by
 unfold Cz;split
 · exact HE
 · split
   · exact HE.trans HE
   · exact (HE.trans HE).trans HE
theorem nK {V:List Int} {fa:Nat} {An an:List Ai} {a b:Int} (hV:Lp V fa An) (hp:(Cz fa an a b).2 <+: An) (hfa:fa≤400) (h300:an.length≤300) (ha:0≤a∧a<2*((fa:Int)+an.length)) (hb:0≤b∧b<2*((fa:Int)+an.length)) (h0:0≤(Cz fa an a b).1) :
 Be V (Cz fa an a b).1=0↔Be V a=Be V b:=by
 have fa1:=Bd ha.1;have fb1:=Bd hb.1;have fa2:=Pm (l:=a);have fb2:=Pm (l:=b);have l1:=A4 (an:=an) (a:=a) (b:=Af b);have l2:=A4 (an:=Ar an a (Af b)) (a:=Af a) (b:=b);have g1:=Bv (a:=a) (b:=Af b) h300;have g2:=Bv (a:=Af a) (b:=b) g1;unfold Cz at hp h0 ⊢;by_cases hn1:AZ fa an a (Af b)<0
 · rw[if_pos hn1] at h0;simp at h0
 rw[if_neg hn1] at hp h0 ⊢;by_cases hn2:AZ fa (Ar an a (Af b)) (Af a) b<0
 · rw[if_pos hn2] at h0;simp at h0
 rw[if_neg hn2] at hp h0 ⊢;simp only at hp h0 ⊢;have p1:=BR (fa:=fa) (an:=an) (a:=a) (b:=Af b) (by omega) ha ⟨fb1.2,by omega⟩;have p2:=BR (fa:=fa) (an:=Ar an a (Af b)) (a:=Af a) (b:=b) (by omega) ⟨fa1.2,by omega⟩ ⟨hb.1,by omega⟩;have s1:=Pp hV (M1 (M1 hp)) ⟨ha.1,by omega⟩ fb1.2 (show 0≤AZ fa an a (Af b) by omega);have s2:=Pp hV (M1 hp) ⟨fa1.2,by omega⟩ hb.1 (show 0≤AZ fa (Ar an a (Af b)) (Af a) b by omega);have s3:=iU hV hp ⟨by omega,by omega⟩ (show 0≤AZ fa (Ar an a (Af b)) (Af a) b by omega) h0;rw[s3,Zm,s1,s2,HR hV.bits ha.1,HR hV.bits hb.1];have h1:=DF V a;have h2:=DF V b;rcases (by omega:Be V a=0∨Be V a=1) with e|e<;>rcases (by omega:Be V b=0∨Be V b=1) with e2|e2<;>rw[e,e2]<;>decide
theorem LN {fa:Int} {ra rb:List Int} {an0:List Ai} {i:Nat}:∀ d,(Bf fa ra rb an0 (i+d)).2.2=true→(Bf fa ra rb an0 i).2.2=true:=fun d h=>by
 cases hf:(Bf fa ra rb an0 i).2.2 with
 | true=>rfl
 | false=>rw[Bs hf d] at h;cases h
theorem Na {fa:Int} {ra rb:List Int} {an0:List Ai} {i:Nat}:∀ d,(Bf fa ra rb an0 (i+d)).2.2=true→(Bf fa ra rb an0 i).2.1 <+: (Bf fa ra rb an0 (i+d)).2.1
 | 0,_=>List.prefix_refl _
 | d+1,h=>by
   have h1:=LN (i:=i+d) 1 h;refine (Na d h1).trans ?_;have hs:=FL (fa:=fa) (ra:=ra) (rb:=rb) (an0:=an0) (i:=i+d) (s:=(Bf fa ra rb an0 (i+d)).1) (an:=(Bf fa ra rb an0 (i+d)).2.1) (Prod.ext rfl (Prod.ext rfl h1));rw[show i+(d+1)=i+d+1 by omega] at h ⊢;rw[hs] at h ⊢;split
   · rename_i hn;rw[if_pos hn] at h;cases h
   · rename_i hn;rw[if_neg hn] at h;split
     · rename_i hn2;rw[if_pos hn2] at h;cases h
     · exact iS.trans HE
theorem ZW {V:List Int} {fa:Nat} {An:List Ai} (hV:Lp V fa An) {ra rb:List Int} {an0:List Ai} (hfa:0<fa∧fa≤400) (h300:an0.length≤300) (hA:∀ k∈ra,0≤k∧k<2*((fa:Int)+(an0.length:Int))) (hB:∀ k∈rb,0≤k∧k<2*((fa:Int)+(an0.length:Int))) {n:Nat} (hn:n≤ra.length) (hm:n≤rb.length)
 (hflag:(Bf fa ra rb an0 n).2.2=true) (hpre:(Bf fa ra rb an0 n).2.1 <+: An):∀ i,i≤n→(Be V (Bf fa ra rb an0 i).1=0↔∀ j,j<i→Be V (ra.getD j 0)=Be V (rb.getD j 0))
 | 0,_=>by
   constructor
   · intro _ j hj;omega
   · intro _;exact Xt hV.zero
 | i+1,hi=>by
   have ih:=ZW hV hfa h300 hA hB hn hm hflag hpre i (by omega);obtain⟨d,rfl⟩:∃ d,n=i+1+d:=⟨n - (i+1),by omega⟩;have f1:=LN (i:=i+1) d hflag;have f0:=LN (i:=i) 1 f1;have p1:=(Na (i:=i+1) d hflag).trans hpre;have hfc:=Fd (fa:=(fa:Int)) (by omega) h300 hA hB hn hm i (by omega) f0;have hs:=FL (fa:=(fa:Int)) (ra:=ra) (rb:=rb) (an0:=an0) (i:=i) (s:=(Bf fa ra rb an0 i).1) (an:=(Bf fa ra rb an0 i).2.1) (Prod.ext rfl (Prod.ext rfl f0));generalize Bf fa ra rb an0 i=r at *;obtain⟨s,an,fl⟩:=r;simp only at f0 hfc hs ih;subst f0;rw[hs] at f1 p1 ⊢;by_cases hn1:(Cz fa an (ra.getD i 0) (rb.getD i 0)).1<0
   · rw[if_pos hn1] at f1;cases f1
   rw[if_neg hn1] at f1 p1 ⊢;by_cases hn2:Gw fa (Cz fa an (ra.getD i 0) (rb.getD i 0)).2 s (Cz fa an (ra.getD i 0) (rb.getD i 0)).1<0
   · rw[if_pos hn2] at f1;cases f1
   rw[if_neg hn2] at f1 p1 ⊢;simp only at p1 ⊢;have ga:ra.getD i 0∈ra:=by rw[List.getD_eq_getElem?_getD,A1 (by omega)];exact Dv _
   have gb:rb.getD i 0∈rb:=by rw[List.getD_eq_getElem?_getD,A1 (by omega)];exact Dv _
   have ra1:=hA _ ga;have rb1:=hB _ gb;have hxl:=HO (fa:=(fa:Int)) (an:=an) (a:=ra.getD i 0) (b:=rb.getD i 0) (by omega) (by omega) ⟨ra1.1,by omega⟩ ⟨rb1.1,by omega⟩;have s1:=nK hV (M1 p1) (by omega) (by omega) ⟨ra1.1,by omega⟩ ⟨rb1.1,by omega⟩ (show 0≤(Cz fa an (ra.getD i 0) (rb.getD i 0)).1 by omega);have s2:=iU hV p1 ⟨hfc.1.1,by omega⟩ (show 0≤(Cz fa an (ra.getD i 0) (rb.getD i 0)).1 by omega) (by omega);rw[s2,Zm,ih,s1];constructor
   · rintro⟨h1,h2⟩ j hj;by_cases e:j=i
     · subst e;exact h2
     · exact h1 j (by omega)
   · intro h;exact⟨fun j hj=>h j (by omega),h i (by omega)⟩
section
variable {a b:AK}
theorem Rr (h:Ek a b=true):G3 a b=true∧(Cq a).2.2=true∧(Cw a b).2.2=true∧(DN a b).2.2=true:=by
 simp only[Ek,Bool.and_eq_true] at h;exact⟨h.1.1.1,h.1.1.2,h.1.2,h.2⟩
theorem Si {x:AK} (hok:Al x=true) {an0 An:List Ai} (h1:an0.length≤300) (h2:G5 (Aa x) an0) (hf:(Dk x an0 x.2.2.1.length).2.2=true) (hpre:(Dk x an0 x.2.2.1.length).2.1 <+: An) {V W:List Int} (hV:Lp V (Aa x) An) (hW:Lp W (Aa x) x.2.2.1)
 (hleaf:∀ v:Nat,v<Aa x→A3 V v=A3 W v):∀ l∈Ay x,Be V (Aq (Dk x an0 x.2.2.1.length).1 l)=Be W l:=by
 have hN:=Br x;obtain⟨hF,hgl,hNi,hno⟩:=A9 hok;obtain⟨⟨n1,n2,n3,n4,n5,n6⟩,o1,o2,o3⟩:=AA hok;have hF':Aa x=1+x.1.toNat+x.2.1.length:=rfl;have hI:=fun i hi=>(Hu hok h1 h2 (i:=i) hi).1;have hs:=Zy hok (fa:=Aa x) (skip:=-1) (inst:=0) (an0:=an0) (Nat.le_refl _) hV hW hleaf (fun i hi _=>absurd hi (by omega)) (by omega) hI hpre hf x.2.2.1.length (Nat.le_refl _);have I:=hI _ (Nat.le_refl _);intro l hl;have hr:=o2 l hl;have hlen:=I.len hf;have hp:=BK I.pl (by omega) (l / 2);have h3:=I.an;refine Uu hV.bits hW.bits ⟨hp.1,by omega⟩ ?_;have:=hs (l / 2).toNat (by omega);rw[show (((l / 2).toNat:Nat):Int)=l / 2 by omega] at this;exact this
theorem oQ (hok:Al a=true):JS (Aa a) (Aa a+a.2.2.1.length) (Cq a):=(Hu hok (by simp) (by simp[G5,BU]) (Nat.le_refl _)).1
theorem nM {x:AK} {an0:List Ai} {n:Nat}:an0 <+: (Dk x an0 n).2.1:=by
 have:=Uk (x:=x) (fa:=Aa x) (skip:=-1) (inst:=0) (to0:=BD (Aa x)) (an0:=an0) (i:=0) n;rw[Nat.zero_add] at this;exact this
theorem KR {α:Type} {f:α→Int} {xs:List α} {j:Nat} (h:j<xs.length):(xs.map f).getD j 0=f xs[j]:=by
 rw[List.getD_eq_getElem?_getD,Di,A1 h];rfl
theorem bW (h:Ek a b=true) {st:List Int} (hs:st.length=a.2.1.length) (inp:Int) {w:Int} (hw:∀ v:Nat,v<Aa a→mX (a.1.toNat+a.2.1.length) [] w v=mX a.1.toNat st inp v) :
 Be (BV (Fx a b) [] w) (DN a b).1=0↔(Ay a).map (Be (BV a st inp))=(Ay b).map (Be (BV b st inp)):=by
 obtain⟨hc,f1,f2,f3⟩:=Rr h;obtain⟨oa,ob,e1,e2,e3,e4,e5,e6⟩:=Hy hc;obtain⟨⟨n1,n2,n3,n4,n5,n6⟩,o1,o2,o3⟩:=AA oa;have hm:=(Zk h).1;have hG:Fx a b=(a.1+(a.2.1.length:Int),[],(DN a b).2.1,[(DN a b).1]):=if_pos h
 have hFm:Aa (Fx a b)=Aa a:=by
  rw[hG];show 1+(a.1+(a.2.1.length:Int)).toNat+0=1+a.1.toNat+a.2.1.length;omega
 have hFa:Aa a=1+a.1.toNat+a.2.1.length:=rfl
 have hV:Lp (BV (Fx a b) [] w) (Aa a) (DN a b).2.1:=by
  have:=Nv (st:=[]) (inp:=w) hm;rw[hFm] at this;rw[hG] at this ⊢;exact this
 have hVl:∀ v:Nat,v<Aa a→A3 (BV (Fx a b) [] w) v=mX a.1.toNat st inp v:=fun v hv=>by
  rw[Rk (x:=Fx a b) (by rw[hG];rfl) (by rw[hFm];exact hv)];rw[←hw v hv,hG];show mX (a.1+(a.2.1.length:Int)).toNat [] w v=_;rw[show (a.1+(a.2.1.length:Int)).toNat=a.1.toNat+a.2.1.length by omega]
 generalize BV (Fx a b) [] w=V at *;have hWa:=Nv (st:=st) (inp:=inp) oa;have hWb:=Nv (st:=st) (inp:=inp) ob;have I1:=oQ oa;have I1an:=I1.an;have I2:=(Hu ob (an0:=(Cq a).2.1) I1an (by rw[e5];exact I1.ok) (i:=b.2.2.1.length) (Nat.le_refl _));have p3:(DN a b).2.1 <+: (DN a b).2.1:=List.prefix_refl _
 have p2:(Cw a b).2.1 <+: (DN a b).2.1:=by
  have:=Na (fa:=(Aa a:Int)) (ra:=Bo a (Cq a).1) (rb:=Bo b (Cw a b).1) (an0:=(Cw a b).2.1) (i:=0) (Ay a).length (by rw[Nat.zero_add];exact f3);rw[Nat.zero_add] at this;exact this
 have p1:(Cq a).2.1 <+: (DN a b).2.1:=nM.trans p2;have ra:=Si oa (an0:=[]) (by simp) (by simp[G5,BU]) f1 p1 hV hWa (fun v hv=>by rw[hVl v hv,Rk hs hv]);have rb:=Si ob (an0:=(Cq a).2.1) I1an (by rw[e5];exact I1.ok) f2 p2 (by rw[e5];exact hV) hWb (fun v hv=>by rw[e5] at hv;rw[hVl v hv,Rk (by rw[hs,e2]) (by rw[e5];exact hv),e1]);have I2l:(Cw a b).2.1.length≤300:=I2.1.an;have I2le:(Cq a).2.1.length≤(Cw a b).2.1.length:=I2.2;have hpa:=HM I1.pl (m:=(Aa a:Int)+(Cw a b).2.1.length) (by omega);have hpb:=HM I2.1.pl (m:=(Aa a:Int)+(Cw a b).2.1.length) (by rw[e5];exact Int.le_refl _)
 have hRa:∀ k∈Bo a (Cq a).1,0≤k∧k<2*((Aa a:Int)+((Cw a b).2.1.length:Int)):=fun k hk=>by
  obtain⟨l,hl,rfl⟩:=CE.1 hk;exact Bp (BK hpa (by omega) _) (by omega)
 have hRb:∀ k∈Bo b (Cw a b).1,0≤k∧k<2*((Aa a:Int)+((Cw a b).2.1.length:Int)):=fun k hk=>by
  obtain⟨l,hl,rfl⟩:=CE.1 hk;exact Bp (BK hpb (by omega) _) (by omega)
 have la:(Bo a (Cq a).1).length=(Ay a).length:=Fy _;have lb:(Bo b (Cw a b).1).length=(Ay b).length:=Fy _;have key:=ZW hV (by omega) I2l hRa hRb (n:=(Ay a).length) (by omega) (by omega) f3 p3 (Ay a).length (Nat.le_refl _);refine (show _↔_ from key).trans ?_;constructor
 · intro hj;apply List.ext_getElem (by simp;omega);intro j h1 h2;rw[Fy] at h1 h2;have:=hj j h1;unfold Bo at this;rw[KR h1,KR h2] at this;have q1:=ra _ (Dv h1);have q2:=rb _ (Dv h2);simp only[List.getElem_map];exact q1.symm.trans (this.trans q2)
 · intro he j hj;have h2:j<(Ay b).length:=by omega
   unfold Bo;rw[KR hj,KR h2];have q1:=ra _ (Dv hj);have q2:=rb _ (Dv h2);have:=congrArg (fun L:List Int=>L[j]?) he;simp only[Di,A1 hj,A1 h2,Option.map_some,Option.some.injEq] at this;exact q1.trans (this.trans q2.symm)
end
end Go.Proofs.YtnjedabjbeipeaaGreat
