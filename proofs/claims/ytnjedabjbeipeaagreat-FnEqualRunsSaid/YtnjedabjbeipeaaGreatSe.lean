/-
  The value of the root of a net that compares two nets. Plain lemmas.
  Conditions: those typed in each theorem.
-/
import Derived.Test.YtnjedabjbeipeaaGreatUf
namespace Go.Proofs.YtnjedabjbeipeaaGreat
open Go.RowKit Go.ChangeShapes Go.WideShapes
set_option linter.unusedSimpArgs false
set_option linter.unusedVariables false
set_option maxRecDepth 100000
set_option maxHeartbeats 10000000
theorem fV {N:Nat} {inp:Int} {k:Nat}:∀ K,k<K→1+K≤N→A3 (UD N inp K) ((1+k:Nat):Int)=VJ inp k
 | 0,h,_=>absurd h (by omega)
 | K+1,h,hN=>by
   show A3 ((UD N inp K).set (1+K) (VJ inp K)) _=_;rw[Rt (by rw[Pv];omega)];by_cases e:k=K
   · subst e;rw[if_pos rfl]
   · rw[if_neg (by omega)];exact fV K (by omega) (by omega)
def mO (I:Nat) (st:List Int) (inp:Int) (v:Nat):Int:=if v=0 then 0 else if v≤I then VJ inp (v - 1) else (st[v - 1 - I]?).getD 0 % 2
section
variable {x:AK} {st:List Int} {inp:Int}
theorem Qr (hs:st.length=x.2.1.length) {v:Nat} (hv:v<Aa x):A3 (BV x st inp) (v:Int)=mO x.1.toNat st inp v:=by
 have hF:Aa x=1+x.1.toNat+x.2.1.length:=rfl;have hN:=Br x;unfold mO;by_cases h0:v=0
 · subst h0;rw[if_pos rfl];exact N0
 rw[if_neg h0];by_cases h1:v≤x.1.toNat
 · rw[if_pos h1,P8 hv];have h:=L9 (v0:=oV x inp) (f:=1+x.1.toNat) (st:=st) (q:=v) (k:=0) (by omega) st.length;rw[Nat.zero_add] at h;refine (show A3 (V2 x st inp) _=_ from h).trans ?_;obtain⟨k,rfl⟩:∃ k,v=1+k:=⟨v - 1,by omega⟩;show A3 (UD (A0 x) inp x.1.toNat) _=_;rw[fV x.1.toNat (by omega) (by omega),Nat.add_sub_cancel_left]
 · rw[if_neg h1,P8 hv];obtain⟨i,rfl⟩:∃ i,v=1+x.1.toNat+i:=⟨v - (1+x.1.toNat),by omega⟩;have h:=L9 (v0:=oV x inp) (f:=1+x.1.toNat) (st:=st) (q:=1+x.1.toNat+i) (k:=i+1) (by omega) (st.length - (i+1));rw[show i+1+(st.length - (i+1))=st.length by omega] at h;refine (show A3 (V2 x st inp) _=_ from h).trans ?_;show A3 ((ZO (oV x inp) (1+x.1.toNat) st i).set (1+x.1.toNat+i) ((st[i]?).getD 0 % 2)) _=_;rw[Rt (by rw[Py,ZU];omega),if_pos rfl,show 1+x.1.toNat+i - 1 - x.1.toNat=i by omega]
end
def pE (I:Nat) (st:List Int) (inp:Int):Int:=Ht ((List.range I).map (VJ inp)++st.map (· % 2))
theorem Sg {I:Nat} {st:List Int} {inp:Int}:C5 ((List.range I).map (VJ inp)++st.map (· % 2)):=by
 intro v hv;rcases CO.1 hv with hv|hv
 · obtain⟨q,_,rfl⟩:=CF.1 hv;exact X6 _ _
 · obtain⟨q,_,rfl⟩:=CF.1 hv;omega
theorem Z8 {I:Nat} {st:List Int} {inp:Int} (hl:I+st.length≤60) {v:Nat} (hv:v<1+I+st.length):mO (I+st.length) [] (pE I st inp) v=mO I st inp v:=by
 unfold mO;by_cases h0:v=0
 · rw[if_pos h0,if_pos h0]
 rw[if_neg h0,if_neg h0,if_pos (by omega)];obtain⟨k,rfl⟩:∃ k,v=1+k:=⟨v - 1,by omega⟩;rw[Nat.add_sub_cancel_left];by_cases h1:k<I
 · rw[if_pos (by omega)];exact Wu Sg (by simp;omega) (by rw[D4 (by simp;omega),Di,XQ h1];rfl)
 · rw[if_neg (by omega)];refine Wu Sg (by simp;omega) ?_;rw[ER (by simp;omega),FB,List.length_range,Di,A1 (by omega)];rfl
theorem PF {l:Int}:Af l≤l+1:=by unfold Af;split<;>omega
theorem jU {V:List Int} {fa:Nat} {An an:List Ai} {a b:Int} (hV:Lv V fa An) (hp:Ar an (Af a) (Af b) <+: An) (ha:0≤a∧a<1048576) (hb:0≤b) (h0:0≤Gx fa an a b):Be V (Gx fa an a b)=1 - (1 - Be V a)*(1 - Be V b):=by
 have f1:=Bd ha.1;have f2:=Bd hb;have f3:=PF (l:=a);unfold Gx at h0 ⊢;by_cases hn:AZ fa an (Af a) (Af b)<0
 · rw[if_pos hn] at h0;omega
 · rw[if_neg hn] at h0 ⊢;rw[H6 hV.bits (by omega),Ps hV hp ⟨f1.2,by omega⟩ f2.2 (by omega),H6 hV.bits ha.1,H6 hV.bits hb]
theorem ZB {V:List Int} {a b:Int}:1 - (1 - Be V a)*(1 - Be V b)=0↔Be V a=0∧Be V b=0:=by
 have h1:=DH V a;have h2:=DH V b;rcases (by omega:Be V a=0∨Be V a=1) with e|e<;>rcases (by omega:Be V b=0∨Be V b=1) with e2|e2<;>rw[e,e2]<;>decide
theorem MP {an:List Ai} {a b:Int} {An:List Ai} (h:Ar an a b <+: An):an <+: An:=Hx.trans h
theorem gK {fa:Int} {an:List Ai} {a b:Int}:an <+: (CA fa an a b).2:=by
 unfold CA;split
 · exact Hx
 · split
   · exact Hx.trans Hx
   · exact (Hx.trans Hx).trans Hx
theorem mK {V:List Int} {fa:Nat} {An an:List Ai} {a b:Int} (hV:Lv V fa An) (hp:(CA fa an a b).2 <+: An) (hfa:fa≤400) (h300:an.length≤300) (ha:0≤a∧a<2*((fa:Int)+an.length)) (hb:0≤b∧b<2*((fa:Int)+an.length)) (h0:0≤(CA fa an a b).1) :
 Be V (CA fa an a b).1=0↔Be V a=Be V b:=by
 have fa1:=Bd ha.1;have fb1:=Bd hb.1;have fa2:=PF (l:=a);have fb2:=PF (l:=b);have l1:=A4 (an:=an) (a:=a) (b:=Af b);have l2:=A4 (an:=Ar an a (Af b)) (a:=Af a) (b:=b);have g1:=Bw (a:=a) (b:=Af b) h300;have g2:=Bw (a:=Af a) (b:=b) g1;unfold CA at hp h0 ⊢;by_cases hn1:AZ fa an a (Af b)<0
 · rw[if_pos hn1] at h0;simp at h0
 rw[if_neg hn1] at hp h0 ⊢;by_cases hn2:AZ fa (Ar an a (Af b)) (Af a) b<0
 · rw[if_pos hn2] at h0;simp at h0
 rw[if_neg hn2] at hp h0 ⊢;simp only at hp h0 ⊢;have p1:=BQ (fa:=fa) (an:=an) (a:=a) (b:=Af b) (by omega) ha ⟨fb1.2,by omega⟩;have p2:=BQ (fa:=fa) (an:=Ar an a (Af b)) (a:=Af a) (b:=b) (by omega) ⟨fa1.2,by omega⟩ ⟨hb.1,by omega⟩;have s1:=Ps hV (MP (MP hp)) ⟨ha.1,by omega⟩ fb1.2 (show 0≤AZ fa an a (Af b) by omega);have s2:=Ps hV (MP hp) ⟨fa1.2,by omega⟩ hb.1 (show 0≤AZ fa (Ar an a (Af b)) (Af a) b by omega);have s3:=jU hV hp ⟨by omega,by omega⟩ (show 0≤AZ fa (Ar an a (Af b)) (Af a) b by omega) h0;rw[s3,ZB,s1,s2,H6 hV.bits ha.1,H6 hV.bits hb.1];have h1:=DH V a;have h2:=DH V b;rcases (by omega:Be V a=0∨Be V a=1) with e|e<;>rcases (by omega:Be V b=0∨Be V b=1) with e2|e2<;>rw[e,e2]<;>decide
theorem LE {fa:Int} {ra rb:List Int} {an0:List Ai} {i:Nat}:∀ d,(Bf fa ra rb an0 (i+d)).2.2=true→(Bf fa ra rb an0 i).2.2=true:=fun d h=>by
 cases hf:(Bf fa ra rb an0 i).2.2 with
 | true=>rfl
 | false=>rw[Bs hf d] at h;cases h
theorem ND {fa:Int} {ra rb:List Int} {an0:List Ai} {i:Nat}:∀ d,(Bf fa ra rb an0 (i+d)).2.2=true→(Bf fa ra rb an0 i).2.1 <+: (Bf fa ra rb an0 (i+d)).2.1
 | 0,_=>List.prefix_refl _
 | d+1,h=>by
   have h1:=LE (i:=i+d) 1 h;refine (ND d h1).trans ?_;have hs:=FK (fa:=fa) (ra:=ra) (rb:=rb) (an0:=an0) (i:=i+d) (s:=(Bf fa ra rb an0 (i+d)).1) (an:=(Bf fa ra rb an0 (i+d)).2.1) (Prod.ext rfl (Prod.ext rfl h1));rw[show i+(d+1)=i+d+1 by omega] at h ⊢;rw[hs] at h ⊢;split
   · rename_i hn;rw[if_pos hn] at h;cases h
   · rename_i hn;rw[if_neg hn] at h;split
     · rename_i hn2;rw[if_pos hn2] at h;cases h
     · exact gK.trans Hx
theorem Zw {V:List Int} {fa:Nat} {An:List Ai} (hV:Lv V fa An) {ra rb:List Int} {an0:List Ai} (hfa:0<fa∧fa≤400) (h300:an0.length≤300) (hA:∀ k∈ra,0≤k∧k<2*((fa:Int)+(an0.length:Int))) (hB:∀ k∈rb,0≤k∧k<2*((fa:Int)+(an0.length:Int))) {n:Nat} (hn:n≤ra.length) (hm:n≤rb.length)
 (hflag:(Bf fa ra rb an0 n).2.2=true) (hpre:(Bf fa ra rb an0 n).2.1 <+: An):∀ i,i≤n→(Be V (Bf fa ra rb an0 i).1=0↔∀ j,j<i→Be V (ra.getD j 0)=Be V (rb.getD j 0))
 | 0,_=>by
   constructor
   · intro _ j hj;omega
   · intro _;exact V9 hV.zero
 | i+1,hi=>by
   have ih:=Zw hV hfa h300 hA hB hn hm hflag hpre i (by omega);obtain⟨d,rfl⟩:∃ d,n=i+1+d:=⟨n - (i+1),by omega⟩;have f1:=LE (i:=i+1) d hflag;have f0:=LE (i:=i) 1 f1;have p1:=(ND (i:=i+1) d hflag).trans hpre;have hfc:=E3 (fa:=(fa:Int)) (by omega) h300 hA hB hn hm i (by omega) f0;have hs:=FK (fa:=(fa:Int)) (ra:=ra) (rb:=rb) (an0:=an0) (i:=i) (s:=(Bf fa ra rb an0 i).1) (an:=(Bf fa ra rb an0 i).2.1) (Prod.ext rfl (Prod.ext rfl f0));generalize Bf fa ra rb an0 i=r at *;obtain⟨s,an,fl⟩:=r;simp only at f0 hfc hs ih;subst f0;rw[hs] at f1 p1 ⊢;by_cases hn1:(CA fa an (ra.getD i 0) (rb.getD i 0)).1<0
   · rw[if_pos hn1] at f1;cases f1
   rw[if_neg hn1] at f1 p1 ⊢;by_cases hn2:Gx fa (CA fa an (ra.getD i 0) (rb.getD i 0)).2 s (CA fa an (ra.getD i 0) (rb.getD i 0)).1<0
   · rw[if_pos hn2] at f1;cases f1
   rw[if_neg hn2] at f1 p1 ⊢;simp only at p1 ⊢;have ga:ra.getD i 0∈ra:=by rw[List.getD_eq_getElem?_getD,A1 (by omega)];exact Dv _
   have gb:rb.getD i 0∈rb:=by rw[List.getD_eq_getElem?_getD,A1 (by omega)];exact Dv _
   have ra1:=hA _ ga;have rb1:=hB _ gb;have hxl:=HZ (fa:=(fa:Int)) (an:=an) (a:=ra.getD i 0) (b:=rb.getD i 0) (by omega) (by omega) ⟨ra1.1,by omega⟩ ⟨rb1.1,by omega⟩;have s1:=mK hV (MP p1) (by omega) (by omega) ⟨ra1.1,by omega⟩ ⟨rb1.1,by omega⟩ (show 0≤(CA fa an (ra.getD i 0) (rb.getD i 0)).1 by omega);have s2:=jU hV p1 ⟨hfc.1.1,by omega⟩ (show 0≤(CA fa an (ra.getD i 0) (rb.getD i 0)).1 by omega) (by omega);rw[s2,ZB,ih,s1];constructor
   · rintro⟨h1,h2⟩ j hj;by_cases e:j=i
     · subst e;exact h2
     · exact h1 j (by omega)
   · intro h;exact⟨fun j hj=>h j (by omega),h i (by omega)⟩
section
variable {a b:AK}
theorem PZ (h:Ej a b=true):He a b=true∧(Cr a).2.2=true∧(Cw a b).2.2=true∧(DM a b).2.2=true:=by
 simp only[Ej,Bool.and_eq_true] at h;exact⟨h.1.1.1,h.1.1.2,h.1.2,h.2⟩
theorem Se {x:AK} (hok:Al x=true) {an0 An:List Ai} (h1:an0.length≤300) (h2:G8 (Aa x) an0) (hf:(Dl x an0 x.2.2.1.length).2.2=true) (hpre:(Dl x an0 x.2.2.1.length).2.1 <+: An) {V W:List Int} (hV:Lv V (Aa x) An) (hW:Lv W (Aa x) x.2.2.1)
 (hleaf:∀ v:Nat,v<Aa x→A3 V v=A3 W v):∀ l∈Ay x,Be V (Aq (Dl x an0 x.2.2.1.length).1 l)=Be W l:=by
 have hN:=Br x;obtain⟨hF,hgl,hNi,hno⟩:=A9 hok;obtain⟨⟨n1,n2,n3,n4,n5,n6⟩,o1,o2,o3⟩:=AA hok;have hF':Aa x=1+x.1.toNat+x.2.1.length:=rfl;have hI:=fun i hi=>(HA hok h1 h2 (i:=i) hi).1;have hs:=ZV hok (fa:=Aa x) (skip:=-1) (inst:=0) (an0:=an0) (Nat.le_refl _) hV hW hleaf (fun i hi _=>absurd hi (by omega)) (by omega) hI hpre hf x.2.2.1.length (Nat.le_refl _);have I:=hI _ (Nat.le_refl _);intro l hl;have hr:=o2 l hl;have hlen:=I.len hf;have hp:=BK I.pl (by omega) (l / 2);have h3:=I.an;refine Uo hV.bits hW.bits ⟨hp.1,by omega⟩ ?_;have:=hs (l / 2).toNat (by omega);rw[show (((l / 2).toNat:Nat):Int)=l / 2 by omega] at this;exact this
theorem oC (hok:Al a=true):JV (Aa a) (Aa a+a.2.2.1.length) (Cr a):=(HA hok (by simp) (by simp[G8,BU]) (Nat.le_refl _)).1
theorem mN {x:AK} {an0:List Ai} {n:Nat}:an0 <+: (Dl x an0 n).2.1:=by
 have:=Uf (x:=x) (fa:=Aa x) (skip:=-1) (inst:=0) (to0:=BE (Aa x)) (an0:=an0) (i:=0) n;rw[Nat.zero_add] at this;exact this
theorem K6 {α:Type} {f:α→Int} {xs:List α} {j:Nat} (h:j<xs.length):(xs.map f).getD j 0=f xs[j]:=by
 rw[List.getD_eq_getElem?_getD,Di,A1 h];rfl
theorem cF (h:Ej a b=true) {st:List Int} (hs:st.length=a.2.1.length) (inp:Int) {w:Int} (hw:∀ v:Nat,v<Aa a→mO (a.1.toNat+a.2.1.length) [] w v=mO a.1.toNat st inp v) :
 Be (BV (Fy a b) [] w) (DM a b).1=0↔(Ay a).map (Be (BV a st inp))=(Ay b).map (Be (BV b st inp)):=by
 obtain⟨hc,f1,f2,f3⟩:=PZ h;obtain⟨oa,ob,e1,e2,e3,e4,e5,e6⟩:=HF hc;obtain⟨⟨n1,n2,n3,n4,n5,n6⟩,o1,o2,o3⟩:=AA oa;have hm:=(ZY h).1;have hG:Fy a b=(a.1+(a.2.1.length:Int),[],(DM a b).2.1,[(DM a b).1]):=if_pos h
 have hFm:Aa (Fy a b)=Aa a:=by
  rw[hG];show 1+(a.1+(a.2.1.length:Int)).toNat+0=1+a.1.toNat+a.2.1.length;omega
 have hFa:Aa a=1+a.1.toNat+a.2.1.length:=rfl
 have hV:Lv (BV (Fy a b) [] w) (Aa a) (DM a b).2.1:=by
  have:=N1 (st:=[]) (inp:=w) hm;rw[hFm] at this;rw[hG] at this ⊢;exact this
 have hVl:∀ v:Nat,v<Aa a→A3 (BV (Fy a b) [] w) v=mO a.1.toNat st inp v:=fun v hv=>by
  rw[Qr (x:=Fy a b) (by rw[hG];rfl) (by rw[hFm];exact hv)];rw[←hw v hv,hG];show mO (a.1+(a.2.1.length:Int)).toNat [] w v=_;rw[show (a.1+(a.2.1.length:Int)).toNat=a.1.toNat+a.2.1.length by omega]
 generalize BV (Fy a b) [] w=V at *;have hWa:=N1 (st:=st) (inp:=inp) oa;have hWb:=N1 (st:=st) (inp:=inp) ob;have I1:=oC oa;have I1an:=I1.an;have I2:=(HA ob (an0:=(Cr a).2.1) I1an (by rw[e5];exact I1.ok) (i:=b.2.2.1.length) (Nat.le_refl _));have p3:(DM a b).2.1 <+: (DM a b).2.1:=List.prefix_refl _
 have p2:(Cw a b).2.1 <+: (DM a b).2.1:=by
  have:=ND (fa:=(Aa a:Int)) (ra:=Bo a (Cr a).1) (rb:=Bo b (Cw a b).1) (an0:=(Cw a b).2.1) (i:=0) (Ay a).length (by rw[Nat.zero_add];exact f3);rw[Nat.zero_add] at this;exact this
 have p1:(Cr a).2.1 <+: (DM a b).2.1:=mN.trans p2;have ra:=Se oa (an0:=[]) (by simp) (by simp[G8,BU]) f1 p1 hV hWa (fun v hv=>by rw[hVl v hv,Qr hs hv]);have rb:=Se ob (an0:=(Cr a).2.1) I1an (by rw[e5];exact I1.ok) f2 p2 (by rw[e5];exact hV) hWb (fun v hv=>by rw[e5] at hv;rw[hVl v hv,Qr (by rw[hs,e2]) (by rw[e5];exact hv),e1]);have I2l:(Cw a b).2.1.length≤300:=I2.1.an;have I2le:(Cr a).2.1.length≤(Cw a b).2.1.length:=I2.2;have hpa:=HM I1.pl (m:=(Aa a:Int)+(Cw a b).2.1.length) (by omega);have hpb:=HM I2.1.pl (m:=(Aa a:Int)+(Cw a b).2.1.length) (by rw[e5];exact Int.le_refl _)
 have hRa:∀ k∈Bo a (Cr a).1,0≤k∧k<2*((Aa a:Int)+((Cw a b).2.1.length:Int)):=fun k hk=>by
  obtain⟨l,hl,rfl⟩:=CF.1 hk;exact Bq (BK hpa (by omega) _) (by omega)
 have hRb:∀ k∈Bo b (Cw a b).1,0≤k∧k<2*((Aa a:Int)+((Cw a b).2.1.length:Int)):=fun k hk=>by
  obtain⟨l,hl,rfl⟩:=CF.1 hk;exact Bq (BK hpb (by omega) _) (by omega)
 have la:(Bo a (Cr a).1).length=(Ay a).length:=FB _;have lb:(Bo b (Cw a b).1).length=(Ay b).length:=FB _;have key:=Zw hV (by omega) I2l hRa hRb (n:=(Ay a).length) (by omega) (by omega) f3 p3 (Ay a).length (Nat.le_refl _);refine (show _↔_ from key).trans ?_;constructor
 · intro hj;apply List.ext_getElem (by simp;omega);intro j h1 h2;rw[FB] at h1 h2;have:=hj j h1;unfold Bo at this;rw[K6 h1,K6 h2] at this;have q1:=ra _ (Dv h1);have q2:=rb _ (Dv h2);simp only[List.getElem_map];exact q1.symm.trans (this.trans q2)
 · intro he j hj;have h2:j<(Ay b).length:=by omega
   unfold Bo;rw[K6 hj,K6 h2];have q1:=ra _ (Dv hj);have q2:=rb _ (Dv h2);have:=congrArg (fun L:List Int=>L[j]?) he;simp only[Di,A1 hj,A1 h2,Option.map_some,Option.some.injEq] at this;exact q1.trans (this.trans q2.symm)
end
end Go.Proofs.YtnjedabjbeipeaaGreat
