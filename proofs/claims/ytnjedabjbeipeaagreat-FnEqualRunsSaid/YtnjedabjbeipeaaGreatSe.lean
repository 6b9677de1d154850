/-
  The value of the root of a net that compares two nets. Plain lemmas.
  Conditions: those typed in each theorem.
-/
import Derived.Test.YtnjedabjbeipeaaGreatUf
namespace Go.Proofs.YtnjedabjbeipeaaGreat
open Go.RowKit Go.ChangeShapes Go.WideShapes
set_option linter.unusedSimpArgs false
set_option linter.unusedVariables false
set_option maxRecDepth 100000
set_option maxHeartbeats 10000000
theorem jO {N:Nat} {inp:Int} {k:Nat}:∀ K,k<K→1+K≤N→A1 (Tq N inp K) ((1+k:Nat):Int)=Uz inp k
 | 0,h,_=>absurd h (by omega)
 | K+1,h,hN=>by
   show A1 ((Tq N inp K).set (1+K) (Uz inp K)) _=_;rw[Qi (by rw[OU];omega)];by_cases e:k=K
   · subst e;rw[if_pos rfl]
   · rw[if_neg (by omega)];exact jO K (by omega) (by omega)
def mI (I:Nat) (st:List Int) (inp:Int) (v:Nat):Int:=if v=0 then 0 else if v≤I then Uz inp (v - 1) else (st[v - 1 - I]?).getD 0 % 2
section
variable {x:AK} {st:List Int} {inp:Int}
theorem Pn (hs:st.length=x.2.1.length) {v:Nat} (hv:v<Aa x):A1 (BS x st inp) (v:Int)=mI x.1.toNat st inp v:=by
 have hF:Aa x=1+x.1.toNat+x.2.1.length:=rfl;have hN:=Bp x;unfold mI;by_cases h0:v=0
 · subst h0;rw[if_pos rfl];exact Ns
 rw[if_neg h0];by_cases h1:v≤x.1.toNat
 · rw[if_pos h1,Qo hv];have h:=LC (v0:=nY x inp) (f:=1+x.1.toNat) (st:=st) (q:=v) (k:=0) (by omega) st.length;rw[Nat.zero_add] at h;refine (show A1 (Wd x st inp) _=_ from h).trans ?_;obtain⟨k,rfl⟩:∃ k,v=1+k:=⟨v - 1,by omega⟩;show A1 (Tq (A0 x) inp x.1.toNat) _=_;rw[jO x.1.toNat (by omega) (by omega),Nat.add_sub_cancel_left]
 · rw[if_neg h1,Qo hv];obtain⟨i,rfl⟩:∃ i,v=1+x.1.toNat+i:=⟨v - (1+x.1.toNat),by omega⟩;have h:=LC (v0:=nY x inp) (f:=1+x.1.toNat) (st:=st) (q:=1+x.1.toNat+i) (k:=i+1) (by omega) (st.length - (i+1));rw[show i+1+(st.length - (i+1))=st.length by omega] at h;refine (show A1 (Wd x st inp) _=_ from h).trans ?_;show A1 ((Zb (nY x inp) (1+x.1.toNat) st i).set (1+x.1.toNat+i) ((st[i]?).getD 0 % 2)) _=_;rw[Qi (by rw[O6,Y8];omega),if_pos rfl,show 1+x.1.toNat+i - 1 - x.1.toNat=i by omega]
end
def nW (I:Nat) (st:List Int) (inp:Int):Int:=G0 ((List.range I).map (Uz inp)++st.map (· % 2))
theorem SB {I:Nat} {st:List Int} {inp:Int}:CX ((List.range I).map (Uz inp)++st.map (· % 2)):=by
 intro v hv;rcases ACB.1 hv with hv|hv
 · obtain⟨q,_,rfl⟩:=ABc.1 hv;exact XW _ _
 · obtain⟨q,_,rfl⟩:=ABc.1 hv;omega
theorem ZV {I:Nat} {st:List Int} {inp:Int} (hl:I+st.length≤60) {v:Nat} (hv:v<1+I+st.length):mI (I+st.length) [] (nW I st inp) v=mI I st inp v:=by
 unfold mI;by_cases h0:v=0
 · rw[if_pos h0,if_pos h0]
 rw[if_neg h0,if_neg h0,if_pos (by omega)];obtain⟨k,rfl⟩:∃ k,v=1+k:=⟨v - 1,by omega⟩;rw[Nat.add_sub_cancel_left];by_cases h1:k<I
 · rw[if_pos (by omega)];exact WT SB (by simp;omega) (by rw[zz4 (by simp;omega),ABz,ABi h1];rfl)
 · rw[if_neg (by omega)];refine WT SB (by simp;omega) ?_;rw[zz5 (by simp;omega),AB7,List.length_range,ABz,zz0 (by omega)];rfl
theorem O2 {l:Int}:Af l≤l+1:=by unfold Af;split<;>omega
theorem eB {V:List Int} {fa:Nat} {An an:List Ai} {a b:Int} (hV:KQ V fa An) (hp:Ar an (Af a) (Af b) <+: An) (ha:0≤a∧a<1048576) (hb:0≤b) (h0:0≤F7 fa an a b):Bc V (F7 fa an a b)=1 - (1 - Bc V a)*(1 - Bc V b):=by
 have f1:=Bb ha.1;have f2:=Bb hb;have f3:=O2 (l:=a);unfold F7 at h0 ⊢;by_cases hn:AZ fa an (Af a) (Af b)<0
 · rw[if_pos hn] at h0;omega
 · rw[if_neg hn] at h0 ⊢;rw[Hq hV.bits (by omega),OP hV hp ⟨f1.2,by omega⟩ f2.2 (by omega),Hq hV.bits ha.1,Hq hV.bits hb]
theorem Y4 {V:List Int} {a b:Int}:1 - (1 - Bc V a)*(1 - Bc V b)=0↔Bc V a=0∧Bc V b=0:=by
 have h1:=Dw V a;have h2:=Dw V b;rcases (by omega:Bc V a=0∨Bc V a=1) with e|e<;>rcases (by omega:Bc V b=0∨Bc V b=1) with e2|e2<;>rw[e,e2]<;>decide
theorem LD {an:List Ai} {a b:Int} {An:List Ai} (h:Ar an a b <+: An):an <+: An:=G6.trans h
theorem iR {fa:Int} {an:List Ai} {a b:Int}:an <+: (Cv fa an a b).2:=by
 unfold Cv;split
 · exact G6
 · split
   · exact G6.trans G6
   · exact (G6.trans G6).trans G6
theorem mT {V:List Int} {fa:Nat} {An an:List Ai} {a b:Int} (hV:KQ V fa An) (hp:(Cv fa an a b).2 <+: An) (hfa:fa≤400) (h300:an.length≤300) (ha:0≤a∧a<2*((fa:Int)+an.length)) (hb:0≤b∧b<2*((fa:Int)+an.length)) (h0:0≤(Cv fa an a b).1) :
 Bc V (Cv fa an a b).1=0↔Bc V a=Bc V b:=by
 have fa1:=Bb ha.1;have fb1:=Bb hb.1;have fa2:=O2 (l:=a);have fb2:=O2 (l:=b);have l1:=A3 (an:=an) (a:=a) (b:=Af b);have l2:=A3 (an:=Ar an a (Af b)) (a:=Af a) (b:=b);have g1:=Bu (a:=a) (b:=Af b) h300;have g2:=Bu (a:=Af a) (b:=b) g1;unfold Cv at hp h0 ⊢;by_cases hn1:AZ fa an a (Af b)<0
 · rw[if_pos hn1] at h0;simp at h0
 rw[if_neg hn1] at hp h0 ⊢;by_cases hn2:AZ fa (Ar an a (Af b)) (Af a) b<0
 · rw[if_pos hn2] at h0;simp at h0
 rw[if_neg hn2] at hp h0 ⊢;simp only at hp h0 ⊢;have p1:=BL (fa:=fa) (an:=an) (a:=a) (b:=Af b) (by omega) ha ⟨fb1.2,by omega⟩;have p2:=BL (fa:=fa) (an:=Ar an a (Af b)) (a:=Af a) (b:=b) (by omega) ⟨fa1.2,by omega⟩ ⟨hb.1,by omega⟩;have s1:=OP hV (LD (LD hp)) ⟨ha.1,by omega⟩ fb1.2 (show 0≤AZ fa an a (Af b) by omega);have s2:=OP hV (LD hp) ⟨fa1.2,by omega⟩ hb.1 (show 0≤AZ fa (Ar an a (Af b)) (Af a) b by omega);have s3:=eB hV hp ⟨by omega,by omega⟩ (show 0≤AZ fa (Ar an a (Af b)) (Af a) b by omega) h0;rw[s3,Y4,s1,s2,Hq hV.bits ha.1,Hq hV.bits hb.1];have h1:=Dw V a;have h2:=Dw V b;rcases (by omega:Bc V a=0∨Bc V a=1) with e|e<;>rcases (by omega:Bc V b=0∨Bc V b=1) with e2|e2<;>rw[e,e2]<;>decide
theorem Lh {fa:Int} {ra rb:List Int} {an0:List Ai} {i:Nat}:∀ d,(Bd fa ra rb an0 (i+d)).2.2=true→(Bd fa ra rb an0 i).2.2=true:=fun d h=>by
 cases hf:(Bd fa ra rb an0 i).2.2 with
 | true=>rfl
 | false=>rw[Bq hf d] at h;cases h
theorem Nl {fa:Int} {ra rb:List Int} {an0:List Ai} {i:Nat}:∀ d,(Bd fa ra rb an0 (i+d)).2.2=true→(Bd fa ra rb an0 i).2.1 <+: (Bd fa ra rb an0 (i+d)).2.1
 | 0,_=>List.prefix_refl _
 | d+1,h=>by
   have h1:=Lh (i:=i+d) 1 h;refine (Nl d h1).trans ?_;have hs:=Fv (fa:=fa) (ra:=ra) (rb:=rb) (an0:=an0) (i:=i+d) (s:=(Bd fa ra rb an0 (i+d)).1) (an:=(Bd fa ra rb an0 (i+d)).2.1) (Prod.ext rfl (Prod.ext rfl h1));rw[show i+(d+1)=i+d+1 by omega] at h ⊢;rw[hs] at h ⊢;split
   · rename_i hn;rw[if_pos hn] at h;cases h
   · rename_i hn;rw[if_neg hn] at h;split
     · rename_i hn2;rw[if_pos hn2] at h;cases h
     · exact iR.trans G6
theorem Zm {V:List Int} {fa:Nat} {An:List Ai} (hV:KQ V fa An) {ra rb:List Int} {an0:List Ai} (hfa:0<fa∧fa≤400) (h300:an0.length≤300) (hA:∀ k∈ra,0≤k∧k<2*((fa:Int)+(an0.length:Int))) (hB:∀ k∈rb,0≤k∧k<2*((fa:Int)+(an0.length:Int))) {n:Nat} (hn:n≤ra.length) (hm:n≤rb.length)
 (hflag:(Bd fa ra rb an0 n).2.2=true) (hpre:(Bd fa ra rb an0 n).2.1 <+: An):∀ i,i≤n→(Bc V (Bd fa ra rb an0 i).1=0↔∀ j,j<i→Bc V (ra.getD j 0)=Bc V (rb.getD j 0))
 | 0,_=>by
   constructor
   · intro _ j hj;omega
   · intro _;exact U0 hV.zero
 | i+1,hi=>by
   have ih:=Zm hV hfa h300 hA hB hn hm hflag hpre i (by omega);obtain⟨d,rfl⟩:∃ d,n=i+1+d:=⟨n - (i+1),by omega⟩;have f1:=Lh (i:=i+1) d hflag;have f0:=Lh (i:=i) 1 f1;have p1:=(Nl (i:=i+1) d hflag).trans hpre;have hfc:=EF (fa:=(fa:Int)) (by omega) h300 hA hB hn hm i (by omega) f0;have hs:=Fv (fa:=(fa:Int)) (ra:=ra) (rb:=rb) (an0:=an0) (i:=i) (s:=(Bd fa ra rb an0 i).1) (an:=(Bd fa ra rb an0 i).2.1) (Prod.ext rfl (Prod.ext rfl f0));generalize Bd fa ra rb an0 i=r at *;obtain⟨s,an,fl⟩:=r;simp only at f0 hfc hs ih;subst f0;rw[hs] at f1 p1 ⊢;by_cases hn1:(Cv fa an (ra.getD i 0) (rb.getD i 0)).1<0
   · rw[if_pos hn1] at f1;cases f1
   rw[if_neg hn1] at f1 p1 ⊢;by_cases hn2:F7 fa (Cv fa an (ra.getD i 0) (rb.getD i 0)).2 s (Cv fa an (ra.getD i 0) (rb.getD i 0)).1<0
   · rw[if_pos hn2] at f1;cases f1
   rw[if_neg hn2] at f1 p1 ⊢;simp only at p1 ⊢;have ga:ra.getD i 0∈ra:=by rw[List.getD_eq_getElem?_getD,zz0 (by omega)];exact ABt _
   have gb:rb.getD i 0∈rb:=by rw[List.getD_eq_getElem?_getD,zz0 (by omega)];exact ABt _
   have ra1:=hA _ ga;have rb1:=hB _ gb;have hxl:=HJ (fa:=(fa:Int)) (an:=an) (a:=ra.getD i 0) (b:=rb.getD i 0) (by omega) (by omega) ⟨ra1.1,by omega⟩ ⟨rb1.1,by omega⟩;have s1:=mT hV (LD p1) (by omega) (by omega) ⟨ra1.1,by omega⟩ ⟨rb1.1,by omega⟩ (show 0≤(Cv fa an (ra.getD i 0) (rb.getD i 0)).1 by omega);have s2:=eB hV p1 ⟨hfc.1.1,by omega⟩ (show 0≤(Cv fa an (ra.getD i 0) (rb.getD i 0)).1 by omega) (by omega);rw[s2,Y4,ih,s1];constructor
   · rintro⟨h1,h2⟩ j hj;by_cases e:j=i
     · subst e;exact h2
     · exact h1 j (by omega)
   · intro h;exact⟨fun j hj=>h j (by omega),h i (by omega)⟩
section
variable {a b:AK}
theorem PF (h:Ea a b=true):GL a b=true∧(Cm a).2.2=true∧(Cs a b).2.2=true∧(DC a b).2.2=true:=by
 simp only[Ea,Bool.and_eq_true] at h;exact⟨h.1.1.1,h.1.1.2,h.1.2,h.2⟩
theorem RT {x:AK} (hok:Al x=true) {an0 An:List Ai} (h1:an0.length≤300) (h2:GR (Aa x) an0) (hf:(C9 x an0 x.2.2.1.length).2.2=true) (hpre:(C9 x an0 x.2.2.1.length).2.1 <+: An) {V W:List Int} (hV:KQ V (Aa x) An) (hW:KQ W (Aa x) x.2.2.1)
 (hleaf:∀ v:Nat,v<Aa x→A1 V v=A1 W v):∀ l∈Ay x,Bc V (Aq (C9 x an0 x.2.2.1.length).1 l)=Bc W l:=by
 have hN:=Bp x;obtain⟨hF,hgl,hNi,hno⟩:=A7 hok;obtain⟨⟨n1,n2,n3,n4,n5,n6⟩,o1,o2,o3⟩:=AA hok;have hF':Aa x=1+x.1.toNat+x.2.1.length:=rfl;have hI:=fun i hi=>(G5 hok h1 h2 (i:=i) hi).1;have hs:=YB hok (fa:=Aa x) (skip:=-1) (inst:=0) (an0:=an0) (Nat.le_refl _) hV hW hleaf (fun i hi _=>absurd hi (by omega)) (by omega) hI hpre hf x.2.2.1.length (Nat.le_refl _);have I:=hI _ (Nat.le_refl _);intro l hl;have hr:=o2 l hl;have hlen:=I.len hf;have hp:=BH I.pl (by omega) (l / 2);have h3:=I.an;refine TD hV.bits hW.bits ⟨hp.1,by omega⟩ ?_;have:=hs (l / 2).toNat (by omega);rw[show (((l / 2).toNat:Nat):Int)=l / 2 by omega] at this;exact this
theorem mJ (hok:Al a=true):Jr (Aa a) (Aa a+a.2.2.1.length) (Cm a):=(G5 hok (by simp) (by simp[GR,BR]) (Nat.le_refl _)).1
theorem mS {x:AK} {an0:List Ai} {n:Nat}:an0 <+: (C9 x an0 n).2.1:=by
 have:=Uh (x:=x) (fa:=Aa x) (skip:=-1) (inst:=0) (to0:=BB (Aa x)) (an0:=an0) (i:=0) n;rw[Nat.zero_add] at this;exact this
theorem Ko {α:Type} {f:α→Int} {xs:List α} {j:Nat} (h:j<xs.length):(xs.map f).getD j 0=f xs[j]:=by
 rw[List.getD_eq_getElem?_getD,ABz,zz0 h];rfl
theorem bP (h:Ea a b=true) {st:List Int} (hs:st.length=a.2.1.length) (inp:Int) {w:Int} (hw:∀ v:Nat,v<Aa a→mI (a.1.toNat+a.2.1.length) [] w v=mI a.1.toNat st inp v) :
 Bc (BS (Fg a b) [] w) (DC a b).1=0↔(Ay a).map (Bc (BS a st inp))=(Ay b).map (Bc (BS b st inp)):=by
 obtain⟨hc,f1,f2,f3⟩:=PF h;obtain⟨oa,ob,e1,e2,e3,e4,e5,e6⟩:=G9 hc;obtain⟨⟨n1,n2,n3,n4,n5,n6⟩,o1,o2,o3⟩:=AA oa;have hm:=(YQ h).1;have hG:Fg a b=(a.1+(a.2.1.length:Int),[],(DC a b).2.1,[(DC a b).1]):=if_pos h
 have hFm:Aa (Fg a b)=Aa a:=by
  rw[hG];show 1+(a.1+(a.2.1.length:Int)).toNat+0=1+a.1.toNat+a.2.1.length;omega
 have hFa:Aa a=1+a.1.toNat+a.2.1.length:=rfl
 have hV:KQ (BS (Fg a b) [] w) (Aa a) (DC a b).2.1:=by
  have:=MX (st:=[]) (inp:=w) hm;rw[hFm] at this;rw[hG] at this ⊢;exact this
 have hVl:∀ v:Nat,v<Aa a→A1 (BS (Fg a b) [] w) v=mI a.1.toNat st inp v:=fun v hv=>by
  rw[Pn (x:=Fg a b) (by rw[hG];rfl) (by rw[hFm];exact hv)];rw[←hw v hv,hG];show mI (a.1+(a.2.1.length:Int)).toNat [] w v=_;rw[show (a.1+(a.2.1.length:Int)).toNat=a.1.toNat+a.2.1.length by omega]
 generalize BS (Fg a b) [] w=V at *;have hWa:=MX (st:=st) (inp:=inp) oa;have hWb:=MX (st:=st) (inp:=inp) ob;have I1:=mJ oa;have I1an:=I1.an;have I2:=(G5 ob (an0:=(Cm a).2.1) I1an (by rw[e5];exact I1.ok) (i:=b.2.2.1.length) (Nat.le_refl _));have p3:(DC a b).2.1 <+: (DC a b).2.1:=List.prefix_refl _
 have p2:(Cs a b).2.1 <+: (DC a b).2.1:=by
  have:=Nl (fa:=(Aa a:Int)) (ra:=Bm a (Cm a).1) (rb:=Bm b (Cs a b).1) (an0:=(Cs a b).2.1) (i:=0) (Ay a).length (by rw[Nat.zero_add];exact f3);rw[Nat.zero_add] at this;exact this
 have p1:(Cm a).2.1 <+: (DC a b).2.1:=mS.trans p2;have ra:=RT oa (an0:=[]) (by simp) (by simp[GR,BR]) f1 p1 hV hWa (fun v hv=>by rw[hVl v hv,Pn hs hv]);have rb:=RT ob (an0:=(Cm a).2.1) I1an (by rw[e5];exact I1.ok) f2 p2 (by rw[e5];exact hV) hWb (fun v hv=>by rw[e5] at hv;rw[hVl v hv,Pn (by rw[hs,e2]) (by rw[e5];exact hv),e1]);have I2l:(Cs a b).2.1.length≤300:=I2.1.an;have I2le:(Cm a).2.1.length≤(Cs a b).2.1.length:=I2.2;have hpa:=Hi I1.pl (m:=(Aa a:Int)+(Cs a b).2.1.length) (by omega);have hpb:=Hi I2.1.pl (m:=(Aa a:Int)+(Cs a b).2.1.length) (by rw[e5];exact Int.le_refl _)
 have hRa:∀ k∈Bm a (Cm a).1,0≤k∧k<2*((Aa a:Int)+((Cs a b).2.1.length:Int)):=fun k hk=>by
  obtain⟨l,hl,rfl⟩:=ABc.1 hk;exact Bn (BH hpa (by omega) _) (by omega)
 have hRb:∀ k∈Bm b (Cs a b).1,0≤k∧k<2*((Aa a:Int)+((Cs a b).2.1.length:Int)):=fun k hk=>by
  obtain⟨l,hl,rfl⟩:=ABc.1 hk;exact Bn (BH hpb (by omega) _) (by omega)
 have la:(Bm a (Cm a).1).length=(Ay a).length:=AB7 _;have lb:(Bm b (Cs a b).1).length=(Ay b).length:=AB7 _;have key:=Zm hV (by omega) I2l hRa hRb (n:=(Ay a).length) (by omega) (by omega) f3 p3 (Ay a).length (Nat.le_refl _);refine (show _↔_ from key).trans ?_;constructor
 · intro hj;apply List.ext_getElem (by simp;omega);intro j h1 h2;rw[AB7] at h1 h2;have:=hj j h1;unfold Bm at this;rw[Ko h1,Ko h2] at this;have q1:=ra _ (ABt h1);have q2:=rb _ (ABt h2);simp only[List.getElem_map];exact q1.symm.trans (this.trans q2)
 · intro he j hj;have h2:j<(Ay b).length:=by omega
   unfold Bm;rw[Ko hj,Ko h2];have q1:=ra _ (ABt hj);have q2:=rb _ (ABt h2);have:=congrArg (fun L:List Int=>L[j]?) he;simp only[ABz,zz0 hj,zz0 h2,Option.map_some,Option.some.injEq] at this;exact q1.trans (this.trans q2.symm)
end
end Go.Proofs.YtnjedabjbeipeaaGreat
