/-
  What the search finds: a least assignment, or a refutation that is accepted. Plain lemmas, about no function of the program.
  Conditions: those typed in each theorem.
-/
import Derived.Test.YtnjedabjbeipeaaGreatSe
import Derived.Test.YtnjedabjbeipeaaGreatSi
namespace Go.Proofs.YtnjedabjbeipeaaGreat
open Go.RowKit Go.ChangeShapes Go.WideShapes
set_option linter.unusedSimpArgs false
set_option linter.unusedVariables false
set_option maxRecDepth 100000
set_option maxHeartbeats 10000000
theorem Ol:∀ {q:List Int},Am q=q.length→∀ m,m<q.length→q.getD m 0≠0
 | [],_,m,h=>by simp at h
 | x::xs,hz,m,h=>by
   unfold Am at hz;split at hz
   · simp at hz
   · rename_i hx
     cases m with
     | zero=>simpa using hx
     | succ m =>
       have:=Ol (q:=xs) (by simpa using hz) m (by simpa using h);simpa using this
theorem H4:∀ {q:List Int} {m:Nat},m<Am q→q.getD m 0≠0
 | [],m,h=>by simp[Am] at h
 | x::xs,m,h=>by
   unfold Am at h;split at h
   · omega
   · rename_i hx
     cases m with
     | zero=>simpa using hx
     | succ m =>
       have:=H4 (q:=xs) (m:=m) (by omega);simpa using this
theorem M4 {q:List Int} {z:Nat} {x:Int} (hz:q.getD z 0=0):KT q (q.set z x):=by
 refine⟨by simp,fun m hne=>?_⟩;have:z≠m:=fun e=>hne (by rw[←e];exact hz);rw[List.getD_eq_getElem?_getD,AB6 this,←List.getD_eq_getElem?_getD]
theorem YJ {q:List Int} (h:¬ Am q=q.length):Am q<q.length∧q.getD (Am q) 0=0:=by
 have h1:=D3 q;have h2:Am q<q.length:=by omega
 refine⟨h2,?_⟩;rw[List.getD_eq_getElem?_getD,DJ h2];rfl
theorem Pg {cls:List BT} {v:Nat} (hc:CA v cls):∀ (k left:Nat) (p dec:List Int) (pf:List BT),p.length=v→Dj p→(CH cls k left p dec pf).code=1 →
 KT p (CH cls k left p dec pf).model∧lW cls (CH cls k left p dec pf).model∧Am (CH cls k left p dec pf).model=(CH cls k left p dec pf).model.length
 | 0,left,p,dec,pf,hp,ht,h=>by simp[CH] at h
 | k+1,left,p,dec,pf,hp,ht,h=>by
   have ih:=Pg hc k;unfold CH at h ⊢;by_cases h0:left=0
   · rw[if_pos h0] at h;cases h
   rw[if_neg h0] at h ⊢
   cases hq:ET cls p with
   | none=>rw[hq] at h;cases h
   | some q =>
     rw[hq] at h;simp only at h ⊢;obtain⟨f1,f2,f3⟩:=C2 (by rw[hp];exact hc) ht hq;obtain⟨g1,g2⟩:=cD (by rw[hp];exact hc) ht hq;generalize hR:GO (CH cls k) (left - 1) dec pf q=R at *;by_cases hz:Am q=q.length
     · have:=DP hR hz;subst this;exact⟨g2,g1,hz⟩
     obtain⟨z1,z2⟩:=YJ hz;obtain⟨a,b⟩:=Nr hR hz;by_cases h1:(CH cls k (left - 1) (q.set (Am q) (-1)) (dec++[-((Am q:Int)+1)]) pf).code=2
     · have b2:=b h1 _ rfl;by_cases h2:(CH cls k (CH cls k (left - 1) (q.set (Am q) (-1)) (dec++[-((Am q:Int)+1)]) pf).left (q.set (Am q) 1) (dec++[(Am q:Int)+1]) (CH cls k (left - 1) (q.set (Am q) (-1)) (dec++[-((Am q:Int)+1)]) pf).pf).code=2
       · have:=b2.2 h2;rw[this] at h;cases h
       · have e:=b2.1 h2;rw[e] at h ⊢;obtain⟨m1,m2,m3⟩:=ih _ _ _ _ (by simp;omega) (DG f2 _ (by omega)) h;exact⟨FP g2 (FP (M4 z2) m1),m2,m3⟩
     · have e:=a h1;rw[e] at h ⊢;obtain⟨m1,m2,m3⟩:=ih _ _ _ _ (by simp;omega) (DG f2 _ (by omega)) h;exact⟨FP g2 (FP (M4 z2) m1),m2,m3⟩
def eU (a b:List Bool):Prop:=∀ i:Nat,(∀ j:Nat,j<i→a[j]? = b[j]?)→a[i]?≠b[i]?→b[i]? = some true
theorem O3 {q:List Int} {m:Nat} (hm:m<q.length):(HO q)[m]? = some (q.getD m 0==1):=by
 unfold HO;rw[ABz,zz0 hm,List.getD_eq_getElem?_getD,zz0 hm];rfl
theorem NT {q:List Int} {b:List Bool} {m:Nat} (hl:b.length=q.length) (hg:Gn q b) (hm:m<q.length) (hn:q.getD m 0≠0):(HO q)[m]? = b[m]?:=by
 have hb:b[m]? = some b[m]:=zz0 (by omega);rw[O3 hm,hb];rcases hg m _ hb with h|h
 · exact absurd h hn
 · rw[h];cases b[m]<;>rfl
theorem Qt {q:List Int} {b:List Bool} {z:Nat} {x:Int} (hg:Gn q b) (hx:∀ t,b[z]? = some t→x=if t=true then 1 else -1):Gn (q.set z x) b:=by
 intro m t ht;rw[List.getD_eq_getElem?_getD,List.getElem?_set];by_cases e:z=m
 · subst e;rw[if_pos rfl];split
   · exact .inr (hx t ht)
   · exact .inl rfl
 · rw[if_neg e,←List.getD_eq_getElem?_getD];exact hg m t ht
theorem PJ {cls:List BT} {v:Nat} (hc:CA v cls) {b:List Bool} (hb:b.length=v) (hs:cls.all (Eb b)=true):∀ (k left:Nat) (p dec:List Int) (pf:List BT),p.length=v→Dj p→Gn p b →
 (CH cls k left p dec pf).code≠2∧((CH cls k left p dec pf).code=1→eU (HO (CH cls k left p dec pf).model) b)
 | 0,left,p,dec,pf,hp,ht,hg=>by simp[CH]
 | k+1,left,p,dec,pf,hp,ht,hg=>by
   have ih:=PJ hc hb hs k;have hmo:=Pg hc k;have hfa:=Ft hc k;unfold CH;by_cases h0:left=0
   · rw[if_pos h0];simp
   rw[if_neg h0];obtain⟨q,hq,hgq⟩:=Wi (a:=b) (by rw[hb];exact hc) hs hg;rw[hq];simp only;obtain⟨f1,f2,f3⟩:=C2 (by rw[hp];exact hc) ht hq;generalize hR:GO (CH cls k) (left - 1) dec pf q=R at *;by_cases hz:Am q=q.length
   · have:=DP hR hz;subst this;refine⟨by simp,fun _ i hi hne=>?_⟩;exfalso;apply hne;simp only;by_cases hil:i<q.length
     · exact NT (by omega) hgq hil (Ol hz i hil)
     · rw[ACE (by rw[Ic];omega),ACE (by omega)]
   obtain⟨z1,z2⟩:=YJ hz;obtain⟨a1,a2⟩:=Nr hR hz;have hbz:b[Am q]? = some (b[Am q]'(by omega)):=zz0 _;have m1:=hmo (left - 1) (q.set (Am q) (-1)) (dec++[-((Am q:Int)+1)]) pf (by simp;omega) (DG f2 _ (by omega));have i1:=ih (left - 1) (q.set (Am q) (-1)) (dec++[-((Am q:Int)+1)]) pf (by simp;omega) (DG f2 _ (by omega));have fa1:=(hfa (left - 1) (q.set (Am q) (-1)) (dec++[-((Am q:Int)+1)]) pf (by simp;omega) (DG f2 _ (by omega))).2.2.2
   cases hbv:b[Am q]'(by omega) with
   | false =>
     rw[hbv] at hbz;obtain⟨j1,j2⟩:=i1 (Qt hgq fun t ht=>by rw[hbz] at ht;cases ht;rfl);rw[a1 j1];exact⟨j1,j2⟩
   | true =>
     rw[hbv] at hbz;by_cases hc2:(CH cls k (left - 1) (q.set (Am q) (-1)) (dec++[-((Am q:Int)+1)]) pf).code=2
     · obtain⟨b1,b2⟩:=a2 hc2 _ rfl;obtain⟨j1,j2⟩:=ih (CH cls k (left - 1) (q.set (Am q) (-1)) (dec++[-((Am q:Int)+1)]) pf).left (q.set (Am q) 1) (dec++[(Am q:Int)+1]) (CH cls k (left - 1) (q.set (Am q) (-1)) (dec++[-((Am q:Int)+1)]) pf).pf (by simp;omega) (DG f2 _ (by omega)) (Qt hgq fun t ht=>by rw[hbz] at ht;cases ht;rfl);rw[b1 j1];exact⟨j1,j2⟩
     · rw[a1 hc2];refine⟨hc2,fun hc1 i hi hne=>?_⟩;obtain⟨n1,n2,n3⟩:=m1 hc1;have hml:=(fa1 hc1).1;generalize (CH cls k (left - 1) (q.set (Am q) (-1)) (dec++[-((Am q:Int)+1)]) pf).model=mo at *
       have hval:∀ m,q.getD m 0≠0→mo.getD m 0=q.getD m 0:=fun m hm=>by
        have hm2:=(M4 (x:=-1) z2).2 m hm;rw[n1.2 m (by rw[hm2];exact hm),hm2]
       have hat:mo.getD (Am q) 0=-1:=by
        have:(q.set (Am q) (-1)).getD (Am q) 0=-1:=by rw[List.getD_eq_getElem?_getD,List.getElem?_set];simp[z1]
        rw[n1.2 _ (by rw[this];omega),this]
       rcases Nat.lt_trichotomy i (Am q) with h|h|h
       · exfalso;apply hne;rw[O3 (by omega),hval i (H4 h),←O3 (by omega)];exact NT (by omega) hgq (by omega) (H4 h)
       · subst h;exact hbz
       · exfalso;have:=hi _ h;rw[O3 (by omega),hat,hbz] at this;simp at this
def N3 (V:List Int):List Bool:=V.map fun v=>decide (v=1)
theorem Xw {V:List Int} {v:Nat} (h:v<V.length):(N3 V)[v]? = some (decide (A1 V (v:Int)=1)):=by
 unfold N3 A1;rw[ABz,Int.toNat_natCast,zz0 h];rfl
theorem dI {v:Nat} (h:v≤400):A4 (2*(v:Int))=(v:Int)+1:=by
 unfold A4;rw[if_pos (AP.2 (by omega)),if_neg (by omega)];omega
theorem mO {v:Nat} (h:v<400):A4 (2*(v:Int)+1)=-((v:Int)+1):=by
 unfold A4;rw[if_pos (AP.2 (by omega)),if_pos (by omega)];omega
theorem Ub {V:List Int} (hb:CX V) {l:Int} (hl:0≤l∧l<2*(V.length:Int)) (h4:V.length≤400) :
 E6 (N3 V) (A4 l)=decide (Bc V l=1)∧E6 (N3 V) (-(A4 l))=decide (Bc V l=0):=by
 obtain⟨v,hv⟩:∃ v:Nat,l / 2=(v:Int):=⟨(l / 2).toNat,by omega⟩;have hvl:v<V.length:=by omega
 have ha:=Xw hvl;have hbv:=KJ hb (v:Int);have hL:Bc V l=(A1 V (v:Int)+l % 2) % 2:=by unfold Bc;rw[hv]
 generalize A1 V (v:Int)=y at *;rcases (by omega:l=2*(v:Int)∨l=2*(v:Int)+1) with e|e
 · rw[hL,e,dI (by omega),Gz ha,FL ha];rcases (by omega:y=0∨y=1) with rfl|rfl
   · rw[show (0+2*(v:Int) % 2) % 2=0 by omega];decide
   · rw[show (1+2*(v:Int) % 2) % 2=1 by omega];decide
 · rw[hL,e,mO (by omega),Int.neg_neg,Gz ha,FL ha];rcases (by omega:y=0∨y=1) with rfl|rfl
   · rw[show (0+(2*(v:Int)+1) % 2) % 2=1 by omega];decide
   · rw[show (1+(2*(v:Int)+1) % 2) % 2=0 by omega];decide
theorem and_true {x:AK} (hok:Al x=true) {st:List Int} {inp:Int} {v:Nat} (h1:Aa x≤v) (h2:v<A0 x):(K6 x v).all (Eb (N3 (BS x st inp)))=true:=by
 obtain⟨hF,hgl,hNi,hno⟩:=A7 hok;obtain⟨a0,a1,a2,a3,a4,a5,a6⟩:=CW hok h1 h2;have hvl:(BS x st inp).length=A0 x:=KD;have hb:CX (BS x st inp):=Jk;have hva:=UH (st:=st) (inp:=inp) hok h1 h2;have q1:=Ub hb (l:=(Aj x v).1) (by rw[hvl];omega) (by omega);have q2:=Ub hb (l:=(Aj x v).2) (by rw[hvl];omega) (by omega);have ha:=Xw (V:=BS x st inp) (v:=v) (by omega);have l1:=Dw (BS x st inp) (Aj x v).1;have l2:=Dw (BS x st inp) (Aj x v).2;unfold K6;simp only[List.all_cons,List.all_nil,Eb,List.any_cons,List.any_nil,Bool.or_false,Bool.and_true];rw[Gz ha,FL ha,q1.1,q1.2,q2.1,q2.2,hva];generalize Bc (BS x st inp) (Aj x v).1=a at *;generalize Bc (BS x st inp) (Aj x v).2=b at *;rcases (by omega:a=0∨a=1) with rfl|rfl<;>rcases (by omega:b=0∨b=1) with rfl|rfl<;>decide
theorem lK {x:AK} {lit:Int} (hk:Db x lit=true) {st:List Int} {inp:Int} (h1:Bc (BS x st inp) lit=1):(Ej x lit).all (Eb (N3 (BS x st inp)))=true:=by
 unfold Db at hk;simp only[Bool.and_eq_true] at hk;obtain⟨hok,hr⟩:=hk;have hr:=AP.1 hr;obtain⟨hF,hgl,hNi,hno⟩:=A7 hok;have hvl:(BS x st inp).length=A0 x:=KD;have hb:CX (BS x st inp):=Jk;have hF1:1≤A0 x:=by unfold A0;omega
 rw[zz8];intro c hc;unfold Ej at hc;rcases ACB.1 hc with hc|hc
 · unfold Dx at hc;rcases List.mem_cons.1 hc with rfl|hc
   · have ha:=Xw (V:=BS x st inp) (v:=0) (by omega);have hz:A1 (BS x st inp) ((0:Nat):Int)=0:=Ns;have:=FL ha;rw[hz] at this;simp only[Eb,List.any_cons,List.any_nil,Bool.or_false];exact this
   · obtain⟨k,hk,hc⟩:=List.mem_flatMap.1 hc;have hkr:=Kx hk;have hcl:(Di x (lit.toNat / 2)).length=A0 x:=E3;unfold Kg at hc;split at hc
     · rename_i hge;exact zz8.1 (and_true hok hge (by omega)) c hc
     · simp at hc
 · rw[zz9.1 hc];have q:=Ub hb (l:=lit) (by rw[hvl];omega) (by omega);simp only[Eb,List.any_cons,List.any_nil,Bool.or_false,q.1,h1];rfl
theorem jE {a b:AK} {B:Int} (h:(Ie a b B).1=1):Ea a b=true∧∀ w:Int,Bc (BS (Fg a b) [] w) (DC a b).1=0:=by
 unfold Ie at h;by_cases hc:Ea a b=true∧DM B 1 600=true
 case neg=>rw[if_neg hc] at h;simp at h
 rw[if_pos hc] at h;obtain⟨ho,hB⟩:=hc;refine⟨ho,fun w=>?_⟩;have hB:=AP.1 hB;obtain⟨I,gs,gan,l,hG,hl,hok,hI,hiI,hk,hI2⟩:=Lv (B:=B) ho;rw[hG,hl] at h ⊢;have hcn:=MM hk;have hk2:=hk;unfold Db at hk2;simp only[Bool.and_eq_true] at hk2;have hL:C5 ((I:Int),gs,gan,[l]) l=((A0 ((I:Int),gs,gan,[l]):Int),Ej ((I:Int),gs,gan,[l]) l):=if_pos hk;rw[hL] at h hcn;simp only at h hcn;generalize hx:(((I:Int),gs,gan,[l]):AK)=x at *;have l01:=Dw (BS x [] w) l;rcases (by omega:Bc (BS x [] w) l=0∨Bc (BS x [] w) l=1) with e|e
 · exact e
 exfalso;have hs:=lK hk (st:=[]) (inp:=w) e;have hlen:(N3 (BS x [] w)).length=A0 x:=by unfold N3;rw[AB7,KD]
 have key:=PJ (Gv hcn) hlen hs B.toNat B.toNat (List.replicate (A0 x) 0) [] [] (by simp) (Hh _) (Uw _ _)
 have hS:(De (A0 x:Int) (Ej x l) B).1≠2:=by
  unfold De;rw[if_pos ⟨hcn,AP.2 hB⟩,Int.toNat_natCast];generalize CH (Ej x l) B.toNat B.toNat (List.replicate (A0 x) 0) [] []=r at *;by_cases h1:r.code=1
  · simp[h1]
  · simp[h1,key.1]
 unfold Sl at h;rw[if_neg hS] at h;split at h<;>simp at h
section
variable {a b:AK}
theorem dV (h:Ea a b=true) (hz:∀ w:Int,Bc (BS (Fg a b) [] w) (DC a b).1=0) {st:List Int} (hs:st.length=a.2.1.length) (inp:Int):(Ay a).map (Bc (BS a st inp))=(Ay b).map (Bc (BS b st inp)):=by
 obtain⟨hc,-,-,-⟩:=PF h;obtain⟨oa,ob,e1,e2,e3,e4,e5,e6⟩:=G9 hc;obtain⟨⟨n1,n2,n3,n4,n5,n6⟩,-,-,-⟩:=AA oa;refine (bP h hs inp (w:=nW a.1.toNat st inp) fun v hv=>?_).1 (hz _);have hF:Aa a=1+a.1.toNat+a.2.1.length:=rfl;rw[←hs];exact ZV (by omega) (by omega)
theorem P9 (h:GL a b=true):∀ (i:Nat) (s t:Cr),a.2.1[i]? = some s→b.2.1[i]? = some t→s.1=t.1:=by
 unfold GL at h;simp only[Bool.and_eq_true] at h;intro i s t hs ht;have:=zz8.1 h.2 (s,t) (zz6 (i:=i) (by simp[List.getElem?_zip_eq_some,hs,ht]));simpa using this
theorem fM {s t:Cr} (hs:Bz s=true) (ht:Bz t=true) (h:s.1=t.1):s.2.2.length=t.2.2.length:=by
 unfold Bz at hs ht;rw[h] at hs;by_cases h0:t.1=0
 · rw[if_pos h0] at hs ht;simp at hs ht;omega
 · rw[if_neg h0] at hs ht;by_cases h1:t.1=1
   · rw[if_pos h1] at hs ht;simp at hs ht;omega
   · rw[if_neg h1] at hs
     cases hs
theorem LL {α:Type} {xs ys us vs:List α} (h:xs++ys=us++vs) (hl:xs.length=us.length):xs=us∧ys=vs:=List.append_inj h hl
theorem Qb {f g:Int→Int}:∀ (ss ts:List Cr),ss.length=ts.length→(∀ (i:Nat) (s t:Cr),ss[i]? = some s→ts[i]? = some t→s.2.2.length=t.2.2.length) →
 ((ss.map (·.2.2)).flatten).map f=((ts.map (·.2.2)).flatten).map g→∀ (i:Nat) (s t:Cr),ss[i]? = some s→ts[i]? = some t→s.2.2.map f=t.2.2.map g
 | [],_,_,_,_,i,s,t,hs,_=>by simp at hs
 | s0::ss,[],hl,_,_,_,_,_,_,_=>by simp at hl
 | s0::ss,t0::ts,hl,hk,h,i,s,t,hs,ht=>by
   have h0:=hk 0 s0 t0 rfl rfl;simp only[List.map_cons,List.flatten_cons,ABe] at h;obtain⟨p,q⟩:=LL h (by simp[h0])
   match i with
   | 0 =>
     simp at hs ht;subst hs ht;exact p
   | i+1=>exact Qb ss ts (by simpa using hl) (fun j u v hu hv=>hk (j+1) u v (by simpa using hu) (by simpa using hv)) q i s t (by simpa using hs) (by simpa using ht)
theorem VN {va vb:List Int} (hc:GL a b=true) (hr:(Ay a).map (Bc va)=(Ay b).map (Bc vb)) :
 a.2.2.2.map (Bc va)=b.2.2.2.map (Bc vb)∧∀ (i:Nat) (s t:Cr),a.2.1[i]? = some s→b.2.1[i]? = some t→s.2.2.map (Bc va)=t.2.2.map (Bc vb):=by
 obtain⟨oa,ob,e1,e2,e3,e4,e5,e6⟩:=G9 hc;have hkd:=P9 hc;have hka:=(AA oa).2.1;have hkb:=(AA ob).2.1;unfold Ay at hr;rw[ABe,ABe] at hr;obtain⟨r1,r2⟩:=LL hr (by rw[AB7,AB7,e3]);exact⟨r1,Qb a.2.1 b.2.1 e2 (fun i s t h1 h2=>fM (hka s (zz6 h1)) (hkb t (zz6 h2)) (hkd i s t h1 h2)) r2⟩
theorem fD {va vb:List Int} {s t:Cr} {v:Int} (k:s.1=t.1) (p:s.2.2.map (Bc va)=t.2.2.map (Bc vb)):yW va (s,v)=yW vb (t,v):=by
 have h:∀ q r:Int,q=r→EW q v (G0 (s.2.2.map (Bc va)))=EW r v (G0 (t.2.2.map (Bc vb))):=fun q r e=>by rw[e,p]
 exact h s.1 t.1 k
theorem gT {α β:Type} {xs:List α} {ys:List β} {i:Nat} {x:α} {y:β} (hx:xs[i]? = some x) (hy:ys[i]? = some y):(xs.zip ys)[i]? = some (x,y):=List.getElem?_zip_eq_some.2 ⟨hx,hy⟩
theorem iS {va vb st:List Int} (hs:st.length=a.2.1.length) (e2:a.2.1.length=b.2.1.length) (hkd:∀ (i:Nat) (s t:Cr),a.2.1[i]? = some s→b.2.1[i]? = some t→s.1=t.1)
 (hp:∀ (i:Nat) (s t:Cr),a.2.1[i]? = some s→b.2.1[i]? = some t→s.2.2.map (Bc va)=t.2.2.map (Bc vb)):LF a st va=LF b st vb:=by
 unfold LF;apply List.ext_getElem?;intro i;rw[ABz,ABz];by_cases hi:i<a.2.1.length
 · have hsa:a.2.1[i]? = some a.2.1[i]:=zz0 hi;have hsb:b.2.1[i]? = some (b.2.1[i]'(by omega)):=zz0 _;have hst:st[i]? = some (st[i]'(by omega)):=zz0 _;rw[gT hsa hst,gT hsb hst];exact congrArg some (fD (hkd i _ _ hsa hsb) (hp i _ _ hsa hsb))
 · rw[ACE (by simp;omega),ACE (by simp;omega),Option.map_none,Option.map_none]
theorem YD (h:Ea a b=true) (hz:∀ w:Int,Bc (BS (Fg a b) [] w) (DC a b).1=0) {st:List Int} (hs:st.length=a.2.1.length) (inp:Int):JX a st inp=JX b st inp:=by
 have hr:=dV h hz hs inp;obtain⟨hc,-,-,-⟩:=PF h;obtain⟨oa,ob,e1,e2,-⟩:=G9 hc;obtain⟨r1,hp⟩:=VN hc hr;have q1:=iS hs e2 (P9 hc) hp;have q2:cA a (BS a st inp)=cA b (BS b st inp):=congrArg G0 r1;exact Prod.ext q1 q2
theorem Zj (h:Ea a b=true) (hz:∀ w:Int,Bc (BS (Fg a b) [] w) (DC a b).1=0) (h0:Cg a=Cg b) (ins:List Int):∀ k,Fc a ins k=Fc b ins k
 | 0=>h0
 | k+1=>by
   have ih:=Zj h hz h0 ins k;show (JX a (Fc a ins k) _).1=(JX b (Fc b ins k) _).1;rw[←ih,YD h hz (IW k)]
theorem bC (h:Ea a b=true) (hz:∀ w:Int,Bc (BS (Fg a b) [] w) (DC a b).1=0) (h0:Cg a=Cg b) (ins:List Int):Fk a ins=Fk b ins:=by
 obtain⟨hc,-,-,-⟩:=PF h;obtain⟨oa,ob,-⟩:=G9 hc;unfold Fk;rw[oa,ob];split
 · unfold D2;refine List.map_congr_left fun k _=>?_;unfold OY;rw[←Zj h hz h0 ins k,YD h hz (IW k)]
 · rfl
end
end Go.Proofs.YtnjedabjbeipeaaGreat
