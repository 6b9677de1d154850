/-
  What the search finds: a kJ assignment, or a refutation that is accepted. Plain lemmas, about no function of the program.
  Conditions: those typed in each theorem.
-/
import Derived.Test.YtnjedabjbeipeaaGreatSe
import Derived.Test.YtnjedabjbeipeaaGreatSi
namespace Go.Proofs.YtnjedabjbeipeaaGreat
open Go.RowKit Go.ChangeShapes Go.WideShapes
set_option linter.unusedSimpArgs false
set_option linter.unusedVariables false
set_option maxRecDepth 100000
set_option maxHeartbeats 10000000
theorem OW:∀ {q:List Int},Am q=q.length→∀ m,m<q.length→q.getD m 0≠0
 | [],_,m,h=>by simp at h
 | x::xs,hz,m,h=>by
   unfold Am at hz;split at hz
   · simp at hz
   · rename_i hx
     cases m with
     | zero=>simpa using hx
     | succ m =>
       have:=OW (q:=xs) (by simpa using hz) m (by simpa using h);simpa using this
theorem Iy:∀ {q:List Int} {m:Nat},m<Am q→q.getD m 0≠0
 | [],m,h=>by simp[Am] at h
 | x::xs,m,h=>by
   unfold Am at h;split at h
   · omega
   · rename_i hx
     cases m with
     | zero=>simpa using hx
     | succ m =>
       have:=Iy (q:=xs) (m:=m) (by omega);simpa using this
theorem NE {q:List Int} {z:Nat} {x:Int} (hz:q.getD z 0=0):Lv q (q.set z x):=by
 refine⟨by simp,fun m hne=>?_⟩;have:z≠m:=fun e=>hne (by rw[←e];exact hz);rw[List.getD_eq_getElem?_getD,Eh this,←List.getD_eq_getElem?_getD]
theorem ZH {q:List Int} (h:¬ Am q=q.length):Am q<q.length∧q.getD (Am q) 0=0:=by
 have h1:=Eo q;have h2:Am q<q.length:=by omega
 refine⟨h2,?_⟩;rw[List.getD_eq_getElem?_getD,DU h2];rfl
theorem Rv {cls:List BW} {v:Nat} (hc:CG v cls):∀ (k left:Nat) (p dec:List Int) (pf:List BW),p.length=v→Ds p→(CN cls k left p dec pf).code=1 →
 Lv p (CN cls k left p dec pf).model∧nV cls (CN cls k left p dec pf).model∧Am (CN cls k left p dec pf).model=(CN cls k left p dec pf).model.length
 | 0,left,p,dec,pf,hp,ht,h=>by simp[CN] at h
 | k+1,left,p,dec,pf,hp,ht,h=>by
   have ih:=Rv hc k;unfold CN at h ⊢;by_cases h0:left=0
   · rw[if_pos h0] at h;cases h
   rw[if_neg h0] at h ⊢
   cases hq:E6 cls p with
   | none=>rw[hq] at h;cases h
   | some q =>
     rw[hq] at h;simp only at h ⊢;obtain⟨f1,f2,f3⟩:=Dc (by rw[hp];exact hc) ht hq;obtain⟨g1,g2⟩:=aJ (by rw[hp];exact hc) ht hq;generalize hR:Hf (CN cls k) (left - 1) dec pf q=R at *;by_cases hz:Am q=q.length
     · have:=DY hR hz;subst this;exact⟨g2,g1,hz⟩
     obtain⟨z1,z2⟩:=ZH hz;obtain⟨a,b⟩:=Ni hR hz;by_cases h1:(CN cls k (left - 1) (q.set (Am q) (-1)) (dec++[-((Am q:Int)+1)]) pf).code=2
     · have b2:=b h1 _ rfl;by_cases h2:(CN cls k (CN cls k (left - 1) (q.set (Am q) (-1)) (dec++[-((Am q:Int)+1)]) pf).left (q.set (Am q) 1) (dec++[(Am q:Int)+1]) (CN cls k (left - 1) (q.set (Am q) (-1)) (dec++[-((Am q:Int)+1)]) pf).pf).code=2
       · have:=b2.2 h2;rw[this] at h;cases h
       · have e:=b2.1 h2;rw[e] at h ⊢;obtain⟨m1,m2,m3⟩:=ih _ _ _ _ (by simp;omega) (DO f2 _ (by omega)) h;exact⟨FW g2 (FW (NE z2) m1),m2,m3⟩
     · have e:=a h1;rw[e] at h ⊢;obtain⟨m1,m2,m3⟩:=ih _ _ _ _ (by simp;omega) (DO f2 _ (by omega)) h;exact⟨FW g2 (FW (NE z2) m1),m2,m3⟩
def kJ (a b:List Bool):Prop:=∀ i:Nat,(∀ j:Nat,j<i→a[j]? = b[j]?)→a[i]?≠b[i]?→b[i]? = some true
theorem Pj {q:List Int} {m:Nat} (hm:m<q.length):(Ii q)[m]? = some (q.getD m 0==1):=by
 unfold Ii;rw[Di,A1 hm,List.getD_eq_getElem?_getD,A1 hm];rfl
theorem OI {q:List Int} {b:List Bool} {m:Nat} (hl:b.length=q.length) (hg:GP q b) (hm:m<q.length) (hn:q.getD m 0≠0):(Ii q)[m]? = b[m]?:=by
 have hb:b[m]? = some b[m]:=A1 (by omega);rw[Pj hm,hb];rcases hg m _ hb with h|h
 · exact absurd h hn
 · rw[h];cases b[m]<;>rfl
theorem PL {q:List Int} {b:List Bool} {z:Nat} {x:Int} (hg:GP q b) (hx:∀ t,b[z]? = some t→x=if t=true then 1 else -1):GP (q.set z x) b:=by
 intro m t ht;rw[List.getD_eq_getElem?_getD,List.getElem?_set];by_cases e:z=m
 · subst e;rw[if_pos rfl];split
   · exact .inr (hx t ht)
   · exact .inl rfl
 · rw[if_neg e,←List.getD_eq_getElem?_getD];exact hg m t ht
theorem QZ {cls:List BW} {v:Nat} (hc:CG v cls) {b:List Bool} (hb:b.length=v) (hs:cls.all (Et b)=true):∀ (k left:Nat) (p dec:List Int) (pf:List BW),p.length=v→Ds p→GP p b →
 (CN cls k left p dec pf).code≠2∧((CN cls k left p dec pf).code=1→kJ (Ii (CN cls k left p dec pf).model) b)
 | 0,left,p,dec,pf,hp,ht,hg=>by simp[CN]
 | k+1,left,p,dec,pf,hp,ht,hg=>by
   have ih:=QZ hc hb hs k;have hmo:=Rv hc k;have hfa:=FM hc k;unfold CN;by_cases h0:left=0
   · rw[if_pos h0];simp
   rw[if_neg h0];obtain⟨q,hq,hgq⟩:=Xl (a:=b) (by rw[hb];exact hc) hs hg;rw[hq];simp only;obtain⟨f1,f2,f3⟩:=Dc (by rw[hp];exact hc) ht hq;generalize hR:Hf (CN cls k) (left - 1) dec pf q=R at *;by_cases hz:Am q=q.length
   · have:=DY hR hz;subst this;refine⟨by simp,fun _ i hi hne=>?_⟩;exfalso;apply hne;simp only;by_cases hil:i<q.length
     · exact OI (by omega) hgq hil (OW hz i hil)
     · rw[Hv (by rw[IW];omega),Hv (by omega)]
   obtain⟨z1,z2⟩:=ZH hz;obtain⟨a1,a2⟩:=Ni hR hz;have hbz:b[Am q]? = some (b[Am q]'(by omega)):=A1 _;have m1:=hmo (left - 1) (q.set (Am q) (-1)) (dec++[-((Am q:Int)+1)]) pf (by simp;omega) (DO f2 _ (by omega));have i1:=ih (left - 1) (q.set (Am q) (-1)) (dec++[-((Am q:Int)+1)]) pf (by simp;omega) (DO f2 _ (by omega));have fa1:=(hfa (left - 1) (q.set (Am q) (-1)) (dec++[-((Am q:Int)+1)]) pf (by simp;omega) (DO f2 _ (by omega))).2.2.2
   cases hbv:b[Am q]'(by omega) with
   | false =>
     rw[hbv] at hbz;obtain⟨j1,j2⟩:=i1 (PL hgq fun t ht=>by rw[hbz] at ht;cases ht;rfl);rw[a1 j1];exact⟨j1,j2⟩
   | true =>
     rw[hbv] at hbz;by_cases hc2:(CN cls k (left - 1) (q.set (Am q) (-1)) (dec++[-((Am q:Int)+1)]) pf).code=2
     · obtain⟨b1,b2⟩:=a2 hc2 _ rfl;obtain⟨j1,j2⟩:=ih (CN cls k (left - 1) (q.set (Am q) (-1)) (dec++[-((Am q:Int)+1)]) pf).left (q.set (Am q) 1) (dec++[(Am q:Int)+1]) (CN cls k (left - 1) (q.set (Am q) (-1)) (dec++[-((Am q:Int)+1)]) pf).pf (by simp;omega) (DO f2 _ (by omega)) (PL hgq fun t ht=>by rw[hbz] at ht;cases ht;rfl);rw[b1 j1];exact⟨j1,j2⟩
     · rw[a1 hc2];refine⟨hc2,fun hc1 i hi hne=>?_⟩;obtain⟨n1,n2,n3⟩:=m1 hc1;have hml:=(fa1 hc1).1;generalize (CN cls k (left - 1) (q.set (Am q) (-1)) (dec++[-((Am q:Int)+1)]) pf).model=mo at *
       have hval:∀ m,q.getD m 0≠0→mo.getD m 0=q.getD m 0:=fun m hm=>by
        have hm2:=(NE (x:=-1) z2).2 m hm;rw[n1.2 m (by rw[hm2];exact hm),hm2]
       have hat:mo.getD (Am q) 0=-1:=by
        have:(q.set (Am q) (-1)).getD (Am q) 0=-1:=by rw[List.getD_eq_getElem?_getD,List.getElem?_set];simp[z1]
        rw[n1.2 _ (by rw[this];omega),this]
       rcases Nat.lt_trichotomy i (Am q) with h|h|h
       · exfalso;apply hne;rw[Pj (by omega),hval i (Iy h),←Pj (by omega)];exact OI (by omega) hgq (by omega) (Iy h)
       · subst h;exact hbz
       · exfalso;have:=hi _ h;rw[Pj (by omega),hat,hbz] at this;simp at this
def Oy (V:List Int):List Bool:=V.map fun v=>decide (v=1)
theorem YU {V:List Int} {v:Nat} (h:v<V.length):(Oy V)[v]? = some (decide (A3 V (v:Int)=1)):=by
 unfold Oy A3;rw[Di,Int.toNat_natCast,A1 h];rfl
theorem gN {v:Nat} (h:v≤400):A5 (2*(v:Int))=(v:Int)+1:=by
 unfold A5;rw[if_pos (AP.2 (by omega)),if_neg (by omega)];omega
theorem oA {v:Nat} (h:v<400):A5 (2*(v:Int)+1)=-((v:Int)+1):=by
 unfold A5;rw[if_pos (AP.2 (by omega)),if_pos (by omega)];omega
theorem T8 {V:List Int} (hb:C5 V) {l:Int} (hl:0≤l∧l<2*(V.length:Int)) (h4:V.length≤400) :
 Fg (Oy V) (A5 l)=decide (Be V l=1)∧Fg (Oy V) (-(A5 l))=decide (Be V l=0):=by
 obtain⟨v,hv⟩:∃ v:Nat,l / 2=(v:Int):=⟨(l / 2).toNat,by omega⟩;have hvl:v<V.length:=by omega
 have ha:=YU hvl;have hbv:=K9 hb (v:Int);have hL:Be V l=(A3 V (v:Int)+l % 2) % 2:=by unfold Be;rw[hv]
 generalize A3 V (v:Int)=y at *;rcases (by omega:l=2*(v:Int)∨l=2*(v:Int)+1) with e|e
 · rw[hL,e,gN (by omega),Hj ha,Gb ha];rcases (by omega:y=0∨y=1) with rfl|rfl
   · rw[show (0+2*(v:Int) % 2) % 2=0 by omega];decide
   · rw[show (1+2*(v:Int) % 2) % 2=1 by omega];decide
 · rw[hL,e,oA (by omega),Int.neg_neg,Hj ha,Gb ha];rcases (by omega:y=0∨y=1) with rfl|rfl
   · rw[show (0+(2*(v:Int)+1) % 2) % 2=1 by omega];decide
   · rw[show (1+(2*(v:Int)+1) % 2) % 2=0 by omega];decide
theorem and_true {x:AK} (hok:Al x=true) {st:List Int} {inp:Int} {v:Nat} (h1:Aa x≤v) (h2:v<A0 x):(Lm x v).all (Et (Oy (BV x st inp)))=true:=by
 obtain⟨hF,hgl,hNi,hno⟩:=A9 hok;obtain⟨a0,a1,a2,a3,a4,a5,a6⟩:=C3 hok h1 h2;have hvl:(BV x st inp).length=A0 x:=KW;have hb:C5 (BV x st inp):=JM;have hva:=Wn (st:=st) (inp:=inp) hok h1 h2;have q1:=T8 hb (l:=(Aj x v).1) (by rw[hvl];omega) (by omega);have q2:=T8 hb (l:=(Aj x v).2) (by rw[hvl];omega) (by omega);have ha:=YU (V:=BV x st inp) (v:=v) (by omega);have l1:=DF (BV x st inp) (Aj x v).1;have l2:=DF (BV x st inp) (Aj x v).2;unfold Lm;simp only[List.all_cons,List.all_nil,Et,List.any_cons,List.any_nil,Bool.or_false,Bool.and_true];rw[Hj ha,Gb ha,q1.1,q1.2,q2.1,q2.2,hva];generalize Be (BV x st inp) (Aj x v).1=a at *;generalize Be (BV x st inp) (Aj x v).2=b at *;rcases (by omega:a=0∨a=1) with rfl|rfl<;>rcases (by omega:b=0∨b=1) with rfl|rfl<;>decide
theorem oR {x:AK} {lit:Int} (hk:Dm x lit=true) {st:List Int} {inp:Int} (h1:Be (BV x st inp) lit=1):(EA x lit).all (Et (Oy (BV x st inp)))=true:=by
 unfold Dm at hk;simp only[Bool.and_eq_true] at hk;obtain⟨hok,hr⟩:=hk;have hr:=AP.1 hr;obtain⟨hF,hgl,hNi,hno⟩:=A9 hok;have hvl:(BV x st inp).length=A0 x:=KW;have hb:C5 (BV x st inp):=JM;have hF1:1≤A0 x:=by unfold A0;omega
 rw[GA];intro c hc;unfold EA at hc;rcases CO.1 hc with hc|hc
 · unfold DH at hc;rcases List.mem_cons.1 hc with rfl|hc
   · have ha:=YU (V:=BV x st inp) (v:=0) (by omega);have hz:A3 (BV x st inp) ((0:Nat):Int)=0:=Nq;have:=Gb ha;rw[hz] at this;simp only[Et,List.any_cons,List.any_nil,Bool.or_false];exact this
   · obtain⟨k,hk,hc⟩:=List.mem_flatMap.1 hc;have hkr:=K2 hk;have hcl:(Du x (lit.toNat / 2)).length=A0 x:=Fm;unfold KJ at hc;split at hc
     · rename_i hge;exact GA.1 (and_true hok hge (by omega)) c hc
     · simp at hc
 · rw[Hz.1 hc];have q:=T8 hb (l:=lit) (by rw[hvl];omega) (by omega);simp only[Et,List.any_cons,List.any_nil,Bool.or_false,q.1,h1];rfl
theorem fV {a b:AK} {B:Int} (h:(IQ a b B).1=1):Ek a b=true∧∀ w:Int,Be (BV (Fx a b) [] w) (DN a b).1=0:=by
 unfold IQ at h;by_cases hc:Ek a b=true∧DX B 1 600=true
 case neg=>rw[if_neg hc] at h;simp at h
 rw[if_pos hc] at h;obtain⟨ho,hB⟩:=hc;refine⟨ho,fun w=>?_⟩;have hB:=AP.1 hB;obtain⟨I,gs,gan,l,hG,hl,hok,hI,hiI,hk,hI2⟩:=LW (B:=B) ho;rw[hG,hl] at h ⊢;have hcn:=Nl hk;have hk2:=hk;unfold Dm at hk2;simp only[Bool.and_eq_true] at hk2;have hL:Df ((I:Int),gs,gan,[l]) l=((A0 ((I:Int),gs,gan,[l]):Int),EA ((I:Int),gs,gan,[l]) l):=if_pos hk;rw[hL] at h hcn;simp only at h hcn;generalize hx:(((I:Int),gs,gan,[l]):AK)=x at *;have l01:=DF (BV x [] w) l;rcases (by omega:Be (BV x [] w) l=0∨Be (BV x [] w) l=1) with e|e
 · exact e
 exfalso;have hs:=oR hk (st:=[]) (inp:=w) e;have hlen:(Oy (BV x [] w)).length=A0 x:=by unfold Oy;rw[Fy,KW]
 have key:=QZ (GV hcn) hlen hs B.toNat B.toNat (List.replicate (A0 x) 0) [] [] (by simp) (HK _) (Wq _ _)
 have hS:(Dn (A0 x:Int) (EA x l) B).1≠2:=by
  unfold Dn;rw[if_pos ⟨hcn,AP.2 hB⟩,Int.toNat_natCast];generalize CN (EA x l) B.toNat B.toNat (List.replicate (A0 x) 0) [] []=r at *;by_cases h1:r.code=1
  · simp[h1]
  · simp[h1,key.1]
 unfold Se at h;rw[if_neg hS] at h;split at h<;>simp at h
section
variable {a b:AK}
theorem jV (h:Ek a b=true) (hz:∀ w:Int,Be (BV (Fx a b) [] w) (DN a b).1=0) {st:List Int} (hs:st.length=a.2.1.length) (inp:Int):(Ay a).map (Be (BV a st inp))=(Ay b).map (Be (BV b st inp)):=by
 obtain⟨hc,-,-,-⟩:=Rr h;obtain⟨oa,ob,e1,e2,e3,e4,e5,e6⟩:=Hy hc;obtain⟨⟨n1,n2,n3,n4,n5,n6⟩,-,-,-⟩:=AA oa;refine (bW h hs inp (w:=pM a.1.toNat st inp) fun v hv=>?_).1 (hz _);have hF:Aa a=1+a.1.toNat+a.2.1.length:=rfl;rw[←hs];exact cI (by omega) (by omega)
theorem Qu (h:G3 a b=true):∀ (i:Nat) (s t:Cx),a.2.1[i]? = some s→b.2.1[i]? = some t→s.1=t.1:=by
 unfold G3 at h;simp only[Bool.and_eq_true] at h;intro i s t hs ht;have:=GA.1 h.2 (s,t) (D4 (i:=i) (by simp[List.getElem?_zip_eq_some,hs,ht]));simpa using this
theorem eQ {s t:Cx} (hs:Bx s=true) (ht:Bx t=true) (h:s.1=t.1):s.2.2.length=t.2.2.length:=by
 unfold Bx at hs ht;rw[h] at hs;by_cases h0:t.1=0
 · rw[if_pos h0] at hs ht;simp at hs ht;omega
 · rw[if_neg h0] at hs ht;by_cases h1:t.1=1
   · rw[if_pos h1] at hs ht;simp at hs ht;omega
   · rw[if_neg h1] at hs
     cases hs
theorem Mr {α:Type} {xs ys us vs:List α} (h:xs++ys=us++vs) (hl:xs.length=us.length):xs=us∧ys=vs:=List.append_inj h hl
theorem Qn {f g:Int→Int}:∀ (ss ts:List Cx),ss.length=ts.length→(∀ (i:Nat) (s t:Cx),ss[i]? = some s→ts[i]? = some t→s.2.2.length=t.2.2.length) →
 ((ss.map (·.2.2)).flatten).map f=((ts.map (·.2.2)).flatten).map g→∀ (i:Nat) (s t:Cx),ss[i]? = some s→ts[i]? = some t→s.2.2.map f=t.2.2.map g
 | [],_,_,_,_,i,s,t,hs,_=>by simp at hs
 | s0::ss,[],hl,_,_,_,_,_,_,_=>by simp at hl
 | s0::ss,t0::ts,hl,hk,h,i,s,t,hs,ht=>by
   have h0:=hk 0 s0 t0 rfl rfl;simp only[List.map_cons,List.flatten_cons,Gh] at h;obtain⟨p,q⟩:=Mr h (by simp[h0])
   match i with
   | 0 =>
     simp at hs ht;subst hs ht;exact p
   | i+1=>exact Qn ss ts (by simpa using hl) (fun j u v hu hv=>hk (j+1) u v (by simpa using hu) (by simpa using hv)) q i s t (by simpa using hs) (by simpa using ht)
theorem VP {va vb:List Int} (hc:G3 a b=true) (hr:(Ay a).map (Be va)=(Ay b).map (Be vb)) :
 a.2.2.2.map (Be va)=b.2.2.2.map (Be vb)∧∀ (i:Nat) (s t:Cx),a.2.1[i]? = some s→b.2.1[i]? = some t→s.2.2.map (Be va)=t.2.2.map (Be vb):=by
 obtain⟨oa,ob,e1,e2,e3,e4,e5,e6⟩:=Hy hc;have hkd:=Qu hc;have hka:=(AA oa).2.1;have hkb:=(AA ob).2.1;unfold Ay at hr;rw[Gh,Gh] at hr;obtain⟨r1,r2⟩:=Mr hr (by rw[Fy,Fy,e3]);exact⟨r1,Qn a.2.1 b.2.1 e2 (fun i s t h1 h2=>eQ (hka s (D4 h1)) (hkb t (D4 h2)) (hkd i s t h1 h2)) r2⟩
theorem iL {va vb:List Int} {s t:Cx} {v:Int} (k:s.1=t.1) (p:s.2.2.map (Be va)=t.2.2.map (Be vb)):nxF va (s,v)=nxF vb (t,v):=by
 have h:∀ q r:Int,q=r→E9 q v (Hp (s.2.2.map (Be va)))=E9 r v (Hp (t.2.2.map (Be vb))):=fun q r e=>by rw[e,p]
 exact h s.1 t.1 k
theorem gV {α β:Type} {xs:List α} {ys:List β} {i:Nat} {x:α} {y:β} (hx:xs[i]? = some x) (hy:ys[i]? = some y):(xs.zip ys)[i]? = some (x,y):=List.getElem?_zip_eq_some.2 ⟨hx,hy⟩
theorem kU {va vb st:List Int} (hs:st.length=a.2.1.length) (e2:a.2.1.length=b.2.1.length) (hkd:∀ (i:Nat) (s t:Cx),a.2.1[i]? = some s→b.2.1[i]? = some t→s.1=t.1)
 (hp:∀ (i:Nat) (s t:Cx),a.2.1[i]? = some s→b.2.1[i]? = some t→s.2.2.map (Be va)=t.2.2.map (Be vb)):M4 a st va=M4 b st vb:=by
 unfold M4;apply List.ext_getElem?;intro i;rw[Di,Di];by_cases hi:i<a.2.1.length
 · have hsa:a.2.1[i]? = some a.2.1[i]:=A1 hi;have hsb:b.2.1[i]? = some (b.2.1[i]'(by omega)):=A1 _;have hst:st[i]? = some (st[i]'(by omega)):=A1 _;rw[gV hsa hst,gV hsb hst];exact congrArg some (iL (hkd i _ _ hsa hsb) (hp i _ _ hsa hsb))
 · rw[Hv (by simp;omega),Hv (by simp;omega),Option.map_none,Option.map_none]
theorem ZF (h:Ek a b=true) (hz:∀ w:Int,Be (BV (Fx a b) [] w) (DN a b).1=0) {st:List Int} (hs:st.length=a.2.1.length) (inp:Int):KD a st inp=KD b st inp:=by
 have hr:=jV h hz hs inp;obtain⟨hc,-,-,-⟩:=Rr h;obtain⟨oa,ob,e1,e2,-⟩:=Hy hc;obtain⟨r1,hp⟩:=VP hc hr;have q1:=kU hs e2 (Qu hc) hp;have q2:cN a (BV a st inp)=cN b (BV b st inp):=congrArg Hp r1;exact Prod.ext q1 q2
theorem Zz (h:Ek a b=true) (hz:∀ w:Int,Be (BV (Fx a b) [] w) (DN a b).1=0) (h0:Ck a=Ck b) (ins:List Int):∀ k,Fv a ins k=Fv b ins k
 | 0=>h0
 | k+1=>by
   have ih:=Zz h hz h0 ins k;show (KD a (Fv a ins k) _).1=(KD b (Fv b ins k) _).1;rw[←ih,ZF h hz (Jw k)]
theorem bO (h:Ek a b=true) (hz:∀ w:Int,Be (BV (Fx a b) [] w) (DN a b).1=0) (h0:Ck a=Ck b) (ins:List Int):FI a ins=FI b ins:=by
 obtain⟨hc,-,-,-⟩:=Rr h;obtain⟨oa,ob,-⟩:=Hy hc;unfold FI;rw[oa,ob];split
 · unfold Em;refine List.map_congr_left fun k _=>?_;unfold Pt;rw[←Zz h hz h0 ins k,ZF h hz (Jw k)]
 · rfl
end
end Go.Proofs.YtnjedabjbeipeaaGreat
