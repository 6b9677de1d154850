/-
  Hashing and sweeping keep the values of the roots. Plain lemmas.
  Conditions: those typed in each theorem.
-/
import Derived.Test.YtnjedabjbeipeaaYb
import Derived.Test.YtnjedabjbeipeaaSe
import Derived.Test.YtnjedabjbeipeaaYj
namespace Go.Proofs.Ytnjedabjbeipeaa
open Go.RowKit Go.ChangeShapes Go.WideShapes
set_option linter.unusedSimpArgs false
set_option linter.unusedVariables false
set_option maxRecDepth 100000
set_option maxHeartbeats 10000000
structure Ei (x y:AB):Prop where
 inp:y.1=x.1
 kind:y.2.1.map (·.1)=x.2.1.map (·.1)
 outs:y.2.2.2.length=x.2.2.2.length
 val:∀ (st:List Int) (inp:Int),st.length=x.2.1.length→(At y).map (AF (Bu y st inp))=(At x).map (AF (Bu x st inp))
theorem Ei.len {x y:AB} (h:Ei x y):y.2.1.length=x.2.1.length:=by
 have:=congrArg List.length h.kind;simpa using this
theorem Ei.trans {x y z:AB} (h:Ei x y) (k:Ei y z):Ei x z :=
 ⟨k.inp.trans h.inp,k.kind.trans h.kind,k.outs.trans h.outs,fun st inp hs=>(k.val st inp (by rw[h.len];exact hs)).trans (h.val st inp hs)⟩
theorem Ei.refl (x:AB):Ei x x:=⟨rfl,rfl,rfl,fun _ _ _=>rfl⟩
abbrev oH (x:AB) (to:List Int) (an:List Ah):AB:=(x.1,x.2.1.map (Do to),an,x.2.2.2.map (Ap to))
theorem bL {x:AB} {to:List Int} {an:List Ah}:At (oH x to an)=(At x).map (Ap to):=by
 unfold At;simp only[ACX,ACm,List.map_flatten]
 congr 1
theorem Sh {x:AB} {to:List Int} {an:List Ah}:Aa (oH x to an)=Aa x:=by unfold Aa;simp
theorem Mn {x:AB} {to:List Int} {an:List Ah} (h:∀ (st:List Int) (inp:Int),st.length=x.2.1.length→∀ l∈At x,AF (Bu (oH x to an) st inp) (Ap to l)=AF (Bu x st inp) l):Ei x (oH x to an):=by
 refine⟨rfl,?_,by simp,fun st inp hs=>?_⟩
 · simp only[ACm];exact List.map_congr_left fun s _=>rfl
 · rw[bL,ACm];exact List.map_congr_left fun l hl=>h st inp hs l hl
theorem LX {x:AB} {to:List Int} {an:List Ah} {st:List Int} {inp:Int} (hs:st.length=x.2.1.length) {v:Nat} (hv:v<Aa x):Av (Bu (oH x to an) st inp) v=Av (Bu x st inp) v:=by
 rw[IG (x:=oH x to an) (by simpa using hs) (by rw[Sh];exact hv),IG hs hv]
theorem On {x:AB} {to:List Int} {an:List Ah} {st:List Int} {inp:Int} (hok:Aj (oH x to an)=true):EP (Bu (oH x to an) st inp) (Aa x) an:=by
 have:=D4 (st:=st) (inp:=inp) hok;rw[Sh] at this;exact this
theorem Py {x:AB} (hok:Aj x=true) {to:List Int} {V W:List Int} (hV:Cq V) (hW:Cq W) {n:Nat} (hn:0<n∧n≤1000) (hp:Oh n to) (hk:∀ l∈At x,AF V (Av to ((l / 2).toNat:Nat))=Av W ((l / 2).toNat:Nat)):∀ l∈At x,AF V (Ap to l)=AF W l:=fun l hl=>by
 have hr:=(Ax hok).2.2.1 l hl;have hp2:=Bw hp (by omega) (l / 2);refine G7 hV hW ⟨hp2.1,by omega⟩ ?_;have:=hk l hl;rw[show (((l / 2).toNat:Nat):Int)=l / 2 by omega] at this;exact this
theorem fL {x:AB} (hok:Aj x=true) (h3:x.2.2.1.length<300):Ei x (pD x):=by
 have hz:=PJ hok;refine Mn fun st inp hs=>?_;exact MF hok (an0:=[]) (by simp) (by simp[ES,BO]) (YO hok h3 _ (Nat.le_refl _)).1 (List.prefix_refl _) (On hz) (D4 hok) (fun v hv=>LX hs hv)
theorem Ys {y:AB} {keep:List Bool} {i:Nat}:∀ d,(Ia y keep i).1 <+: (Ia y keep (i+d)).1
 | 0=>List.prefix_refl _
 | d+1=>by
   refine (Ys d).trans ?_;show _ <+: (Ia y keep (i+d+1)).1;rw[Ia];split
   · exact List.prefix_append _ _
   · exact List.prefix_refl _
theorem dX {y:AB} {keep:List Bool} (hok:Aj y=true) (hcl:qQ (Aa y) (B2 y) (B7 y) keep (AR y)) {An:List Ah} {V W:List Int} (hV:EP V (Aa y) An) (hW:EP W (Aa y) y.2.2.1) (hleaf:∀ v:Nat,v<Aa y→Av V v=Av W v) :
 ∀ i,i≤y.2.2.1.length→(Ia y keep i).1 <+: An→∀ v:Nat,v<Aa y+i→(v<Aa y∨Be keep v=true)→AF V (Av (Ia y keep i).2 v)=Av W v
 | 0,_,_,v,hv,_=>by
   have e:Av (BQ (Aa y)) (v:Int)=2*(v:Int):=by
    unfold Av BQ;rw[Int.toNat_natCast,ACF,ACa (by omega)];rfl
   show AF V (Av (BQ (Aa y)) v)=_;rw[e,Gq hV.bits (by omega)];exact hleaf v (by omega)
 | i+1,hi,hpre,v,hv,hkv=>by
   have ih:=dX hok hcl hV hW hleaf i (by omega) ((Ys 1).trans hpre);have hN:=Bn y;obtain⟨g1,g2,g3,g4⟩:=Lf (keep:=keep) hok i (by omega);obtain⟨⟨n1,n2,n3,n4,n5,n6⟩,-,-,-⟩:=Ax hok;have hF1:1≤Aa y∧Aa y≤33:=by unfold Aa;omega
   obtain⟨ha,a1,a2,a3,a4,a5,a6⟩:=Cy hok (v:=Aa y+i) (by omega) (by omega);have hwa:=hW.an i (Al y (Aa y+i)) (by rw[Nat.add_sub_cancel_left] at ha;exact ha);rw[Ia] at hpre ⊢;generalize Ia y keep i=s at *;obtain⟨an,to⟩:=s;simp only at ih g1 g2 g3 g4 hpre ⊢;by_cases hb:Be keep (Aa y+i)=true
   · rw[if_pos hb] at hpre ⊢;simp only at hpre ⊢;by_cases hv2:v<Aa y+i
     · rw[Dy (by omega) (by omega)];exact ih v hv2 hkv
     · obtain rfl:v=Aa y+i:=by omega
       have e:Av (to++[2*((Aa y:Int)+an.length)]) ((Aa y+i:Nat):Int)=2*((Aa y:Int)+an.length):=by
        unfold Av;rw[Int.toNat_natCast,zz5 (by omega),g2,Nat.sub_self];rfl
       obtain⟨c1,c2⟩:=hcl _ (by omega) hb (by omega);have hp:=fun k=>Bw g3 (by omega) k
       have m1:AF V (Ap to (Al y (Aa y+i)).1)=AF W (Al y (Aa y+i)).1:=by
        refine G7 hV.bits hW.bits (by have:=hp ((Al y (Aa y+i)).1 / 2);omega) ?_;rw[a3];exact ih _ a5 (.inr c1)
       have m2:AF V (Ap to (Al y (Aa y+i)).2)=AF W (Al y (Aa y+i)).2:=by
        refine G7 hV.bits hW.bits (by have:=hp ((Al y (Aa y+i)).2 / 2);omega) ?_;rw[a4];exact ih _ a6 (.inr c2)
       have hA:An[an.length]? = some (Ap to (Al y (Aa y+i)).1,Ap to (Al y (Aa y+i)).2):=by
        obtain⟨t,rfl⟩:=hpre;rw[ACY,zz5 (Nat.le_refl _),Nat.sub_self];rfl
       have h:=hV.an _ _ hA;rw[e,show (Aa y:Int)+(an.length:Int)=((Aa y+an.length:Nat):Int) by omega,Gq hV.bits (by omega),h,m1,m2,←hwa]
   · rw[if_neg hb] at hpre ⊢;simp only at hpre ⊢
     have hv2:v<Aa y+i:=by
      rcases Nat.lt_or_ge v (Aa y+i) with h|h
      · exact h
      · obtain rfl:v=Aa y+i:=by omega
        rcases hkv with h'|h'
        · omega
        · exact absurd h' hb
     rw[Dy (by omega) (by omega)];exact ih v hv2 hkv
theorem Rj {x:AB} (hok:Aj x=true) {rs:List Int} (hr:∀ l∈rs,0≤l∧l<2*(AR x:Int)):∀ k,k≤rs.length→qQ (Aa x) (B2 x) (B7 x) (T6 x rs k) (AR x)∧∀ j:Nat,j<k→Be (T6 x rs k) (Av rs j / 2).toNat=true
 | 0,_=>by
   refine⟨fun u _ h=>?_,fun j h=>by omega⟩;have h':Be (List.replicate (AR x) false) u=true:=h;rw[Ie] at h'
   cases h'
 | k+1,hk=>by
   obtain⟨c1,c2⟩:=Rj hok hr k (by omega);have hkd:=EM hok;have hm:Av rs (k:Int)∈rs:=by unfold Av;rw[Int.toNat_natCast,zz0 (by omega)];exact AB7 _
   have hrk:=hr _ hm;have hv:(Av rs (k:Int) / 2).toNat<AR x:=by omega
   obtain⟨s1,s2⟩:=HF (F:=Aa x) (N:=AR x) (ka:=B2 x) (kb:=B7 x) hkd (AR x) (Av rs (k:Int) / 2).toNat (T6 x rs k) hv hv (Ot k) (fun u hu=>c1 u (by omega));have e:T6 x rs (k+1)=Ip (Aa x) (B2 x) (B7 x) (AR x) (Av rs (k:Int) / 2).toNat (T6 x rs k):=rfl;refine⟨fun u hu h hF=>?_,fun j hj=>?_⟩
   · rw[e] at h ⊢;rcases (s2 u).1 h with h|h
     · obtain⟨q1,q2⟩:=c1 u hu h hF;exact⟨(s2 _).2 (.inl q1),(s2 _).2 (.inl q2)⟩
     · exact⟨(s2 _).2 (.inr (h.snoc_a hF)),(s2 _).2 (.inr (h.snoc_b hF))⟩
   · rw[e];by_cases hjk:j=k
     · subst hjk;exact (s2 _).2 (.inr (.refl _))
     · exact (s2 _).2 (.inl (c2 j (by omega)))
theorem Yl {y:AB} (hok:Aj y=true):Aj (Mv y)=true:=SZ hok
theorem M5 {y:AB} (hok:Aj y=true):Ei y (Mv y):=by
 have hz:=Yl hok;obtain⟨c1,c2⟩:=Rj hok (rs:=At y) (Ax hok).2.2.1 _ (Nat.le_refl _);obtain⟨g1,g2,g3,g4⟩:=Lf (keep:=OO y) hok _ (Nat.le_refl _);obtain⟨⟨n1,n2,n3,n4,n5,n6⟩,-,hri,-⟩:=Ax hok;have hF1:1≤Aa y∧Aa y≤33:=by unfold Aa;omega
 have hN:=Bn y;refine Mn fun st inp hs=>?_;have hV:=On (st:=st) (inp:=inp) hz;have hW:=D4 (st:=st) (inp:=inp) hok;refine Py hok hV.bits hW.bits (n:=Aa y+(Ia y (OO y) y.2.2.1.length).1.length) (by omega) (by rw[Int.natCast_add];exact g3) fun l hl=>?_;have hr:=hri l hl;refine dX hok c1 hV hW (fun v hv=>LX hs hv) _ (Nat.le_refl _) (List.prefix_refl _) _ (by omega) (.inr ?_);obtain⟨j,hj,rfl⟩:=List.mem_iff_getElem.1 hl;have:=c2 j hj;have e:Av (At y) (j:Int)=(At y)[j]:=by unfold Av;rw[Int.toNat_natCast,zz0 hj];rfl
 rw[e] at this;exact this
theorem K3 {x:AB} (hok:Aj x=true) (h3:x.2.2.1.length<300):Ei x (Eg x):=(fL hok h3).trans (M5 (PJ hok))
theorem Kr:∀ a,a<16→∀ b,b<16→Cp ((a:Nat):Int) ((b:Nat):Int)=((a &&& b:Nat):Int):=by decide
theorem LD:∀ a,a<16→∀ b,b<16→(DJ ((a:Nat):Int) ((b:Nat):Int)=0↔a &&& b=a):=by decide
def Mk (i:Nat) (c:Ah):Bool:=Cp (i:Int) c.1==c.2
theorem RJ {cs:List Ah} {i:Nat}:Gw cs i=true↔∃ c∈cs,Mk i c=true:=by
 unfold Gw;rw[List.any_eq_true];exact Iff.rfl
section
variable {n:Nat} {b:Int}
theorem Pw (hn:n≤4) {c:Ah} (h:c∈Lk n b):∃ ca v:Nat,ca<2 ^ n∧ca<16∧v≤ca∧c=((ca:Int),(v:Int))∧v &&& ca=v∧HD n b c=true:=by
 obtain⟨ca,v,h1,h2,h3,h4⟩:=PH.1 h;have h16:=(EX hn).2;unfold Jr at h4;simp only[Bool.and_eq_true,beq_iff_eq] at h4;refine⟨ca,v,h1,by omega,h2,h3,?_,h4.2⟩;rw[h3] at h4;exact (LD v (by omega) ca (by omega)).1 h4.1
theorem aB (hn:n≤4) {i:Nat} (hi:i<16):∀ (ca:Nat) (v:Nat),((ca:Int),(v:Int))∈Lk n b→Mk i ((ca:Int),(v:Int))=true→∃ c∈Hx n b,Mk i c=true:=by
 intro ca
 induction ca using Nat.strongRecOn with
 | _ ca ih =>
   intro v hm hh;by_cases hp:∀ d∈Lk n b,OH ((ca:Int),(v:Int)) d=false
   · exact⟨_,MY.2 ⟨hm,hp⟩,hh⟩
   · obtain⟨d,hd,hdm⟩:∃ d,d∈Lk n b∧OH ((ca:Int),(v:Int)) d=true:=by
      apply Classical.byContradiction;intro hno
      exact hp fun d hd=>by
       cases he:OH ((ca:Int),(v:Int)) d with
       | false=>rfl
       | true=>exact absurd ⟨d,hd,he⟩ hno
     obtain⟨ca0,v0,q1,q2,q3,q4,q5,q6⟩:=Pw hn hm;obtain⟨e1,e2⟩:=Prod.mk.inj q4;obtain rfl:ca=ca0:=by omega
     obtain rfl:v=v0:=by omega
     obtain⟨da,w,r1,r2,r3,rfl,r5,r6⟩:=Pw hn hd;unfold OH at hdm;simp only[Bool.and_eq_true,Bool.not_eq_true',beq_iff_eq,Bool.and_eq_false_iff,beq_eq_false_iff_ne] at hdm;obtain⟨d1,d2,d3⟩:=hdm;have d2':=(LD da r2 ca q2).1 d2;rw[Kr v (by omega) da r2] at d3;have d3':v &&& da=w:=by omega
     unfold Mk at hh;simp only[beq_iff_eq] at hh;rw[Kr i hi ca q2] at hh;have hh':i &&& ca=v:=by omega
     have hle:da≤ca:=by rw[←d2'];exact Nat.and_le_right
     have hne:da≠ca:=by
      rintro rfl;have:w=v:=by rw[←d3',q5]
      subst this;rcases d1 with d1|d1<;>exact d1 rfl
     refine ih da (by omega) w hd ?_;unfold Mk;simp only[beq_iff_eq];rw[Kr i hi da r2];have:i &&& da=w:=by rw[←d3',←hh',Nat.and_assoc,Nat.and_comm ca da,d2']
     omega
theorem VL:∀ m,m≤4→∀ i,i<2 ^ m→(i &&& (2 ^ m - 1))=i:=by decide
theorem iY (hn:n≤4) {i:Nat} (hi:i<2 ^ n):Gw (Hx n b) i=true↔GF b i=1:=by
 have h16:=(EX hn).2;have h1:1≤2 ^ n:=Nat.one_le_two_pow;rw[RJ];constructor
 · rintro⟨c,hc,hh⟩;obtain⟨ca,v,q1,q2,q3,q4,q5,q6⟩:=Pw hn (MY.1 hc).1;unfold HD at q6;have:=zz8.1 q6 i (ACJ.2 hi);unfold SW at this;unfold Mk at hh;rw[hh] at this;simpa using this
 · intro hb;have hf:=VL n hn i hi;refine aB hn (by omega) (2 ^ n - 1) i (PH.2 ⟨2 ^ n - 1,i,by omega,by omega,rfl,?_⟩) ?_
   · unfold Jr;simp only[Bool.and_eq_true,beq_iff_eq];refine⟨(LD i (by omega) (2 ^ n - 1) (by omega)).2 hf,Rw fun j hj=>?_⟩;unfold SW;simp only;rw[Kr j (by omega) (2 ^ n - 1) (by omega),VL n hn j hj];by_cases hij:j=i
     · subst hij;rw[hb];simp
     · rw[show (((j:Nat):Int)==((i:Nat):Int))=false by rw[beq_eq_false_iff_ne];omega];rfl
   · unfold Mk;simp only[beq_iff_eq];rw[Kr i (by omega) (2 ^ n - 1) (by omega),hf]
end
theorem YC {n:Nat} {vs:List Int} (hn:n≤4) (hb:Cq vs) (hl:vs.length=2 ^ n) {i:Nat} (hi:i<2 ^ n):Gw (Lj n (BP vs)) i=true↔vs[i]? = some 1:=by
 have h16:=(EX hn).2
 have hbit:∀ j,j<2 ^ n→∃ z,vs[j]? = some z∧GF (BP vs) j=z∧(z=0∨z=1):=fun j hj=>by
  have hx:vs[j]? = some vs[j]:=zz0 (by omega);have h01:=hb _ (zz6 hx);exact⟨_,hx,Lq hb hx (by omega),by omega⟩
 have hprim:T7 n (Hx n (BP vs))=vs:=by
  apply List.ext_getElem?;intro j;rcases Nat.lt_or_ge j (2 ^ n) with hj|hj
  · obtain⟨z,z1,z2,z3⟩:=hbit j hj;rw[Xw hj,z1]
    congr 1
    have:=iY (b:=BP vs) hn hj;rw[z2] at this;rcases z3 with rfl|rfl
    · rw[if_neg (fun h=>absurd (this.1 h) (by decide))]
    · rw[if_pos (this.2 rfl)]
  · rw[AB8 (by rw[YF];exact hj),AB8 (by omega)]
 have hmin:=(HJ (n:=n) (b:=BP vs) hn).2.2 (by rw[hprim]);obtain⟨z,z1,z2,z3⟩:=hbit i hi;have hm:=Lq (VI (n:=n) (cs:=Lj n (BP vs))) (Xw hi) (by omega);rw[hmin,z2] at hm;rw[z1];by_cases hc:Gw (Lj n (BP vs)) i=true
 · rw[if_pos hc] at hm;exact⟨fun _=>by rw[hm],fun _=>hc⟩
 · rw[if_neg hc] at hm;exact⟨fun h=>absurd h hc,fun h=>by have:=ACW h;omega⟩
theorem KF {a j:Nat} (hj:j≤60):GF (a:Int) j=if a.testBit j=true then 1 else 0:=by
 unfold GF DB;rw[Int.toNat_natCast,Nat.min_eq_left (by omega),ACB _ (Int.le_of_lt (Int.pow_pos (by omega)))];have e:((a:Int) / 2 ^ j % 2)=((a / 2 ^ j % 2:Nat):Int):=by simp
 rw[e,Nat.testBit_eq_decide_div_mod_eq];simp only[decide_eq_true_eq];have h2:a / 2 ^ j % 2<2:=Nat.mod_lt _ (by omega);split<;>omega
theorem UU {n:Nat} (hn:n≤4) {c:Ah} (hc:JD n c) {i:Nat} (hi:i<2 ^ n):Mk i c=true↔∀ j,j<n→GF c.1 j=1→GF (i:Int) j=GF c.2 j:=by
 obtain⟨ca,v,h1,h2,rfl,h3⟩:=hc;have h16:=(EX hn).2;have h3':=(LD v (by omega) ca (by omega)).1 h3;unfold Mk;simp only[beq_iff_eq];rw[Kr i (by omega) ca (by omega)];have hlow:∀ x,x<2 ^ n→∀ j,n≤j→x.testBit j=false:=fun x hx j hj=>Nat.testBit_lt_two_pow (ACM hx (ACU (by omega) hj));constructor
 · intro he j hj hb;have he':i &&& ca=v:=by omega
   rw[KF (by omega)] at hb
   have hcb:ca.testBit j=true:=by
    cases hq:ca.testBit j with
    | true=>rfl
    | false=>rw[hq] at hb;simp at hb
   rw[KF (by omega),KF (by omega),←he',Nat.testBit_and,hcb,Bool.and_true]
 · intro ha
   have:i &&& ca=v:=by
    apply Nat.eq_of_testBit_eq;intro j;rw[Nat.testBit_and];rcases Nat.lt_or_ge j n with hj|hj
    · cases hq:ca.testBit j with
      | false =>
        have:v.testBit j=false:=by rw[←h3',Nat.testBit_and,hq,Bool.and_false]
        rw[this,Bool.and_false]
      | true =>
        have h:=ha j hj (by rw[KF (by omega),hq];rfl);rw[KF (by omega),KF (by omega)] at h;rw[Bool.and_true]
        cases hi':i.testBit j<;>cases hv':v.testBit j<;>rw[hi',hv'] at h<;>simp at h<;>rfl
    · rw[hlow ca h1 j hj,hlow v (by omega) j hj,Bool.and_false]
   omega
end Go.Proofs.Ytnjedabjbeipeaa
