/-
  Balancing keeps the values of the roots. Plain lemmas.
  Conditions: those typed in each theorem.
-/
import Derived.Test.YtnjedabjbeipeaaYh
import Derived.Test.YtnjedabjbeipeaaYp
namespace Go.Proofs.Ytnjedabjbeipeaa
open Go.RowKit Go.ChangeShapes Go.WideShapes
set_option linter.unusedSimpArgs false
set_option linter.unusedVariables false
set_option maxRecDepth 100000
set_option maxHeartbeats 10000000
theorem HV {V:List Int} (l:Int):AF V l=0∨AF V l=1:=by have:=DY V l;omega
theorem GE {a b:Int} (ha:a=0∨a=1) (hb:b=0∨b=1):a*b=1↔a=1∧b=1:=by
 rcases ha with rfl|rfl<;>rcases hb with rfl|rfl<;>decide
theorem qM {x:AB} (hok:Aj x=true) {W:List Int} (hW:EP W (Aa x) x.2.2.1) {v0 m:Nat} {s:List Int} (h:N6 x v0 s (m+1)) {p:Nat} (hp:KJ x s s.length=(p:Int)):(∀ l∈gK x s p,AF W l=1)↔∀ l∈s,AF W l=1:=by
 obtain⟨c1,⟨c2,c3,c4⟩,c5,c6,c7⟩:=Kj hok h hp;have e6:s[p]=Av s p:=by unfold Av;rw[Int.toNat_natCast,zz0 c6];rfl
 have e5:s=s.take p++Av s p::s.drop (p+1):=by rw[←e6,←List.drop_eq_getElem_cons c6,List.take_append_drop]
 have hr:=h.rng (Av s p) (by rw[←e6];exact AB7 _);obtain⟨a0,a1,a2,a3,a4,a5,a6⟩:=Cy hok c2 c3;have hN:=Bn x
 have hval:AF W (Av s p)=AF W (Al x (Av s p / 2).toNat).1*AF W (Al x (Av s p / 2).toNat).2:=by
  have ha:=hW.an _ _ a0;rw[show Aa x+((Av s p / 2).toNat - Aa x)=(Av s p / 2).toNat by omega] at ha;rw[←ha,show Av s p=2*(((Av s p / 2).toNat:Nat):Int) by omega,Gq hW.bits (by omega)]
  congr 1
  omega
 have key:(∀ l∈s,AF W l=1)↔(∀ l∈s.take p++s.drop (p+1),AF W l=1)∧AF W (Av s p)=1:=by
  constructor
  · intro ha;refine⟨fun l hl=>ha l ?_,ha _ (by rw[←e6];exact AB7 _)⟩;rcases ACE.1 hl with hl|hl
    · exact List.mem_of_mem_take hl
    · exact List.mem_of_mem_drop hl
  · rintro⟨ha,hb⟩ l hl;rw[e5] at hl;rcases ACE.1 hl with hl|hl
    · exact ha l (List.mem_append_left _ hl)
    · rcases List.mem_cons.1 hl with rfl|hl
      · exact hb
      · exact ha l (List.mem_append_right _ hl)
 rw[key,hval,GE (HV _) (HV _)];unfold gK;constructor
 · intro ha;exact⟨fun l hl=>ha l (CH.2 (.inl (CH.2 (.inl hl)))),ha _ (CH.2 (.inl (CH.2 (.inr rfl)))),ha _ (CH.2 (.inr rfl))⟩
 · rintro⟨ha,hb,hc⟩ l hl;rcases CH.1 hl with hl|rfl
   · rcases CH.1 hl with hl|rfl
     · exact ha l hl
     · exact hb
   · exact hc
theorem YW {x:AB} (hok:Aj x=true) {W:List Int} (hW:EP W (Aa x) x.2.2.1) {v0:Nat}:∀ (m:Nat) (s:List Int),N6 x v0 s m→((∀ l∈Xs x m s,AF W l=1)↔∀ l∈s,AF W l=1)
 | 0,s,h=>Iff.rfl
 | m+1,s,h=>by
   unfold Xs;split
   · exact Iff.rfl
   · rename_i hn;obtain⟨p,hp⟩:∃ p:Nat,KJ x s s.length=p:=⟨(KJ x s s.length).toNat,by have:=(H4 (x:=x) (s:=s) s.length).1;omega⟩;rw[hp,Int.toNat_natCast];exact (YW hok hW m _ (Kj hok h hp).1).trans (qM hok hW h hp)
theorem iZ {x:AB} (hok:Aj x=true) {W:List Int} (hW:EP W (Aa x) x.2.2.1) {v:Nat} (h1:Aa x≤v) (h2:v<AR x):(∀ l∈Cz x v,AF W l=1)↔Av W v=1:=by
 obtain⟨a0,a1,a2,a3,a4,a5,a6⟩:=Cy hok h1 h2;refine (YW hok hW v _ (Mq hok h1 h2)).trans ?_;have ha:=hW.an _ _ a0;rw[show Aa x+(v - Aa x)=v by omega] at ha;rw[ha,GE (HV _) (HV _)];constructor
 · intro h;exact⟨h _ (CH.2 (.inl (zz9.2 rfl))),h _ (CH.2 (.inr rfl))⟩
 · rintro⟨ha,hb⟩ l hl;rcases CH.1 hl with hl|rfl
   · rw[zz9.1 hl];exact ha
   · exact hb
theorem TG {s:List Bool} {rs:List Int} {u:Nat}:∀ j,(∀ l∈rs,(l / 2).toNat<s.length)→j≤rs.length→(Be (Og s rs j) u=true↔Be s u=true∨∃ i:Nat,i<j∧(Av rs i / 2).toNat=u)
 | 0,_,_=>⟨.inl,fun h=>h.elim id fun ⟨i,hi,_⟩=>absurd hi (by omega)⟩
 | j+1,hr,hj=>by
   have ih:=TG (u:=u) j hr (by omega);have hm:Av rs (j:Int)∈rs:=by unfold Av;rw[Int.toNat_natCast,zz0 (by omega)];exact AB7 _
   unfold Og;rw[L5 (by rw[KH];exact hr _ hm),Bool.or_eq_true,decide_eq_true_eq,ih];constructor
   · rintro (rfl|h|⟨i,hi,he⟩)
     · exact .inr ⟨j,by omega,rfl⟩
     · exact .inl h
     · exact .inr ⟨i,by omega,he⟩
   · rintro (h|⟨i,hi,he⟩)
     · exact .inr (.inl h)
     · by_cases hij:i=j
       · subst hij;exact .inl he.symm
       · exact .inr (.inr ⟨i,by omega,he⟩)
section
variable {h:AB} (hok:Aj h=true)
include hok
theorem S9 {j:Nat} (hj:j<h.2.2.1.length) {u:Nat}:Be (nK h (j+1)) u=true↔Be (nK h j) u=true∨Be (nK h j) (AR h - 1 - j)=true∧∃ i:Nat,i<(Cz h (AR h - 1 - j)).length∧(Av (Cz h (AR h - 1 - j)) i / 2).toNat=u:=by
 have hN:=Bn h;obtain⟨⟨c1,c2,c3⟩,c4⟩:=Iv hok (v:=AR h - 1 - j) (by omega) (by omega);have hl:=PN (h:=h) j;rw[nK];split
 · rename_i hb;rw[TG _ (fun l hl'=>by have:=c2 l hl';omega) (Nat.le_refl _)];constructor
   · rintro (q|q)
     · exact .inl q
     · exact .inr ⟨hb,q⟩
   · rintro (q|⟨_,q⟩)
     · exact .inl q
     · exact .inr q
 · rename_i hb;exact⟨.inl,fun q=>q.elim id fun q=>absurd q.1 hb⟩
theorem jG {j:Nat} {u:Nat} (hu:Be (nK h j) u=true):∀ d,j+d≤h.2.2.1.length→Be (nK h (j+d)) u=true
 | 0,_=>hu
 | d+1,hd=>(S9 hok (j:=j+d) (show j+d<h.2.2.1.length by omega)).2 (.inl (jG hu d (by omega)))
theorem YY {j:Nat} (hj:j<h.2.2.1.length):∀ d,j+d≤h.2.2.1.length→Be (nK h (j+d)) (AR h - 1 - j)=true→Be (nK h j) (AR h - 1 - j)=true
 | 0,_,q=>q
 | d+1,hd,q=>by
   have hdd:j+d<h.2.2.1.length:=by omega
   refine YY hj d (by omega) ?_;have hN:=Bn h;rcases (S9 hok (j:=j+d) hdd).1 q with q|⟨_,i,hi,he⟩
   · exact q
   · obtain⟨⟨c1,c2,c3⟩,c4⟩:=Iv hok (v:=AR h - 1 - (j+d)) (by omega) (by omega);have hm:Av (Cz h (AR h - 1 - (j+d))) (i:Int)∈Cz h (AR h - 1 - (j+d)):=by unfold Av;rw[Int.toNat_natCast,zz0 hi];exact AB7 _
     have:=c2 _ hm;omega
theorem aV {v:Nat} (h1:Aa h≤v) (h2:v<AR h) (hn:Be (Jo h) v=true):∀ l∈Cz h v,Be (Jo h) (l / 2).toNat=true:=fun l hl=>by
 have hN:=Bn h;obtain⟨j,hj,rfl⟩:∃ j,j<h.2.2.1.length∧v=AR h - 1 - j:=⟨AR h - 1 - v,by omega,by omega⟩;have q:=YY hok hj (h.2.2.1.length - j) (by omega) (by rw[show j+(h.2.2.1.length - j)=h.2.2.1.length by omega];exact hn);obtain⟨i,hi,rfl⟩:=List.mem_iff_getElem.1 hl;have e:Av (Cz h (AR h - 1 - j)) (i:Int)=(Cz h (AR h - 1 - j))[i]:=by unfold Av;rw[Int.toNat_natCast,zz0 hi];rfl
 have:=jG hok ((S9 hok hj (u:=((Cz h (AR h - 1 - j))[i] / 2).toNat)).2 (.inr ⟨q,i,hi,by rw[e]⟩)) (h.2.2.1.length - (j+1)) (by omega);rw[show j+1+(h.2.2.1.length - (j+1))=h.2.2.1.length by omega] at this;exact this
theorem ZU:∀ l∈At h,Be (Jo h) (l / 2).toNat=true:=fun l hl=>by
 have hr:=(Ax hok).2.2.1;obtain⟨i,hi,rfl⟩:=List.mem_iff_getElem.1 hl;have e:Av (At h) (i:Int)=(At h)[i]:=by unfold Av;rw[Int.toNat_natCast,zz0 hi];rfl
 have q:Be (nK h 0) ((At h)[i] / 2).toNat=true:=by
  show Be (Og (List.replicate (AR h) false) (At h) (At h).length) _=true;rw[TG _ (fun l hl'=>by have:=hr l hl';simp;omega) (Nat.le_refl _)];exact .inr ⟨i,hi,by rw[e]⟩
 have:=jG hok q h.2.2.1.length (by omega);rw[Nat.zero_add] at this;exact this
end
theorem YI {V lv pl cs:List Int}:∀ k,k≤cs.length→((∀ y∈Np lv pl cs k,AF V y=1)↔∀ l∈cs.take k,AF V (Ap pl l)=1)
 | 0,_=>by simp[Np]
 | k+1,hk=>by
   have ih:=YI (V:=V) (lv:=lv) (pl:=pl) (cs:=cs) k (by omega);have hx:cs[k]? = some cs[k]:=zz0 (by omega);have e:Av cs (k:Int)=cs[k]:=Eh hx;rw[Bh hx];unfold Np;rw[e];constructor
   · intro ha l hl;rcases ACE.1 hl with hl|hl
     · exact ih.1 (fun y hy=>ha y (GB.2 (.inl hy))) l hl
     · rw[zz9.1 hl];exact ha _ (GB.2 (.inr rfl))
   · intro ha y hy;rcases GB.1 hy with hy|rfl
     · exact ih.2 (fun l hl=>ha l (List.mem_append_left _ hl)) y hy
     · exact ha _ (List.mem_append_right _ (zz9.2 rfl))
theorem qI {fa:Nat} {s:KI}:s.1 <+: (W7 fa s).1:=DW
theorem TA {fa:Nat}:∀ (n:Nat) (s:KI),s.1 <+: (Oy fa n s).1
 | 0,s=>List.prefix_refl _
 | n+1,s=>by
   unfold Oy;split
   · exact List.prefix_refl _
   · exact qI.trans (TA n _)
theorem lR {V:List Int} {fa:Nat} {An:List Ah} (hV:EP V fa An) {s:KI} (h0:0<fa∧fa≤1000) (h:OS fa s.1 s.2.1) (hL:KN (fa+s.1.length) s.2.2) (h2:¬ s.2.2.length≤1) (h3:s.1.length<300) (hp:(W7 fa s).1 <+: An) :
 (∀ y∈(W7 fa s).2.2,AF V y=1)↔∀ y∈s.2.2,AF V y=1:=by
 obtain⟨f1,f2,f3,f4,f5,f6,f7,f8,f9⟩:=OD h0.1 h hL h2 h3;obtain⟨an,lv,L⟩:=s;simp only at *
 match L,h2 with
 | a::b::rest,h2 =>
   have e0:Av (a::b::rest) 0=a:=rfl;have e1':Av (a::b::rest) 1=b:=rfl;rw[e0,e1'] at f7;rw[e0] at f8;rw[e1'] at f9;have hs:=Ji (a:=a) (b:=b) hV (show Ak an a b <+: An from hp) ⟨f8.1,by omega⟩ f9.1 f7.1;show (∀ y∈FB (XY lv an a b) ((a::b::rest).drop 2) (AG fa an a b),AF V y=1)↔_;simp only[List.drop_succ_cons,List.drop_zero,List.mem_cons];constructor
   · intro ha y hy;have hv:=ha _ (GB.2 (.inr rfl));rw[hs,GE (HV _) (HV _)] at hv;rcases hy with rfl|rfl|hy
     · exact hv.1
     · exact hv.2
     · exact ha y (GB.2 (.inl hy))
   · intro ha y hy;rcases GB.1 hy with hy|rfl
     · exact ha y (.inr (.inr hy))
     · rw[hs,GE (HV _) (HV _)];exact⟨ha a (.inl rfl),ha b (.inr (.inl rfl))⟩
 | [a],h2=>simp at h2
 | [],h2=>simp at h2
theorem Y1 {V:List Int} {fa:Nat} {An:List Ah} (hV:EP V fa An) (h0:0<fa∧fa≤1000):∀ (n:Nat) (s:KI),OS fa s.1 s.2.1→KN (fa+s.1.length) s.2.2→1≤s.2.2.length→s.2.2.length≤n+1→s.1.length+s.2.2.length≤301→(Oy fa n s).1 <+: An →
 ((∀ y∈(Oy fa n s).2.2,AF V y=1)↔∀ y∈s.2.2,AF V y=1)
 | 0,s,_,_,_,_,_,_=>Iff.rfl
 | n+1,s,h,hL,h1,h2,h3,hp=>by
   unfold Oy at hp ⊢;split
   · exact Iff.rfl
   · rename_i hn;rw[if_neg hn] at hp;obtain⟨q1,q2,q3,q4,q5,q6,-⟩:=OD h0.1 h hL hn (by omega);exact (Y1 hV h0 n _ q1 q2 q3 (by omega) (by omega) hp).trans (lR hV h0 h hL hn (by omega) ((TA n _).trans hp))
theorem mY {h:AB} {i:Nat}:(Ee h i).2.1 <+: (Ee h (i+1)).2.1:=by
 rw[Ee];split
 · exact List.prefix_refl _
 · exact TA _ ((Ee h i).2.1,(Ee h i).2.2,_)
theorem cT {h:AB} (hok:Aj h=true) (h14:h.2.2.1.length≤14) {An:List Ah} {V W:List Int} (hV:EP V (Aa h) An) (hW:EP W (Aa h) h.2.2.1) (hleaf:∀ v:Nat,v<Aa h→Av V v=Av W v) :
 ∀ i,i≤h.2.2.1.length→(Ee h i).2.1 <+: An→∀ v:Nat,v<Aa h+i→(v<Aa h∨Be (Jo h) v=true)→AF V (Av (Ee h i).1 v)=Av W v
 | 0,_,_,v,hv,_=>by
   have e:Av (BQ (Aa h)) (v:Int)=2*(v:Int):=by
    unfold Av BQ;rw[Int.toNat_natCast,ACF,ACa (by omega)];rfl
   show AF V (Av (BQ (Aa h)) v)=_;rw[e,Gq hV.bits (by omega)];exact hleaf v (by omega)
 | i+1,hi,hpre,v,hv,hkv=>by
   have ih:=cT hok h14 hV hW hleaf i (by omega) (mY.trans hpre);have hN:=Bn h;have hB:=OV hok h14 i (by omega);obtain⟨b1,b2,b3,b4⟩:=TY hok h14 (i:=i) (by omega) hB;obtain⟨⟨n1,n2,n3,n4,n5,n6⟩,-,-,-⟩:=Ax hok;have hF1:1≤Aa h∧Aa h≤33:=by unfold Aa;omega
   have hl:=hB.len;rw[Ee] at hpre ⊢;by_cases hb:Be (Jo h) (Aa h+i)=false
   · rw[if_pos hb] at hpre ⊢;simp only at hpre ⊢
     have hv2:v<Aa h+i:=by
      rcases Nat.lt_or_ge v (Aa h+i) with h'|h'
      · exact h'
      · obtain rfl:v=Aa h+i:=by omega
        rcases hkv with h'|h'
        · omega
        · rw[hb] at h';cases h'
     rw[Dy (by omega) (by omega)];exact ih v hv2 hkv
   · rw[if_neg hb] at hpre ⊢;have hbt:Be (Jo h) (Aa h+i)=true:=by simpa using hb
     have hsem:=iZ hok hW (v:=Aa h+i) (by omega) (by omega);have hnc:=aV hok (v:=Aa h+i) (by omega) (by omega) hbt;obtain⟨⟨c1,c2,c3⟩,c4⟩:=Iv hok (v:=Aa h+i) (by omega) (by omega);have hif:=YI (V:=V) (lv:=(Ee h i).2.2) (pl:=(Ee h i).1) (cs:=Cz h (Aa h+i)) _ (Nat.le_refl _);rw[List.take_length] at hif;generalize hL:Np (Ee h i).2.2 (Ee h i).1 (Cz h (Aa h+i)) (Cz h (Aa h+i)).length=L at *;simp only at hpre ⊢;obtain⟨p1,p2,p3,p4,p5⟩:=TL (fa:=Aa h) (by omega) L.length ((Ee h i).2.1,(Ee h i).2.2,L) hB.cb b1 b2 (by simp only;omega) (by simp only;omega);have hcs:=Y1 hV (by omega) L.length ((Ee h i).2.1,(Ee h i).2.2,L) hB.cb b1 b2 (by simp only;omega) (by simp only;omega) hpre;generalize Oy (Aa h) L.length ((Ee h i).2.1,(Ee h i).2.2,L)=R at *;simp only at p1 p2 p3 p4 p5 hcs hpre;by_cases hv2:v<Aa h+i
     · rw[Dy (by omega) (by omega)];exact ih v hv2 hkv
     · obtain rfl:v=Aa h+i:=by omega
       have e:Av ((Ee h i).1++[Av R.2.2 0]) ((Aa h+i:Nat):Int)=Av R.2.2 0:=by
        unfold Av;rw[Int.toNat_natCast,zz5 (by omega),hl,Nat.sub_self];rfl
       rw[e]
       obtain⟨y,hy⟩:∃ y,R.2.2=[y]:=by
        match hR:R.2.2 with
        | [y]=>exact⟨y,rfl⟩
        | []=>rw[hR] at p3;simp at p3
        | _::_::_=>rw[hR] at p3;simp at p3
       have e0:Av R.2.2 0=y:=by rw[hy];rfl
       rw[e0];rw[hy] at hcs
       have hone:AF V y=1↔Av W ((Aa h+i:Nat):Int)=1:=by
        rw[←hsem,←show (∀ z∈[y],AF V z=1)↔AF V y=1 by simp,hcs,hif]
        have hm:∀ l∈Cz h (Aa h+i),AF V (Ap (Ee h i).1 l)=AF W l:=fun l hl'=>by
         have hlr:=c2 l hl';have hpl:=Bw hB.pl (by omega) (l / 2);refine G7 hV.bits hW.bits ⟨hpl.1,by omega⟩ ?_;have:=ih (l / 2).toNat (by omega) (.inr (hnc l hl'));rw[show (((l / 2).toNat:Nat):Int)=l / 2 by omega] at this;exact this
        constructor
        · intro ha l hl';rw[←hm l hl'];exact ha l hl'
        · intro ha l hl';rw[hm l hl'];exact ha l hl'
       have hw:=G0 hW.bits ((Aa h+i:Nat):Int);rcases HV (V:=V) y with h0|h1
       · rw[h0] at hone ⊢;have:Av W ((Aa h+i:Nat):Int)≠1:=fun e1=>absurd (hone.2 e1) (by decide);omega
       · rw[h1,hone.1 h1]
theorem ZW {h:AB} (hok:Aj h=true) (h14:h.2.2.1.length≤14):Ei h (WC h):=by
 have hz:=(SQ hok h14).1;have I:=OV hok h14 _ (Nat.le_refl _);have hb:=XW _ h14;have ha:=I.an;obtain⟨⟨n1,n2,n3,n4,n5,n6⟩,-,hri,-⟩:=Ax hok;have hF1:1≤Aa h∧Aa h≤33:=by unfold Aa;omega
 have hN:=Bn h;refine Mn fun st inp hs=>?_;have hV:=On (st:=st) (inp:=inp) hz;have hW:=D4 (st:=st) (inp:=inp) hok;refine Py hok hV.bits hW.bits (n:=Aa h+(Ee h h.2.2.1.length).2.1.length) (by omega) I.pl fun l hl=>?_;have hr:=hri l hl;exact cT hok h14 hV hW (fun v hv=>LX hs hv) _ (Nat.le_refl _) (List.prefix_refl _) _ (by omega) (.inr (ZU hok l hl))
theorem jD {y:AB} (hok:Aj y=true):(Mv y).2.2.1.length≤y.2.2.1.length:=(Lf (keep:=OO y) hok _ (Nat.le_refl _)).1
theorem Zw {x:AB} (hok:Aj x=true) (h14:x.2.2.1.length≤14):Aj (QI x)=true∧Ei x (QI x)∧(QI x).2.2.1.length≤105:=by
 have hk:=IE hok;have hl:(Eg x).2.2.1.length≤14:=Nat.le_trans (IC hok (by omega)) h14;obtain⟨b1,b2⟩:=SQ hk hl;exact⟨Yl b1,((K3 hok (by omega)).trans (ZW hk hl)).trans (M5 b1),Nat.le_trans (jD b1) b2⟩
end Go.Proofs.Ytnjedabjbeipeaa
