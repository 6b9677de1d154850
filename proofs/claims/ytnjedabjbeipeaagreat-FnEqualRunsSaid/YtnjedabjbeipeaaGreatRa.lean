/-
  What can be observed in a net: what its outputs reach through AND nodes and sequential elements; by a search with a list of what is left to do, and by rounds of marks. Plain lemmas, about no function of the program.
  Conditions: those typed in each theorem.
-/
import Derived.Test.YtnjedabjbeipeaaGreatNo
namespace Go.Proofs.YtnjedabjbeipeaaGreat
set_option linter.unusedSimpArgs false
set_option linter.unusedVariables false
set_option maxRecDepth 100000
set_option maxHeartbeats 10000000
def U7 (l:Int):Nat:=l.toNat / 2
def pP (x:AK) (i:Nat):Cx:=(x.2.1[i]?).getD (0,0,[])
def jE (x:AK):Nat:=1+x.1.toNat
def AAH (x:AK) (v:Nat):List Nat:=if Aa x≤v then [CK x v,CW x v] else if jE x≤v then (pP x (v - jE x)).2.2.map U7 else []
inductive Obs (x:AK):Nat→Prop
 | out {l:Int} (h:l∈x.2.2.2):Obs x (U7 l)
 | kid {v u:Nat} (hv:Obs x v) (hu:u∈AAH x v):Obs x u
theorem Pu {x:AK} (hok:Al x=true) {l:Int} (h:l∈Ay x):0≤l∧U7 l<A0 x:=by
 obtain⟨-,-,o2,-⟩:=AA hok;have:=o2 l h;unfold U7;omega
theorem aV {x:AK} {l:Int} (h:l∈x.2.2.2):l∈Ay x:=List.mem_append_left _ h
def AB8 (s:List Bool):Nat:=s.count false
structure ACL (x:AK) (s:List Bool×List Nat):Prop where
 len:s.1.length=A0 x
 obs:∀ u,AX s.1 u=true→Obs x u
 lt:∀ u∈s.2,u<A0 x
 seen:∀ u∈s.2,AX s.1 u=true
 small:2*AB8 s.1+s.2.length≤2*A0 x
theorem ZR {s:List Bool} {u:Nat} (h:AX s u=true):u<s.length:=by
 unfold AX at h
 cases e:s[u]? with
 | none=>rw[e] at h;cases h
 | some b=>exact (BZ.1 e).1
theorem YL {x:AK} {m:List Bool}:(IF x m).length=m.length:=KS _
def Ie (a b:Int):Int:=if b<a then b else a
def Hb (a b:Int):Int:=if a<b then b else a
def ED (a b:Int):Bool:=decide (a=0)||decide (b=0)||decide (Bm a 1=b)||decide (a=1)||decide (a=b)||decide (b=1)
def Fu (a b:Int):Int:=if a=0∨b=0∨Bm a 1=b then 0 else if a=1∨a=b then b else a
def EN (an:List Ai) (x:Ai):Nat:=an.findIdx fun y=>decide (y=x)
def AZ (fa:Int) (an:List Ai) (a b:Int):Int :=
 if ED a b=true then Fu a b else if EN an (Ie a b,Hb a b)<an.length then 2*(fa+EN an (Ie a b,Hb a b)) else if an.length<300 then 2*(fa+an.length) else -1
def Ba (an:List Ai) (a b:Int):Bool:=!ED a b&&decide (¬ EN an (Ie a b,Hb a b)<an.length)&&decide (an.length<300)
def Ar (an:List Ai) (a b:Int):List Ai:=if Ba an a b=true then an++[(Ie a b,Hb a b)] else an
theorem Yb {an:List Ai} {x:Ai} {i:Nat} (h:an[i]? = some x) (hpre:∀ j:Nat,j<i→an[j]?≠some x):EN an x=i:=by
 obtain⟨hi,e⟩:=BZ.1 h;unfold EN;rw[List.findIdx_eq hi];refine⟨by simpa using e,fun j hj=>?_⟩;have:=hpre j hj;rw[A1 (by omega)] at this;simpa using this
theorem Rx {an:List Ai} {x:Ai} (hpre:∀ j:Nat,j<an.length→an[j]?≠some x):EN an x=an.length:=by
 unfold EN;rw[List.findIdx_eq_length];intro y hy;obtain⟨j,hj,rfl⟩:=List.mem_iff_getElem.1 hy;have:=hpre j hj;rw[A1 hj] at this;simpa using this
theorem A4 {an:List Ai} {a b:Int}:an.length≤(Ar an a b).length∧(Ar an a b).length≤an.length+1:=by
 unfold Ar;split<;>simp
def Aq (pl:List Int) (l:Int):Int:=Bm (A3 pl (l / 2)) (l % 2)
theorem Bd {v:Int} (h:0≤v):Af v / 2=v / 2∧0≤Af v:=by unfold Af;split<;>omega
theorem SF {v:Int} (h:0≤v):Af (Af v)=v:=by unfold Af;split<;>split<;>omega
theorem Za {pl:List Int} {l:Int} (h0:0≤A3 pl (l / 2)) (h1:A3 pl (l / 2)≤1048576):Aq pl l=if l % 2=0 then A3 pl (l / 2) else Af (A3 pl (l / 2)):=by
 unfold Aq;split
 · rename_i h;rw[h,QJ h0 (by omega)]
 · rename_i h;rw[show l % 2=1 by omega,Bq h0 (by omega)]
theorem Bp {pl:List Int} {l:Int} {n:Int} (h:0≤A3 pl (l / 2)∧A3 pl (l / 2)<2*n) (hn:n≤1000):0≤Aq pl l∧Aq pl l<2*n:=by
 rw[Za h.1 (by omega)];split
 · exact h
 · have:=Bd h.1;omega
def fT (n:Nat) (ls:List Int):Prop:=∀ l∈ls,0≤l∧l<2*(n:Int)
def JY (n:Int) (pl:List Int):Prop:=∀ v∈pl,0≤v∧v<2*n
theorem BK {n:Int} {pl:List Int} (h:JY n pl) (hn:0<n) (k:Int):0≤A3 pl k∧A3 pl k<2*n:=by
 unfold A3
 cases e:pl[k.toNat]? with
 | none=>simp only[Option.getD_none];omega
 | some v=>simpa using h v (D4 e)
theorem LP {pl qs:List Int} {k:Int} (h0:0≤k) (h:k<pl.length):A3 (pl++qs) k=A3 pl k:=by
 unfold A3;rw[DZ (by omega)]
theorem W5 {pl qs:List Int} {l:Int} (h:0≤l∧l<2*(pl.length:Int)):Aq (pl++qs) l=Aq pl l:=by
 unfold Aq;rw[LP (by omega) (by omega)]
theorem Sw {a b n:Int} (ha:0≤a∧a<2*n) (hb:0≤b∧b<2*n):0≤Fu a b∧Fu a b<2*n:=by
 unfold Fu;split<;>(try split)<;>omega
theorem qW {a b:Int} {P:Int→Prop} (ha:P a) (hb:P b):P (Ie a b)∧P (Hb a b):=by
 unfold Ie Hb;constructor<;>split<;>assumption
theorem BR {fa:Int} {an:List Ai} {a b:Int} (hf:0≤fa) (ha:0≤a∧a<2*(fa+an.length)) (hb:0≤b∧b<2*(fa+an.length)):-1≤AZ fa an a b∧AZ fa an a b<2*(fa+(Ar an a b).length):=by
 have hl:=A4 (an:=an) (a:=a) (b:=b);unfold AZ;split
 · have:=Sw ha hb;omega
 · rename_i ht;split
   · omega
   · rename_i hf2;split
     · rename_i h3;have:Ba an a b=true:=by unfold Ba;simp[ht,hf2,h3]
       unfold Ar;rw[if_pos this];simp;omega
     · omega
theorem MX {fa:Int} {an:List Ai} {a b:Int} (hf:0≤fa) (ha:0≤a) (hb:0≤b):(AZ fa an a b<0→Ar an a b=an∧AZ fa an a b=-1):=by
 intro h;unfold AZ at h ⊢;split at h
 · rename_i ht;exfalso;unfold Fu at h;split at h
   · omega
   · split at h<;>omega
 · rename_i ht;split at h
   · omega
   · rename_i hf2;split at h
     · omega
     · rename_i h3;refine⟨?_,by rw[if_neg ht,if_neg hf2,if_neg h3]⟩;unfold Ar;rw[if_neg (by unfold Ba;simp[h3])]
theorem Bv {an:List Ai} {a b:Int} (h:an.length≤300):(Ar an a b).length≤300:=by
 unfold Ar;split
 · rename_i hm;unfold Ba at hm;simp only[Bool.and_eq_true,decide_eq_true_eq] at hm;simp;omega
 · exact h
def Gw (fa:Int) (an:List Ai) (a b:Int):Int:=if AZ fa an (Af a) (Af b)<0 then -1 else Af (AZ fa an (Af a) (Af b))
def Cz (fa:Int) (an:List Ai) (a b:Int):Int×List Ai :=
 if AZ fa an a (Af b)<0 then (-1,Ar an a (Af b))
 else if AZ fa (Ar an a (Af b)) (Af a) b<0 then (-1,Ar (Ar an a (Af b)) (Af a) b)
 else (Gw fa (Ar (Ar an a (Af b)) (Af a) b) (AZ fa an a (Af b)) (AZ fa (Ar an a (Af b)) (Af a) b),
  Ar (Ar (Ar an a (Af b)) (Af a) b) (Af (AZ fa an a (Af b))) (Af (AZ fa (Ar an a (Af b)) (Af a) b)))
def G5 (fa:Int) (an:List Ai):Prop:=BU fa 0 an=true
theorem Vt {n:Int} {x:Ai}:DI n x=true↔(0≤x.1∧x.1<2*n)∧0≤x.2∧x.2<2*n:=by
 unfold DI;rw[Bool.and_eq_true,AP,AP];omega
theorem GL {fa:Int} {an:List Ai} {a b:Int} (h:G5 fa an) (ha:0≤a∧a<2*(fa+an.length)) (hb:0≤b∧b<2*(fa+an.length)):G5 fa (Ar an a b):=by
 unfold Ar;split
 · unfold G5 at h ⊢;have:=Gg (f:=fa) (xs:=an++[(Ie a b,Hb a b)]) (k:=an.length) (x:=(Ie a b,Hb a b)) (by simp);rw[O6 (by simp),List.take_left' rfl,h,Bool.true_and] at this;rw[this,Vt];exact qW (P:=fun x=>0≤x∧x<2*(fa+(an.length:Int))) ha hb
 · exact h
def B5 (x:AK) (fa skip inst:Int) (to0:List Int) (an0:List Ai):Nat→List Int×List Ai×Bool
 | 0=>(to0,an0,true)
 | i+1 =>
   if (B5 x fa skip inst to0 an0 i).2.2=false then B5 x fa skip inst to0 an0 i
   else if (i:Int)=skip then ((B5 x fa skip inst to0 an0 i).1++[inst],(B5 x fa skip inst to0 an0 i).2.1,true)
   else if AZ fa (B5 x fa skip inst to0 an0 i).2.1 (Aq (B5 x fa skip inst to0 an0 i).1 (Aj x (Aa x+i)).1) (Aq (B5 x fa skip inst to0 an0 i).1 (Aj x (Aa x+i)).2)<0 then ((B5 x fa skip inst to0 an0 i).1,(B5 x fa skip inst to0 an0 i).2.1,false)
   else ((B5 x fa skip inst to0 an0 i).1++[AZ fa (B5 x fa skip inst to0 an0 i).2.1 (Aq (B5 x fa skip inst to0 an0 i).1 (Aj x (Aa x+i)).1) (Aq (B5 x fa skip inst to0 an0 i).1 (Aj x (Aa x+i)).2)],
    Ar (B5 x fa skip inst to0 an0 i).2.1 (Aq (B5 x fa skip inst to0 an0 i).1 (Aj x (Aa x+i)).1) (Aq (B5 x fa skip inst to0 an0 i).1 (Aj x (Aa x+i)).2),true)
structure JS (fa:Int) (n:Nat) (s:List Int×List Ai×Bool):Prop where
 len:s.2.2=true→s.1.length=n
 le:s.1.length≤n
 pl:JY (fa+s.2.1.length) s.1
 an:s.2.1.length≤300
 ok:G5 fa s.2.1
theorem HM {n m:Int} {pl:List Int} (h:JY n pl) (hm:n≤m):JY m pl:=fun v hv=>⟨(h v hv).1,by have:=(h v hv).2;omega⟩
theorem Mc {x:AK} (hok:Al x=true) {fa skip inst:Int} {to0:List Int} {an0:List Ai} (hfa:0<fa∧fa≤100) (hi:0≤inst∧inst<2*fa) (h0:JS fa (Aa x) (to0,an0,true)) :
 ∀ i,i≤x.2.2.1.length→JS fa (Aa x+i) (B5 x fa skip inst to0 an0 i)∧an0.length≤(B5 x fa skip inst to0 an0 i).2.1.length
 | 0,_=>⟨h0,Nat.le_refl _⟩
 | i+1,hile=>by
   obtain⟨ih,ihl⟩:=Mc hok hfa hi h0 (skip:=skip) i (by omega);obtain⟨hF,hgl,hNi,hno⟩:=A9 hok;have hN:=Br x;obtain⟨-,a1,a2,a3,a4,a5,a6⟩:=C3 hok (v:=Aa x+i) (by omega) (by omega);unfold B5;generalize B5 x fa skip inst to0 an0 i=s at *;obtain⟨to,an,b⟩:=s;simp only at ih ihl ⊢;split
   · rename_i hb;subst hb;exact⟨⟨fun h=>by simp at h,by have:=ih.le;simp only at this ⊢;omega,ih.pl,ih.an,ih.ok⟩,ihl⟩
   · rename_i hb;obtain rfl:b=true:=by simpa using hb
     have hl:=ih.len rfl;have ha:=ih.an;simp only at hl ha;split
     · refine⟨⟨fun _=>by simp only[EM,List.length_cons,List.length_nil];omega,by simp only[EM,List.length_cons,List.length_nil];omega,fun v hv=>?_,ih.an,ih.ok⟩,ihl⟩;simp only at hv ⊢;rcases CO.1 hv with h|h
       · exact ih.pl v h
       · rw[Hz.1 h];omega
     · have r1:=Bp (l:=(Aj x (Aa x+i)).1) (BK ih.pl (by simp only;omega) ((Aj x (Aa x+i)).1 / 2)) (by simp only;omega);have r2:=Bp (l:=(Aj x (Aa x+i)).2) (BK ih.pl (by simp only;omega) ((Aj x (Aa x+i)).2 / 2)) (by simp only;omega);simp only at r1 r2;have h3:=BR (fa:=fa) (by omega) r1 r2;have h4:=GL ih.ok r1 r2;have h5:=A4 (an:=an) (a:=Aq to (Aj x (Aa x+i)).1) (b:=Aq to (Aj x (Aa x+i)).2);have h6:=Bv (a:=Aq to (Aj x (Aa x+i)).1) (b:=Aq to (Aj x (Aa x+i)).2) ha;simp only at h4;generalize Aq to (Aj x (Aa x+i)).1=a at *;generalize Aq to (Aj x (Aa x+i)).2=b at *;split
       · exact⟨⟨fun h=>by simp at h,by simp only;omega,ih.pl,ih.an,ih.ok⟩,ihl⟩
       · refine⟨⟨fun _=>by simp only[EM,List.length_cons,List.length_nil];omega,by simp only[EM,List.length_cons,List.length_nil];omega,fun v hv=>?_,h6,h4⟩,by simp only;omega⟩;simp only at hv ⊢;rcases CO.1 hv with h|h
         · have:=ih.pl v h;simp only at this;omega
         · rw[Hz.1 h];omega
def BD (n:Nat):List Int:=(List.range n).map fun k:Nat=>2*(k:Int)
theorem CV {n:Nat}:(BD n).length=n:=by simp[BD]
theorem LQ {n:Nat}:BD (n+1)=BD n++[2*(n:Int)]:=by simp[BD,List.range_succ]
theorem H9 {n:Nat} {m:Int} (h:(n:Int)≤m):JY m (BD n):=fun v hv=>by
 obtain⟨k,hk,rfl⟩:=CE.1 hv;have:=Gq.1 hk;omega
def Dk (x:AK) (an0:List Ai) (i:Nat):List Int×List Ai×Bool:=B5 x (Aa x) (-1) 0 (BD (Aa x)) an0 i
theorem Hu {x:AK} (hok:Al x=true) {an0:List Ai} (h1:an0.length≤300) (h2:G5 (Aa x) an0) {i:Nat} (hi:i≤x.2.2.1.length):JS (Aa x) (Aa x+i) (Dk x an0 i)∧an0.length≤(Dk x an0 i).2.1.length:=by
 obtain⟨⟨n1,n2,n3,n4,n5,n6⟩,-,-,-⟩:=AA hok;obtain⟨hF,hgl,hNi,hno⟩:=A9 hok;exact Mc hok (by omega) (by omega) ⟨fun _=>CV,Nat.le_of_eq CV,H9 (by simp only;omega),h1,h2⟩ i hi
theorem NB {x:AK} {an0:List Ai} {i:Nat} {to:List Int} {an:List Ai} (h:Dk x an0 i=(to,an,true)) :
 Dk x an0 (i+1)=if AZ (Aa x) an (Aq to (Aj x (Aa x+i)).1) (Aq to (Aj x (Aa x+i)).2)<0 then (to,an,false)
  else (to++[AZ (Aa x) an (Aq to (Aj x (Aa x+i)).1) (Aq to (Aj x (Aa x+i)).2)],Ar an (Aq to (Aj x (Aa x+i)).1) (Aq to (Aj x (Aa x+i)).2),true):=by
 unfold Dk at h ⊢;rw[B5,h];simp only[Bool.true_eq_false,if_false];rw[if_neg (by omega)]
theorem DA {x:AK} {an0:List Ai} {i:Nat} (h:(Dk x an0 i).2.2=false):∀ d,(Dk x an0 (i+d)).2.2=false
 | 0=>h
 | d+1=>by
   have ih:=DA h d;unfold Dk at ih ⊢;rw[←Nat.add_assoc,B5,if_pos ih];exact ih
def Bf (fa:Int) (ra rb:List Int) (an0:List Ai):Nat→Int×List Ai×Bool
 | 0=>(0,an0,true)
 | i+1 =>
   if (Bf fa ra rb an0 i).2.2=false then Bf fa ra rb an0 i
   else if (Cz fa (Bf fa ra rb an0 i).2.1 (ra.getD i 0) (rb.getD i 0)).1<0 then (0,[],false)
   else if Gw fa (Cz fa (Bf fa ra rb an0 i).2.1 (ra.getD i 0) (rb.getD i 0)).2 (Bf fa ra rb an0 i).1 (Cz fa (Bf fa ra rb an0 i).2.1 (ra.getD i 0) (rb.getD i 0)).1<0 then (0,[],false)
   else (Gw fa (Cz fa (Bf fa ra rb an0 i).2.1 (ra.getD i 0) (rb.getD i 0)).2 (Bf fa ra rb an0 i).1 (Cz fa (Bf fa ra rb an0 i).2.1 (ra.getD i 0) (rb.getD i 0)).1,
    Ar (Cz fa (Bf fa ra rb an0 i).2.1 (ra.getD i 0) (rb.getD i 0)).2 (Af (Bf fa ra rb an0 i).1) (Af (Cz fa (Bf fa ra rb an0 i).2.1 (ra.getD i 0) (rb.getD i 0)).1),true)
theorem FL {fa:Int} {ra rb:List Int} {an0:List Ai} {i:Nat} {s:Int} {an:List Ai} (h:Bf fa ra rb an0 i=(s,an,true)) :
 Bf fa ra rb an0 (i+1)=if (Cz fa an (ra.getD i 0) (rb.getD i 0)).1<0 then (0,[],false)
  else if Gw fa (Cz fa an (ra.getD i 0) (rb.getD i 0)).2 s (Cz fa an (ra.getD i 0) (rb.getD i 0)).1<0 then (0,[],false)
  else (Gw fa (Cz fa an (ra.getD i 0) (rb.getD i 0)).2 s (Cz fa an (ra.getD i 0) (rb.getD i 0)).1,Ar (Cz fa an (ra.getD i 0) (rb.getD i 0)).2 (Af s) (Af (Cz fa an (ra.getD i 0) (rb.getD i 0)).1),true):=by
 rw[Bf,h];simp only[Bool.true_eq_false,if_false]
theorem Bs {fa:Int} {ra rb:List Int} {an0:List Ai} {i:Nat} (h:(Bf fa ra rb an0 i).2.2=false):∀ d,(Bf fa ra rb an0 (i+d)).2.2=false
 | 0=>h
 | d+1=>by
   have ih:=Bs h d;rw[←Nat.add_assoc,Bf,if_pos ih];exact ih
def G3 (a b:AK):Bool:=Al a&&Al b&&decide (a.1=b.1)&&decide (a.2.1.length=b.2.1.length)&&decide (a.2.2.2.length=b.2.2.2.length)&&decide (a.1+(a.2.1.length:Int)≤20)&&(a.2.1.zip b.2.1).all fun p=>decide (p.1.1=p.2.1)
def Cq (a:AK):List Int×List Ai×Bool:=Dk a [] a.2.2.1.length
def Cw (a b:AK):List Int×List Ai×Bool:=Dk b (Cq a).2.1 b.2.2.1.length
def Bo (x:AK) (to:List Int):List Int:=(Ay x).map (Aq to)
def DN (a b:AK):Int×List Ai×Bool:=Bf (Aa a) (Bo a (Cq a).1) (Bo b (Cw a b).1) (Cw a b).2.1 (Ay a).length
def Ek (a b:AK):Bool:=G3 a b&&(Cq a).2.2&&(Cw a b).2.2&&(DN a b).2.2
def Fx (a b:AK):AK:=if Ek a b=true then (a.1+(a.2.1.length:Int),[],(DN a b).2.1,[(DN a b).1]) else (0,[],[],[])
theorem Hy {a b:AK} (h:G3 a b=true):Al a=true∧Al b=true∧a.1=b.1∧a.2.1.length=b.2.1.length∧a.2.2.2.length=b.2.2.2.length∧a.1+(a.2.1.length:Int)≤20∧Aa b=Aa a∧(Ay b).length=(Ay a).length:=by
 unfold G3 at h;simp only[Bool.and_eq_true,decide_eq_true_eq] at h;obtain⟨⟨⟨⟨⟨⟨h1,h2⟩,h3⟩,h4⟩,h5⟩,h6⟩,h7⟩:=h;refine⟨h1,h2,h3,h4,h5,h6,by unfold Aa;omega,?_⟩;obtain⟨-,oa,-,-⟩:=AA h1;obtain⟨-,ob,-,-⟩:=AA h2
 have key:∀ (xs ys:List Cx),xs.length=ys.length→(∀ s∈xs,Bx s=true)→(∀ s∈ys,Bx s=true)→((xs.zip ys).all fun p=>decide (p.1.1=p.2.1))=true→((xs.map (·.2.2)).flatten).length=((ys.map (·.2.2)).flatten).length:=by
  intro xs
  induction xs with
  | nil=>intro ys hl _ _ _;cases ys with|nil=>rfl|cons=>simp at hl
  | cons x xs ih =>
    intro ys hl hx hy hz
    cases ys with
    | nil=>simp at hl
    | cons y ys =>
      simp only[List.zip_cons_cons,List.all_cons,Bool.and_eq_true,decide_eq_true_eq] at hz;have e:=ih ys (by simpa using hl) (fun s hs=>hx s (by simp[hs])) (fun s hs=>hy s (by simp[hs])) hz.2;have q1:=hx x (by simp);have q2:=hy y (by simp)
      have e2:x.2.2.length=y.2.2.length:=by
       unfold Bx at q1 q2;have hk:=hz.1
       revert q1 q2
       rw[hk];split
       · simp;omega
       · split
         · simp;omega
         · simp
      simp only[List.map_cons,List.flatten_cons,EM,e,e2]
 have:=key _ _ h4 oa ob h7;unfold Ay;simp only[EM];omega
theorem Hw {fa:Int} {an:List Ai} {a b:Int} (hf:0≤fa) (ha:0≤a∧a<2*(fa+an.length)) (hb:0≤b∧b<2*(fa+an.length)):-1≤Gw fa an a b∧Gw fa an a b<2*(fa+(Ar an (Af a) (Af b)).length):=by
 have fA:=Bd ha.1;have fB:=Bd hb.1;have h:=BR (fa:=fa) (an:=an) (a:=Af a) (b:=Af b) hf (by omega) (by omega);have hl:=A4 (an:=an) (a:=Af a) (b:=Af b);unfold Gw;split
 · omega
 · have:=Bd (v:=AZ fa an (Af a) (Af b)) (by omega);omega
theorem HO {fa:Int} {an:List Ai} {a b:Int} (hf:0≤fa) (h300:an.length≤300) (ha:0≤a∧a<2*(fa+an.length)) (hb:0≤b∧b<2*(fa+an.length)) :
 -1≤(Cz fa an a b).1∧(Cz fa an a b).1<2*(fa+(Cz fa an a b).2.length)∧an.length≤(Cz fa an a b).2.length∧(Cz fa an a b).2.length≤300:=by
 have fA:=Bd ha.1;have fB:=Bd hb.1;have l1:=A4 (an:=an) (a:=a) (b:=Af b);have n1:=Bv (a:=a) (b:=Af b) h300;have r1:=BR (fa:=fa) (an:=an) (a:=a) (b:=Af b) hf (by omega) (by omega);unfold Cz;generalize AZ fa an a (Af b)=p at *;generalize Ar an a (Af b)=an1 at *;split
 · exact⟨by simp,by simp only;omega,by simp only;omega,n1⟩
 · have l2:=A4 (an:=an1) (a:=Af a) (b:=b);have n2:=Bv (a:=Af a) (b:=b) n1;have r2:=BR (fa:=fa) (an:=an1) (a:=Af a) (b:=b) hf (by omega) (by omega);generalize AZ fa an1 (Af a) b=q at *;generalize Ar an1 (Af a) b=an2 at *;split
   · exact⟨by simp,by simp only;omega,by simp only;omega,n2⟩
   · have l3:=A4 (an:=an2) (a:=Af p) (b:=Af q);have n3:=Bv (a:=Af p) (b:=Af q) n2;have r3:=Hw (fa:=fa) (an:=an2) (a:=p) (b:=q) hf (by omega) (by omega);exact⟨r3.1,r3.2,by simp only;omega,n3⟩
theorem Fd {fa:Int} {ra rb:List Int} {an0:List Ai} (hf:0<fa) (h300:an0.length≤300) (hA:∀ k∈ra,0≤k∧k<2*(fa+(an0.length:Int))) (hB:∀ k∈rb,0≤k∧k<2*(fa+(an0.length:Int))) {n:Nat} (hn:n≤ra.length) (hm:n≤rb.length) :
 ∀ i,i≤n→(Bf fa ra rb an0 i).2.2=true→(0≤(Bf fa ra rb an0 i).1∧(Bf fa ra rb an0 i).1<2*(fa+(Bf fa ra rb an0 i).2.1.length))∧an0.length≤(Bf fa ra rb an0 i).2.1.length∧(Bf fa ra rb an0 i).2.1.length≤300
 | 0,_,_=>⟨⟨by simp[Bf],by simp[Bf];omega⟩,Nat.le_refl _,h300⟩
 | i+1,hi,h=>by
   have ih:=Fd hf h300 hA hB hn hm i (by omega);obtain⟨⟨s,an,b⟩,hst⟩:∃ q,Bf fa ra rb an0 i=q:=⟨_,rfl⟩
   cases b with
   | false =>
     have:=Bs (show (Bf fa ra rb an0 i).2.2=false by rw[hst]) 1;rw[this] at h;cases h
   | true =>
     rw[hst] at ih;obtain⟨g1,g2,g3⟩:=ih rfl;simp only at g1 g2 g3;have hx1:ra.getD i 0∈ra:=by rw[List.getD_eq_getElem?_getD,A1 (by omega)];exact Dv _
     have hx2:rb.getD i 0∈rb:=by rw[List.getD_eq_getElem?_getD,A1 (by omega)];exact Dv _
     have b1:=hA _ hx1;have b2:=hB _ hx2;rw[FL hst] at h ⊢;have xr:=HO (fa:=fa) (an:=an) (a:=ra.getD i 0) (b:=rb.getD i 0) (by omega) g3 (by omega) (by omega);generalize Cz fa an (ra.getD i 0) (rb.getD i 0)=X at *;obtain⟨x1,x2,x3,x4⟩:=xr;split at h
     · simp at h
     · rename_i hx;rw[if_neg hx];have ho:=Hw (fa:=fa) (an:=X.2) (a:=s) (b:=X.1) (by omega) (by omega) (by omega);have l3:=A4 (an:=X.2) (a:=Af s) (b:=Af X.1);have n3:=Bv (a:=Af s) (b:=Af X.1) x4;split at h
       · simp at h
       · rename_i hy;rw[if_neg hy];exact⟨⟨by simp only;omega,ho.2⟩,by simp only;omega,n3⟩
theorem TJ {s:Cx} (h:Bx s=true):J0 s.1∧J0 s.2.1∧s.2.2.length≤4:=by
 have hl:=DP h;unfold Bx at h;unfold J0;split at h
 · rename_i h1;simp only[Bool.and_eq_true] at h;have:=AP.1 h.1;exact⟨by omega,by omega,hl⟩
 · split at h
   · rename_i h1;simp only[Bool.and_eq_true] at h;have:=AP.1 h.1;exact⟨by omega,by omega,hl⟩
   · cases h
theorem CT {x:AK} (hok:Al x=true):Kz x:=by
 obtain⟨⟨n1,n2,n3,n4,n5,n6⟩,o1,o2,o3⟩:=AA hok;obtain⟨hF,hgl,hNi,hno⟩:=A9 hok;have hN:=Br x;refine⟨fun y hy=>?_,fun s hs=>⟨(TJ (o1 s hs)).1,(TJ (o1 s hs)).2.1,fun y hy=>?_⟩,fun a ha=>?_,by unfold J0;omega⟩
 · have:=o2 y (aV hy);unfold J0;omega
 · have:=o2 y (List.mem_append_right _ (List.mem_flatten.2 ⟨_,CE.2 ⟨s,hs,rfl⟩,hy⟩));unfold J0;omega
 · obtain⟨i,hi,rfl⟩:=List.mem_iff_getElem.1 ha;obtain⟨e,a1,a2,a3,a4,a5,a6⟩:=C3 hok (v:=Aa x+i) (by omega) (by omega);rw[Nat.add_sub_cancel_left,A1 hi] at e;rw[Da e];unfold J0;omega
theorem B3 {x:AK} (hok:Al x=true):CF 1048576 x:=by
 obtain⟨⟨n1,n2,n3,n4,n5,n6⟩,o1,o2,o3⟩:=AA hok;exact⟨by omega,fun s hs=>by have:=DP (o1 s hs);omega,by omega,by omega⟩
def Ap (x:AK) (an:List Ai):AK:=(x.1,x.2.1,an,x.2.2.2)
theorem QQ {x:AK} (hok:Al x=true):G5 (Aa x) x.2.2.1:=by
 obtain⟨hF,hgl,hNi,hno⟩:=A9 hok;unfold Al at hok;simp only[Bool.and_eq_true] at hok;unfold G5;rw[hF];exact hok.2
theorem CY {x:AK} (hok:Al x=true) {an:List Ai} (hl:x.2.2.1.length≤an.length) (h3:an.length≤300) (ha:G5 (Aa x) an):Al (Ap x an)=true:=by
 obtain⟨⟨n1,n2,n3,n4,n5,n6⟩,o1,o2,o3⟩:=AA hok;obtain⟨hF,hgl,hNi,hno⟩:=A9 hok;have hN:=Br x
 have hn:Bz (Ap x an)=1+x.1+x.2.1.length+an.length:=by
  unfold Bz Ap;rw[if_pos ⟨AP.2 ⟨n1,n2⟩,n3,h3,n5⟩]
 have hr:Ay (Ap x an)=Ay x:=rfl;unfold Al;rw[hn,hr];simp only[Bool.and_eq_true,decide_eq_true_eq];refine⟨⟨⟨by omega,?_⟩,?_⟩,?_⟩
 · rw[GA];exact o1
 · unfold JE;rw[GA];intro y hy;have:=o2 y hy;exact AP.2 (by omega)
 · show BU (1+x.1+(x.2.1.length:Int)) 0 an=true;rw[←hF];exact ha
theorem XN {x:AK} (hok:Al x=true) {a b:Int} (ha:0≤a∧a<2*(A0 x:Int)) (hb:0≤b∧b<2*(A0 x:Int)):Al (Ap x (Ar x.2.2.1 a b))=true:=by
 obtain⟨⟨n1,n2,n3,n4,n5,n6⟩,o1,o2,o3⟩:=AA hok;have hN:=Br x;exact CY hok A4.1 (Bv n4) (GL (QQ hok) (by omega) (by omega))
def Dj (x:AK) (a b:Int):AK×Int :=
 if DX a 0 (2*(A0 x:Int) - 1)=true∧DX b 0 (2*(A0 x:Int) - 1)=true then (Ap x (Ar x.2.2.1 a b),AZ (Aa x) x.2.2.1 a b) else (x,-1)
def Dd (v:Int):Int:=if v<0 then -2 else Af v
def J9 (x:AK) (a b:Int):AK×Int:=if (Dj x (Dd a) (Dd b)).2<0 then (x,-1) else ((Dj x (Dd a) (Dd b)).1,Af (Dj x (Dd a) (Dd b)).2)
def JH (x m:AK) (p q:Int):AK×Int:=if (J9 m p q).2<0 then (x,-1) else J9 m p q
def OL (x:AK) (a b:Int):AK×Int:=JH x (Dj (Dj x a (Dd b)).1 (Dd a) b).1 (Dj x a (Dd b)).2 (Dj (Dj x a (Dd b)).1 (Dd a) b).2
theorem Gu {x:AK} {a b:Int} (ha:0≤a∧a<2*(A0 x:Int)) (hb:0≤b∧b<2*(A0 x:Int)):Dj x a b=(Ap x (Ar x.2.2.1 a b),AZ (Aa x) x.2.2.1 a b):=by
 unfold Dj;rw[if_pos ⟨AP.2 (by omega),AP.2 (by omega)⟩]
theorem aF {x:AK} {a b:Int} (h:a<0∨b<0):Dj x a b=(x,-1):=by
 unfold Dj;rw[if_neg (fun h2=>by have h3:=AP.1 h2.1;have h4:=AP.1 h2.2;omega)]
theorem PB {x:AK} {a b:Int} (ha:0≤a∧a<2*(A0 x:Int)) (hb:0≤b∧b<2*(A0 x:Int)) :
 J9 x a b=if Gw (Aa x) x.2.2.1 a b<0 then (x,-1) else (Ap x (Ar x.2.2.1 (Af a) (Af b)),Gw (Aa x) x.2.2.1 a b):=by
 have fA:=Bd ha.1;have fB:=Bd hb.1;unfold J9 Dd;rw[if_neg (show ¬ a<0 by omega),if_neg (show ¬ b<0 by omega),Gu (by omega) (by omega)];unfold Gw;simp only;by_cases h:AZ (Aa x) x.2.2.1 (Af a) (Af b)<0
 · rw[if_pos h,if_pos h,if_pos (by omega)]
 · have hp:=Bd (v:=AZ (Aa x) x.2.2.1 (Af a) (Af b)) (by omega);rw[if_neg h,if_neg h,if_neg (by omega)]
theorem Rl {x:AK} {a b:Int} (h:a<0∨b<0):J9 x a b=(x,-1):=by
 unfold J9;rw[aF (by unfold Dd;rcases h with h|h<;>simp[h])];simp
theorem Ct {x:AK} {an:List Ai}:A0 (Ap x an)=Aa x+an.length:=rfl
theorem U5 {x:AK} {a b:Int} (h3:x.2.2.1.length≤300) (ha:0≤a∧a<2*(A0 x:Int)) (hb:0≤b∧b<2*(A0 x:Int)) :
 OL x a b=if (Cz (Aa x) x.2.2.1 a b).1<0 then (x,-1) else (Ap x (Cz (Aa x) x.2.2.1 a b).2,(Cz (Aa x) x.2.2.1 a b).1):=by
 have hN:=Br x;have fA:=Bd ha.1;have fB:=Bd hb.1;have l1:=A4 (an:=x.2.2.1) (a:=a) (b:=Af b);have n1:=Bv (a:=a) (b:=Af b) h3;have r1:=BR (fa:=Aa x) (an:=x.2.2.1) (a:=a) (b:=Af b) (by omega) (by omega) (by omega);have g1:=MX (fa:=Aa x) (an:=x.2.2.1) (a:=a) (b:=Af b) (by omega) (by omega) (by omega);have nA:Dd a=Af a:=by unfold Dd;rw[if_neg (by omega)]
 have nB:Dd b=Af b:=by unfold Dd;rw[if_neg (by omega)]
 unfold OL JH;rw[nA,nB,Gu (x:=x) (a:=a) (b:=Af b) (by omega) (by omega)];unfold Cz;generalize AZ (Aa x) x.2.2.1 a (Af b)=p at *;generalize Ar x.2.2.1 a (Af b)=an1 at *;simp only;rw[Gu (x:=Ap x an1) (by rw[Ct];omega) (by rw[Ct];omega)];simp only;have ew:∀ an2:List Ai,Ap (Ap x an1) an2=Ap x an2:=fun _=>rfl;have ef:Aa (Ap x an1)=Aa x:=rfl;have ea:(Ap x an1).2.2.1=an1:=rfl;rw[ew,ef,ea];have l2:=A4 (an:=an1) (a:=Af a) (b:=b);have n2:=Bv (a:=Af a) (b:=b) n1;have r2:=BR (fa:=Aa x) (an:=an1) (a:=Af a) (b:=b) (by omega) (by omega) (by omega);generalize AZ (Aa x) an1 (Af a) b=q at *;generalize Ar an1 (Af a) b=an2 at *;by_cases hp:p<0
 · rw[if_pos hp,Rl (.inl hp)];rfl
 rw[if_neg hp];by_cases hq:q<0
 · rw[if_pos hq,Rl (.inr hq)]
 rw[if_neg hq,PB (x:=Ap x an2) (by rw[Ct];omega) (by rw[Ct];omega)];have ef2:Aa (Ap x an2)=Aa x:=rfl;have ea2:(Ap x an2).2.2.1=an2:=rfl;have ew2:∀ an3:List Ai,Ap (Ap x an2) an3=Ap x an3:=fun _=>rfl;rw[ef2,ea2,ew2];simp only;split
 · simp
 · rename_i h;simp only[h,if_false]
end Go.Proofs.YtnjedabjbeipeaaGreat
