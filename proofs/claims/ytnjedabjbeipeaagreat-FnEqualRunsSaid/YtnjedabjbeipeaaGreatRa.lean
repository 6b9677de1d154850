/-
  What can be observed in a net: what its outputs reach through AND nodes and sequential elements; by a search with a list of what is left to do, and by rounds of marks. Plain lemmas, about no function of the program.
  Conditions: those typed in each theorem.
-/
import Derived.Test.YtnjedabjbeipeaaGreatNo
namespace Go.Proofs.YtnjedabjbeipeaaGreat
set_option linter.unusedSimpArgs false
set_option linter.unusedVariables false
set_option maxRecDepth 100000
set_option maxHeartbeats 10000000
def VL (l:Int):Nat:=l.toNat / 2
def oD (x:AK) (i:Nat):Cr:=(x.2.1[i]?).getD (0,0,[])
def eI (x:AK):Nat:=1+x.1.toNat
def vX (x:AK) (v:Nat):List Nat:=if Aa x≤v then [CF x v,CP x v] else if eI x≤v then (oD x (v - eI x)).2.2.map VL else []
inductive Obs (x:AK):Nat→Prop
 | out {l:Int} (h:l∈x.2.2.2):Obs x (VL l)
 | kid {v u:Nat} (hv:Obs x v) (hu:u∈vX x v):Obs x u
theorem OI {x:AK} (hok:Al x=true) {l:Int} (h:l∈Ay x):0≤l∧VL l<A0 x:=by
 obtain⟨-,-,o2,-⟩:=AA hok;have:=o2 l h;unfold VL;omega
theorem cP {x:AK} {l:Int} (h:l∈x.2.2.2):l∈Ay x:=List.mem_append_left _ h
def ABO (s:List Bool):Nat:=s.count false
structure AB3 (x:AK) (s:List Bool×List Nat):Prop where
 len:s.1.length=A0 x
 obs:∀ u,AX s.1 u=true→Obs x u
 lt:∀ u∈s.2,u<A0 x
 seen:∀ u∈s.2,AX s.1 u=true
 small:2*ABO s.1+s.2.length≤2*A0 x
theorem YN {s:List Bool} {u:Nat} (h:AX s u=true):u<s.length:=by
 unfold AX at h
 cases e:s[u]? with
 | none=>rw[e] at h;cases h
 | some b=>exact (zz1.1 e).1
theorem XM {x:AK} {m:List Bool}:(H9 x m).length=m.length:=Ks _
def HN (a b:Int):Int:=if b<a then b else a
def GD (a b:Int):Int:=if a<b then b else a
def En (a b:Int):Bool:=decide (a=0)||decide (b=0)||decide (Bl a 1=b)||decide (a=1)||decide (a=b)||decide (b=1)
def E9 (a b:Int):Int:=if a=0∨b=0∨Bl a 1=b then 0 else if a=1∨a=b then b else a
def Ey (an:List Ai) (x:Ai):Nat:=an.findIdx fun y=>decide (y=x)
def AZ (fa:Int) (an:List Ai) (a b:Int):Int :=
 if En a b=true then E9 a b else if Ey an (HN a b,GD a b)<an.length then 2*(fa+Ey an (HN a b,GD a b)) else if an.length<300 then 2*(fa+an.length) else -1
def A8 (an:List Ai) (a b:Int):Bool:=!En a b&&decide (¬ Ey an (HN a b,GD a b)<an.length)&&decide (an.length<300)
def Ar (an:List Ai) (a b:Int):List Ai:=if A8 an a b=true then an++[(HN a b,GD a b)] else an
theorem Xg {an:List Ai} {x:Ai} {i:Nat} (h:an[i]? = some x) (hpre:∀ j:Nat,j<i→an[j]?≠some x):Ey an x=i:=by
 obtain⟨hi,e⟩:=zz1.1 h;unfold Ey;rw[List.findIdx_eq hi];refine⟨by simpa using e,fun j hj=>?_⟩;have:=hpre j hj;rw[zz0 (by omega)] at this;simpa using this
theorem QW {an:List Ai} {x:Ai} (hpre:∀ j:Nat,j<an.length→an[j]?≠some x):Ey an x=an.length:=by
 unfold Ey;rw[List.findIdx_eq_length];intro y hy;obtain⟨j,hj,rfl⟩:=List.mem_iff_getElem.1 hy;have:=hpre j hj;rw[zz0 hj] at this;simpa using this
theorem A3 {an:List Ai} {a b:Int}:an.length≤(Ar an a b).length∧(Ar an a b).length≤an.length+1:=by
 unfold Ar;split<;>simp
def Aq (pl:List Int) (l:Int):Int:=Bl (A1 pl (l / 2)) (l % 2)
theorem Bb {v:Int} (h:0≤v):Af v / 2=v / 2∧0≤Af v:=by unfold Af;split<;>omega
theorem R0 {v:Int} (h:0≤v):Af (Af v)=v:=by unfold Af;split<;>split<;>omega
theorem Y5 {pl:List Int} {l:Int} (h0:0≤A1 pl (l / 2)) (h1:A1 pl (l / 2)≤1048576):Aq pl l=if l % 2=0 then A1 pl (l / 2) else Af (A1 pl (l / 2)):=by
 unfold Aq;split
 · rename_i h;rw[h,PR h0 (by omega)]
 · rename_i h;rw[show l % 2=1 by omega,Bo h0 (by omega)]
theorem Bn {pl:List Int} {l:Int} {n:Int} (h:0≤A1 pl (l / 2)∧A1 pl (l / 2)<2*n) (hn:n≤1000):0≤Aq pl l∧Aq pl l<2*n:=by
 rw[Y5 h.1 (by omega)];split
 · exact h
 · have:=Bb h.1;omega
def iL (n:Nat) (ls:List Int):Prop:=∀ l∈ls,0≤l∧l<2*(n:Int)
def Jw (n:Int) (pl:List Int):Prop:=∀ v∈pl,0≤v∧v<2*n
theorem BH {n:Int} {pl:List Int} (h:Jw n pl) (hn:0<n) (k:Int):0≤A1 pl k∧A1 pl k<2*n:=by
 unfold A1
 cases e:pl[k.toNat]? with
 | none=>simp only[Option.getD_none];omega
 | some v=>simpa using h v (zz6 e)
theorem Lg {pl qs:List Int} {k:Int} (h0:0≤k) (h:k<pl.length):A1 (pl++qs) k=A1 pl k:=by
 unfold A1;rw[zz4 (by omega)]
theorem WE {pl qs:List Int} {l:Int} (h:0≤l∧l<2*(pl.length:Int)):Aq (pl++qs) l=Aq pl l:=by
 unfold Aq;rw[Lg (by omega) (by omega)]
theorem SZ {a b n:Int} (ha:0≤a∧a<2*n) (hb:0≤b∧b<2*n):0≤E9 a b∧E9 a b<2*n:=by
 unfold E9;split<;>(try split)<;>omega
theorem oI {a b:Int} {P:Int→Prop} (ha:P a) (hb:P b):P (HN a b)∧P (GD a b):=by
 unfold HN GD;constructor<;>split<;>assumption
theorem BL {fa:Int} {an:List Ai} {a b:Int} (hf:0≤fa) (ha:0≤a∧a<2*(fa+an.length)) (hb:0≤b∧b<2*(fa+an.length)):-1≤AZ fa an a b∧AZ fa an a b<2*(fa+(Ar an a b).length):=by
 have hl:=A3 (an:=an) (a:=a) (b:=b);unfold AZ;split
 · have:=SZ ha hb;omega
 · rename_i ht;split
   · omega
   · rename_i hf2;split
     · rename_i h3;have:A8 an a b=true:=by unfold A8;simp[ht,hf2,h3]
       unfold Ar;rw[if_pos this];simp;omega
     · omega
theorem Mf {fa:Int} {an:List Ai} {a b:Int} (hf:0≤fa) (ha:0≤a) (hb:0≤b):(AZ fa an a b<0→Ar an a b=an∧AZ fa an a b=-1):=by
 intro h;unfold AZ at h ⊢;split at h
 · rename_i ht;exfalso;unfold E9 at h;split at h
   · omega
   · split at h<;>omega
 · rename_i ht;split at h
   · omega
   · rename_i hf2;split at h
     · omega
     · rename_i h3;refine⟨?_,by rw[if_neg ht,if_neg hf2,if_neg h3]⟩;unfold Ar;rw[if_neg (by unfold A8;simp[h3])]
theorem Bu {an:List Ai} {a b:Int} (h:an.length≤300):(Ar an a b).length≤300:=by
 unfold Ar;split
 · rename_i hm;unfold A8 at hm;simp only[Bool.and_eq_true,decide_eq_true_eq] at hm;simp;omega
 · exact h
def F7 (fa:Int) (an:List Ai) (a b:Int):Int:=if AZ fa an (Af a) (Af b)<0 then -1 else Af (AZ fa an (Af a) (Af b))
def Cv (fa:Int) (an:List Ai) (a b:Int):Int×List Ai :=
 if AZ fa an a (Af b)<0 then (-1,Ar an a (Af b))
 else if AZ fa (Ar an a (Af b)) (Af a) b<0 then (-1,Ar (Ar an a (Af b)) (Af a) b)
 else (F7 fa (Ar (Ar an a (Af b)) (Af a) b) (AZ fa an a (Af b)) (AZ fa (Ar an a (Af b)) (Af a) b),
  Ar (Ar (Ar an a (Af b)) (Af a) b) (Af (AZ fa an a (Af b))) (Af (AZ fa (Ar an a (Af b)) (Af a) b)))
def GR (fa:Int) (an:List Ai):Prop:=BR fa 0 an=true
theorem VT {n:Int} {x:Ai}:Dv n x=true↔(0≤x.1∧x.1<2*n)∧0≤x.2∧x.2<2*n:=by
 unfold Dv;rw[Bool.and_eq_true,AP,AP];omega
theorem Gp {fa:Int} {an:List Ai} {a b:Int} (h:GR fa an) (ha:0≤a∧a<2*(fa+an.length)) (hb:0≤b∧b<2*(fa+an.length)):GR fa (Ar an a b):=by
 unfold Ar;split
 · unfold GR at h ⊢;have:=F0 (f:=fa) (xs:=an++[(HN a b,GD a b)]) (k:=an.length) (x:=(HN a b,GD a b)) (by simp);rw[AB8 (by simp),List.take_left' rfl,h,Bool.true_and] at this;rw[this,VT];exact oI (P:=fun x=>0≤x∧x<2*(fa+(an.length:Int))) ha hb
 · exact h
def B0 (x:AK) (fa skip inst:Int) (to0:List Int) (an0:List Ai):Nat→List Int×List Ai×Bool
 | 0=>(to0,an0,true)
 | i+1 =>
   if (B0 x fa skip inst to0 an0 i).2.2=false then B0 x fa skip inst to0 an0 i
   else if (i:Int)=skip then ((B0 x fa skip inst to0 an0 i).1++[inst],(B0 x fa skip inst to0 an0 i).2.1,true)
   else if AZ fa (B0 x fa skip inst to0 an0 i).2.1 (Aq (B0 x fa skip inst to0 an0 i).1 (Aj x (Aa x+i)).1) (Aq (B0 x fa skip inst to0 an0 i).1 (Aj x (Aa x+i)).2)<0 then ((B0 x fa skip inst to0 an0 i).1,(B0 x fa skip inst to0 an0 i).2.1,false)
   else ((B0 x fa skip inst to0 an0 i).1++[AZ fa (B0 x fa skip inst to0 an0 i).2.1 (Aq (B0 x fa skip inst to0 an0 i).1 (Aj x (Aa x+i)).1) (Aq (B0 x fa skip inst to0 an0 i).1 (Aj x (Aa x+i)).2)],
    Ar (B0 x fa skip inst to0 an0 i).2.1 (Aq (B0 x fa skip inst to0 an0 i).1 (Aj x (Aa x+i)).1) (Aq (B0 x fa skip inst to0 an0 i).1 (Aj x (Aa x+i)).2),true)
structure Jr (fa:Int) (n:Nat) (s:List Int×List Ai×Bool):Prop where
 len:s.2.2=true→s.1.length=n
 le:s.1.length≤n
 pl:Jw (fa+s.2.1.length) s.1
 an:s.2.1.length≤300
 ok:GR fa s.2.1
theorem Hi {n m:Int} {pl:List Int} (h:Jw n pl) (hm:n≤m):Jw m pl:=fun v hv=>⟨(h v hv).1,by have:=(h v hv).2;omega⟩
theorem LK {x:AK} (hok:Al x=true) {fa skip inst:Int} {to0:List Int} {an0:List Ai} (hfa:0<fa∧fa≤100) (hi:0≤inst∧inst<2*fa) (h0:Jr fa (Aa x) (to0,an0,true)) :
 ∀ i,i≤x.2.2.1.length→Jr fa (Aa x+i) (B0 x fa skip inst to0 an0 i)∧an0.length≤(B0 x fa skip inst to0 an0 i).2.1.length
 | 0,_=>⟨h0,Nat.le_refl _⟩
 | i+1,hile=>by
   obtain⟨ih,ihl⟩:=LK hok hfa hi h0 (skip:=skip) i (by omega);obtain⟨hF,hgl,hNi,hno⟩:=A7 hok;have hN:=Bp x;obtain⟨-,a1,a2,a3,a4,a5,a6⟩:=CW hok (v:=Aa x+i) (by omega) (by omega);unfold B0;generalize B0 x fa skip inst to0 an0 i=s at *;obtain⟨to,an,b⟩:=s;simp only at ih ihl ⊢;split
   · rename_i hb;subst hb;exact⟨⟨fun h=>by simp at h,by have:=ih.le;simp only at this ⊢;omega,ih.pl,ih.an,ih.ok⟩,ihl⟩
   · rename_i hb;obtain rfl:b=true:=by simpa using hb
     have hl:=ih.len rfl;have ha:=ih.an;simp only at hl ha;split
     · refine⟨⟨fun _=>by simp only[AB0,List.length_cons,List.length_nil];omega,by simp only[AB0,List.length_cons,List.length_nil];omega,fun v hv=>?_,ih.an,ih.ok⟩,ihl⟩;simp only at hv ⊢;rcases ACB.1 hv with h|h
       · exact ih.pl v h
       · rw[zz9.1 h];omega
     · have r1:=Bn (l:=(Aj x (Aa x+i)).1) (BH ih.pl (by simp only;omega) ((Aj x (Aa x+i)).1 / 2)) (by simp only;omega);have r2:=Bn (l:=(Aj x (Aa x+i)).2) (BH ih.pl (by simp only;omega) ((Aj x (Aa x+i)).2 / 2)) (by simp only;omega);simp only at r1 r2;have h3:=BL (fa:=fa) (by omega) r1 r2;have h4:=Gp ih.ok r1 r2;have h5:=A3 (an:=an) (a:=Aq to (Aj x (Aa x+i)).1) (b:=Aq to (Aj x (Aa x+i)).2);have h6:=Bu (a:=Aq to (Aj x (Aa x+i)).1) (b:=Aq to (Aj x (Aa x+i)).2) ha;simp only at h4;generalize Aq to (Aj x (Aa x+i)).1=a at *;generalize Aq to (Aj x (Aa x+i)).2=b at *;split
       · exact⟨⟨fun h=>by simp at h,by simp only;omega,ih.pl,ih.an,ih.ok⟩,ihl⟩
       · refine⟨⟨fun _=>by simp only[AB0,List.length_cons,List.length_nil];omega,by simp only[AB0,List.length_cons,List.length_nil];omega,fun v hv=>?_,h6,h4⟩,by simp only;omega⟩;simp only at hv ⊢;rcases ACB.1 hv with h|h
         · have:=ih.pl v h;simp only at this;omega
         · rw[zz9.1 h];omega
def BB (n:Nat):List Int:=(List.range n).map fun k:Nat=>2*(k:Int)
theorem CO {n:Nat}:(BB n).length=n:=by simp[BB]
theorem Lq {n:Nat}:BB (n+1)=BB n++[2*(n:Int)]:=by simp[BB,List.range_succ]
theorem HB {n:Nat} {m:Int} (h:(n:Int)≤m):Jw m (BB n):=fun v hv=>by
 obtain⟨k,hk,rfl⟩:=ABc.1 hv;have:=ABw.1 hk;omega
def C9 (x:AK) (an0:List Ai) (i:Nat):List Int×List Ai×Bool:=B0 x (Aa x) (-1) 0 (BB (Aa x)) an0 i
theorem G5 {x:AK} (hok:Al x=true) {an0:List Ai} (h1:an0.length≤300) (h2:GR (Aa x) an0) {i:Nat} (hi:i≤x.2.2.1.length):Jr (Aa x) (Aa x+i) (C9 x an0 i)∧an0.length≤(C9 x an0 i).2.1.length:=by
 obtain⟨⟨n1,n2,n3,n4,n5,n6⟩,-,-,-⟩:=AA hok;obtain⟨hF,hgl,hNi,hno⟩:=A7 hok;exact LK hok (by omega) (by omega) ⟨fun _=>CO,Nat.le_of_eq CO,HB (by simp only;omega),h1,h2⟩ i hi
theorem MQ {x:AK} {an0:List Ai} {i:Nat} {to:List Int} {an:List Ai} (h:C9 x an0 i=(to,an,true)) :
 C9 x an0 (i+1)=if AZ (Aa x) an (Aq to (Aj x (Aa x+i)).1) (Aq to (Aj x (Aa x+i)).2)<0 then (to,an,false)
  else (to++[AZ (Aa x) an (Aq to (Aj x (Aa x+i)).1) (Aq to (Aj x (Aa x+i)).2)],Ar an (Aq to (Aj x (Aa x+i)).1) (Aq to (Aj x (Aa x+i)).2),true):=by
 unfold C9 at h ⊢;rw[B0,h];simp only[Bool.true_eq_false,if_false];rw[if_neg (by omega)]
theorem Dp {x:AK} {an0:List Ai} {i:Nat} (h:(C9 x an0 i).2.2=false):∀ d,(C9 x an0 (i+d)).2.2=false
 | 0=>h
 | d+1=>by
   have ih:=Dp h d;unfold C9 at ih ⊢;rw[←Nat.add_assoc,B0,if_pos ih];exact ih
def Bd (fa:Int) (ra rb:List Int) (an0:List Ai):Nat→Int×List Ai×Bool
 | 0=>(0,an0,true)
 | i+1 =>
   if (Bd fa ra rb an0 i).2.2=false then Bd fa ra rb an0 i
   else if (Cv fa (Bd fa ra rb an0 i).2.1 (ra.getD i 0) (rb.getD i 0)).1<0 then (0,[],false)
   else if F7 fa (Cv fa (Bd fa ra rb an0 i).2.1 (ra.getD i 0) (rb.getD i 0)).2 (Bd fa ra rb an0 i).1 (Cv fa (Bd fa ra rb an0 i).2.1 (ra.getD i 0) (rb.getD i 0)).1<0 then (0,[],false)
   else (F7 fa (Cv fa (Bd fa ra rb an0 i).2.1 (ra.getD i 0) (rb.getD i 0)).2 (Bd fa ra rb an0 i).1 (Cv fa (Bd fa ra rb an0 i).2.1 (ra.getD i 0) (rb.getD i 0)).1,
    Ar (Cv fa (Bd fa ra rb an0 i).2.1 (ra.getD i 0) (rb.getD i 0)).2 (Af (Bd fa ra rb an0 i).1) (Af (Cv fa (Bd fa ra rb an0 i).2.1 (ra.getD i 0) (rb.getD i 0)).1),true)
theorem Fv {fa:Int} {ra rb:List Int} {an0:List Ai} {i:Nat} {s:Int} {an:List Ai} (h:Bd fa ra rb an0 i=(s,an,true)) :
 Bd fa ra rb an0 (i+1)=if (Cv fa an (ra.getD i 0) (rb.getD i 0)).1<0 then (0,[],false)
  else if F7 fa (Cv fa an (ra.getD i 0) (rb.getD i 0)).2 s (Cv fa an (ra.getD i 0) (rb.getD i 0)).1<0 then (0,[],false)
  else (F7 fa (Cv fa an (ra.getD i 0) (rb.getD i 0)).2 s (Cv fa an (ra.getD i 0) (rb.getD i 0)).1,Ar (Cv fa an (ra.getD i 0) (rb.getD i 0)).2 (Af s) (Af (Cv fa an (ra.getD i 0) (rb.getD i 0)).1),true):=by
 rw[Bd,h];simp only[Bool.true_eq_false,if_false]
theorem Bq {fa:Int} {ra rb:List Int} {an0:List Ai} {i:Nat} (h:(Bd fa ra rb an0 i).2.2=false):∀ d,(Bd fa ra rb an0 (i+d)).2.2=false
 | 0=>h
 | d+1=>by
   have ih:=Bq h d;rw[←Nat.add_assoc,Bd,if_pos ih];exact ih
def GL (a b:AK):Bool:=Al a&&Al b&&decide (a.1=b.1)&&decide (a.2.1.length=b.2.1.length)&&decide (a.2.2.2.length=b.2.2.2.length)&&decide (a.1+(a.2.1.length:Int)≤20)&&(a.2.1.zip b.2.1).all fun p=>decide (p.1.1=p.2.1)
def Cm (a:AK):List Int×List Ai×Bool:=C9 a [] a.2.2.1.length
def Cs (a b:AK):List Int×List Ai×Bool:=C9 b (Cm a).2.1 b.2.2.1.length
def Bm (x:AK) (to:List Int):List Int:=(Ay x).map (Aq to)
def DC (a b:AK):Int×List Ai×Bool:=Bd (Aa a) (Bm a (Cm a).1) (Bm b (Cs a b).1) (Cs a b).2.1 (Ay a).length
def Ea (a b:AK):Bool:=GL a b&&(Cm a).2.2&&(Cs a b).2.2&&(DC a b).2.2
def Fg (a b:AK):AK:=if Ea a b=true then (a.1+(a.2.1.length:Int),[],(DC a b).2.1,[(DC a b).1]) else (0,[],[],[])
theorem G9 {a b:AK} (h:GL a b=true):Al a=true∧Al b=true∧a.1=b.1∧a.2.1.length=b.2.1.length∧a.2.2.2.length=b.2.2.2.length∧a.1+(a.2.1.length:Int)≤20∧Aa b=Aa a∧(Ay b).length=(Ay a).length:=by
 unfold GL at h;simp only[Bool.and_eq_true,decide_eq_true_eq] at h;obtain⟨⟨⟨⟨⟨⟨h1,h2⟩,h3⟩,h4⟩,h5⟩,h6⟩,h7⟩:=h;refine⟨h1,h2,h3,h4,h5,h6,by unfold Aa;omega,?_⟩;obtain⟨-,oa,-,-⟩:=AA h1;obtain⟨-,ob,-,-⟩:=AA h2
 have key:∀ (xs ys:List Cr),xs.length=ys.length→(∀ s∈xs,Bz s=true)→(∀ s∈ys,Bz s=true)→((xs.zip ys).all fun p=>decide (p.1.1=p.2.1))=true→((xs.map (·.2.2)).flatten).length=((ys.map (·.2.2)).flatten).length:=by
  intro xs
  induction xs with
  | nil=>intro ys hl _ _ _;cases ys with|nil=>rfl|cons=>simp at hl
  | cons x xs ih =>
    intro ys hl hx hy hz
    cases ys with
    | nil=>simp at hl
    | cons y ys =>
      simp only[List.zip_cons_cons,List.all_cons,Bool.and_eq_true,decide_eq_true_eq] at hz;have e:=ih ys (by simpa using hl) (fun s hs=>hx s (by simp[hs])) (fun s hs=>hy s (by simp[hs])) hz.2;have q1:=hx x (by simp);have q2:=hy y (by simp)
      have e2:x.2.2.length=y.2.2.length:=by
       unfold Bz at q1 q2;have hk:=hz.1
       revert q1 q2
       rw[hk];split
       · simp;omega
       · split
         · simp;omega
         · simp
      simp only[List.map_cons,List.flatten_cons,AB0,e,e2]
 have:=key _ _ h4 oa ob h7;unfold Ay;simp only[AB0];omega
theorem G7 {fa:Int} {an:List Ai} {a b:Int} (hf:0≤fa) (ha:0≤a∧a<2*(fa+an.length)) (hb:0≤b∧b<2*(fa+an.length)):-1≤F7 fa an a b∧F7 fa an a b<2*(fa+(Ar an (Af a) (Af b)).length):=by
 have fA:=Bb ha.1;have fB:=Bb hb.1;have h:=BL (fa:=fa) (an:=an) (a:=Af a) (b:=Af b) hf (by omega) (by omega);have hl:=A3 (an:=an) (a:=Af a) (b:=Af b);unfold F7;split
 · omega
 · have:=Bb (v:=AZ fa an (Af a) (Af b)) (by omega);omega
theorem HJ {fa:Int} {an:List Ai} {a b:Int} (hf:0≤fa) (h300:an.length≤300) (ha:0≤a∧a<2*(fa+an.length)) (hb:0≤b∧b<2*(fa+an.length)) :
 -1≤(Cv fa an a b).1∧(Cv fa an a b).1<2*(fa+(Cv fa an a b).2.length)∧an.length≤(Cv fa an a b).2.length∧(Cv fa an a b).2.length≤300:=by
 have fA:=Bb ha.1;have fB:=Bb hb.1;have l1:=A3 (an:=an) (a:=a) (b:=Af b);have n1:=Bu (a:=a) (b:=Af b) h300;have r1:=BL (fa:=fa) (an:=an) (a:=a) (b:=Af b) hf (by omega) (by omega);unfold Cv;generalize AZ fa an a (Af b)=p at *;generalize Ar an a (Af b)=an1 at *;split
 · exact⟨by simp,by simp only;omega,by simp only;omega,n1⟩
 · have l2:=A3 (an:=an1) (a:=Af a) (b:=b);have n2:=Bu (a:=Af a) (b:=b) n1;have r2:=BL (fa:=fa) (an:=an1) (a:=Af a) (b:=b) hf (by omega) (by omega);generalize AZ fa an1 (Af a) b=q at *;generalize Ar an1 (Af a) b=an2 at *;split
   · exact⟨by simp,by simp only;omega,by simp only;omega,n2⟩
   · have l3:=A3 (an:=an2) (a:=Af p) (b:=Af q);have n3:=Bu (a:=Af p) (b:=Af q) n2;have r3:=G7 (fa:=fa) (an:=an2) (a:=p) (b:=q) hf (by omega) (by omega);exact⟨r3.1,r3.2,by simp only;omega,n3⟩
theorem EF {fa:Int} {ra rb:List Int} {an0:List Ai} (hf:0<fa) (h300:an0.length≤300) (hA:∀ k∈ra,0≤k∧k<2*(fa+(an0.length:Int))) (hB:∀ k∈rb,0≤k∧k<2*(fa+(an0.length:Int))) {n:Nat} (hn:n≤ra.length) (hm:n≤rb.length) :
 ∀ i,i≤n→(Bd fa ra rb an0 i).2.2=true→(0≤(Bd fa ra rb an0 i).1∧(Bd fa ra rb an0 i).1<2*(fa+(Bd fa ra rb an0 i).2.1.length))∧an0.length≤(Bd fa ra rb an0 i).2.1.length∧(Bd fa ra rb an0 i).2.1.length≤300
 | 0,_,_=>⟨⟨by simp[Bd],by simp[Bd];omega⟩,Nat.le_refl _,h300⟩
 | i+1,hi,h=>by
   have ih:=EF hf h300 hA hB hn hm i (by omega);obtain⟨⟨s,an,b⟩,hst⟩:∃ q,Bd fa ra rb an0 i=q:=⟨_,rfl⟩
   cases b with
   | false =>
     have:=Bq (show (Bd fa ra rb an0 i).2.2=false by rw[hst]) 1;rw[this] at h;cases h
   | true =>
     rw[hst] at ih;obtain⟨g1,g2,g3⟩:=ih rfl;simp only at g1 g2 g3;have hx1:ra.getD i 0∈ra:=by rw[List.getD_eq_getElem?_getD,zz0 (by omega)];exact ABt _
     have hx2:rb.getD i 0∈rb:=by rw[List.getD_eq_getElem?_getD,zz0 (by omega)];exact ABt _
     have b1:=hA _ hx1;have b2:=hB _ hx2;rw[Fv hst] at h ⊢;have xr:=HJ (fa:=fa) (an:=an) (a:=ra.getD i 0) (b:=rb.getD i 0) (by omega) g3 (by omega) (by omega);generalize Cv fa an (ra.getD i 0) (rb.getD i 0)=X at *;obtain⟨x1,x2,x3,x4⟩:=xr;split at h
     · simp at h
     · rename_i hx;rw[if_neg hx];have ho:=G7 (fa:=fa) (an:=X.2) (a:=s) (b:=X.1) (by omega) (by omega) (by omega);have l3:=A3 (an:=X.2) (a:=Af s) (b:=Af X.1);have n3:=Bu (a:=Af s) (b:=Af X.1) x4;split at h
       · simp at h
       · rename_i hy;rw[if_neg hy];exact⟨⟨by simp only;omega,ho.2⟩,by simp only;omega,n3⟩
theorem S8 {s:Cr} (h:Bz s=true):Jy s.1∧Jy s.2.1∧s.2.2.length≤4:=by
 have hl:=DE h;unfold Bz at h;unfold Jy;split at h
 · rename_i h1;simp only[Bool.and_eq_true] at h;have:=AP.1 h.1;exact⟨by omega,by omega,hl⟩
 · split at h
   · rename_i h1;simp only[Bool.and_eq_true] at h;have:=AP.1 h.1;exact⟨by omega,by omega,hl⟩
   · cases h
theorem CJ {x:AK} (hok:Al x=true):JO x:=by
 obtain⟨⟨n1,n2,n3,n4,n5,n6⟩,o1,o2,o3⟩:=AA hok;obtain⟨hF,hgl,hNi,hno⟩:=A7 hok;have hN:=Bp x;refine⟨fun y hy=>?_,fun s hs=>⟨(S8 (o1 s hs)).1,(S8 (o1 s hs)).2.1,fun y hy=>?_⟩,fun a ha=>?_,by unfold Jy;omega⟩
 · have:=o2 y (cP hy);unfold Jy;omega
 · have:=o2 y (List.mem_append_right _ (List.mem_flatten.2 ⟨_,ABc.2 ⟨s,hs,rfl⟩,hy⟩));unfold Jy;omega
 · obtain⟨i,hi,rfl⟩:=List.mem_iff_getElem.1 ha;obtain⟨e,a1,a2,a3,a4,a5,a6⟩:=CW hok (v:=Aa x+i) (by omega) (by omega);rw[Nat.add_sub_cancel_left,zz0 hi] at e;rw[ABd e];unfold Jy;omega
theorem BZ {x:AK} (hok:Al x=true):Cz 1048576 x:=by
 obtain⟨⟨n1,n2,n3,n4,n5,n6⟩,o1,o2,o3⟩:=AA hok;exact⟨by omega,fun s hs=>by have:=DE (o1 s hs);omega,by omega,by omega⟩
def Ap (x:AK) (an:List Ai):AK:=(x.1,x.2.1,an,x.2.2.2)
theorem PU {x:AK} (hok:Al x=true):GR (Aa x) x.2.2.1:=by
 obtain⟨hF,hgl,hNi,hno⟩:=A7 hok;unfold Al at hok;simp only[Bool.and_eq_true] at hok;unfold GR;rw[hF];exact hok.2
theorem CS {x:AK} (hok:Al x=true) {an:List Ai} (hl:x.2.2.1.length≤an.length) (h3:an.length≤300) (ha:GR (Aa x) an):Al (Ap x an)=true:=by
 obtain⟨⟨n1,n2,n3,n4,n5,n6⟩,o1,o2,o3⟩:=AA hok;obtain⟨hF,hgl,hNi,hno⟩:=A7 hok;have hN:=Bp x
 have hn:Bw (Ap x an)=1+x.1+x.2.1.length+an.length:=by
  unfold Bw Ap;rw[if_pos ⟨AP.2 ⟨n1,n2⟩,n3,h3,n5⟩]
 have hr:Ay (Ap x an)=Ay x:=rfl;unfold Al;rw[hn,hr];simp only[Bool.and_eq_true,decide_eq_true_eq];refine⟨⟨⟨by omega,?_⟩,?_⟩,?_⟩
 · rw[zz8];exact o1
 · unfold IB;rw[zz8];intro y hy;have:=o2 y hy;exact AP.2 (by omega)
 · show BR (1+x.1+(x.2.1.length:Int)) 0 an=true;rw[←hF];exact ha
theorem Ye {x:AK} (hok:Al x=true) {a b:Int} (ha:0≤a∧a<2*(A0 x:Int)) (hb:0≤b∧b<2*(A0 x:Int)):Al (Ap x (Ar x.2.2.1 a b))=true:=by
 obtain⟨⟨n1,n2,n3,n4,n5,n6⟩,o1,o2,o3⟩:=AA hok;have hN:=Bp x;exact CS hok A3.1 (Bu n4) (Gp (PU hok) (by omega) (by omega))
def Da (x:AK) (a b:Int):AK×Int :=
 if DM a 0 (2*(A0 x:Int) - 1)=true∧DM b 0 (2*(A0 x:Int) - 1)=true then (Ap x (Ar x.2.2.1 a b),AZ (Aa x) x.2.2.1 a b) else (x,-1)
def C4 (v:Int):Int:=if v<0 then -2 else Af v
def J5 (x:AK) (a b:Int):AK×Int:=if (Da x (C4 a) (C4 b)).2<0 then (x,-1) else ((Da x (C4 a) (C4 b)).1,Af (Da x (C4 a) (C4 b)).2)
def Ji (x m:AK) (p q:Int):AK×Int:=if (J5 m p q).2<0 then (x,-1) else J5 m p q
def NZ (x:AK) (a b:Int):AK×Int:=Ji x (Da (Da x a (C4 b)).1 (C4 a) b).1 (Da x a (C4 b)).2 (Da (Da x a (C4 b)).1 (C4 a) b).2
theorem F6 {x:AK} {a b:Int} (ha:0≤a∧a<2*(A0 x:Int)) (hb:0≤b∧b<2*(A0 x:Int)):Da x a b=(Ap x (Ar x.2.2.1 a b),AZ (Aa x) x.2.2.1 a b):=by
 unfold Da;rw[if_pos ⟨AP.2 (by omega),AP.2 (by omega)⟩]
theorem Z1 {x:AK} {a b:Int} (h:a<0∨b<0):Da x a b=(x,-1):=by
 unfold Da;rw[if_neg (fun h2=>by have h3:=AP.1 h2.1;have h4:=AP.1 h2.2;omega)]
theorem OJ {x:AK} {a b:Int} (ha:0≤a∧a<2*(A0 x:Int)) (hb:0≤b∧b<2*(A0 x:Int)) :
 J5 x a b=if F7 (Aa x) x.2.2.1 a b<0 then (x,-1) else (Ap x (Ar x.2.2.1 (Af a) (Af b)),F7 (Aa x) x.2.2.1 a b):=by
 have fA:=Bb ha.1;have fB:=Bb hb.1;unfold J5 C4;rw[if_neg (show ¬ a<0 by omega),if_neg (show ¬ b<0 by omega),F6 (by omega) (by omega)];unfold F7;simp only;by_cases h:AZ (Aa x) x.2.2.1 (Af a) (Af b)<0
 · rw[if_pos h,if_pos h,if_pos (by omega)]
 · have hp:=Bb (v:=AZ (Aa x) x.2.2.1 (Af a) (Af b)) (by omega);rw[if_neg h,if_neg h,if_neg (by omega)]
theorem QB {x:AK} {a b:Int} (h:a<0∨b<0):J5 x a b=(x,-1):=by
 unfold J5;rw[Z1 (by unfold C4;rcases h with h|h<;>simp[h])];simp
theorem Cq {x:AK} {an:List Ai}:A0 (Ap x an)=Aa x+an.length:=rfl
theorem Wo {x:AK} {a b:Int} (h3:x.2.2.1.length≤300) (ha:0≤a∧a<2*(A0 x:Int)) (hb:0≤b∧b<2*(A0 x:Int)) :
 NZ x a b=if (Cv (Aa x) x.2.2.1 a b).1<0 then (x,-1) else (Ap x (Cv (Aa x) x.2.2.1 a b).2,(Cv (Aa x) x.2.2.1 a b).1):=by
 have hN:=Bp x;have fA:=Bb ha.1;have fB:=Bb hb.1;have l1:=A3 (an:=x.2.2.1) (a:=a) (b:=Af b);have n1:=Bu (a:=a) (b:=Af b) h3;have r1:=BL (fa:=Aa x) (an:=x.2.2.1) (a:=a) (b:=Af b) (by omega) (by omega) (by omega);have g1:=Mf (fa:=Aa x) (an:=x.2.2.1) (a:=a) (b:=Af b) (by omega) (by omega) (by omega);have nA:C4 a=Af a:=by unfold C4;rw[if_neg (by omega)]
 have nB:C4 b=Af b:=by unfold C4;rw[if_neg (by omega)]
 unfold NZ Ji;rw[nA,nB,F6 (x:=x) (a:=a) (b:=Af b) (by omega) (by omega)];unfold Cv;generalize AZ (Aa x) x.2.2.1 a (Af b)=p at *;generalize Ar x.2.2.1 a (Af b)=an1 at *;simp only;rw[F6 (x:=Ap x an1) (by rw[Cq];omega) (by rw[Cq];omega)];simp only;have ew:∀ an2:List Ai,Ap (Ap x an1) an2=Ap x an2:=fun _=>rfl;have ef:Aa (Ap x an1)=Aa x:=rfl;have ea:(Ap x an1).2.2.1=an1:=rfl;rw[ew,ef,ea];have l2:=A3 (an:=an1) (a:=Af a) (b:=b);have n2:=Bu (a:=Af a) (b:=b) n1;have r2:=BL (fa:=Aa x) (an:=an1) (a:=Af a) (b:=b) (by omega) (by omega) (by omega);generalize AZ (Aa x) an1 (Af a) b=q at *;generalize Ar an1 (Af a) b=an2 at *;by_cases hp:p<0
 · rw[if_pos hp,QB (.inl hp)];rfl
 rw[if_neg hp];by_cases hq:q<0
 · rw[if_pos hq,QB (.inr hq)]
 rw[if_neg hq,OJ (x:=Ap x an2) (by rw[Cq];omega) (by rw[Cq];omega)];have ef2:Aa (Ap x an2)=Aa x:=rfl;have ea2:(Ap x an2).2.2.1=an2:=rfl;have ew2:∀ an3:List Ai,Ap (Ap x an2) an3=Ap x an3:=fun _=>rfl;rw[ef2,ea2,ew2];simp only;split
 · simp
 · rename_i h;simp only[h,if_false]
end Go.Proofs.YtnjedabjbeipeaaGreat
