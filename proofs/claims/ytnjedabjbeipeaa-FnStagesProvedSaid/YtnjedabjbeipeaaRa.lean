/-
  What can be observed in a net: what its outputs reach through AND nodes and sequential elements; by a search with a list of what is left to do, and by rounds of marks. Plain lemmas, about no function of the program.
  Conditions: those typed in each theorem.
-/
import Derived.Test.YtnjedabjbeipeaaLc
namespace Go.Proofs.Ytnjedabjbeipeaa
set_option linter.unusedSimpArgs false
set_option linter.unusedVariables false
set_option maxRecDepth 100000
set_option maxHeartbeats 10000000
def XV (l:Int):Nat:=l.toNat / 2
def oM (x:AB) (i:Nat):Dl:=(x.2.1[i]?).getD (0,0,[])
def fG (x:AB):Nat:=1+x.1.toNat
def AAY (x:AB) (v:Nat):List Nat:=if Aa x≤v then [B2 x v,B7 x v] else if fG x≤v then (oM x (v - fG x)).2.2.map XV else []
inductive Obs (x:AB):Nat→Prop
 | out {l:Int} (h:l∈x.2.2.2):Obs x (XV l)
 | kid {v u:Nat} (hv:Obs x v) (hu:u∈AAY x v):Obs x u
theorem S6 {x:AB} (hok:Aj x=true) {l:Int} (h:l∈At x):0≤l∧XV l<AR x:=by
 obtain⟨-,-,o2,-⟩:=Ax hok;have:=o2 l h;unfold XV;omega
def ABt (s:List Bool):Nat:=s.count false
structure ACA (x:AB) (s:List Bool×List Nat):Prop where
 len:s.1.length=AR x
 obs:∀ u,Be s.1 u=true→Obs x u
 lt:∀ u∈s.2,u<AR x
 seen:∀ u∈s.2,Be s.1 u=true
 small:2*ABt s.1+s.2.length≤2*AR x
theorem RN {p q:Nat→Bool}:∀ (l:List Nat),(∀ i∈l,p i=true→q i=true)→(∃ i∈l,q i=true∧p i=false)→l.countP p<l.countP q
 | [],_,h=>by obtain⟨i,hi,_⟩:=h;simp at hi
 | a::l,hm,h=>by
   have hle:l.countP p≤l.countP q:=List.countP_mono_left fun i hi hp=>hm i (by simp[hi]) hp;obtain⟨i,hi,hq,hp⟩:=h;rw[List.countP_cons,List.countP_cons];rcases List.mem_cons.1 hi with rfl|hi
   · rw[hq,hp];simp;omega
   · have ih:=RN l (fun i hi=>hm i (by simp[hi])) ⟨i,hi,hq,hp⟩;have:=hm a (by simp)
     cases hpa:p a with
     | false=>cases q a<;>simp<;>omega
     | true=>rw[this hpa];simp;omega
def E3 (a b:Int):Int:=if b<a then b else a
def Eo (a b:Int):Int:=if a<b then b else a
def CM (a b:Int):Bool:=decide (a=0)||decide (b=0)||decide (Bd a 1=b)||decide (a=1)||decide (a=b)||decide (b=1)
def Ey (a b:Int):Int:=if a=0∨b=0∨Bd a 1=b then 0 else if a=1∨a=b then b else a
def CQ (an:List Ah) (x:Ah):Nat:=an.findIdx fun y=>decide (y=x)
def AG (fa:Int) (an:List Ah) (a b:Int):Int :=
 if CM a b=true then Ey a b else if CQ an (E3 a b,Eo a b)<an.length then 2*(fa+CQ an (E3 a b,Eo a b)) else if an.length<300 then 2*(fa+an.length) else -1
def AV (an:List Ah) (a b:Int):Bool:=!CM a b&&decide (¬ CQ an (E3 a b,Eo a b)<an.length)&&decide (an.length<300)
def Ak (an:List Ah) (a b:Int):List Ah:=if AV an a b=true then an++[(E3 a b,Eo a b)] else an
theorem Nq {an:List Ah} {x:Ah} {i:Nat} (h:an[i]? = some x) (hpre:∀ j:Nat,j<i→an[j]?≠some x):CQ an x=i:=by
 obtain⟨hi,e⟩:=zz1.1 h;unfold CQ;rw[List.findIdx_eq hi];refine⟨by simpa using e,fun j hj=>?_⟩;have:=hpre j hj;rw[zz0 (by omega)] at this;simpa using this
theorem Ih {an:List Ah} {x:Ah} (hpre:∀ j:Nat,j<an.length→an[j]?≠some x):CQ an x=an.length:=by
 unfold CQ;rw[List.findIdx_eq_length];intro y hy;obtain⟨j,hj,rfl⟩:=List.mem_iff_getElem.1 hy;have:=hpre j hj;rw[zz0 hj] at this;simpa using this
theorem AM {an:List Ah} {a b:Int}:an.length≤(Ak an a b).length∧(Ak an a b).length≤an.length+1:=by
 unfold Ak;split<;>simp
def Ap (pl:List Int) (l:Int):Int:=Bd (Av pl (l / 2)) (l % 2)
theorem AU {v:Int} (h:0≤v):Ad v / 2=v / 2∧0≤Ad v:=by unfold Ad;split<;>omega
theorem RP {v:Int} (h:0≤v):Ad (Ad v)=v:=by unfold Ad;split<;>split<;>omega
theorem Yv {pl:List Int} {l:Int} (h0:0≤Av pl (l / 2)) (h1:Av pl (l / 2)≤1048576):Ap pl l=if l % 2=0 then Av pl (l / 2) else Ad (Av pl (l / 2)):=by
 unfold Ap;split
 · rename_i h;rw[h,Hl h0 (by omega)]
 · rename_i h;rw[show l % 2=1 by omega,A8 h0 (by omega)]
theorem Bf {pl:List Int} {l:Int} {n:Int} (h:0≤Av pl (l / 2)∧Av pl (l / 2)<2*n) (hn:n≤1000):0≤Ap pl l∧Ap pl l<2*n:=by
 rw[Yv h.1 (by omega)];split
 · exact h
 · have:=AU h.1;omega
def F7 (n:Nat) (ls:List Int):Prop:=∀ l∈ls,0≤l∧l<2*(n:Int)
def Oh (n:Int) (pl:List Int):Prop:=∀ v∈pl,0≤v∧v<2*n
theorem Bw {n:Int} {pl:List Int} (h:Oh n pl) (hn:0<n) (k:Int):0≤Av pl k∧Av pl k<2*n:=by
 unfold Av
 cases e:pl[k.toNat]? with
 | none=>simp only[Option.getD_none];omega
 | some v=>simpa using h v (zz6 e)
theorem Dy {pl qs:List Int} {k:Int} (h0:0≤k) (h:k<pl.length):Av (pl++qs) k=Av pl k:=by
 unfold Av;rw[zz4 (by omega)]
theorem U1 {pl qs:List Int} {l:Int} (h:0≤l∧l<2*(pl.length:Int)):Ap (pl++qs) l=Ap pl l:=by
 unfold Ap;rw[Dy (by omega) (by omega)]
theorem RB {a b n:Int} (ha:0≤a∧a<2*n) (hb:0≤b∧b<2*n):0≤Ey a b∧Ey a b<2*n:=by
 unfold Ey;split<;>(try split)<;>omega
theorem oY {a b:Int} {P:Int→Prop} (ha:P a) (hb:P b):P (E3 a b)∧P (Eo a b):=by
 unfold E3 Eo;constructor<;>split<;>assumption
theorem BA {fa:Int} {an:List Ah} {a b:Int} (hf:0≤fa) (ha:0≤a∧a<2*(fa+an.length)) (hb:0≤b∧b<2*(fa+an.length)):-1≤AG fa an a b∧AG fa an a b<2*(fa+(Ak an a b).length):=by
 have hl:=AM (an:=an) (a:=a) (b:=b);unfold AG;split
 · have:=RB ha hb;omega
 · rename_i ht;split
   · omega
   · rename_i hf2;split
     · rename_i h3;have:AV an a b=true:=by unfold AV;simp[ht,hf2,h3]
       unfold Ak;rw[if_pos this];simp;omega
     · omega
theorem II {fa:Int} {an:List Ah} {a b:Int} (hf:0≤fa) (ha:0≤a) (hb:0≤b):(AG fa an a b<0→Ak an a b=an∧AG fa an a b=-1):=by
 intro h;unfold AG at h ⊢;split at h
 · rename_i ht;exfalso;unfold Ey at h;split at h
   · omega
   · split at h<;>omega
 · rename_i ht;split at h
   · omega
   · rename_i hf2;split at h
     · omega
     · rename_i h3;refine⟨?_,by rw[if_neg ht,if_neg hf2,if_neg h3]⟩;unfold Ak;rw[if_neg (by unfold AV;simp[h3])]
theorem Bv {an:List Ah} {a b:Int} (h:an.length≤300):(Ak an a b).length≤300:=by
 unfold Ak;split
 · rename_i hm;unfold AV at hm;simp only[Bool.and_eq_true,decide_eq_true_eq] at hm;simp;omega
 · exact h
def E4 (fa:Int) (an:List Ah) (a b:Int):Int:=if AG fa an (Ad a) (Ad b)<0 then -1 else Ad (AG fa an (Ad a) (Ad b))
def Ce (fa:Int) (an:List Ah) (a b:Int):Int×List Ah :=
 if AG fa an a (Ad b)<0 then (-1,Ak an a (Ad b))
 else if AG fa (Ak an a (Ad b)) (Ad a) b<0 then (-1,Ak (Ak an a (Ad b)) (Ad a) b)
 else (E4 fa (Ak (Ak an a (Ad b)) (Ad a) b) (AG fa an a (Ad b)) (AG fa (Ak an a (Ad b)) (Ad a) b),
  Ak (Ak (Ak an a (Ad b)) (Ad a) b) (Ad (AG fa an a (Ad b))) (Ad (AG fa (Ak an a (Ad b)) (Ad a) b)))
def ES (fa:Int) (an:List Ah):Prop:=BO fa 0 an=true
theorem Vn {n:Int} {x:Ah}:Ej n x=true↔(0≤x.1∧x.1<2*n)∧0≤x.2∧x.2<2*n:=by
 unfold Ej;rw[Bool.and_eq_true,AN,AN];omega
theorem Hf {fa:Int} {an:List Ah} {a b:Int} (h:ES fa an) (ha:0≤a∧a<2*(fa+an.length)) (hb:0≤b∧b<2*(fa+an.length)):ES fa (Ak an a b):=by
 unfold Ak;split
 · unfold ES at h ⊢;have:=GY (f:=fa) (xs:=an++[(E3 a b,Eo a b)]) (k:=an.length) (x:=(E3 a b,Eo a b)) (by simp);rw[ACe (by simp),List.take_left' rfl,h,Bool.true_and] at this;rw[this,Vn];exact oY (P:=fun x=>0≤x∧x<2*(fa+(an.length:Int))) ha hb
 · exact h
def C4 (x:AB) (fa skip inst:Int) (to0:List Int) (an0:List Ah):Nat→List Int×List Ah×Bool
 | 0=>(to0,an0,true)
 | i+1 =>
   if (C4 x fa skip inst to0 an0 i).2.2=false then C4 x fa skip inst to0 an0 i
   else if (i:Int)=skip then ((C4 x fa skip inst to0 an0 i).1++[inst],(C4 x fa skip inst to0 an0 i).2.1,true)
   else if AG fa (C4 x fa skip inst to0 an0 i).2.1 (Ap (C4 x fa skip inst to0 an0 i).1 (Al x (Aa x+i)).1) (Ap (C4 x fa skip inst to0 an0 i).1 (Al x (Aa x+i)).2)<0 then ((C4 x fa skip inst to0 an0 i).1,(C4 x fa skip inst to0 an0 i).2.1,false)
   else ((C4 x fa skip inst to0 an0 i).1++[AG fa (C4 x fa skip inst to0 an0 i).2.1 (Ap (C4 x fa skip inst to0 an0 i).1 (Al x (Aa x+i)).1) (Ap (C4 x fa skip inst to0 an0 i).1 (Al x (Aa x+i)).2)],
    Ak (C4 x fa skip inst to0 an0 i).2.1 (Ap (C4 x fa skip inst to0 an0 i).1 (Al x (Aa x+i)).1) (Ap (C4 x fa skip inst to0 an0 i).1 (Al x (Aa x+i)).2),true)
structure NC (fa:Int) (n:Nat) (s:List Int×List Ah×Bool):Prop where
 len:s.2.2=true→s.1.length=n
 le:s.1.length≤n
 pl:Oh (fa+s.2.1.length) s.1
 an:s.2.1.length≤300
 ok:ES fa s.2.1
theorem Hb {n m:Int} {pl:List Int} (h:Oh n pl) (hm:n≤m):Oh m pl:=fun v hv=>⟨(h v hv).1,by have:=(h v hv).2;omega⟩
theorem Th {x:AB} (hok:Aj x=true) {fa skip inst:Int} {to0:List Int} {an0:List Ah} (hfa:0<fa∧fa≤100) (hi:0≤inst∧inst<2*fa) (h0:NC fa (Aa x) (to0,an0,true)) :
 ∀ i,i≤x.2.2.1.length→NC fa (Aa x+i) (C4 x fa skip inst to0 an0 i)∧an0.length≤(C4 x fa skip inst to0 an0 i).2.1.length
 | 0,_=>⟨h0,Nat.le_refl _⟩
 | i+1,hile=>by
   obtain⟨ih,ihl⟩:=Th hok hfa hi h0 (skip:=skip) i (by omega);obtain⟨hF,hgl,hNi,hno⟩:=Bz hok;have hN:=Bn x;obtain⟨-,a1,a2,a3,a4,a5,a6⟩:=Cy hok (v:=Aa x+i) (by omega) (by omega);unfold C4;generalize C4 x fa skip inst to0 an0 i=s at *;obtain⟨to,an,b⟩:=s;simp only at ih ihl ⊢;split
   · rename_i hb;subst hb;exact⟨⟨fun h=>by simp at h,by have:=ih.le;simp only at this ⊢;omega,ih.pl,ih.an,ih.ok⟩,ihl⟩
   · rename_i hb;obtain rfl:b=true:=by simpa using hb
     have hl:=ih.len rfl;have ha:=ih.an;simp only at hl ha;split
     · refine⟨⟨fun _=>by simp only[ACg,List.length_cons,List.length_nil];omega,by simp only[ACg,List.length_cons,List.length_nil];omega,fun v hv=>?_,ih.an,ih.ok⟩,ihl⟩;simp only at hv ⊢;rcases ACE.1 hv with h|h
       · exact ih.pl v h
       · rw[zz9.1 h];omega
     · have r1:=Bf (l:=(Al x (Aa x+i)).1) (Bw ih.pl (by simp only;omega) ((Al x (Aa x+i)).1 / 2)) (by simp only;omega);have r2:=Bf (l:=(Al x (Aa x+i)).2) (Bw ih.pl (by simp only;omega) ((Al x (Aa x+i)).2 / 2)) (by simp only;omega);simp only at r1 r2;have h3:=BA (fa:=fa) (by omega) r1 r2;have h4:=Hf ih.ok r1 r2;have h5:=AM (an:=an) (a:=Ap to (Al x (Aa x+i)).1) (b:=Ap to (Al x (Aa x+i)).2);have h6:=Bv (a:=Ap to (Al x (Aa x+i)).1) (b:=Ap to (Al x (Aa x+i)).2) ha;simp only at h4;generalize Ap to (Al x (Aa x+i)).1=a at *;generalize Ap to (Al x (Aa x+i)).2=b at *;split
       · exact⟨⟨fun h=>by simp at h,by simp only;omega,ih.pl,ih.an,ih.ok⟩,ihl⟩
       · refine⟨⟨fun _=>by simp only[ACg,List.length_cons,List.length_nil];omega,by simp only[ACg,List.length_cons,List.length_nil];omega,fun v hv=>?_,h6,h4⟩,by simp only;omega⟩;simp only at hv ⊢;rcases ACE.1 hv with h|h
         · have:=ih.pl v h;simp only at this;omega
         · rw[zz9.1 h];omega
def BQ (n:Nat):List Int:=(List.range n).map fun k:Nat=>2*(k:Int)
theorem EO {n:Nat}:(BQ n).length=n:=by simp[BQ]
theorem Xz {n:Nat}:BQ (n+1)=BQ n++[2*(n:Int)]:=by simp[BQ,List.range_succ]
theorem Kh {n:Nat} {m:Int} (h:(n:Int)≤m):Oh m (BQ n):=fun v hv=>by
 obtain⟨k,hk,rfl⟩:=ACP.1 hv;have:=ACJ.1 hk;omega
def Cx (x:AB) (an0:List Ah) (i:Nat):List Int×List Ah×Bool:=C4 x (Aa x) (-1) 0 (BQ (Aa x)) an0 i
theorem G6 {x:AB} (hok:Aj x=true) {an0:List Ah} (h1:an0.length≤300) (h2:ES (Aa x) an0) {i:Nat} (hi:i≤x.2.2.1.length):NC (Aa x) (Aa x+i) (Cx x an0 i)∧an0.length≤(Cx x an0 i).2.1.length:=by
 obtain⟨⟨n1,n2,n3,n4,n5,n6⟩,-,-,-⟩:=Ax hok;obtain⟨hF,hgl,hNi,hno⟩:=Bz hok;exact Th hok (by omega) (by omega) ⟨fun _=>EO,Nat.le_of_eq EO,Kh (by simp only;omega),h1,h2⟩ i hi
theorem IA {x:AB} {an0:List Ah} {i:Nat} {to:List Int} {an:List Ah} (h:Cx x an0 i=(to,an,true)) :
 Cx x an0 (i+1)=if AG (Aa x) an (Ap to (Al x (Aa x+i)).1) (Ap to (Al x (Aa x+i)).2)<0 then (to,an,false)
  else (to++[AG (Aa x) an (Ap to (Al x (Aa x+i)).1) (Ap to (Al x (Aa x+i)).2)],Ak an (Ap to (Al x (Aa x+i)).1) (Ap to (Al x (Aa x+i)).2),true):=by
 unfold Cx at h ⊢;rw[C4,h];simp only[Bool.true_eq_false,if_false];rw[if_neg (by omega)]
theorem Dc {x:AB} {an0:List Ah} {i:Nat} (h:(Cx x an0 i).2.2=false):∀ d,(Cx x an0 (i+d)).2.2=false
 | 0=>h
 | d+1=>by
   have ih:=Dc h d;unfold Cx at ih ⊢;rw[←Nat.add_assoc,C4,if_pos ih];exact ih
def A1 (fa:Int) (ra rb:List Int) (an0:List Ah):Nat→Int×List Ah×Bool
 | 0=>(0,an0,true)
 | i+1 =>
   if (A1 fa ra rb an0 i).2.2=false then A1 fa ra rb an0 i
   else if (Ce fa (A1 fa ra rb an0 i).2.1 (ra.getD i 0) (rb.getD i 0)).1<0 then (0,[],false)
   else if E4 fa (Ce fa (A1 fa ra rb an0 i).2.1 (ra.getD i 0) (rb.getD i 0)).2 (A1 fa ra rb an0 i).1 (Ce fa (A1 fa ra rb an0 i).2.1 (ra.getD i 0) (rb.getD i 0)).1<0 then (0,[],false)
   else (E4 fa (Ce fa (A1 fa ra rb an0 i).2.1 (ra.getD i 0) (rb.getD i 0)).2 (A1 fa ra rb an0 i).1 (Ce fa (A1 fa ra rb an0 i).2.1 (ra.getD i 0) (rb.getD i 0)).1,
    Ak (Ce fa (A1 fa ra rb an0 i).2.1 (ra.getD i 0) (rb.getD i 0)).2 (Ad (A1 fa ra rb an0 i).1) (Ad (Ce fa (A1 fa ra rb an0 i).2.1 (ra.getD i 0) (rb.getD i 0)).1),true)
theorem E7 {fa:Int} {ra rb:List Int} {an0:List Ah} {i:Nat} {s:Int} {an:List Ah} (h:A1 fa ra rb an0 i=(s,an,true)) :
 A1 fa ra rb an0 (i+1)=if (Ce fa an (ra.getD i 0) (rb.getD i 0)).1<0 then (0,[],false)
  else if E4 fa (Ce fa an (ra.getD i 0) (rb.getD i 0)).2 s (Ce fa an (ra.getD i 0) (rb.getD i 0)).1<0 then (0,[],false)
  else (E4 fa (Ce fa an (ra.getD i 0) (rb.getD i 0)).2 s (Ce fa an (ra.getD i 0) (rb.getD i 0)).1,Ak (Ce fa an (ra.getD i 0) (rb.getD i 0)).2 (Ad s) (Ad (Ce fa an (ra.getD i 0) (rb.getD i 0)).1),true):=by
 rw[A1,h];simp only[Bool.true_eq_false,if_false]
theorem Bo {fa:Int} {ra rb:List Int} {an0:List Ah} {i:Nat} (h:(A1 fa ra rb an0 i).2.2=false):∀ d,(A1 fa ra rb an0 (i+d)).2.2=false
 | 0=>h
 | d+1=>by
   have ih:=Bo h d;rw[←Nat.add_assoc,A1,if_pos ih];exact ih
def Jm (a b:AB):Bool:=Aj a&&Aj b&&decide (a.1=b.1)&&decide (a.2.1.length=b.2.1.length)&&decide (a.2.2.2.length=b.2.2.2.length)&&decide (a.1+(a.2.1.length:Int)≤20)&&(a.2.1.zip b.2.1).all fun p=>decide (p.1.1=p.2.1)
def Cc (a:AB):List Int×List Ah×Bool:=Cx a [] a.2.2.1.length
def Ci (a b:AB):List Int×List Ah×Bool:=Cx b (Cc a).2.1 b.2.2.1.length
def BH (x:AB) (to:List Int):List Int:=(At x).map (Ap to)
def Dx (a b:AB):Int×List Ah×Bool:=A1 (Aa a) (BH a (Cc a).1) (BH b (Ci a b).1) (Ci a b).2.1 (At a).length
def Ft (a b:AB):Bool:=Jm a b&&(Cc a).2.2&&(Ci a b).2.2&&(Dx a b).2.2
def DV (a b:AB):AB:=if Ft a b=true then (a.1+(a.2.1.length:Int),[],(Dx a b).2.1,[(Dx a b).1]) else (0,[],[],[])
theorem Oz {a b:AB} (h:Jm a b=true):Aj a=true∧Aj b=true∧a.1=b.1∧a.2.1.length=b.2.1.length∧a.2.2.2.length=b.2.2.2.length∧a.1+(a.2.1.length:Int)≤20∧Aa b=Aa a∧(At b).length=(At a).length:=by
 unfold Jm at h;simp only[Bool.and_eq_true,decide_eq_true_eq] at h;obtain⟨⟨⟨⟨⟨⟨h1,h2⟩,h3⟩,h4⟩,h5⟩,h6⟩,h7⟩:=h;refine⟨h1,h2,h3,h4,h5,h6,by unfold Aa;omega,?_⟩;obtain⟨-,oa,-,-⟩:=Ax h1;obtain⟨-,ob,-,-⟩:=Ax h2
 have key:∀ (xs ys:List Dl),xs.length=ys.length→(∀ s∈xs,Dn s=true)→(∀ s∈ys,Dn s=true)→((xs.zip ys).all fun p=>decide (p.1.1=p.2.1))=true→((xs.map (·.2.2)).flatten).length=((ys.map (·.2.2)).flatten).length:=by
  intro xs
  induction xs with
  | nil=>intro ys hl _ _ _;cases ys with|nil=>rfl|cons=>simp at hl
  | cons x xs ih =>
    intro ys hl hx hy hz
    cases ys with
    | nil=>simp at hl
    | cons y ys =>
      simp only[List.zip_cons_cons,List.all_cons,Bool.and_eq_true,decide_eq_true_eq] at hz;have e:=ih ys (by simpa using hl) (fun s hs=>hx s (by simp[hs])) (fun s hs=>hy s (by simp[hs])) hz.2;have q1:=hx x (by simp);have q2:=hy y (by simp)
      have e2:x.2.2.length=y.2.2.length:=by
       unfold Dn at q1 q2;have hk:=hz.1
       revert q1 q2
       rw[hk];split
       · simp;omega
       · split
         · simp;omega
         · simp
      simp only[List.map_cons,List.flatten_cons,ACg,e,e2]
 have:=key _ _ h4 oa ob h7;unfold At;simp only[ACg];omega
theorem GZ {fa:Int} {an:List Ah} {a b:Int} (hf:0≤fa) (ha:0≤a∧a<2*(fa+an.length)) (hb:0≤b∧b<2*(fa+an.length)):-1≤E4 fa an a b∧E4 fa an a b<2*(fa+(Ak an (Ad a) (Ad b)).length):=by
 have fA:=AU ha.1;have fB:=AU hb.1;have h:=BA (fa:=fa) (an:=an) (a:=Ad a) (b:=Ad b) hf (by omega) (by omega);have hl:=AM (an:=an) (a:=Ad a) (b:=Ad b);unfold E4;split
 · omega
 · have:=AU (v:=AG fa an (Ad a) (Ad b)) (by omega);omega
theorem Ii {fa:Int} {an:List Ah} {a b:Int} (hf:0≤fa) (h300:an.length≤300) (ha:0≤a∧a<2*(fa+an.length)) (hb:0≤b∧b<2*(fa+an.length)) :
 -1≤(Ce fa an a b).1∧(Ce fa an a b).1<2*(fa+(Ce fa an a b).2.length)∧an.length≤(Ce fa an a b).2.length∧(Ce fa an a b).2.length≤300:=by
 have fA:=AU ha.1;have fB:=AU hb.1;have l1:=AM (an:=an) (a:=a) (b:=Ad b);have n1:=Bv (a:=a) (b:=Ad b) h300;have r1:=BA (fa:=fa) (an:=an) (a:=a) (b:=Ad b) hf (by omega) (by omega);unfold Ce;generalize AG fa an a (Ad b)=p at *;generalize Ak an a (Ad b)=an1 at *;split
 · exact⟨by simp,by simp only;omega,by simp only;omega,n1⟩
 · have l2:=AM (an:=an1) (a:=Ad a) (b:=b);have n2:=Bv (a:=Ad a) (b:=b) n1;have r2:=BA (fa:=fa) (an:=an1) (a:=Ad a) (b:=b) hf (by omega) (by omega);generalize AG fa an1 (Ad a) b=q at *;generalize Ak an1 (Ad a) b=an2 at *;split
   · exact⟨by simp,by simp only;omega,by simp only;omega,n2⟩
   · have l3:=AM (an:=an2) (a:=Ad p) (b:=Ad q);have n3:=Bv (a:=Ad p) (b:=Ad q) n2;have r3:=GZ (fa:=fa) (an:=an2) (a:=p) (b:=q) hf (by omega) (by omega);exact⟨r3.1,r3.2,by simp only;omega,n3⟩
theorem Fp {fa:Int} {ra rb:List Int} {an0:List Ah} (hf:0<fa) (h300:an0.length≤300) (hA:∀ k∈ra,0≤k∧k<2*(fa+(an0.length:Int))) (hB:∀ k∈rb,0≤k∧k<2*(fa+(an0.length:Int))) {n:Nat} (hn:n≤ra.length) (hm:n≤rb.length) :
 ∀ i,i≤n→(A1 fa ra rb an0 i).2.2=true→(0≤(A1 fa ra rb an0 i).1∧(A1 fa ra rb an0 i).1<2*(fa+(A1 fa ra rb an0 i).2.1.length))∧an0.length≤(A1 fa ra rb an0 i).2.1.length∧(A1 fa ra rb an0 i).2.1.length≤300
 | 0,_,_=>⟨⟨by simp[A1],by simp[A1];omega⟩,Nat.le_refl _,h300⟩
 | i+1,hi,h=>by
   have ih:=Fp hf h300 hA hB hn hm i (by omega);obtain⟨⟨s,an,b⟩,hst⟩:∃ q,A1 fa ra rb an0 i=q:=⟨_,rfl⟩
   cases b with
   | false =>
     have:=Bo (show (A1 fa ra rb an0 i).2.2=false by rw[hst]) 1;rw[this] at h;cases h
   | true =>
     rw[hst] at ih;obtain⟨g1,g2,g3⟩:=ih rfl;simp only at g1 g2 g3;have hx1:ra.getD i 0∈ra:=by rw[List.getD_eq_getElem?_getD,zz0 (by omega)];exact AB7 _
     have hx2:rb.getD i 0∈rb:=by rw[List.getD_eq_getElem?_getD,zz0 (by omega)];exact AB7 _
     have b1:=hA _ hx1;have b2:=hB _ hx2;rw[E7 hst] at h ⊢;have xr:=Ii (fa:=fa) (an:=an) (a:=ra.getD i 0) (b:=rb.getD i 0) (by omega) g3 (by omega) (by omega);generalize Ce fa an (ra.getD i 0) (rb.getD i 0)=X at *;obtain⟨x1,x2,x3,x4⟩:=xr;split at h
     · simp at h
     · rename_i hx;rw[if_neg hx];have ho:=GZ (fa:=fa) (an:=X.2) (a:=s) (b:=X.1) (by omega) (by omega) (by omega);have l3:=AM (an:=X.2) (a:=Ad s) (b:=Ad X.1);have n3:=Bv (a:=Ad s) (b:=Ad X.1) x4;split at h
       · simp at h
       · rename_i hy;rw[if_neg hy];exact⟨⟨by simp only;omega,ho.2⟩,by simp only;omega,n3⟩
theorem Bj {x:AB} (hok:Aj x=true):DQ 1048576 x:=by
 obtain⟨⟨n1,n2,n3,n4,n5,n6⟩,o1,o2,o3⟩:=Ax hok;exact⟨by omega,fun s hs=>by have:=F5 (o1 s hs);omega,by omega,by omega⟩
def Cl (x:AB) (an:List Ah):AB:=(x.1,x.2.1,an,x.2.2.2)
theorem V7 {x:AB} (hok:Aj x=true):ES (Aa x) x.2.2.1:=by
 obtain⟨hF,hgl,hNi,hno⟩:=Bz hok;unfold Aj at hok;simp only[Bool.and_eq_true] at hok;unfold ES;rw[hF];exact hok.2
theorem NR {x:AB} (hok:Aj x=true) {an:List Ah} (hl:x.2.2.1.length≤an.length) (h3:an.length≤300) (ha:ES (Aa x) an):Aj (Cl x an)=true:=by
 obtain⟨⟨n1,n2,n3,n4,n5,n6⟩,o1,o2,o3⟩:=Ax hok;obtain⟨hF,hgl,hNi,hno⟩:=Bz hok;have hN:=Bn x
 have hn:CW (Cl x an)=1+x.1+x.2.1.length+an.length:=by
  unfold CW Cl;rw[if_pos ⟨AN.2 ⟨n1,n2⟩,n3,h3,n5⟩]
 have hr:At (Cl x an)=At x:=rfl;unfold Aj;rw[hn,hr];simp only[Bool.and_eq_true,decide_eq_true_eq];refine⟨⟨⟨by omega,?_⟩,?_⟩,?_⟩
 · rw[zz8];exact o1
 · unfold MN;rw[zz8];intro y hy;have:=o2 y hy;exact AN.2 (by omega)
 · show BO (1+x.1+(x.2.1.length:Int)) 0 an=true;rw[←hF];exact ha
theorem WD {x:AB} (hok:Aj x=true) {a b:Int} (ha:0≤a∧a<2*(AR x:Int)) (hb:0≤b∧b<2*(AR x:Int)):Aj (Cl x (Ak x.2.2.1 a b))=true:=by
 obtain⟨⟨n1,n2,n3,n4,n5,n6⟩,o1,o2,o3⟩:=Ax hok;have hN:=Bn x;exact NR hok AM.1 (Bv n4) (Hf (V7 hok) (by omega) (by omega))
def FR (x:AB) (a b:Int):AB×Int :=
 if rng a 0 (2*(AR x:Int) - 1)=true∧rng b 0 (2*(AR x:Int) - 1)=true then (Cl x (Ak x.2.2.1 a b),AG (Aa x) x.2.2.1 a b) else (x,-1)
def G5 (v:Int):Int:=if v<0 then -2 else Ad v
def QY (x:AB) (a b:Int):AB×Int:=if (FR x (G5 a) (G5 b)).2<0 then (x,-1) else ((FR x (G5 a) (G5 b)).1,Ad (FR x (G5 a) (G5 b)).2)
def W9 (x m:AB) (p q:Int):AB×Int:=if (QY m p q).2<0 then (x,-1) else QY m p q
def Yd (x:AB) (a b:Int):AB×Int:=W9 x (FR (FR x a (G5 b)).1 (G5 a) b).1 (FR x a (G5 b)).2 (FR (FR x a (G5 b)).1 (G5 a) b).2
theorem Pg {x:AB} {a b:Int} (ha:0≤a∧a<2*(AR x:Int)) (hb:0≤b∧b<2*(AR x:Int)):FR x a b=(Cl x (Ak x.2.2.1 a b),AG (Aa x) x.2.2.1 a b):=by
 unfold FR;rw[if_pos ⟨AN.2 (by omega),AN.2 (by omega)⟩]
theorem ZM {x:AB} {a b:Int} (h:a<0∨b<0):FR x a b=(x,-1):=by
 unfold FR;rw[if_neg (fun h2=>by have h3:=AN.1 h2.1;have h4:=AN.1 h2.2;omega)]
theorem Y0 {x:AB} {a b:Int} (ha:0≤a∧a<2*(AR x:Int)) (hb:0≤b∧b<2*(AR x:Int)) :
 QY x a b=if E4 (Aa x) x.2.2.1 a b<0 then (x,-1) else (Cl x (Ak x.2.2.1 (Ad a) (Ad b)),E4 (Aa x) x.2.2.1 a b):=by
 have fA:=AU ha.1;have fB:=AU hb.1;unfold QY G5;rw[if_neg (show ¬ a<0 by omega),if_neg (show ¬ b<0 by omega),Pg (by omega) (by omega)];unfold E4;simp only;by_cases h:AG (Aa x) x.2.2.1 (Ad a) (Ad b)<0
 · rw[if_pos h,if_pos h,if_pos (by omega)]
 · have hp:=AU (v:=AG (Aa x) x.2.2.1 (Ad a) (Ad b)) (by omega);rw[if_neg h,if_neg h,if_neg (by omega)]
theorem Uy {x:AB} {a b:Int} (h:a<0∨b<0):QY x a b=(x,-1):=by
 unfold QY;rw[ZM (by unfold G5;rcases h with h|h<;>simp[h])];simp
theorem He {x:AB} {an:List Ah}:AR (Cl x an)=Aa x+an.length:=rfl
theorem iQ {x:AB} {a b:Int} (h3:x.2.2.1.length≤300) (ha:0≤a∧a<2*(AR x:Int)) (hb:0≤b∧b<2*(AR x:Int)) :
 Yd x a b=if (Ce (Aa x) x.2.2.1 a b).1<0 then (x,-1) else (Cl x (Ce (Aa x) x.2.2.1 a b).2,(Ce (Aa x) x.2.2.1 a b).1):=by
 have hN:=Bn x;have fA:=AU ha.1;have fB:=AU hb.1;have l1:=AM (an:=x.2.2.1) (a:=a) (b:=Ad b);have n1:=Bv (a:=a) (b:=Ad b) h3;have r1:=BA (fa:=Aa x) (an:=x.2.2.1) (a:=a) (b:=Ad b) (by omega) (by omega) (by omega);have g1:=II (fa:=Aa x) (an:=x.2.2.1) (a:=a) (b:=Ad b) (by omega) (by omega) (by omega);have nA:G5 a=Ad a:=by unfold G5;rw[if_neg (by omega)]
 have nB:G5 b=Ad b:=by unfold G5;rw[if_neg (by omega)]
 unfold Yd W9;rw[nA,nB,Pg (x:=x) (a:=a) (b:=Ad b) (by omega) (by omega)];unfold Ce;generalize AG (Aa x) x.2.2.1 a (Ad b)=p at *;generalize Ak x.2.2.1 a (Ad b)=an1 at *;simp only;rw[Pg (x:=Cl x an1) (by rw[He];omega) (by rw[He];omega)];simp only;have ew:∀ an2:List Ah,Cl (Cl x an1) an2=Cl x an2:=fun _=>rfl;have ef:Aa (Cl x an1)=Aa x:=rfl;have ea:(Cl x an1).2.2.1=an1:=rfl;rw[ew,ef,ea];have l2:=AM (an:=an1) (a:=Ad a) (b:=b);have n2:=Bv (a:=Ad a) (b:=b) n1;have r2:=BA (fa:=Aa x) (an:=an1) (a:=Ad a) (b:=b) (by omega) (by omega) (by omega);generalize AG (Aa x) an1 (Ad a) b=q at *;generalize Ak an1 (Ad a) b=an2 at *;by_cases hp:p<0
 · rw[if_pos hp,Uy (.inl hp)];rfl
 rw[if_neg hp];by_cases hq:q<0
 · rw[if_pos hq,Uy (.inr hq)]
 rw[if_neg hq,Y0 (x:=Cl x an2) (by rw[He];omega) (by rw[He];omega)];have ef2:Aa (Cl x an2)=Aa x:=rfl;have ea2:(Cl x an2).2.2.1=an2:=rfl;have ew2:∀ an3:List Ah,Cl (Cl x an2) an3=Cl x an3:=fun _=>rfl;rw[ef2,ea2,ew2];simp only;split
 · simp
 · rename_i h;simp only[h,if_false]
end Go.Proofs.Ytnjedabjbeipeaa
