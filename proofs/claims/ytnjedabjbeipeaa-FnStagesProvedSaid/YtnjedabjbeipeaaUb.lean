/-
  The values of a graph's nodes: what they are, and that they stay. Plain lemmas.
  Conditions: those typed in each theorem.
-/
import Derived.Test.YtnjedabjbeipeaaRt
namespace Go.Proofs.Ytnjedabjbeipeaa
open Go.RowKit Go.ChangeShapes Go.WideShapes
set_option linter.unusedSimpArgs false
set_option linter.unusedVariables false
set_option maxRecDepth 100000
set_option maxHeartbeats 10000000
theorem Pj {lv:List Int} {k q:Nat} {v:Int} (hk:k<lv.length):Av (lv.set k v) (q:Int)=if q=k then v else Av lv (q:Int):=by
 unfold Av;rw[Int.toNat_natCast];by_cases h:q=k
 · subst h;rw[ACf hk,if_pos rfl];rfl
 · rw[ACT (fun e=>h e.symm),if_neg h]
theorem LP {v0:List Int} {f:Nat} {ns:List Ah} {q k:Nat} (hq:q<f+k):∀ d,Av (WF v0 f ns (k+d)) (q:Int)=Av (WF v0 f ns k) (q:Int)
 | 0=>rfl
 | d+1=>by
   have ih:=LP (v0:=v0) (ns:=ns) hq d;rw[←ih];show Av ((WF v0 f ns (k+d)).set (f+(k+d)) _) (q:Int)=_;unfold Av;rw[Int.toNat_natCast,ACT (by omega)]
theorem L6 {v0:List Int} {f:Nat} {st:List Int} {q k:Nat} (hq:q<f+k):∀ d,Av (nP v0 f st (k+d)) (q:Int)=Av (nP v0 f st k) (q:Int)
 | 0=>rfl
 | d+1=>by
   have ih:=L6 (v0:=v0) (st:=st) hq d;rw[←ih];show Av ((nP v0 f st (k+d)).set (f+(k+d)) _) (q:Int)=_;unfold Av;rw[Int.toNat_natCast,ACT (by omega)]
theorem VU {N:Nat} {i:Int}:∀ k,Av (WV N i k) 0=0
 | 0=>by
   unfold WV Av;rw[List.getElem?_replicate];split<;>rfl
 | k+1=>by
   have ih:=VU (N:=N) (i:=i) k
   have e:Av ((WV N i k).set (1+k) (GF i k)) 0=Av (WV N i k) 0:=by
    show (((WV N i k).set (1+k) (GF i k))[0]?).getD 0=(((WV N i k))[0]?).getD 0;rw[ACT (by omega)]
   exact e.trans ih
section
variable {x:AB} {st:List Int} {inp:Int}
theorem OT {v:Nat} (h:v<Aa x):Av (Bu x st inp) v=Av (Wr x st inp) v:=by
 have:=LP (v0:=Wr x st inp) (f:=Aa x) (ns:=x.2.2.1) (q:=v) (k:=0) (by omega) x.2.2.1.length;rw[Nat.zero_add] at this;exact this
theorem Nd:Av (Bu x st inp) 0=0:=by
 have h0:0<Aa x:=by unfold Aa;omega
 have h1:=OT (x:=x) (st:=st) (inp:=inp) h0;have h2:=L6 (v0:=oR x inp) (f:=1+x.1.toNat) (st:=st) (q:=0) (k:=0) (by omega) st.length;rw[Nat.zero_add] at h2;have h3:Av (Wr x st inp) 0=0:=h2.trans (VU _);exact h1.trans h3
theorem Px {lv lv':List Int} {l:Int} (h:Av lv (l / 2)=Av lv' (l / 2)):AF lv l=AF lv' l:=by unfold AF;rw[h]
theorem O9 (hok:Aj x=true) {v:Nat} (h1:Aa x≤v) (h2:v<AR x):Av (Bu x st inp) v=AF (Bu x st inp) (Al x v).1*AF (Bu x st inp) (Al x v).2:=by
 obtain⟨a0,a1,a2,a3,a4,a5,a6⟩:=Cy hok h1 h2;have hN:=Bn x;obtain⟨i,rfl⟩:∃ i,v=Aa x+i:=⟨v - Aa x,by omega⟩;rw[Nat.add_sub_cancel_left] at a0;have hV:Bu x st inp=WF (Wr x st inp) (Aa x) x.2.2.1 x.2.2.1.length:=rfl;have hi:i<x.2.2.1.length:=by omega
 have s1:=LP (v0:=Wr x st inp) (f:=Aa x) (ns:=x.2.2.1) (q:=Aa x+i) (k:=i+1) (by omega) (x.2.2.1.length - (i+1));rw[show i+1+(x.2.2.1.length - (i+1))=x.2.2.1.length by omega] at s1
 have s2:∀ w,w<Aa x+i→Av (WF (Wr x st inp) (Aa x) x.2.2.1 i) (w:Int)=Av (Bu x st inp) w:=fun w hw=>by
  have:=LP (v0:=Wr x st inp) (f:=Aa x) (ns:=x.2.2.1) (q:=w) (k:=i) (by omega) (x.2.2.1.length - i);rw[show i+(x.2.2.1.length - i)=x.2.2.1.length by omega] at this;exact this.symm
 rw[hV,s1];show Av ((WF (Wr x st inp) (Aa x) x.2.2.1 i).set (Aa x+i) (AF (WF (Wr x st inp) (Aa x) x.2.2.1 i) ((x.2.2.1[i]?).getD (0,0)).1*AF (WF (Wr x st inp) (Aa x) x.2.2.1 i) ((x.2.2.1[i]?).getD (0,0)).2)) ((Aa x+i:Nat):Int)=_;rw[Pj (by rw[TQ,YJ];omega),if_pos rfl,a0,Option.getD_some,←hV];rw[Px (lv':=Bu x st inp) (by rw[a3];exact s2 _ a5),Px (l:=(Al x (Aa x+i)).2) (lv':=Bu x st inp) (by rw[a4];exact s2 _ a6)]
end
structure EP (V:List Int) (fa:Nat) (An:List Ah):Prop where
 bits:Cq V
 zero:Av V 0=0
 an:∀ (j:Nat) (p:Ah),An[j]? = some p→Av V ((fa+j:Nat):Int)=AF V p.1*AF V p.2
theorem D4 {x:AB} {st:List Int} {inp:Int} (hok:Aj x=true):EP (Bu x st inp) (Aa x) x.2.2.1:=by
 refine⟨FV,Nd,fun j p h=>?_⟩;have hj:=(zz1.1 h).1;have hN:=Bn x;have ha:Al x (Aa x+j)=p:=by unfold Al;rw[Nat.add_sub_cancel_left,h];rfl
 rw[O9 hok (by omega) (by omega),ha]
section
variable {V:List Int} (hb:Cq V)
include hb
theorem Gq {n:Int} (hn:0≤n):AF V (2*n)=Av V n:=by
 have:=G0 hb n;unfold AF;rw[show 2*n / 2=n by omega];omega
theorem FF {l:Int} (hl:0≤l):AF V (Ad l)=1 - AF V l:=by
 have h:=AU hl;have h2:=G0 hb (l / 2);unfold AF;rw[h.1];unfold Ad;split<;>omega
theorem bR {l:Int} (hl:0≤l):AF V l*AF V (Ad l)=0:=by
 rw[FF hb hl];have h:=DY V l;rcases (by omega:AF V l=0∨AF V l=1) with e|e<;>rw[e]<;>rfl
end
theorem pV {V:List Int} (_hb:Cq V) {l:Int}:AF V l*AF V l=AF V l:=by
 have h:=DY V l;rcases (by omega:AF V l=0∨AF V l=1) with e|e<;>rw[e]<;>rfl
theorem Qn {V:List Int} (h0:Av V 0=0):AF V 0=0:=by unfold AF;rw[show (0:Int) / 2=0 from rfl,h0];rfl
theorem Yh {V:List Int} (h0:Av V 0=0):AF V 1=1:=by unfold AF;rw[show (1:Int) / 2=0 from rfl,h0];rfl
theorem eQ {V:List Int} {a b:Int}:AF V (E3 a b)*AF V (Eo a b)=AF V a*AF V b:=by
 unfold E3 Eo;by_cases h1:b<a
 · rw[if_pos h1,if_neg (by omega),Int.mul_comm]
 · rw[if_neg h1];by_cases h2:a<b
   · rw[if_pos h2]
   · rw[if_neg h2,show b=a by omega]
theorem gM {an:List Ah} {x:Ah} (h:CQ an x<an.length):an[CQ an x]? = some x:=by
 unfold CQ at h ⊢;have h2:=List.findIdx_getElem (p:=fun y=>decide (y=x)) (w:=h);rw[zz0 h];exact congrArg some (ACn h2)
theorem Ji {V:List Int} {fa:Nat} {An an:List Ah} {a b:Int} (hV:EP V fa An) (hp:Ak an a b <+: An) (ha:0≤a∧a<4611686018427387904) (hb:0≤b) (h0:0≤AG fa an a b):AF V (AG fa an a b)=AF V a*AF V b:=by
 have hz:=Qn hV.zero;have ho:=Yh hV.zero;unfold AG at h0 ⊢;by_cases ht:CM a b=true
 · rw[if_pos ht];unfold Ey;split
   · rename_i h;rw[hz];rcases h with rfl|rfl|h
     · rw[hz,Int.zero_mul]
     · rw[hz,Int.mul_zero]
     · rw[A8 ha.1 ha.2] at h;rw[←h,bR hV.bits ha.1]
   · rename_i h;split
     · rename_i h2;rcases h2 with rfl|rfl
       · rw[ho,Int.one_mul]
       · rw[pV hV.bits]
     · rename_i h2
       have hb1:b=1:=by
        unfold CM at ht;simp only[Bool.or_eq_true,decide_eq_true_eq] at ht;omega
       subst hb1;rw[ho,Int.mul_one]
 · rw[if_neg ht] at h0 ⊢;by_cases hf:CQ an (E3 a b,Eo a b)<an.length
   · rw[if_pos hf] at h0 ⊢;have hm:Ak an a b=an:=by unfold Ak AV;rw[if_neg (by simp[hf])]
     rw[hm] at hp;have hat:=gM hf
     have hA:An[CQ an (E3 a b,Eo a b)]? = some (E3 a b,Eo a b):=by
      obtain⟨t,rfl⟩:=hp;rw[zz4 hf];exact hat
     have h:=hV.an _ _ hA;rw[show (fa:Int)+(CQ an (E3 a b,Eo a b):Int)=((fa+CQ an (E3 a b,Eo a b):Nat):Int) by omega,Gq hV.bits (by omega),h];exact eQ
   · rw[if_neg hf] at h0 ⊢;by_cases h3:an.length<300
     · rw[if_pos h3] at h0 ⊢
       have hm:Ak an a b=an++[(E3 a b,Eo a b)]:=by
        unfold Ak AV;rw[if_pos (by simp[hf,h3,ht])]
       rw[hm] at hp
       have hA:An[an.length]? = some (E3 a b,Eo a b):=by
        obtain⟨t,rfl⟩:=hp;rw[ACY,zz5 (Nat.le_refl _),Nat.sub_self];rfl
       have h:=hV.an _ _ hA;rw[show (fa:Int)+(an.length:Int)=((fa+an.length:Nat):Int) by omega,Gq hV.bits (by omega),h];exact eQ
     · rw[if_neg h3] at h0;omega
theorem G7 {V W:List Int} {pl:List Int} {l:Int} (hV:Cq V) (hW:Cq W) (h0:0≤Av pl (l / 2)∧Av pl (l / 2)≤1048576) (h:AF V (Av pl (l / 2))=Av W (l / 2)):AF V (Ap pl l)=AF W l:=by
 rw[Yv h0.1 h0.2];have hw:=G0 hW (l / 2);split
 · rename_i he;rw[h];unfold AF;omega
 · rename_i he;rw[FF hV h0.1,h];unfold AF;omega
theorem DW {an:List Ah} {a b:Int}:an <+: Ak an a b:=by
 unfold Ak;split
 · exact List.prefix_append _ _
 · exact List.prefix_refl _
theorem SO {x:AB} {fa skip inst:Int} {to0:List Int} {an0:List Ah} {i:Nat}:∀ d,(C4 x fa skip inst to0 an0 i).2.1 <+: (C4 x fa skip inst to0 an0 (i+d)).2.1
 | 0=>List.prefix_refl _
 | d+1=>by
   refine (SO d).trans ?_;show _ <+: (C4 x fa skip inst to0 an0 (i+d+1)).2.1;rw[C4];split
   · exact List.prefix_refl _
   · split
     · exact List.prefix_refl _
     · split
       · exact List.prefix_refl _
       · exact DW
theorem O6 {x:AB} {fa skip inst:Int} {to0:List Int} {an0:List Ah} {i:Nat}:∀ d,(C4 x fa skip inst to0 an0 (i+d)).2.2=true→(C4 x fa skip inst to0 an0 i).2.2=true
 | 0,h=>h
 | d+1,h=>by
   refine O6 d ?_;have h':(C4 x fa skip inst to0 an0 (i+d+1)).2.2=true:=h;rw[C4] at h';split at h'
   · exact h'
   · rename_i hb;simpa using hb
theorem YB {x:AB} (hok:Aj x=true) {fa:Nat} {skip inst:Int} {an0:List Ah} {An:List Ah} {V W:List Int} {n:Nat} (hn:n≤x.2.2.1.length) (hV:EP V fa An) (hW:EP W (Aa x) x.2.2.1) (hleaf:∀ v:Nat,v<Aa x→Av V v=Av W v)
 (hinst:∀ i:Nat,(i:Int)=skip→i<x.2.2.1.length→AF V inst=Av W ((Aa x+i:Nat):Int)) (hfa:0<fa∧fa≤400) (hI:∀ i,i≤n→NC fa (Aa x+i) (C4 x fa skip inst (BQ (Aa x)) an0 i))
 (hfin:(C4 x fa skip inst (BQ (Aa x)) an0 n).2.1 <+: An) (hflag:(C4 x fa skip inst (BQ (Aa x)) an0 n).2.2=true) :
 ∀ i,i≤n→∀ v:Nat,v<Aa x+i→AF V (Av (C4 x fa skip inst (BQ (Aa x)) an0 i).1 v)=Av W v
 | 0,_,v,hv=>by
   have e:Av (BQ (Aa x)) (v:Int)=2*(v:Int):=by
    unfold Av BQ;rw[Int.toNat_natCast,ACF,ACa (by omega)];rfl
   show AF V (Av (BQ (Aa x)) v)=_;rw[e,Gq hV.bits (by omega)];exact hleaf v (by omega)
 | i+1,hi,v,hv=>by
   have ih:=YB hok hn hV hW hleaf hinst hfa hI hfin hflag i (by omega);have hN:=Bn x;obtain⟨d,rfl⟩:∃ d,n=i+d:=⟨n - i,by omega⟩;obtain⟨d',rfl⟩:∃ d',d=d'+1:=⟨d - 1,by omega⟩;have hf0:=O6 (i:=i) (d'+1) hflag;have hf1:=O6 (x:=x) (fa:=fa) (skip:=skip) (inst:=inst) (to0:=BQ (Aa x)) (an0:=an0) (i:=i+1) d' (by rw[show i+1+d'=i+(d'+1) by omega];exact hflag)
   have hp1:(C4 x fa skip inst (BQ (Aa x)) an0 (i+1)).2.1 <+: An:=by
    have:=SO (x:=x) (fa:=fa) (skip:=skip) (inst:=inst) (to0:=BQ (Aa x)) (an0:=an0) (i:=i+1) d';rw[show i+1+d'=i+(d'+1) by omega] at this;exact this.trans hfin
   have hI0:=hI i (by omega);obtain⟨ha,a1,a2,a3,a4,a5,a6⟩:=Cy hok (v:=Aa x+i) (by omega) (by omega);have hwa:=hW.an i (Al x (Aa x+i)) (by rw[Nat.add_sub_cancel_left] at ha;exact ha);rw[C4,if_neg (by simp[hf0])] at hf1 hp1 ⊢;generalize C4 x fa skip inst (BQ (Aa x)) an0 i=s at *;obtain⟨to,an,b⟩:=s;simp only at hf0 hf1 hp1 ih ⊢;subst hf0;have hl:=hI0.len rfl;simp only at hl;have hpl:=fun k=>Bw hI0.pl (by simp only;omega) k;simp only at hpl;have h300:=hI0.an;simp only at h300;by_cases hs:(i:Int)=skip
   · rw[if_pos hs];simp only;by_cases hv2:v<Aa x+i
     · rw[Dy (by omega) (by omega)];exact ih v hv2
     · obtain rfl:v=Aa x+i:=by omega
       have e:Av (to++[inst]) ((Aa x+i:Nat):Int)=inst:=by
        unfold Av;rw[Int.toNat_natCast,zz5 (by omega),hl,Nat.sub_self];rfl
       rw[e];exact hinst i hs (by omega)
   · rw[if_neg hs] at hf1 hp1 ⊢;split
     · rename_i hneg;rw[if_pos hneg] at hf1;simp at hf1
     · rename_i hneg;rw[if_neg hneg] at hp1;simp only at hp1 ⊢;by_cases hv2:v<Aa x+i
       · rw[Dy (by omega) (by omega)];exact ih v hv2
       · obtain rfl:v=Aa x+i:=by omega
         have e:Av (to++[AG fa an (Ap to (Al x (Aa x+i)).1) (Ap to (Al x (Aa x+i)).2)]) ((Aa x+i:Nat):Int)=AG fa an (Ap to (Al x (Aa x+i)).1) (Ap to (Al x (Aa x+i)).2):=by
          unfold Av;rw[Int.toNat_natCast,zz5 (by omega),hl,Nat.sub_self];rfl
         have m1:AF V (Ap to (Al x (Aa x+i)).1)=AF W (Al x (Aa x+i)).1:=by
          refine G7 hV.bits hW.bits (by have:=hpl ((Al x (Aa x+i)).1 / 2);omega) ?_;rw[a3];exact ih _ a5
         have m2:AF V (Ap to (Al x (Aa x+i)).2)=AF W (Al x (Aa x+i)).2:=by
          refine G7 hV.bits hW.bits (by have:=hpl ((Al x (Aa x+i)).2 / 2);omega) ?_;rw[a4];exact ih _ a6
         have r1:=Bf (l:=(Al x (Aa x+i)).1) (hpl _) (by omega);have r2:=Bf (l:=(Al x (Aa x+i)).2) (hpl _) (by omega);rw[e,Ji hV hp1 ⟨r1.1,by omega⟩ r2.1 (by omega),m1,m2,←hwa]
def ABw (x:X):V :=
 match x with
 | .tup xs=>.tup (xs.map WP)
 | x=>WP x
theorem lY {P:Program} {w:World} {x:X} {v:Value} {F:List Nat} {G:Nat→Prop} (h:QB P w x v F) (hG:∀ g∈F,G g):fH w G x v:=by
 cases h with
 | d h =>
   obtain⟨u,hu,hr⟩:=h.rd hG 0 _ rfl;simp at hu;subst hu;exact .d hr
 | agg h=>exact .agg (h.rds hG)
theorem mD {P:Program} {w:World} {x:X} {v:Value} {F:List Nat} (h:QB P w x v F):∀ g∈F,g<w.heap.size:=by
 cases h with
 | d h=>exact h.lt
 | agg h=>exact h.lt
def XE:X→Prop
 | .tup _=>False
 | _=>True
theorem qH {w:World} {G:Nat→Prop} {x:X} {v:Value} (hx:XE x) (h:VR w G [] [] (WP x) v):fH w G x v:=by
 cases x with
 | tup xs=>exact hx.elim
 | d d=>cases h with|d h=>exact .d h
 | agg ds =>
   cases h with
   | agg hl h1 h =>
     refine .agg ⟨rfl,by simpa using hl,fun i d hd=>?_⟩;have hi:=(zz1.1 hd).1;rename_i vs;have hv:vs[i]? = some (vs[i]'(by rw[hl];simpa using hi)):=zz0 _;refine⟨_,hv,?_⟩;have:=h i (.d d) _ (by rw[ACF,hd];rfl) hv
     cases this with|d h=>exact h
theorem Zu {P:Program} {f:FuncId} {xs:List X} {r:X} (h:CI P f xs r) (hx:∀ x∈xs,XE x):BS P f (xs.map WP) [] (ABw r) []:=by
 refine⟨h.1,trivial,fun w φ Fs R hR vs hm hl hv=>?_⟩;have hφ:φ=[]:=zz7 hm.flen;have hFs:Fs=[]:=zz7 hm.Flen;subst hφ hFs;have notop:∀ b,¬ top [] [] b:=fun b ⟨s,x,c,h,_⟩=>by simp at h
 refine (h.2 w vs (by simpa using hl) fun i x v hxi hvi=>?_).mono ?_
 · have h1:=hv i (WP x) v (by rw[ACF,hxi];rfl) hvi;have h2:=qH (hx x (zz6 hxi)) h1
   cases h2 with
   | d h=>exact .d (h.mono fun b hb=>⟨hb.1,fun _=>rfl⟩)
   | agg h=>exact .agg (h.mono fun b hb=>⟨hb.1,fun _=>rfl⟩)
 · rintro e w' ⟨v,F,rfl,hres,hnd,hge,hb⟩;refine⟨v,[],[],rfl,⟨⟨hb.os,hb.tape,hb.output,hb.size,fun k hk _=>hb.block k hk⟩,fun b h=>absurd h (notop b),rfl,rfl,by simp,by simp,by simp,fun s x h F hs=>by simp at hs⟩,?_⟩;have hgood:∀ g,w.heap.size≤g→g<w'.heap.size→good R [] [] w' g:=fun g h1 h2=>⟨h2,notop g,hR rfl g (.inr h1)⟩
   have one:∀ {x:X} {v:Value} {F:List Nat},QB P w' x v F→(∀ g∈F,w.heap.size≤g)→VR w' (good R [] [] w') [] [] (WP x) v:=fun hx hF=>by
    exact iC (fun _ h=>h) (lY hx fun g hg=>hgood g (hF g hg) (mD hx g hg))
   cases hres with
   | one h1 =>
     cases r with
     | tup xs=>cases h1
     | d d=>exact one h1 hge
     | agg ds=>exact one h1 hge
   | tup hl2 hF2 h2 =>
     rename_i rs us Gs;refine .tup (by simpa using hl2) fun i x v hx hv=>?_;rw[ACF,Option.map_eq_some_iff] at hx;obtain⟨y,hy,rfl⟩:=hx;have hi:=(zz1.1 hy).1;have hG:Gs[i]? = some (Gs[i]'(by omega)):=zz0 _;exact one (h2 i y v _ hy hv hG) fun g hg=>hge g (A5 hG hg)
abbrev nI (v:Nat):Int:=v
def tdD (t:List Nat):List (List D):=(t.map nI).map (e1 Az)
@[simp] theorem ABe {t:List Nat}:(tdD t).length=t.length:=by simp[tdD]
@[simp] theorem AA5:tdD []=[]:=rfl
def wR (x:AB) (l:Int):Int:=if 0≤l / 2 - 1 - x.1∧l / 2 - 1 - x.1<x.2.1.length∧(oM x (l / 2 - 1 - x.1).toNat).1=0 then l / 2 - 1 - x.1 else -1
def yP (x:AB) (k:Int):Ah:=(x.2.2.1[k.toNat]?).getD (0,0)
def Do (pl:List Int) (s:Dl):Dl:=(s.1,s.2.1,s.2.2.map (Ap pl))
def xU (x:AB) (st:List Int) (l:Int):Int:=(Av st (wR x l)+l % 2) % 2
def vF (x:AB) (k:Int) (st:List Int):Int:=xU x st (yP x k).1*xU x st (yP x k).2
section
variable {x:AB} {st:List Int} {inp:Int}
end
section
variable {x:AB} {k:Int} {st:List Int} {inp:Int}
end
def CF (s:Dl):Dl:=(s.1,s.2.1,[])
def Xb (I:Int) (k:Nat) (xs:List Dl) (sl:List Ag):List Ag:=if k=0 then sl else sl.set 2 (.var 28 [.d (.int .i64 I),.ref 3,.nil 60,.nil 3])++[.arr 31 true (xs.map A7)]
theorem O8 (x:AB) (hx:DQ 1048576 x) (hne:0<x.2.1.length):BS Try.prog 60 [T4 x] [] (.agg [.d (.int .i64 x.1),.ref 0,.nil 60,.nil 3]) [.arr 31 true ((x.2.1.map CF).map A7)]:=by
 obtain⟨f1,f2,f3,f4⟩:=hx;refine Cv (by kernel_rfl) Try.func60 rfl rfl rfl (by simp[AZ,Later]) (by simp[Bi,Ag.live]) ?_;simp[AL];refine As [false,false,true,true,false,false,false,false,false,false,true,true,true] (fun i:Nat=>i≤x.2.1.length) (fun i:Nat=>[(12,.d (.int .i64 i))]) (fun i:Nat=>Xb x.1 i ((x.2.1.map CF).take i)) (fun i:Nat=>x.2.1.length - i) 0 ?_ ?_ ?_
 · simp
 · exact⟨[0,1,2],by simp[Xb]⟩
 rintro I S μ hI hS hμ i hi;by_cases hlt:i<x.2.1.length
 · obtain⟨s,hx1⟩:∃ s,x.2.1[i]? = some s:=⟨_,zz0 hlt⟩;have hx2:∀ h:i<x.2.1.length,x.2.1[i]'h=s:=fun h=>(zz1.1 hx1).2;have hx3:(x.2.1.map CF)[i]? = some (CF s):=by rw[ACF,hx1];rfl
   have hnx:=Bh hx3;have w2:IntKind.i64.wrap ((i:Int)+1)=(i:Int)+1:=Af (by omega) (by omega);have hll:((x.2.1.map CF).take i).length=i:=by simp;omega
   generalize (x.2.1.map CF).take i=ms at *;obtain⟨m2,hm2⟩:∃ m2,(x.2.1.map CF).take (i+1)=m2:=⟨_,rfl⟩;rw[hm2] at hnx;have hL:(A7 s).length=3:=rfl;by_cases hi0:i=0
   · subst hi0;obtain rfl:ms=[]:=zz7 hll;simp[Xb,hx1,hx2,zz2 hlt,hL,hlt,A7]
     first | refine BT (q:=1) Ct (by exact rfl) (by simp) (by exact rfl) (by exact rfl) (by simp) (by simp) (by first | (simp;done)|(simp;omega)) ?_|refine BU Ct (by exact rfl) (by simp) (by exact rfl) (by simp) (by first | (simp;done)|(simp;omega)) ?_
     simp[w2,show IntKind.i64.wrap 1=1 from rfl];exact Ae hI hS hμ 1 (by omega) (by omega) ⟨[0,1,2,5],by simp[Xb,hm2,hnx,CF,A7,e1,e3,Az,B3]⟩
   · simp[Xb,hx1,zz2 hlt,hL,hi0,A7]
     first | refine BT (q:=1) Ct (by exact rfl) (by simp) (by exact rfl) (by exact rfl) (by simp) (by simp) (by first | (simp;done)|(simp;omega)) ?_|refine BU Ct (by exact rfl) (by simp) (by exact rfl) (by simp) (by first | (simp;done)|(simp;omega)) ?_
     simp[w2];exact Ae hI hS hμ (i+1) (by omega) (by omega) ⟨[0,1,2,6],by simp[Xb,hm2,hnx,CF,A7,e1,e3,Az,B3]⟩
 · obtain rfl:i=x.2.1.length:=by omega
   have hall:(x.2.1.map CF).take x.2.1.length=x.2.1.map CF:=ACe (by simp);rw[hall];simp[Xb,hlt,show ¬ x.2.1.length=0 by omega,zz3 hlt];exact⟨[3],by simp⟩
end Go.Proofs.Ytnjedabjbeipeaa
