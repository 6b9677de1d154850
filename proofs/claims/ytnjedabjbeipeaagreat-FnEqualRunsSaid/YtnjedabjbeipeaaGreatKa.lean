/-
  The values of a graph's nodes: what they are, and that they stay. Plain lemmas.
  Conditions: those typed in each theorem.
-/
import Derived.Test.YtnjedabjbeipeaaGreatSr
namespace Go.Proofs.YtnjedabjbeipeaaGreat
open Go.RowKit Go.ChangeShapes Go.WideShapes
set_option linter.unusedSimpArgs false
set_option linter.unusedVariables false
set_option maxRecDepth 100000
set_option maxHeartbeats 10000000
theorem Qi {lv:List Int} {k q:Nat} {v:Int} (hk:k<lv.length):A1 (lv.set k v) (q:Int)=if q=k then v else A1 lv (q:Int):=by
 unfold A1;rw[Int.toNat_natCast];by_cases h:q=k
 · subst h;rw[ABo hk,if_pos rfl];rfl
 · rw[AB6 (fun e=>h e.symm),if_neg h]
theorem L6 {v0:List Int} {f:Nat} {ns:List Ai} {q k:Nat} (hq:q<f+k):∀ d,A1 (SY v0 f ns (k+d)) (q:Int)=A1 (SY v0 f ns k) (q:Int)
 | 0=>rfl
 | d+1=>by
   have ih:=L6 (v0:=v0) (ns:=ns) hq d;rw[←ih];show A1 ((SY v0 f ns (k+d)).set (f+(k+d)) _) (q:Int)=_;unfold A1;rw[Int.toNat_natCast,AB6 (by omega)]
theorem LC {v0:List Int} {f:Nat} {st:List Int} {q k:Nat} (hq:q<f+k):∀ d,A1 (Zb v0 f st (k+d)) (q:Int)=A1 (Zb v0 f st k) (q:Int)
 | 0=>rfl
 | d+1=>by
   have ih:=LC (v0:=v0) (st:=st) hq d;rw[←ih];show A1 ((Zb v0 f st (k+d)).set (f+(k+d)) _) (q:Int)=_;unfold A1;rw[Int.toNat_natCast,AB6 (by omega)]
theorem Wl {N:Nat} {i:Int}:∀ k,A1 (Tq N i k) 0=0
 | 0=>by
   unfold Tq A1;rw[List.getElem?_replicate];split<;>rfl
 | k+1=>by
   have ih:=Wl (N:=N) (i:=i) k
   have e:A1 ((Tq N i k).set (1+k) (Uz i k)) 0=A1 (Tq N i k) 0:=by
    show (((Tq N i k).set (1+k) (Uz i k))[0]?).getD 0=(((Tq N i k))[0]?).getD 0;rw[AB6 (by omega)]
   exact e.trans ih
section
variable {x:AK} {st:List Int} {inp:Int}
theorem Qo {v:Nat} (h:v<Aa x):A1 (BS x st inp) v=A1 (Wd x st inp) v:=by
 have:=L6 (v0:=Wd x st inp) (f:=Aa x) (ns:=x.2.2.1) (q:=v) (k:=0) (by omega) x.2.2.1.length;rw[Nat.zero_add] at this;exact this
theorem Ns:A1 (BS x st inp) 0=0:=by
 have h0:0<Aa x:=by unfold Aa;omega
 have h1:=Qo (x:=x) (st:=st) (inp:=inp) h0;have h2:=LC (v0:=nY x inp) (f:=1+x.1.toNat) (st:=st) (q:=0) (k:=0) (by omega) st.length;rw[Nat.zero_add] at h2;have h3:A1 (Wd x st inp) 0=0:=h2.trans (Wl _);exact h1.trans h3
theorem Qp {lv lv':List Int} {l:Int} (h:A1 lv (l / 2)=A1 lv' (l / 2)):Bc lv l=Bc lv' l:=by unfold Bc;rw[h]
theorem UH (hok:Al x=true) {v:Nat} (h1:Aa x≤v) (h2:v<A0 x):A1 (BS x st inp) v=Bc (BS x st inp) (Aj x v).1*Bc (BS x st inp) (Aj x v).2:=by
 obtain⟨a0,a1,a2,a3,a4,a5,a6⟩:=CW hok h1 h2;have hN:=Bp x;obtain⟨i,rfl⟩:∃ i,v=Aa x+i:=⟨v - Aa x,by omega⟩;rw[Nat.add_sub_cancel_left] at a0;have hV:BS x st inp=SY (Wd x st inp) (Aa x) x.2.2.1 x.2.2.1.length:=rfl;have hi:i<x.2.2.1.length:=by omega
 have s1:=L6 (v0:=Wd x st inp) (f:=Aa x) (ns:=x.2.2.1) (q:=Aa x+i) (k:=i+1) (by omega) (x.2.2.1.length - (i+1));rw[show i+1+(x.2.2.1.length - (i+1))=x.2.2.1.length by omega] at s1
 have s2:∀ w,w<Aa x+i→A1 (SY (Wd x st inp) (Aa x) x.2.2.1 i) (w:Int)=A1 (BS x st inp) w:=fun w hw=>by
  have:=L6 (v0:=Wd x st inp) (f:=Aa x) (ns:=x.2.2.1) (q:=w) (k:=i) (by omega) (x.2.2.1.length - i);rw[show i+(x.2.2.1.length - i)=x.2.2.1.length by omega] at this;exact this.symm
 rw[hV,s1];show A1 ((SY (Wd x st inp) (Aa x) x.2.2.1 i).set (Aa x+i) (Bc (SY (Wd x st inp) (Aa x) x.2.2.1 i) ((x.2.2.1[i]?).getD (0,0)).1*Bc (SY (Wd x st inp) (Aa x) x.2.2.1 i) ((x.2.2.1[i]?).getD (0,0)).2)) ((Aa x+i:Nat):Int)=_;rw[Qi (by rw[OO,Zk];omega),if_pos rfl,a0,Option.getD_some,←hV];rw[Qp (lv':=BS x st inp) (by rw[a3];exact s2 _ a5),Qp (l:=(Aj x (Aa x+i)).2) (lv':=BS x st inp) (by rw[a4];exact s2 _ a6)]
end
structure KQ (V:List Int) (fa:Nat) (An:List Ai):Prop where
 bits:CX V
 zero:A1 V 0=0
 an:∀ (j:Nat) (p:Ai),An[j]? = some p→A1 V ((fa+j:Nat):Int)=Bc V p.1*Bc V p.2
theorem MX {x:AK} {st:List Int} {inp:Int} (hok:Al x=true):KQ (BS x st inp) (Aa x) x.2.2.1:=by
 refine⟨Jk,Ns,fun j p h=>?_⟩;have hj:=(zz1.1 h).1;have hN:=Bp x;have ha:Aj x (Aa x+j)=p:=by unfold Aj;rw[Nat.add_sub_cancel_left,h];rfl
 rw[UH hok (by omega) (by omega),ha]
section
variable {V:List Int} (hb:CX V)
include hb
theorem PC {n:Int} (hn:0≤n):Bc V (2*n)=A1 V n:=by
 have:=KJ hb n;unfold Bc;rw[show 2*n / 2=n by omega];omega
theorem Hq {l:Int} (hl:0≤l):Bc V (Af l)=1 - Bc V l:=by
 have h:=Bb hl;have h2:=KJ hb (l / 2);unfold Bc;rw[h.1];unfold Af;split<;>omega
theorem aE {l:Int} (hl:0≤l):Bc V l*Bc V (Af l)=0:=by
 rw[Hq hb hl];have h:=Dw V l;rcases (by omega:Bc V l=0∨Bc V l=1) with e|e<;>rw[e]<;>rfl
end
theorem oW {V:List Int} (_hb:CX V) {l:Int}:Bc V l*Bc V l=Bc V l:=by
 have h:=Dw V l;rcases (by omega:Bc V l=0∨Bc V l=1) with e|e<;>rw[e]<;>rfl
theorem U0 {V:List Int} (h0:A1 V 0=0):Bc V 0=0:=by unfold Bc;rw[show (0:Int) / 2=0 from rfl,h0];rfl
theorem lH {V:List Int} (h0:A1 V 0=0):Bc V 1=1:=by unfold Bc;rw[show (1:Int) / 2=0 from rfl,h0];rfl
theorem jR {V:List Int} {a b:Int}:Bc V (HN a b)*Bc V (GD a b)=Bc V a*Bc V b:=by
 unfold HN GD;by_cases h1:b<a
 · rw[if_pos h1,if_neg (by omega),Int.mul_comm]
 · rw[if_neg h1];by_cases h2:a<b
   · rw[if_pos h2]
   · rw[if_neg h2,show b=a by omega]
theorem eP {an:List Ai} {x:Ai} (h:Ey an x<an.length):an[Ey an x]? = some x:=by
 unfold Ey at h ⊢;have h2:=List.findIdx_getElem (p:=fun y=>decide (y=x)) (w:=h);rw[zz0 h];exact congrArg some (ABp h2)
theorem OP {V:List Int} {fa:Nat} {An an:List Ai} {a b:Int} (hV:KQ V fa An) (hp:Ar an a b <+: An) (ha:0≤a∧a<4611686018427387904) (hb:0≤b) (h0:0≤AZ fa an a b):Bc V (AZ fa an a b)=Bc V a*Bc V b:=by
 have hz:=U0 hV.zero;have ho:=lH hV.zero;unfold AZ at h0 ⊢;by_cases ht:En a b=true
 · rw[if_pos ht];unfold E9;split
   · rename_i h;rw[hz];rcases h with rfl|rfl|h
     · rw[hz,Int.zero_mul]
     · rw[hz,Int.mul_zero]
     · rw[Bo ha.1 ha.2] at h;rw[←h,aE hV.bits ha.1]
   · rename_i h;split
     · rename_i h2;rcases h2 with rfl|rfl
       · rw[ho,Int.one_mul]
       · rw[oW hV.bits]
     · rename_i h2
       have hb1:b=1:=by
        unfold En at ht;simp only[Bool.or_eq_true,decide_eq_true_eq] at ht;omega
       subst hb1;rw[ho,Int.mul_one]
 · rw[if_neg ht] at h0 ⊢;by_cases hf:Ey an (HN a b,GD a b)<an.length
   · rw[if_pos hf] at h0 ⊢;have hm:Ar an a b=an:=by unfold Ar A8;rw[if_neg (by simp[hf])]
     rw[hm] at hp;have hat:=eP hf
     have hA:An[Ey an (HN a b,GD a b)]? = some (HN a b,GD a b):=by
      obtain⟨t,rfl⟩:=hp;rw[zz4 hf];exact hat
     have h:=hV.an _ _ hA;rw[show (fa:Int)+(Ey an (HN a b,GD a b):Int)=((fa+Ey an (HN a b,GD a b):Nat):Int) by omega,PC hV.bits (by omega),h];exact jR
   · rw[if_neg hf] at h0 ⊢;by_cases h3:an.length<300
     · rw[if_pos h3] at h0 ⊢
       have hm:Ar an a b=an++[(HN a b,GD a b)]:=by
        unfold Ar A8;rw[if_pos (by simp[hf,h3,ht])]
       rw[hm] at hp
       have hA:An[an.length]? = some (HN a b,GD a b):=by
        obtain⟨t,rfl⟩:=hp;rw[AB2,zz5 (Nat.le_refl _),Nat.sub_self];rfl
       have h:=hV.an _ _ hA;rw[show (fa:Int)+(an.length:Int)=((fa+an.length:Nat):Int) by omega,PC hV.bits (by omega),h];exact jR
     · rw[if_neg h3] at h0;omega
theorem TD {V W:List Int} {pl:List Int} {l:Int} (hV:CX V) (hW:CX W) (h0:0≤A1 pl (l / 2)∧A1 pl (l / 2)≤1048576) (h:Bc V (A1 pl (l / 2))=A1 W (l / 2)):Bc V (Aq pl l)=Bc W l:=by
 rw[Y5 h0.1 h0.2];have hw:=KJ hW (l / 2);split
 · rename_i he;rw[h];unfold Bc;omega
 · rename_i he;rw[Hq hV h0.1,h];unfold Bc;omega
theorem G6 {an:List Ai} {a b:Int}:an <+: Ar an a b:=by
 unfold Ar;split
 · exact List.prefix_append _ _
 · exact List.prefix_refl _
theorem Uh {x:AK} {fa skip inst:Int} {to0:List Int} {an0:List Ai} {i:Nat}:∀ d,(B0 x fa skip inst to0 an0 i).2.1 <+: (B0 x fa skip inst to0 an0 (i+d)).2.1
 | 0=>List.prefix_refl _
 | d+1=>by
   refine (Uh d).trans ?_;show _ <+: (B0 x fa skip inst to0 an0 (i+d+1)).2.1;rw[B0];split
   · exact List.prefix_refl _
   · split
     · exact List.prefix_refl _
     · split
       · exact List.prefix_refl _
       · exact G6
theorem Qx {x:AK} {fa skip inst:Int} {to0:List Int} {an0:List Ai} {i:Nat}:∀ d,(B0 x fa skip inst to0 an0 (i+d)).2.2=true→(B0 x fa skip inst to0 an0 i).2.2=true
 | 0,h=>h
 | d+1,h=>by
   refine Qx d ?_;have h':(B0 x fa skip inst to0 an0 (i+d+1)).2.2=true:=h;rw[B0] at h';split at h'
   · exact h'
   · rename_i hb;simpa using hb
theorem YB {x:AK} (hok:Al x=true) {fa:Nat} {skip inst:Int} {an0:List Ai} {An:List Ai} {V W:List Int} {n:Nat} (hn:n≤x.2.2.1.length) (hV:KQ V fa An) (hW:KQ W (Aa x) x.2.2.1) (hleaf:∀ v:Nat,v<Aa x→A1 V v=A1 W v)
 (hinst:∀ i:Nat,(i:Int)=skip→i<x.2.2.1.length→Bc V inst=A1 W ((Aa x+i:Nat):Int)) (hfa:0<fa∧fa≤400) (hI:∀ i,i≤n→Jr fa (Aa x+i) (B0 x fa skip inst (BB (Aa x)) an0 i))
 (hfin:(B0 x fa skip inst (BB (Aa x)) an0 n).2.1 <+: An) (hflag:(B0 x fa skip inst (BB (Aa x)) an0 n).2.2=true) :
 ∀ i,i≤n→∀ v:Nat,v<Aa x+i→Bc V (A1 (B0 x fa skip inst (BB (Aa x)) an0 i).1 v)=A1 W v
 | 0,_,v,hv=>by
   have e:A1 (BB (Aa x)) (v:Int)=2*(v:Int):=by
    unfold A1 BB;rw[Int.toNat_natCast,ABz,ABi (by omega)];rfl
   show Bc V (A1 (BB (Aa x)) v)=_;rw[e,PC hV.bits (by omega)];exact hleaf v (by omega)
 | i+1,hi,v,hv=>by
   have ih:=YB hok hn hV hW hleaf hinst hfa hI hfin hflag i (by omega);have hN:=Bp x;obtain⟨d,rfl⟩:∃ d,n=i+d:=⟨n - i,by omega⟩;obtain⟨d',rfl⟩:∃ d',d=d'+1:=⟨d - 1,by omega⟩;have hf0:=Qx (i:=i) (d'+1) hflag;have hf1:=Qx (x:=x) (fa:=fa) (skip:=skip) (inst:=inst) (to0:=BB (Aa x)) (an0:=an0) (i:=i+1) d' (by rw[show i+1+d'=i+(d'+1) by omega];exact hflag)
   have hp1:(B0 x fa skip inst (BB (Aa x)) an0 (i+1)).2.1 <+: An:=by
    have:=Uh (x:=x) (fa:=fa) (skip:=skip) (inst:=inst) (to0:=BB (Aa x)) (an0:=an0) (i:=i+1) d';rw[show i+1+d'=i+(d'+1) by omega] at this;exact this.trans hfin
   have hI0:=hI i (by omega);obtain⟨ha,a1,a2,a3,a4,a5,a6⟩:=CW hok (v:=Aa x+i) (by omega) (by omega);have hwa:=hW.an i (Aj x (Aa x+i)) (by rw[Nat.add_sub_cancel_left] at ha;exact ha);rw[B0,if_neg (by simp[hf0])] at hf1 hp1 ⊢;generalize B0 x fa skip inst (BB (Aa x)) an0 i=s at *;obtain⟨to,an,b⟩:=s;simp only at hf0 hf1 hp1 ih ⊢;subst hf0;have hl:=hI0.len rfl;simp only at hl;have hpl:=fun k=>BH hI0.pl (by simp only;omega) k;simp only at hpl;have h300:=hI0.an;simp only at h300;by_cases hs:(i:Int)=skip
   · rw[if_pos hs];simp only;by_cases hv2:v<Aa x+i
     · rw[Lg (by omega) (by omega)];exact ih v hv2
     · obtain rfl:v=Aa x+i:=by omega
       have e:A1 (to++[inst]) ((Aa x+i:Nat):Int)=inst:=by
        unfold A1;rw[Int.toNat_natCast,zz5 (by omega),hl,Nat.sub_self];rfl
       rw[e];exact hinst i hs (by omega)
   · rw[if_neg hs] at hf1 hp1 ⊢;split
     · rename_i hneg;rw[if_pos hneg] at hf1;simp at hf1
     · rename_i hneg;rw[if_neg hneg] at hp1;simp only at hp1 ⊢;by_cases hv2:v<Aa x+i
       · rw[Lg (by omega) (by omega)];exact ih v hv2
       · obtain rfl:v=Aa x+i:=by omega
         have e:A1 (to++[AZ fa an (Aq to (Aj x (Aa x+i)).1) (Aq to (Aj x (Aa x+i)).2)]) ((Aa x+i:Nat):Int)=AZ fa an (Aq to (Aj x (Aa x+i)).1) (Aq to (Aj x (Aa x+i)).2):=by
          unfold A1;rw[Int.toNat_natCast,zz5 (by omega),hl,Nat.sub_self];rfl
         have m1:Bc V (Aq to (Aj x (Aa x+i)).1)=Bc W (Aj x (Aa x+i)).1:=by
          refine TD hV.bits hW.bits (by have:=hpl ((Aj x (Aa x+i)).1 / 2);omega) ?_;rw[a3];exact ih _ a5
         have m2:Bc V (Aq to (Aj x (Aa x+i)).2)=Bc W (Aj x (Aa x+i)).2:=by
          refine TD hV.bits hW.bits (by have:=hpl ((Aj x (Aa x+i)).2 / 2);omega) ?_;rw[a4];exact ih _ a6
         have r1:=Bn (l:=(Aj x (Aa x+i)).1) (hpl _) (by omega);have r2:=Bn (l:=(Aj x (Aa x+i)).2) (hpl _) (by omega);rw[e,OP hV hp1 ⟨r1.1,by omega⟩ r2.1 (by omega),m1,m2,←hwa]
end Go.Proofs.YtnjedabjbeipeaaGreat
