/-
  The values of a graph's nodes: what they are, and that they stay. Plain lemmas.
  Conditions: those typed in each theorem.
-/
import Derived.Test.YtnjedabjbeipeaaGreatSr
namespace Go.Proofs.YtnjedabjbeipeaaGreat
open Go.RowKit Go.ChangeShapes Go.WideShapes
set_option linter.unusedSimpArgs false
set_option linter.unusedVariables false
set_option maxRecDepth 100000
set_option maxHeartbeats 10000000
theorem Ry {lv:List Int} {k q:Nat} {v:Int} (hk:k<lv.length):A3 (lv.set k v) (q:Int)=if q=k then v else A3 lv (q:Int):=by
 unfold A3;rw[Int.toNat_natCast];by_cases h:q=k
 · subst h;rw[GJ hk,if_pos rfl];rfl
 · rw[Eh (fun e=>h e.symm),if_neg h]
theorem MI {v0:List Int} {f:Nat} {ns:List Ai} {q k:Nat} (hq:q<f+k):∀ d,A3 (Tk v0 f ns (k+d)) (q:Int)=A3 (Tk v0 f ns k) (q:Int)
 | 0=>rfl
 | d+1=>by
   have ih:=MI (v0:=v0) (ns:=ns) hq d;rw[←ih];show A3 ((Tk v0 f ns (k+d)).set (f+(k+d)) _) (q:Int)=_;unfold A3;rw[Int.toNat_natCast,Eh (by omega)]
theorem MS {v0:List Int} {f:Nat} {st:List Int} {q k:Nat} (hq:q<f+k):∀ d,A3 (ZZ v0 f st (k+d)) (q:Int)=A3 (ZZ v0 f st k) (q:Int)
 | 0=>rfl
 | d+1=>by
   have ih:=MS (v0:=v0) (st:=st) hq d;rw[←ih];show A3 ((ZZ v0 f st (k+d)).set (f+(k+d)) _) (q:Int)=_;unfold A3;rw[Int.toNat_natCast,Eh (by omega)]
theorem Wc {N:Nat} {i:Int}:∀ k,A3 (T9 N i k) 0=0
 | 0=>by
   unfold T9 A3;rw[List.getElem?_replicate];split<;>rfl
 | k+1=>by
   have ih:=Wc (N:=N) (i:=i) k
   have e:A3 ((T9 N i k).set (1+k) (Xk i k)) 0=A3 (T9 N i k) 0:=by
    show (((T9 N i k).set (1+k) (Xk i k))[0]?).getD 0=(((T9 N i k))[0]?).getD 0;rw[Eh (by omega)]
   exact e.trans ih
section
variable {x:AK} {st:List Int} {inp:Int}
theorem Rw {v:Nat} (h:v<Aa x):A3 (BV x st inp) v=A3 (VW x st inp) v:=by
 have:=MI (v0:=VW x st inp) (f:=Aa x) (ns:=x.2.2.1) (q:=v) (k:=0) (by omega) x.2.2.1.length;rw[Nat.zero_add] at this;exact this
theorem Nq:A3 (BV x st inp) 0=0:=by
 have h0:0<Aa x:=by unfold Aa;omega
 have h1:=Rw (x:=x) (st:=st) (inp:=inp) h0;have h2:=MS (v0:=oV x inp) (f:=1+x.1.toNat) (st:=st) (q:=0) (k:=0) (by omega) st.length;rw[Nat.zero_add] at h2;have h3:A3 (VW x st inp) 0=0:=h2.trans (Wc _);exact h1.trans h3
theorem Qr {lv lv':List Int} {l:Int} (h:A3 lv (l / 2)=A3 lv' (l / 2)):Be lv l=Be lv' l:=by unfold Be;rw[h]
theorem Wn (hok:Al x=true) {v:Nat} (h1:Aa x≤v) (h2:v<A0 x):A3 (BV x st inp) v=Be (BV x st inp) (Aj x v).1*Be (BV x st inp) (Aj x v).2:=by
 obtain⟨a0,a1,a2,a3,a4,a5,a6⟩:=C3 hok h1 h2;have hN:=Br x;obtain⟨i,rfl⟩:∃ i,v=Aa x+i:=⟨v - Aa x,by omega⟩;rw[Nat.add_sub_cancel_left] at a0;have hV:BV x st inp=Tk (VW x st inp) (Aa x) x.2.2.1 x.2.2.1.length:=rfl;have hi:i<x.2.2.1.length:=by omega
 have s1:=MI (v0:=VW x st inp) (f:=Aa x) (ns:=x.2.2.1) (q:=Aa x+i) (k:=i+1) (by omega) (x.2.2.1.length - (i+1));rw[show i+1+(x.2.2.1.length - (i+1))=x.2.2.1.length by omega] at s1
 have s2:∀ w,w<Aa x+i→A3 (Tk (VW x st inp) (Aa x) x.2.2.1 i) (w:Int)=A3 (BV x st inp) w:=fun w hw=>by
  have:=MI (v0:=VW x st inp) (f:=Aa x) (ns:=x.2.2.1) (q:=w) (k:=i) (by omega) (x.2.2.1.length - i);rw[show i+(x.2.2.1.length - i)=x.2.2.1.length by omega] at this;exact this.symm
 rw[hV,s1];show A3 ((Tk (VW x st inp) (Aa x) x.2.2.1 i).set (Aa x+i) (Be (Tk (VW x st inp) (Aa x) x.2.2.1 i) ((x.2.2.1[i]?).getD (0,0)).1*Be (Tk (VW x st inp) (Aa x) x.2.2.1 i) ((x.2.2.1[i]?).getD (0,0)).2)) ((Aa x+i:Nat):Int)=_;rw[Ry (by rw[Px,Z0];omega),if_pos rfl,a0,Option.getD_some,←hV];rw[Qr (lv':=BV x st inp) (by rw[a3];exact s2 _ a5),Qr (l:=(Aj x (Aa x+i)).2) (lv':=BV x st inp) (by rw[a4];exact s2 _ a6)]
end
structure Lp (V:List Int) (fa:Nat) (An:List Ai):Prop where
 bits:C5 V
 zero:A3 V 0=0
 an:∀ (j:Nat) (p:Ai),An[j]? = some p→A3 V ((fa+j:Nat):Int)=Be V p.1*Be V p.2
theorem Nv {x:AK} {st:List Int} {inp:Int} (hok:Al x=true):Lp (BV x st inp) (Aa x) x.2.2.1:=by
 refine⟨JM,Nq,fun j p h=>?_⟩;have hj:=(BZ.1 h).1;have hN:=Br x;have ha:Aj x (Aa x+j)=p:=by unfold Aj;rw[Nat.add_sub_cancel_left,h];rfl
 rw[Wn hok (by omega) (by omega),ha]
section
variable {V:List Int} (hb:C5 V)
include hb
theorem PH {n:Int} (hn:0≤n):Be V (2*n)=A3 V n:=by
 have:=K9 hb n;unfold Be;rw[show 2*n / 2=n by omega];omega
theorem HR {l:Int} (hl:0≤l):Be V (Af l)=1 - Be V l:=by
 have h:=Bd hl;have h2:=K9 hb (l / 2);unfold Be;rw[h.1];unfold Af;split<;>omega
theorem cA {l:Int} (hl:0≤l):Be V l*Be V (Af l)=0:=by
 rw[HR hb hl];have h:=DF V l;rcases (by omega:Be V l=0∨Be V l=1) with e|e<;>rw[e]<;>rfl
end
theorem qG {V:List Int} (_hb:C5 V) {l:Int}:Be V l*Be V l=Be V l:=by
 have h:=DF V l;rcases (by omega:Be V l=0∨Be V l=1) with e|e<;>rw[e]<;>rfl
theorem Xt {V:List Int} (h0:A3 V 0=0):Be V 0=0:=by unfold Be;rw[show (0:Int) / 2=0 from rfl,h0];rfl
theorem nH {V:List Int} (h0:A3 V 0=0):Be V 1=1:=by unfold Be;rw[show (1:Int) / 2=0 from rfl,h0];rfl
theorem eT {V:List Int} {a b:Int}:Be V (Ie a b)*Be V (Hb a b)=Be V a*Be V b:=by
 unfold Ie Hb;by_cases h1:b<a
 · rw[if_pos h1,if_neg (by omega),Int.mul_comm]
 · rw[if_neg h1];by_cases h2:a<b
   · rw[if_pos h2]
   · rw[if_neg h2,show b=a by omega]
theorem eW {an:List Ai} {x:Ai} (h:EN an x<an.length):an[EN an x]? = some x:=by
 unfold EN at h ⊢;have h2:=List.findIdx_getElem (p:=fun y=>decide (y=x)) (w:=h);rw[A1 h];exact congrArg some (Wu h2)
theorem Pp {V:List Int} {fa:Nat} {An an:List Ai} {a b:Int} (hV:Lp V fa An) (hp:Ar an a b <+: An) (ha:0≤a∧a<4611686018427387904) (hb:0≤b) (h0:0≤AZ fa an a b):Be V (AZ fa an a b)=Be V a*Be V b:=by
 have hz:=Xt hV.zero;have ho:=nH hV.zero;unfold AZ at h0 ⊢;by_cases ht:ED a b=true
 · rw[if_pos ht];unfold Fu;split
   · rename_i h;rw[hz];rcases h with rfl|rfl|h
     · rw[hz,Int.zero_mul]
     · rw[hz,Int.mul_zero]
     · rw[Bq ha.1 ha.2] at h;rw[←h,cA hV.bits ha.1]
   · rename_i h;split
     · rename_i h2;rcases h2 with rfl|rfl
       · rw[ho,Int.one_mul]
       · rw[qG hV.bits]
     · rename_i h2
       have hb1:b=1:=by
        unfold ED at ht;simp only[Bool.or_eq_true,decide_eq_true_eq] at ht;omega
       subst hb1;rw[ho,Int.mul_one]
 · rw[if_neg ht] at h0 ⊢;by_cases hf:EN an (Ie a b,Hb a b)<an.length
   · rw[if_pos hf] at h0 ⊢;have hm:Ar an a b=an:=by unfold Ar Ba;rw[if_neg (by simp[hf])]
     rw[hm] at hp;have hat:=eW hf
     have hA:An[EN an (Ie a b,Hb a b)]? = some (Ie a b,Hb a b):=by
      obtain⟨t,rfl⟩:=hp;rw[DZ hf];exact hat
     have h:=hV.an _ _ hA;rw[show (fa:Int)+(EN an (Ie a b,Hb a b):Int)=((fa+EN an (Ie a b,Hb a b):Nat):Int) by omega,PH hV.bits (by omega),h];exact eT
   · rw[if_neg hf] at h0 ⊢;by_cases h3:an.length<300
     · rw[if_pos h3] at h0 ⊢
       have hm:Ar an a b=an++[(Ie a b,Hb a b)]:=by
        unfold Ar Ba;rw[if_pos (by simp[hf,h3,ht])]
       rw[hm] at hp
       have hA:An[an.length]? = some (Ie a b,Hb a b):=by
        obtain⟨t,rfl⟩:=hp;rw[FA,ET (Nat.le_refl _),Nat.sub_self];rfl
       have h:=hV.an _ _ hA;rw[show (fa:Int)+(an.length:Int)=((fa+an.length:Nat):Int) by omega,PH hV.bits (by omega),h];exact eT
     · rw[if_neg h3] at h0;omega
theorem Uu {V W:List Int} {pl:List Int} {l:Int} (hV:C5 V) (hW:C5 W) (h0:0≤A3 pl (l / 2)∧A3 pl (l / 2)≤1048576) (h:Be V (A3 pl (l / 2))=A3 W (l / 2)):Be V (Aq pl l)=Be W l:=by
 rw[Za h0.1 h0.2];have hw:=K9 hW (l / 2);split
 · rename_i he;rw[h];unfold Be;omega
 · rename_i he;rw[HR hV h0.1,h];unfold Be;omega
theorem HE {an:List Ai} {a b:Int}:an <+: Ar an a b:=by
 unfold Ar;split
 · exact List.prefix_append _ _
 · exact List.prefix_refl _
theorem Uk {x:AK} {fa skip inst:Int} {to0:List Int} {an0:List Ai} {i:Nat}:∀ d,(B5 x fa skip inst to0 an0 i).2.1 <+: (B5 x fa skip inst to0 an0 (i+d)).2.1
 | 0=>List.prefix_refl _
 | d+1=>by
   refine (Uk d).trans ?_;show _ <+: (B5 x fa skip inst to0 an0 (i+d+1)).2.1;rw[B5];split
   · exact List.prefix_refl _
   · split
     · exact List.prefix_refl _
     · split
       · exact List.prefix_refl _
       · exact HE
theorem Qj {x:AK} {fa skip inst:Int} {to0:List Int} {an0:List Ai} {i:Nat}:∀ d,(B5 x fa skip inst to0 an0 (i+d)).2.2=true→(B5 x fa skip inst to0 an0 i).2.2=true
 | 0,h=>h
 | d+1,h=>by
   refine Qj d ?_;have h':(B5 x fa skip inst to0 an0 (i+d+1)).2.2=true:=h;rw[B5] at h';split at h'
   · exact h'
   · rename_i hb;simpa using hb
theorem Zy {x:AK} (hok:Al x=true) {fa:Nat} {skip inst:Int} {an0:List Ai} {An:List Ai} {V W:List Int} {n:Nat} (hn:n≤x.2.2.1.length) (hV:Lp V fa An) (hW:Lp W (Aa x) x.2.2.1) (hleaf:∀ v:Nat,v<Aa x→A3 V v=A3 W v)
 (hinst:∀ i:Nat,(i:Int)=skip→i<x.2.2.1.length→Be V inst=A3 W ((Aa x+i:Nat):Int)) (hfa:0<fa∧fa≤400) (hI:∀ i,i≤n→JS fa (Aa x+i) (B5 x fa skip inst (BD (Aa x)) an0 i))
 (hfin:(B5 x fa skip inst (BD (Aa x)) an0 n).2.1 <+: An) (hflag:(B5 x fa skip inst (BD (Aa x)) an0 n).2.2=true) :
 ∀ i,i≤n→∀ v:Nat,v<Aa x+i→Be V (A3 (B5 x fa skip inst (BD (Aa x)) an0 i).1 v)=A3 W v
 | 0,_,v,hv=>by
   have e:A3 (BD (Aa x)) (v:Int)=2*(v:Int):=by
    unfold A3 BD;rw[Int.toNat_natCast,Di,Yx (by omega)];rfl
   show Be V (A3 (BD (Aa x)) v)=_;rw[e,PH hV.bits (by omega)];exact hleaf v (by omega)
 | i+1,hi,v,hv=>by
   have ih:=Zy hok hn hV hW hleaf hinst hfa hI hfin hflag i (by omega);have hN:=Br x;obtain⟨d,rfl⟩:∃ d,n=i+d:=⟨n - i,by omega⟩;obtain⟨d',rfl⟩:∃ d',d=d'+1:=⟨d - 1,by omega⟩;have hf0:=Qj (i:=i) (d'+1) hflag;have hf1:=Qj (x:=x) (fa:=fa) (skip:=skip) (inst:=inst) (to0:=BD (Aa x)) (an0:=an0) (i:=i+1) d' (by rw[show i+1+d'=i+(d'+1) by omega];exact hflag)
   have hp1:(B5 x fa skip inst (BD (Aa x)) an0 (i+1)).2.1 <+: An:=by
    have:=Uk (x:=x) (fa:=fa) (skip:=skip) (inst:=inst) (to0:=BD (Aa x)) (an0:=an0) (i:=i+1) d';rw[show i+1+d'=i+(d'+1) by omega] at this;exact this.trans hfin
   have hI0:=hI i (by omega);obtain⟨ha,a1,a2,a3,a4,a5,a6⟩:=C3 hok (v:=Aa x+i) (by omega) (by omega);have hwa:=hW.an i (Aj x (Aa x+i)) (by rw[Nat.add_sub_cancel_left] at ha;exact ha);rw[B5,if_neg (by simp[hf0])] at hf1 hp1 ⊢;generalize B5 x fa skip inst (BD (Aa x)) an0 i=s at *;obtain⟨to,an,b⟩:=s;simp only at hf0 hf1 hp1 ih ⊢;subst hf0;have hl:=hI0.len rfl;simp only at hl;have hpl:=fun k=>BK hI0.pl (by simp only;omega) k;simp only at hpl;have h300:=hI0.an;simp only at h300;by_cases hs:(i:Int)=skip
   · rw[if_pos hs];simp only;by_cases hv2:v<Aa x+i
     · rw[LP (by omega) (by omega)];exact ih v hv2
     · obtain rfl:v=Aa x+i:=by omega
       have e:A3 (to++[inst]) ((Aa x+i:Nat):Int)=inst:=by
        unfold A3;rw[Int.toNat_natCast,ET (by omega),hl,Nat.sub_self];rfl
       rw[e];exact hinst i hs (by omega)
   · rw[if_neg hs] at hf1 hp1 ⊢;split
     · rename_i hneg;rw[if_pos hneg] at hf1;simp at hf1
     · rename_i hneg;rw[if_neg hneg] at hp1;simp only at hp1 ⊢;by_cases hv2:v<Aa x+i
       · rw[LP (by omega) (by omega)];exact ih v hv2
       · obtain rfl:v=Aa x+i:=by omega
         have e:A3 (to++[AZ fa an (Aq to (Aj x (Aa x+i)).1) (Aq to (Aj x (Aa x+i)).2)]) ((Aa x+i:Nat):Int)=AZ fa an (Aq to (Aj x (Aa x+i)).1) (Aq to (Aj x (Aa x+i)).2):=by
          unfold A3;rw[Int.toNat_natCast,ET (by omega),hl,Nat.sub_self];rfl
         have m1:Be V (Aq to (Aj x (Aa x+i)).1)=Be W (Aj x (Aa x+i)).1:=by
          refine Uu hV.bits hW.bits (by have:=hpl ((Aj x (Aa x+i)).1 / 2);omega) ?_;rw[a3];exact ih _ a5
         have m2:Be V (Aq to (Aj x (Aa x+i)).2)=Be W (Aj x (Aa x+i)).2:=by
          refine Uu hV.bits hW.bits (by have:=hpl ((Aj x (Aa x+i)).2 / 2);omega) ?_;rw[a4];exact ih _ a6
         have r1:=Bp (l:=(Aj x (Aa x+i)).1) (hpl _) (by omega);have r2:=Bp (l:=(Aj x (Aa x+i)).2) (hpl _) (by omega);rw[e,Pp hV hp1 ⟨r1.1,by omega⟩ r2.1 (by omega),m1,m2,←hwa]
end Go.Proofs.YtnjedabjbeipeaaGreat
