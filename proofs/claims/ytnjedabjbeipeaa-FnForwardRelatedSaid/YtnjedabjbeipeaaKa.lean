/-
  The values of a graph's nodes: what they are, and that they stay. Plain lemmas.
  Conditions: those typed in each theorem.
-/
import Derived.Test.YtnjedabjbeipeaaNy
import Derived.Test.YtnjedabjbeipeaaRa
namespace Go.Proofs.Ytnjedabjbeipeaa
open Go.RowKit Go.ChangeShapes Go.WideShapes
set_option linter.unusedVariables false
set_option linter.unusedSimpArgs false
theorem atI_setn {lv:List Int} {k q:Nat} {v:Int} (hk:k<lv.length):atI (lv.set k v) (q:Int)=if q=k then v else atI lv (q:Int):=by
 unfold atI
 rw[Int.toNat_natCast]
 by_cases h:q=k
 · subst h;rw[List.getElem?_set_self hk,if_pos rfl];rfl
 · rw[List.getElem?_set_ne (fun e=>h e.symm),if_neg h]
theorem anK_stay {v0:List Int} {f:Nat} {ns:List AndD} {q k:Nat} (hq:q<f+k):∀ d,atI (anK v0 f ns (k+d)) (q:Int)=atI (anK v0 f ns k) (q:Int)
 | 0=>rfl
 | d+1=>by
   have ih:=anK_stay (v0:=v0) (ns:=ns) hq d
   rw[←ih]
   show atI ((anK v0 f ns (k+d)).set (f+(k+d)) _) (q:Int)=_
   unfold atI
   rw[Int.toNat_natCast,List.getElem?_set_ne (by omega)]
theorem stK_stay {v0:List Int} {f:Nat} {st:List Int} {q k:Nat} (hq:q<f+k):∀ d,atI (stK v0 f st (k+d)) (q:Int)=atI (stK v0 f st k) (q:Int)
 | 0=>rfl
 | d+1=>by
   have ih:=stK_stay (v0:=v0) (st:=st) hq d
   rw[←ih]
   show atI ((stK v0 f st (k+d)).set (f+(k+d)) _) (q:Int)=_
   unfold atI
   rw[Int.toNat_natCast,List.getElem?_set_ne (by omega)]
theorem inK_two {N M:Nat} {i:Int} {F:Nat} (hN:F≤N) (hM:F≤M):∀ k,k<F→∀ q:Nat,q<F→atI (inK N i k) q=atI (inK M i k) q
 | 0,_,q,hq=>by
   unfold inK atI
   rw[Int.toNat_natCast,List.getElem?_replicate,List.getElem?_replicate,if_pos (by omega),if_pos (by omega)]
 | k+1,hk,q,hq=>by
   have ih:=inK_two (i:=i) hN hM k (by omega) q hq
   show atI ((inK N i k).set (1+k) (bit i k)) q=atI ((inK M i k).set (1+k) (bit i k)) q
   rw[atI_setn (by rw[inK_len];omega),atI_setn (by rw[inK_len];omega),ih]
theorem inK_zero {N:Nat} {i:Int}:∀ k,atI (inK N i k) 0=0
 | 0=>by
   unfold inK atI
   rw[List.getElem?_replicate]
   split<;>rfl
 | k+1=>by
   have ih:=inK_zero (N:=N) (i:=i) k
   have e:atI ((inK N i k).set (1+k) (bit i k)) 0=atI (inK N i k) 0:=by
    show (((inK N i k).set (1+k) (bit i k))[0]?).getD 0=(((inK N i k))[0]?).getD 0
    rw[List.getElem?_set_ne (by omega)]
   exact e.trans ih
theorem stK_two {v0 w0:List Int} {f F:Nat} {st:List Int} (hv:F≤v0.length) (hw:F≤w0.length) (h:∀ q:Nat,q<F→atI v0 q=atI w0 q):∀ k,f+k≤F→∀ q:Nat,q<F→atI (stK v0 f st k) q=atI (stK w0 f st k) q
 | 0,_,q,hq=>h q hq
 | k+1,hk,q,hq=>by
   have ih:=stK_two (f:=f) (st:=st) hv hw h k (by omega) q hq
   show atI ((stK v0 f st k).set (f+k) ((st[k]?).getD 0 % 2)) q=atI ((stK w0 f st k).set (f+k) ((st[k]?).getD 0 % 2)) q
   rw[atI_setn (by rw[stK_len];omega),atI_setn (by rw[stK_len];omega),ih]
section
variable {x:GrD} {st:List Int} {inp:Int}
theorem vals_low {v:Nat} (h:v<firstG x):atI (valsL x st inp) v=atI (stV x st inp) v:=by
 have:=anK_stay (v0:=stV x st inp) (f:=firstG x) (ns:=x.2.2.1) (q:=v) (k:=0) (by omega) x.2.2.1.length
 rw[Nat.zero_add] at this
 exact this
theorem vals_zero:atI (valsL x st inp) 0=0:=by
 have h0:0<firstG x:=by unfold firstG;omega
 have h1:=vals_low (x:=x) (st:=st) (inp:=inp) h0
 have h2:=stK_stay (v0:=inV x inp) (f:=1+x.1.toNat) (st:=st) (q:=0) (k:=0) (by omega) st.length
 rw[Nat.zero_add] at h2
 have h3:atI (stV x st inp) 0=0:=h2.trans (inK_zero _)
 exact h1.trans h3
theorem litL_congr {lv lv':List Int} {l:Int} (h:atI lv (l / 2)=atI lv' (l / 2)):litL lv l=litL lv' l:=by unfold litL;rw[h]
theorem vals_and (hok:netOkB x=true) {v:Nat} (h1:firstG x≤v) (h2:v<grN x):atI (valsL x st inp) v=litL (valsL x st inp) (andAt x v).1*litL (valsL x st inp) (andAt x v).2:=by
 obtain⟨a0,a1,a2,a3,a4,a5,a6⟩:=and_at hok h1 h2
 have hN:=grN_eq x
 obtain⟨i,rfl⟩:∃ i,v=firstG x+i:=⟨v - firstG x,by omega⟩
 rw[Nat.add_sub_cancel_left] at a0
 have hV:valsL x st inp=anK (stV x st inp) (firstG x) x.2.2.1 x.2.2.1.length:=rfl
 have hi:i<x.2.2.1.length:=by omega
 have s1:=anK_stay (v0:=stV x st inp) (f:=firstG x) (ns:=x.2.2.1) (q:=firstG x+i) (k:=i+1) (by omega) (x.2.2.1.length - (i+1))
 rw[show i+1+(x.2.2.1.length - (i+1))=x.2.2.1.length by omega] at s1
 have s2:∀ w,w<firstG x+i→atI (anK (stV x st inp) (firstG x) x.2.2.1 i) (w:Int)=atI (valsL x st inp) w:=fun w hw=>by
  have:=anK_stay (v0:=stV x st inp) (f:=firstG x) (ns:=x.2.2.1) (q:=w) (k:=i) (by omega) (x.2.2.1.length - i)
  rw[show i+(x.2.2.1.length - i)=x.2.2.1.length by omega] at this
  exact this.symm
 rw[hV,s1]
 show atI ((anK (stV x st inp) (firstG x) x.2.2.1 i).set (firstG x+i) (litL (anK (stV x st inp) (firstG x) x.2.2.1 i) ((x.2.2.1[i]?).getD (0,0)).1*litL (anK (stV x st inp) (firstG x) x.2.2.1 i) ((x.2.2.1[i]?).getD (0,0)).2)) ((firstG x+i:Nat):Int)=_
 rw[atI_setn (by rw[anK_len,stV_len];omega),if_pos rfl,a0,Option.getD_some,←hV]
 rw[litL_congr (lv':=valsL x st inp) (by rw[a3];exact s2 _ a5),litL_congr (l:=(andAt x (firstG x+i)).2) (lv':=valsL x st inp) (by rw[a4];exact s2 _ a6)]
end
structure ValOf (V:List Int) (fa:Nat) (An:List AndD):Prop where
 bits:bitsI V
 zero:atI V 0=0
 an:∀ (j:Nat) (p:AndD),An[j]? = some p→atI V ((fa+j:Nat):Int)=litL V p.1*litL V p.2
theorem valOf_net {x:GrD} {st:List Int} {inp:Int} (hok:netOkB x=true):ValOf (valsL x st inp) (firstG x) x.2.2.1:=by
 refine⟨valsL_bits,vals_zero,fun j p h=>?_⟩
 have hj:=(List.getElem?_eq_some_iff.1 h).1
 have hN:=grN_eq x
 have ha:andAt x (firstG x+j)=p:=by unfold andAt;rw[Nat.add_sub_cancel_left,h];rfl
 rw[vals_and hok (by omega) (by omega),ha]
section
variable {V:List Int} (hb:bitsI V)
include hb
theorem lit_even {n:Int} (hn:0≤n):litL V (2*n)=atI V n:=by
 have:=atI_bit hb n
 unfold litL
 rw[show 2*n / 2=n by omega]
 omega
theorem lit_flip {l:Int} (hl:0≤l):litL V (flip l)=1 - litL V l:=by
 have h:=flip_half hl
 have h2:=atI_bit hb (l / 2)
 unfold litL
 rw[h.1]
 unfold flip
 split<;>omega
theorem lit_compl {l:Int} (hl:0≤l):litL V l*litL V (flip l)=0:=by
 rw[lit_flip hb hl]
 have h:=litL_01 V l
 rcases (by omega:litL V l=0∨litL V l=1) with e|e<;>rw[e]<;>rfl
end
theorem lit_sq {V:List Int} (_hb:bitsI V) {l:Int}:litL V l*litL V l=litL V l:=by
 have h:=litL_01 V l
 rcases (by omega:litL V l=0∨litL V l=1) with e|e<;>rw[e]<;>rfl
theorem lit_zero {V:List Int} (h0:atI V 0=0):litL V 0=0:=by unfold litL;rw[show (0:Int) / 2=0 from rfl,h0];rfl
theorem lit_one {V:List Int} (h0:atI V 0=0):litL V 1=1:=by unfold litL;rw[show (1:Int) / 2=0 from rfl,h0];rfl
theorem lit_mn {V:List Int} {a b:Int}:litL V (mnI a b)*litL V (mxI a b)=litL V a*litL V b:=by
 unfold mnI mxI
 by_cases h1:b<a
 · rw[if_pos h1,if_neg (by omega),Int.mul_comm]
 · rw[if_neg h1]
   by_cases h2:a<b
   · rw[if_pos h2]
   · rw[if_neg h2,show b=a by omega]
theorem fnd_some {an:List AndD} {x:AndD} (h:fndL an x<an.length):an[fndL an x]? = some x:=by
 unfold fndL at h ⊢
 have h2:=List.findIdx_getElem (p:=fun y=>decide (y=x)) (w:=h)
 rw[List.getElem?_eq_getElem h]
 exact congrArg some (of_decide_eq_true h2)
theorem add_sem {V:List Int} {fa:Nat} {An an:List AndD} {a b:Int} (hV:ValOf V fa An) (hp:addN an a b <+: An) (ha:0≤a∧a<4611686018427387904) (hb:0≤b) (h0:0≤addV fa an a b):litL V (addV fa an a b)=litL V a*litL V b:=by
 have hz:=lit_zero hV.zero
 have ho:=lit_one hV.zero
 unfold addV at h0 ⊢
 by_cases ht:trivB a b=true
 · rw[if_pos ht]
   unfold trivV
   split
   · rename_i h
     rw[hz]
     rcases h with rfl|rfl|h
     · rw[hz,Int.zero_mul]
     · rw[hz,Int.mul_zero]
     · rw[xor64_one ha.1 ha.2] at h
       rw[←h,lit_compl hV.bits ha.1]
   · rename_i h
     split
     · rename_i h2
       rcases h2 with rfl|rfl
       · rw[ho,Int.one_mul]
       · rw[lit_sq hV.bits]
     · rename_i h2
       have hb1:b=1:=by
        unfold trivB at ht
        simp only[Bool.or_eq_true,decide_eq_true_eq] at ht
        omega
       subst hb1
       rw[ho,Int.mul_one]
 · rw[if_neg ht] at h0 ⊢
   by_cases hf:fndL an (mnI a b,mxI a b)<an.length
   · rw[if_pos hf] at h0 ⊢
     have hm:addN an a b=an:=by unfold addN addM;rw[if_neg (by simp[hf])]
     rw[hm] at hp
     have hat:=fnd_some hf
     have hA:An[fndL an (mnI a b,mxI a b)]? = some (mnI a b,mxI a b):=by
      obtain⟨t,rfl⟩:=hp
      rw[List.getElem?_append_left hf]
      exact hat
     have h:=hV.an _ _ hA
     rw[show (fa:Int)+(fndL an (mnI a b,mxI a b):Int)=((fa+fndL an (mnI a b,mxI a b):Nat):Int) by omega,lit_even hV.bits (by omega),h]
     exact lit_mn
   · rw[if_neg hf] at h0 ⊢
     by_cases h3:an.length<300
     · rw[if_pos h3] at h0 ⊢
       have hm:addN an a b=an++[(mnI a b,mxI a b)]:=by
        unfold addN addM
        rw[if_pos (by simp[hf,h3,ht])]
       rw[hm] at hp
       have hA:An[an.length]? = some (mnI a b,mxI a b):=by
        obtain⟨t,rfl⟩:=hp
        rw[List.append_assoc,List.getElem?_append_right (Nat.le_refl _),Nat.sub_self]
        rfl
       have h:=hV.an _ _ hA
       rw[show (fa:Int)+(an.length:Int)=((fa+an.length:Nat):Int) by omega,lit_even hV.bits (by omega),h]
       exact lit_mn
     · rw[if_neg h3] at h0
       omega
theorem map_sem {V W:List Int} {pl:List Int} {l:Int} (hV:bitsI V) (hW:bitsI W) (h0:0≤atI pl (l / 2)∧atI pl (l / 2)≤1048576) (h:litL V (atI pl (l / 2))=atI W (l / 2)):litL V (plMapV pl l)=litL W l:=by
 rw[mapV_eq h0.1 h0.2]
 have hw:=atI_bit hW (l / 2)
 split
 · rename_i he
   rw[h]
   unfold litL
   omega
 · rename_i he
   rw[lit_flip hV h0.1,h]
   unfold litL
   omega
theorem addNpre {an:List AndD} {a b:Int}:an <+: addN an a b:=by
 unfold addN
 split
 · exact List.prefix_append _ _
 · exact List.prefix_refl _
theorem impRpre {x:GrD} {fa skip inst:Int} {to0:List Int} {an0:List AndD} {i:Nat}:∀ d,(impR x fa skip inst to0 an0 i).2.1 <+: (impR x fa skip inst to0 an0 (i+d)).2.1
 | 0=>List.prefix_refl _
 | d+1=>by
   refine (impRpre d).trans ?_
   show _ <+: (impR x fa skip inst to0 an0 (i+d+1)).2.1
   rw[impR]
   split
   · exact List.prefix_refl _
   · split
     · exact List.prefix_refl _
     · split
       · exact List.prefix_refl _
       · exact addNpre
theorem impRflag {x:GrD} {fa skip inst:Int} {to0:List Int} {an0:List AndD} {i:Nat}:∀ d,(impR x fa skip inst to0 an0 (i+d)).2.2=true→(impR x fa skip inst to0 an0 i).2.2=true
 | 0,h=>h
 | d+1,h=>by
   refine impRflag d ?_
   have h':(impR x fa skip inst to0 an0 (i+d+1)).2.2=true:=h
   rw[impR] at h'
   split at h'
   · exact h'
   · rename_i hb
     simpa using hb
theorem imp_sem {x:GrD} (hok:netOkB x=true) {fa:Nat} {skip inst:Int} {an0:List AndD} {An:List AndD} {V W:List Int} {n:Nat} (hn:n≤x.2.2.1.length) (hV:ValOf V fa An) (hW:ValOf W (firstG x) x.2.2.1) (hleaf:∀ v:Nat,v<firstG x→atI V v=atI W v)
 (hinst:∀ i:Nat,(i:Int)=skip→i<x.2.2.1.length→litL V inst=atI W ((firstG x+i:Nat):Int)) (hfa:0<fa∧fa≤400) (hI:∀ i,i≤n→ImpOk fa (firstG x+i) (impR x fa skip inst (leafL (firstG x)) an0 i))
 (hfin:(impR x fa skip inst (leafL (firstG x)) an0 n).2.1 <+: An) (hflag:(impR x fa skip inst (leafL (firstG x)) an0 n).2.2=true) :
 ∀ i,i≤n→∀ v:Nat,v<firstG x+i→litL V (atI (impR x fa skip inst (leafL (firstG x)) an0 i).1 v)=atI W v
 | 0,_,v,hv=>by
   have e:atI (leafL (firstG x)) (v:Int)=2*(v:Int):=by
    unfold atI leafL
    rw[Int.toNat_natCast,List.getElem?_map,List.getElem?_range (by omega)]
    rfl
   show litL V (atI (leafL (firstG x)) v)=_
   rw[e,lit_even hV.bits (by omega)]
   exact hleaf v (by omega)
 | i+1,hi,v,hv=>by
   have ih:=imp_sem hok hn hV hW hleaf hinst hfa hI hfin hflag i (by omega)
   have hN:=grN_eq x
   obtain⟨d,rfl⟩:∃ d,n=i+d:=⟨n - i,by omega⟩
   obtain⟨d',rfl⟩:∃ d',d=d'+1:=⟨d - 1,by omega⟩
   have hf0:=impRflag (i:=i) (d'+1) hflag
   have hf1:=impRflag (x:=x) (fa:=fa) (skip:=skip) (inst:=inst) (to0:=leafL (firstG x)) (an0:=an0) (i:=i+1) d' (by rw[show i+1+d'=i+(d'+1) by omega];exact hflag)
   have hp1:(impR x fa skip inst (leafL (firstG x)) an0 (i+1)).2.1 <+: An:=by
    have:=impRpre (x:=x) (fa:=fa) (skip:=skip) (inst:=inst) (to0:=leafL (firstG x)) (an0:=an0) (i:=i+1) d'
    rw[show i+1+d'=i+(d'+1) by omega] at this
    exact this.trans hfin
   have hI0:=hI i (by omega)
   obtain⟨ha,a1,a2,a3,a4,a5,a6⟩:=and_at hok (v:=firstG x+i) (by omega) (by omega)
   have hwa:=hW.an i (andAt x (firstG x+i)) (by rw[Nat.add_sub_cancel_left] at ha;exact ha)
   rw[impR,if_neg (by simp[hf0])] at hf1 hp1 ⊢
   generalize impR x fa skip inst (leafL (firstG x)) an0 i=s at *
   obtain⟨to,an,b⟩:=s
   simp only at hf0 hf1 hp1 ih ⊢
   subst hf0
   have hl:=hI0.len rfl
   simp only at hl
   have hpl:=fun k=>plIn_at hI0.pl (by simp only;omega) k
   simp only at hpl
   have h300:=hI0.an
   simp only at h300
   by_cases hs:(i:Int)=skip
   · rw[if_pos hs]
     simp only
     by_cases hv2:v<firstG x+i
     · rw[atI_append (by omega) (by omega)]
       exact ih v hv2
     · obtain rfl:v=firstG x+i:=by omega
       have e:atI (to++[inst]) ((firstG x+i:Nat):Int)=inst:=by
        unfold atI
        rw[Int.toNat_natCast,List.getElem?_append_right (by omega),hl,Nat.sub_self]
        rfl
       rw[e]
       exact hinst i hs (by omega)
   · rw[if_neg hs] at hf1 hp1 ⊢
     split
     · rename_i hneg
       rw[if_pos hneg] at hf1
       simp at hf1
     · rename_i hneg
       rw[if_neg hneg] at hp1
       simp only at hp1 ⊢
       by_cases hv2:v<firstG x+i
       · rw[atI_append (by omega) (by omega)]
         exact ih v hv2
       · obtain rfl:v=firstG x+i:=by omega
         have e:atI (to++[addV fa an (plMapV to (andAt x (firstG x+i)).1) (plMapV to (andAt x (firstG x+i)).2)]) ((firstG x+i:Nat):Int)=addV fa an (plMapV to (andAt x (firstG x+i)).1) (plMapV to (andAt x (firstG x+i)).2):=by
          unfold atI
          rw[Int.toNat_natCast,List.getElem?_append_right (by omega),hl,Nat.sub_self]
          rfl
         have m1:litL V (plMapV to (andAt x (firstG x+i)).1)=litL W (andAt x (firstG x+i)).1:=by
          refine map_sem hV.bits hW.bits (by have:=hpl ((andAt x (firstG x+i)).1 / 2);omega) ?_
          rw[a3]
          exact ih _ a5
         have m2:litL V (plMapV to (andAt x (firstG x+i)).2)=litL W (andAt x (firstG x+i)).2:=by
          refine map_sem hV.bits hW.bits (by have:=hpl ((andAt x (firstG x+i)).2 / 2);omega) ?_
          rw[a4]
          exact ih _ a6
         have r1:=mapV_rng (l:=(andAt x (firstG x+i)).1) (hpl _) (by omega)
         have r2:=mapV_rng (l:=(andAt x (firstG x+i)).2) (hpl _) (by omega)
         rw[e,add_sem hV hp1 ⟨r1.1,by omega⟩ r2.1 (by omega),m1,m2,←hwa]
end Go.Proofs.Ytnjedabjbeipeaa
