/-
  Nets with a state relation that holds have the same runs. Plain lemmas.
  Conditions: those typed in each theorem.
-/
import Derived.Test.YtnjedabjbeipeaaSr
import Derived.Test.YtnjedabjbeipeaaNz
namespace Go.Proofs.Ytnjedabjbeipeaa
open Go.RowKit Go.ChangeShapes Go.WideShapes
set_option linter.unusedVariables false
set_option linter.unusedSimpArgs false
theorem inK_congr {N:Nat} {i j:Int}:∀ k,(∀ q,q<k→bit i q=bit j q)→inK N i k=inK N j k
 | 0,_=>rfl
 | k+1,h=>by
   unfold inK
   rw[inK_congr k (fun q hq=>h q (by omega)),h k (by omega)]
theorem stepG_congr {x:GrD} {st:List Int} {i j:Int} (h:∀ q,q<x.1.toNat→bit i q=bit j q):stepG x st i=stepG x st j:=by
 unfold stepG valsL stV inV
 rw[inK_congr _ h]
theorem shr_pack {vs:List Int} (hb:bitsI vs) (hl:vs.length≤60) {k:Nat} {b:Int} (h:vs[k]? = some b):shr64 (packL vs) k % 2=b:=by
 have hk:=(List.getElem?_eq_some_iff.1 h).1
 have h2:=packK_bit hb h vs.length hk
 have hp:(0:Int)<2 ^ k:=Int.pow_pos (by omega)
 unfold shr64
 rw[Int.toNat_natCast,Nat.min_eq_left (by omega),Int.fdiv_eq_ediv_of_nonneg _ (by omega)]
 exact h2
theorem rel_step {a b:GrD} {ls:List LinkD} (h:relB a b ls=true) {st:List Int} (hl:st.length=a.2.1.length) (hb:bitsI st) (inp:Int) :
 stepG b (lkL ls st) inp=(lkL ls (stepG a st inp).1,(stepG a st inp).2):=by
 have h':=h
 unfold relB at h'
 simp only[Bool.and_eq_true,decide_eq_true_eq] at h'
 obtain⟨⟨⟨h1,h2⟩,h3⟩,h4⟩:=h'
 obtain⟨oa,ob,fa,fb,ll,lin⟩:=linksOk_of h1
 have hab:a.1=b.1:=by
  simp only[linksOkB,Bool.and_eq_true,decide_eq_true_eq] at h1
  obtain⟨⟨⟨⟨_,h5⟩,_⟩,_⟩,_⟩:=h1
  exact h5
 obtain⟨⟨n1,n2,n3,n4,n5,n6⟩,-,-,-⟩:=netOk_of oa
 obtain⟨vs,hvs⟩:∃ vs,vs=(List.range a.1.toNat).map (bit inp)++st:=⟨_,rfl⟩
 have hvb:bitsI vs:=by
  rw[hvs]
  intro v hv
  rcases List.mem_append.1 hv with hv|hv
  · obtain⟨q,_,rfl⟩:=List.mem_map.1 hv
    exact bit_01 _ _
  · exact hb v hv
 have hvl:vs.length=a.1.toNat+a.2.1.length:=by rw[hvs];simp[hl]
 have hp:=packK_lt hvb vs.length
 obtain⟨n,hn⟩:∃ n:Nat,packL vs=(n:Int):=⟨(packL vs).toNat,by unfold packL;omega⟩
 have hlt:n<relN a:=by
  have e:packK vs vs.length=packL vs:=rfl
  rw[e,hn,hvl] at hp
  unfold relN
  have h2:=hp.2
  have e2:((2 ^ (a.1.toNat+a.2.1.length):Nat):Int)=(2:Int) ^ (a.1.toNat+a.2.1.length):=by simp
  omega
 have hr:=List.all_eq_true.1 h4 n (List.mem_range.2 hlt)
 have e1:stX a (n:Int)=st:=by
  apply List.ext_getElem?
  intro k
  by_cases hk:k<a.2.1.length
  · rw[stX_at hk]
    have hk2:vs[a.1.toNat+k]? = some (st[k]'(by omega)):=by
     refine (congrArg (fun L:List Int=>L[a.1.toNat+k]?) hvs).trans ?_
     show ((List.range a.1.toNat).map (bit inp)++st)[a.1.toNat+k]? = _
     rw[List.getElem?_append_right (by simp),List.length_map,List.length_range,Nat.add_sub_cancel_left,List.getElem?_eq_getElem]
    have:=shr_pack hvb (by omega) hk2
    rw[hn] at this
    rw[show a.1+(k:Int)=((a.1.toNat+k:Nat):Int) by omega,this,List.getElem?_eq_getElem (by omega)]
  · rw[List.getElem?_eq_none (by rw[stX_len];omega),List.getElem?_eq_none (by omega)]
 have e2:∀ q,q<a.1.toNat→bit (n:Int) q=bit inp q:=fun q hq=>by
  have hk2:vs[q]? = some (bit inp q):=by
   rw[hvs,List.getElem?_append_left (by simp;omega),List.getElem?_map,List.getElem?_range hq]
   rfl
  have:=shr_pack hvb (by omega) hk2
  rw[hn] at this
  exact this
 unfold relAtB at hr
 rw[e1,stepG_congr e2,stepG_congr (x:=b) (i:=(n:Int)) (j:=inp) (by rw[←hab];exact e2)] at hr
 simp only[Bool.and_eq_true,decide_eq_true_eq,sameB] at hr
 exact Prod.ext hr.2.symm hr.1.symm
theorem rel_start {a b:GrD} {ls:List LinkD} (h:relB a b ls=true):lkL ls (startL a)=startL b:=by
 unfold relB at h
 simp only[Bool.and_eq_true,decide_eq_true_eq,sameB] at h
 exact h.1.2
theorem rel_runs {a b:GrD} {ls:List LinkD} (h:relB a b ls=true) (ins:List Int):∀ k,runStG b ins k=lkL ls (runStG a ins k)∧bitsI (runStG a ins k)
 | 0=>by
   have h1:linksOkB a b ls=true:=by
    unfold relB at h
    simp only[Bool.and_eq_true] at h
    exact h.1.1.1
   obtain⟨oa,ob,fa,fb,ll,lin⟩:=linksOk_of h1
   exact⟨(rel_start h).symm,start_bits oa fa⟩
 | k+1=>by
   have h1:linksOkB a b ls=true:=by
    unfold relB at h
    simp only[Bool.and_eq_true] at h
    exact h.1.1.1
   obtain⟨oa,ob,fa,fb,ll,lin⟩:=linksOk_of h1
   obtain⟨i1,i2⟩:=rel_runs h ins k
   have hs:=rel_step h (runStG_len k) i2 ((ins[k]?).getD 0)
   constructor
   · show (stepG b (runStG b ins k) _).1=_
     rw[i1,hs]
     rfl
   · exact nxt_bits fa i2
theorem rel_netRun {a b:GrD} {ls:List LinkD} (h:relB a b ls=true) (ins:List Int):netRunL a ins=netRunL b ins:=by
 have h1:linksOkB a b ls=true:=by
  unfold relB at h
  simp only[Bool.and_eq_true] at h
  exact h.1.1.1
 obtain⟨oa,ob,fa,fb,ll,lin⟩:=linksOk_of h1
 unfold netRunL
 rw[oa,ob]
 split
 · unfold runOutsG
   refine List.map_congr_left fun k _=>?_
   obtain⟨i1,i2⟩:=rel_runs h ins k
   unfold runOutG
   rw[i1,rel_step h (runStG_len k) i2]
 · rfl
theorem links_bad {a b:GrD} {ls:List LinkD}:linksOkB a b (ls++[([-1],0)])=false:=by
 cases h:linksOkB a b (ls++[([-1],0)]) with
 | false=>rfl
 | true =>
   simp only[linksOkB,Bool.and_eq_true,decide_eq_true_eq] at h
   have h8:=List.all_eq_true.1 h.2 ([-1],0) (by simp)
   unfold linkFits at h8
   simp[belowB,rng] at h8
end Go.Proofs.Ytnjedabjbeipeaa
