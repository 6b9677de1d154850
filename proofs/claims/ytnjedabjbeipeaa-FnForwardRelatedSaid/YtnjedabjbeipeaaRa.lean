/-
  What can be observed in a net: what its outputs reach through AND nodes and sequential elements; by a search with a list of what is left to do, and by rounds of marks. Plain lemmas, about no function of the program.
  Conditions: those typed in each theorem.
-/
import Derived.Test.YtnjedabjbeipeaaRf
namespace Go.Proofs.Ytnjedabjbeipeaa
set_option linter.unusedVariables false
def litN (l:Int):Nat:=l.toNat / 2
def seqAt (x:GrD) (i:Nat):SeqD:=(x.2.1[i]?).getD (0,0,[])
def firstQ (x:GrD):Nat:=1+x.1.toNat
def kidsO (x:GrD) (v:Nat):List Nat:=if firstG x≤v then [kidA x v,kidB x v] else if firstQ x≤v then (seqAt x (v - firstQ x)).2.2.map litN else []
inductive Obs (x:GrD):Nat→Prop
 | out {l:Int} (h:l∈x.2.2.2):Obs x (litN l)
 | kid {v u:Nat} (hv:Obs x v) (hu:u∈kidsO x v):Obs x u
open Classical in
noncomputable def obsB (x:GrD):List Bool:=(List.range (grN x)).map fun u=>decide (Obs x u)
theorem obsB_len {x:GrD}:(obsB x).length=grN x:=by simp[obsB]
open Classical in
theorem obs_eq {x:GrD} {s:List Bool} (hl:s.length=grN x) (h:∀ u,getB s u=true↔Obs x u):s=obsB x:=by
 refine getB_ext (by rw[hl,obsB_len]) fun u=>?_
 by_cases hu:u<grN x
 · have e:getB (obsB x) u=decide (Obs x u):=by simp[getB,obsB,hu]
   rw[e]
   exact Bool.eq_iff_iff.2 (by rw[h u,decide_eq_true_eq])
 · have h1:getB s u=false:=by simp[getB,List.getElem?_eq_none (show s.length≤u by omega)]
   have h2:getB (obsB x) u=false:=by simp[getB,List.getElem?_eq_none (show (obsB x).length≤u by rw[obsB_len];omega)]
   rw[h1,h2]
theorem root_lt {x:GrD} (hok:netOkB x=true) {l:Int} (h:l∈grRoots x):0≤l∧litN l<grN x:=by
 obtain⟨-,-,o2,-⟩:=netOk_of hok
 have:=o2 l h
 unfold litN
 omega
theorem outs_root {x:GrD} {l:Int} (h:l∈x.2.2.2):l∈grRoots x:=List.mem_append_left _ h
theorem seqAt_mem {x:GrD} {i:Nat} (h:i<x.2.1.length):x.2.1[i]? = some (seqAt x i)∧seqAt x i∈x.2.1:=by
 have e:x.2.1[i]? = some (seqAt x i):=by unfold seqAt;rw[List.getElem?_eq_getElem h];rfl
 exact⟨e,List.mem_of_getElem? e⟩
theorem seq_root {x:GrD} {i:Nat} (h:i<x.2.1.length) {l:Int} (hl:l∈(seqAt x i).2.2):l∈grRoots x:=by
 refine List.mem_append_right _ ?_
 exact List.mem_flatten.2 ⟨_,List.mem_map.2 ⟨_,(seqAt_mem h).2,rfl⟩,hl⟩
theorem firstG_eq {x:GrD}:firstG x=firstQ x+x.2.1.length:=rfl
theorem kids_in {x:GrD} (hok:netOkB x=true) {v u:Nat} (hv:v<grN x) (hu:u∈kidsO x v):u<grN x:=by
 unfold kidsO at hu
 split at hu
 · rename_i h
   obtain⟨a,b⟩:=kids_lt hok v h hv
   simp only[List.mem_cons,List.not_mem_nil,or_false] at hu
   rcases hu with rfl|rfl<;>omega
 · split at hu
   · rename_i h1 h2
     obtain⟨l,hl,rfl⟩:=List.mem_map.1 hu
     have:=firstG_eq (x:=x)
     exact (root_lt hok (seq_root (by omega) hl)).2
   · simp at hu
theorem obs_lt {x:GrD} (hok:netOkB x=true) {u:Nat} (h:Obs x u):u<grN x:=by
 induction h with
 | out h=>exact (root_lt hok (outs_root h)).2
 | kid hv hu ih=>exact kids_in hok ih hu
def visO (s:List Bool×List Nat) (v:Nat):List Bool×List Nat:=if getB s.1 v=true then s else (s.1.set v true,s.2++[v])
def cntO (s:List Bool):Nat:=s.count false
theorem cntO_set:∀ {s:List Bool} {v:Nat},v<s.length→getB s v=false→cntO (s.set v true)+1=cntO s
 | b::s,0,_,h=>by
   have:b=false:=by simpa [getB] using h
   subst this
   simp[cntO]
 | b::s,v+1,hv,h=>by
   have ih:=cntO_set (s:=s) (v:=v) (by simpa using hv) (by simpa [getB] using h)
   simp only[cntO,List.set_cons_succ,List.count_cons] at ih ⊢
   omega
structure InvO (x:GrD) (s:List Bool×List Nat):Prop where
 len:s.1.length=grN x
 obs:∀ u,getB s.1 u=true→Obs x u
 lt:∀ u∈s.2,u<grN x
 seen:∀ u∈s.2,getB s.1 u=true
 small:2*cntO s.1+s.2.length≤2*grN x
def DoneO (x:GrD) (s:List Bool×List Nat):Prop:=∀ u,getB s.1 u=true→u∉s.2→∀ k∈kidsO x u,getB s.1 k=true
theorem getB_lt {s:List Bool} {u:Nat} (h:getB s u=true):u<s.length:=by
 unfold getB at h
 cases e:s[u]? with
 | none=>rw[e] at h;cases h
 | some b=>exact (List.getElem?_eq_some_iff.1 e).1
theorem visO_facts {x:GrD} {s:List Bool×List Nat} {v:Nat} (h:InvO x s) (hv:Obs x v) (hl:v<grN x) :
 InvO x (visO s v)∧getB (visO s v).1 v=true∧(∀ u,getB s.1 u=true→getB (visO s v).1 u=true)∧(∀ u,getB (visO s v).1 u=true→getB s.1 u=true∨u∈(visO s v).2)∧(∀ u∈s.2,u∈(visO s v).2) ∧
  2*cntO (visO s v).1+(visO s v).2.length≤2*cntO s.1+s.2.length:=by
 unfold visO
 split
 · rename_i hs
   exact⟨h,hs,fun u h=>h,fun u h=>.inl h,fun u h=>h,Nat.le_refl _⟩
 · rename_i hs
   have hs':getB s.1 v=false:=by simpa using hs
   have hg:∀ u,(getB (s.1.set v true) u=true↔u=v∨getB s.1 u=true):=fun u=>by rw[getB_set (by rw[h.len];exact hl)];simp
   have hc:=cntO_set (s:=s.1) (v:=v) (by rw[h.len];exact hl) hs'
   have hsm:=h.small
   refine⟨⟨by simp[h.len],fun u hu=>?_,fun u hu=>?_,fun u hu=>?_,by simp;omega⟩,(hg v).2 (.inl rfl),fun u hu=>(hg u).2 (.inr hu),fun u hu=>?_,fun u hu=>by simp[hu],by simp;omega⟩
   · rcases (hg u).1 hu with rfl|hu
     · exact hv
     · exact h.obs u hu
   · simp only[List.mem_append,List.mem_singleton] at hu
     rcases hu with hu|rfl
     · exact h.lt u hu
     · exact hl
   · simp only[List.mem_append,List.mem_singleton] at hu
     rcases hu with hu|rfl
     · exact (hg u).2 (.inr (h.seen u hu))
     · exact (hg u).2 (.inl rfl)
   · rcases (hg u).1 hu with rfl|hu
     · exact .inr (by simp)
     · exact .inl hu
theorem visO_all {x:GrD}:∀ (vs:List Nat) {s:List Bool×List Nat},InvO x s→(∀ v∈vs,Obs x v∧v<grN x) →
 InvO x (vs.foldl visO s)∧(∀ v∈vs,getB (vs.foldl visO s).1 v=true)∧(∀ u,getB s.1 u=true→getB (vs.foldl visO s).1 u=true)∧(∀ u,getB (vs.foldl visO s).1 u=true→getB s.1 u=true∨u∈(vs.foldl visO s).2)∧(∀ u∈s.2,u∈(vs.foldl visO s).2) ∧
  2*cntO (vs.foldl visO s).1+(vs.foldl visO s).2.length≤2*cntO s.1+s.2.length
 | [],s,h,_=>⟨h,by simp,fun u h=>h,fun u h=>.inl h,fun u h=>h,Nat.le_refl _⟩
 | v::vs,s,h,hv=>by
   obtain⟨a1,a2,a3,a4,a5,a6⟩:=visO_facts h (hv v (by simp)).1 (hv v (by simp)).2
   obtain⟨b1,b2,b3,b4,b5,b6⟩:=visO_all vs a1 fun u hu=>hv u (by simp[hu])
   refine⟨b1,fun u hu=>?_,fun u hu=>b3 u (a3 u hu),fun u hu=>?_,fun u hu=>b5 u (a5 u hu),Nat.le_trans b6 a6⟩
   · rcases List.mem_cons.1 hu with rfl|hu
     · exact b3 _ a2
     · exact b2 u hu
   · rcases b4 u hu with h|h
     · rcases a4 u h with h|h
       · exact .inl h
       · exact .inr (b5 u h)
     · exact .inr h
theorem popO {x:GrD} {s:List Bool} {t:List Nat} {v:Nat} (h:InvO x (s,t++[v])):InvO x (s,t)∧Obs x v∧v<grN x∧getB s v=true∧2*cntO s+t.length+1≤2*grN x:=by
 have h1:=h.seen v (by simp)
 have h2:=h.small
 simp only[List.length_append,List.length_cons,List.length_nil] at h2
 exact⟨⟨h.len,h.obs,fun u hu=>h.lt u (by simp[hu]),fun u hu=>h.seen u (by simp[hu]),by simp only;omega⟩,h.obs v h1,h.lt v (by simp),h1,by omega⟩
theorem stepO {x:GrD} (hok:netOkB x=true) {s:List Bool} {t:List Nat} {v:Nat} (h:InvO x (s,t++[v])) (hd:DoneO x (s,t++[v])) :
 InvO x ((kidsO x v).foldl visO (s,t))∧DoneO x ((kidsO x v).foldl visO (s,t))∧(∀ u,getB s u=true→getB ((kidsO x v).foldl visO (s,t)).1 u=true) ∧
  2*cntO ((kidsO x v).foldl visO (s,t)).1+((kidsO x v).foldl visO (s,t)).2.length<2*cntO s+(t++[v]).length:=by
 obtain⟨h1,h2,h3,h4,h5⟩:=popO h
 obtain⟨b1,b2,b3,b4,b5,b6⟩:=visO_all (kidsO x v) h1 fun u hu=>⟨.kid h2 hu,kids_in hok h3 hu⟩
 refine⟨b1,fun u hu hn k hk=>?_,b3,by simp only[List.length_append,List.length_cons,List.length_nil] at b6 ⊢;omega⟩
 by_cases huv:u=v
 · subst huv
   exact b2 k hk
 · rcases b4 u hu with h|h
   · exact b3 k (hd u h (fun hm=>by
      rcases List.mem_append.1 hm with hm|hm
      · exact hn (b5 u hm)
      · exact huv (List.mem_singleton.1 hm)) k hk)
   · exact absurd h hn
theorem startO {x:GrD} (hok:netOkB x=true):InvO x (x.2.2.2.map litN |>.foldl visO (List.replicate (grN x) false,[]))∧DoneO x (x.2.2.2.map litN |>.foldl visO (List.replicate (grN x) false,[]))∧∀ l∈x.2.2.2,getB (x.2.2.2.map litN |>.foldl visO (List.replicate (grN x) false,[])).1 (litN l)=true:=by
 have h0:InvO x (List.replicate (grN x) false,[]):=⟨by simp,fun u h=>(by rw[getB_rep] at h;cases h),by simp,by simp,by simp[cntO]⟩
 obtain⟨b1,b2,b3,b4,b5,b6⟩:=visO_all (x.2.2.2.map litN) h0 fun u hu=>by
  obtain⟨l,hl,rfl⟩:=List.mem_map.1 hu
  exact⟨.out hl,(root_lt hok (outs_root hl)).2⟩
 refine⟨b1,fun u hu hn=>?_,fun l hl=>b2 _ (List.mem_map.2 ⟨l,hl,rfl⟩)⟩
 rcases b4 u hu with h|h
 · rw[getB_rep] at h;cases h
 · exact absurd h hn
theorem endO {x:GrD} {s:List Bool} (h:InvO x (s,[])) (hd:DoneO x (s,[])) (ho:∀ l∈x.2.2.2,getB s (litN l)=true):s=obsB x:=by
 refine obs_eq h.len fun u=>⟨h.obs u,fun hu=>?_⟩
 induction hu with
 | out h=>exact ho _ h
 | kid hv hu ih=>exact hd _ ih (by simp) _ hu
theorem seqKid {x:GrD} {i:Nat} (h:i<x.2.1.length):kidsO x (firstQ x+i)=(seqAt x i).2.2.map litN:=by
 unfold kidsO
 rw[if_neg (by have:=firstG_eq (x:=x);omega),if_pos (by omega),Nat.add_sub_cancel_left]
end Go.Proofs.Ytnjedabjbeipeaa
namespace Go.Proofs.Ytnjedabjbeipeaa
set_option linter.unusedVariables false
def mnI (a b:Int):Int:=if b<a then b else a
def mxI (a b:Int):Int:=if a<b then b else a
def trivB (a b:Int):Bool:=decide (a=0)||decide (b=0)||decide (xor64 a 1=b)||decide (a=1)||decide (a=b)||decide (b=1)
def trivV (a b:Int):Int:=if a=0∨b=0∨xor64 a 1=b then 0 else if a=1∨a=b then b else a
def fndL (an:List AndD) (x:AndD):Nat:=an.findIdx fun y=>decide (y=x)
def addV (fa:Int) (an:List AndD) (a b:Int):Int :=
 if trivB a b=true then trivV a b else if fndL an (mnI a b,mxI a b)<an.length then 2*(fa+fndL an (mnI a b,mxI a b)) else if an.length<300 then 2*(fa+an.length) else -1
def addM (an:List AndD) (a b:Int):Bool:=!trivB a b&&decide (¬ fndL an (mnI a b,mxI a b)<an.length)&&decide (an.length<300)
def addN (an:List AndD) (a b:Int):List AndD:=if addM an a b=true then an++[(mnI a b,mxI a b)] else an
theorem fnd_at {an:List AndD} {x:AndD} {i:Nat} (h:an[i]? = some x) (hpre:∀ j:Nat,j<i→an[j]?≠some x):fndL an x=i:=by
 obtain⟨hi,e⟩:=List.getElem?_eq_some_iff.1 h
 unfold fndL
 rw[List.findIdx_eq hi]
 refine⟨by simpa using e,fun j hj=>?_⟩
 have:=hpre j hj
 rw[List.getElem?_eq_getElem (by omega)] at this
 simpa using this
theorem fnd_none {an:List AndD} {x:AndD} (hpre:∀ j:Nat,j<an.length→an[j]?≠some x):fndL an x=an.length:=by
 unfold fndL
 rw[List.findIdx_eq_length]
 intro y hy
 obtain⟨j,hj,rfl⟩:=List.mem_iff_getElem.1 hy
 have:=hpre j hj
 rw[List.getElem?_eq_getElem hj] at this
 simpa using this
theorem addN_len {an:List AndD} {a b:Int}:an.length≤(addN an a b).length∧(addN an a b).length≤an.length+1:=by
 unfold addN;split<;>simp
end Go.Proofs.Ytnjedabjbeipeaa
namespace Go.Proofs.Ytnjedabjbeipeaa
set_option linter.unusedVariables false
def plMapV (pl:List Int) (l:Int):Int:=xor64 (atI pl (l / 2)) (l % 2)
theorem flip_half {v:Int} (h:0≤v):flip v / 2=v / 2∧0≤flip v:=by unfold flip;split<;>omega
theorem mapV_eq {pl:List Int} {l:Int} (h0:0≤atI pl (l / 2)) (h1:atI pl (l / 2)≤1048576):plMapV pl l=if l % 2=0 then atI pl (l / 2) else flip (atI pl (l / 2)):=by
 unfold plMapV
 split
 · rename_i h;rw[h,xor64_zero h0 (by omega)]
 · rename_i h;rw[show l % 2=1 by omega,xor64_one h0 (by omega)]
theorem mapV_rng {pl:List Int} {l:Int} {n:Int} (h:0≤atI pl (l / 2)∧atI pl (l / 2)<2*n) (hn:n≤1000):0≤plMapV pl l∧plMapV pl l<2*n:=by
 rw[mapV_eq h.1 (by omega)]
 split
 · exact h
 · have:=flip_half h.1;omega
def litsAt (n:Nat) (ls:List Int):Prop:=∀ l∈ls,0≤l∧l<2*(n:Int)
def plIn (n:Int) (pl:List Int):Prop:=∀ v∈pl,0≤v∧v<2*n
theorem plIn_at {n:Int} {pl:List Int} (h:plIn n pl) (hn:0<n) (k:Int):0≤atI pl k∧atI pl k<2*n:=by
 unfold atI
 cases e:pl[k.toNat]? with
 | none=>simp only[Option.getD_none];omega
 | some v=>simpa using h v (List.mem_of_getElem? e)
theorem atI_append {pl qs:List Int} {k:Int} (h0:0≤k) (h:k<pl.length):atI (pl++qs) k=atI pl k:=by
 unfold atI
 rw[List.getElem?_append_left (by omega)]
theorem mapV_append {pl qs:List Int} {l:Int} (h:0≤l∧l<2*(pl.length:Int)):plMapV (pl++qs) l=plMapV pl l:=by
 unfold plMapV
 rw[atI_append (by omega) (by omega)]
theorem trivV_rng {a b n:Int} (ha:0≤a∧a<2*n) (hb:0≤b∧b<2*n):0≤trivV a b∧trivV a b<2*n:=by
 unfold trivV;split<;>(try split)<;>omega
theorem mn_rng {a b:Int} {P:Int→Prop} (ha:P a) (hb:P b):P (mnI a b)∧P (mxI a b):=by
 unfold mnI mxI
 constructor<;>split<;>assumption
theorem addV_rng {fa:Int} {an:List AndD} {a b:Int} (hf:0≤fa) (ha:0≤a∧a<2*(fa+an.length)) (hb:0≤b∧b<2*(fa+an.length)):-1≤addV fa an a b∧addV fa an a b<2*(fa+(addN an a b).length):=by
 have hl:=addN_len (an:=an) (a:=a) (b:=b)
 unfold addV
 split
 · have:=trivV_rng ha hb;omega
 · rename_i ht
   split
   · omega
   · rename_i hf2
     split
     · rename_i h3
       have:addM an a b=true:=by unfold addM;simp[ht,hf2,h3]
       unfold addN
       rw[if_pos this]
       simp;omega
     · omega
theorem addV_neg {fa:Int} {an:List AndD} {a b:Int} (hf:0≤fa) (ha:0≤a) (hb:0≤b):(addV fa an a b<0→addN an a b=an∧addV fa an a b=-1):=by
 intro h
 unfold addV at h ⊢
 split at h
 · rename_i ht
   exfalso
   unfold trivV at h
   split at h
   · omega
   · split at h<;>omega
 · rename_i ht
   split at h
   · omega
   · rename_i hf2
     split at h
     · omega
     · rename_i h3
       refine⟨?_,by rw[if_neg ht,if_neg hf2,if_neg h3]⟩
       unfold addN
       rw[if_neg (by unfold addM;simp[h3])]
theorem addN_300 {an:List AndD} {a b:Int} (h:an.length≤300):(addN an a b).length≤300:=by
 unfold addN
 split
 · rename_i hm
   unfold addM at hm
   simp only[Bool.and_eq_true,decide_eq_true_eq] at hm
   simp;omega
 · exact h
def ansOk (fa:Int) (an:List AndD):Prop:=andsFit fa 0 an=true
theorem andFits_iff {n:Int} {x:AndD}:andFits n x=true↔(0≤x.1∧x.1<2*n)∧0≤x.2∧x.2<2*n:=by
 unfold andFits
 rw[Bool.and_eq_true,rng_iff,rng_iff]
 omega
theorem ansOk_add {fa:Int} {an:List AndD} {a b:Int} (h:ansOk fa an) (ha:0≤a∧a<2*(fa+an.length)) (hb:0≤b∧b<2*(fa+an.length)):ansOk fa (addN an a b):=by
 unfold addN
 split
 · unfold ansOk at h ⊢
   have:=andsFit_snoc (f:=fa) (xs:=an++[(mnI a b,mxI a b)]) (k:=an.length) (x:=(mnI a b,mxI a b)) (by simp)
   rw[List.take_of_length_le (by simp),List.take_left' rfl,h,Bool.true_and] at this
   rw[this,andFits_iff]
   exact mn_rng (P:=fun x=>0≤x∧x<2*(fa+(an.length:Int))) ha hb
 · exact h
def impR (x:GrD) (fa skip inst:Int) (to0:List Int) (an0:List AndD):Nat→List Int×List AndD×Bool
 | 0=>(to0,an0,true)
 | i+1 =>
   if (impR x fa skip inst to0 an0 i).2.2=false then impR x fa skip inst to0 an0 i
   else if (i:Int)=skip then ((impR x fa skip inst to0 an0 i).1++[inst],(impR x fa skip inst to0 an0 i).2.1,true)
   else if addV fa (impR x fa skip inst to0 an0 i).2.1 (plMapV (impR x fa skip inst to0 an0 i).1 (andAt x (firstG x+i)).1) (plMapV (impR x fa skip inst to0 an0 i).1 (andAt x (firstG x+i)).2)<0 then ((impR x fa skip inst to0 an0 i).1,(impR x fa skip inst to0 an0 i).2.1,false)
   else ((impR x fa skip inst to0 an0 i).1++[addV fa (impR x fa skip inst to0 an0 i).2.1 (plMapV (impR x fa skip inst to0 an0 i).1 (andAt x (firstG x+i)).1) (plMapV (impR x fa skip inst to0 an0 i).1 (andAt x (firstG x+i)).2)],
    addN (impR x fa skip inst to0 an0 i).2.1 (plMapV (impR x fa skip inst to0 an0 i).1 (andAt x (firstG x+i)).1) (plMapV (impR x fa skip inst to0 an0 i).1 (andAt x (firstG x+i)).2),true)
structure ImpOk (fa:Int) (n:Nat) (s:List Int×List AndD×Bool):Prop where
 len:s.2.2=true→s.1.length=n
 le:s.1.length≤n
 pl:plIn (fa+s.2.1.length) s.1
 an:s.2.1.length≤300
 ok:ansOk fa s.2.1
theorem impR_ok {x:GrD} (hok:netOkB x=true) {fa skip inst:Int} {to0:List Int} {an0:List AndD} (hfa:0<fa∧fa≤100) (hi:0≤inst∧inst<2*fa) (h0:ImpOk fa (firstG x) (to0,an0,true)) :
 ∀ i,i≤x.2.2.1.length→ImpOk fa (firstG x+i) (impR x fa skip inst to0 an0 i)∧an0.length≤(impR x fa skip inst to0 an0 i).2.1.length
 | 0,_=>⟨h0,Nat.le_refl _⟩
 | i+1,hile=>by
   obtain⟨ih,ihl⟩:=impR_ok hok hfa hi h0 (skip:=skip) i (by omega)
   obtain⟨hF,hgl,hNi,hno⟩:=ok_sizes hok
   have hN:=grN_eq x
   obtain⟨-,a1,a2,a3,a4,a5,a6⟩:=and_at hok (v:=firstG x+i) (by omega) (by omega)
   unfold impR
   generalize impR x fa skip inst to0 an0 i=s at *
   obtain⟨to,an,b⟩:=s
   simp only at ih ihl ⊢
   split
   · rename_i hb
     subst hb
     exact⟨⟨fun h=>by simp at h,by have:=ih.le;simp only at this ⊢;omega,ih.pl,ih.an,ih.ok⟩,ihl⟩
   · rename_i hb
     obtain rfl:b=true:=by simpa using hb
     have hl:=ih.len rfl
     have ha:=ih.an
     simp only at hl ha
     split
     · refine⟨⟨fun _=>by simp only[List.length_append,List.length_cons,List.length_nil];omega,by simp only[List.length_append,List.length_cons,List.length_nil];omega,fun v hv=>?_,ih.an,ih.ok⟩,ihl⟩
       simp only at hv ⊢
       rcases List.mem_append.1 hv with h|h
       · exact ih.pl v h
       · rw[List.mem_singleton.1 h];omega
     · have r1:=mapV_rng (l:=(andAt x (firstG x+i)).1) (plIn_at ih.pl (by simp only;omega) ((andAt x (firstG x+i)).1 / 2)) (by simp only;omega)
       have r2:=mapV_rng (l:=(andAt x (firstG x+i)).2) (plIn_at ih.pl (by simp only;omega) ((andAt x (firstG x+i)).2 / 2)) (by simp only;omega)
       simp only at r1 r2
       have h3:=addV_rng (fa:=fa) (by omega) r1 r2
       have h4:=ansOk_add ih.ok r1 r2
       have h5:=addN_len (an:=an) (a:=plMapV to (andAt x (firstG x+i)).1) (b:=plMapV to (andAt x (firstG x+i)).2)
       have h6:=addN_300 (a:=plMapV to (andAt x (firstG x+i)).1) (b:=plMapV to (andAt x (firstG x+i)).2) ha
       simp only at h4
       generalize plMapV to (andAt x (firstG x+i)).1=a at *
       generalize plMapV to (andAt x (firstG x+i)).2=b at *
       split
       · exact⟨⟨fun h=>by simp at h,by simp only;omega,ih.pl,ih.an,ih.ok⟩,ihl⟩
       · refine⟨⟨fun _=>by simp only[List.length_append,List.length_cons,List.length_nil];omega,by simp only[List.length_append,List.length_cons,List.length_nil];omega,fun v hv=>?_,h6,h4⟩,by simp only;omega⟩
         simp only at hv ⊢
         rcases List.mem_append.1 hv with h|h
         · have:=ih.pl v h;simp only at this;omega
         · rw[List.mem_singleton.1 h];omega
def leafL (n:Nat):List Int:=(List.range n).map fun k:Nat=>2*(k:Int)
theorem leafL_len {n:Nat}:(leafL n).length=n:=by simp[leafL]
theorem leafL_snoc {n:Nat}:leafL (n+1)=leafL n++[2*(n:Int)]:=by simp[leafL,List.range_succ]
theorem leafL_in {n:Nat} {m:Int} (h:(n:Int)≤m):plIn m (leafL n):=fun v hv=>by
 obtain⟨k,hk,rfl⟩:=List.mem_map.1 hv
 have:=List.mem_range.1 hk
 omega
end Go.Proofs.Ytnjedabjbeipeaa
namespace Go.Proofs.Ytnjedabjbeipeaa
set_option linter.unusedVariables false
end Go.Proofs.Ytnjedabjbeipeaa
namespace Go.Proofs.Ytnjedabjbeipeaa
set_option linter.unusedVariables false
set_option linter.unusedSimpArgs false
theorem fitGr_netOk {x:GrD} (hok:netOkB x=true):fitGr 1048576 x:=by
 obtain⟨⟨n1,n2,n3,n4,n5,n6⟩,o1,o2,o3⟩:=netOk_of hok
 exact⟨by omega,fun s hs=>by have:=seqOk_len (o1 s hs);omega,by omega,by omega⟩
end Go.Proofs.Ytnjedabjbeipeaa
