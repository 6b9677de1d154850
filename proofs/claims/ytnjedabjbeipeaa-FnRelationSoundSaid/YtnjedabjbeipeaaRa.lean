/-
  What can be observed in a net: what its outputs reach through AND nodes and sequential elements; by a search with a list of what is left to do, and by rounds of marks. Plain lemmas, about no function of the program.
  Conditions: those typed in each theorem.
-/
import Derived.Test.YtnjedabjbeipeaaNo
namespace Go.Proofs.Ytnjedabjbeipeaa
set_option linter.unusedVariables false
def litN (l:Int):Nat:=l.toNat / 2
def seqAt (x:GrD) (i:Nat):SeqD:=(x.2.1[i]?).getD (0,0,[])
def firstQ (x:GrD):Nat:=1+x.1.toNat
def kidsO (x:GrD) (v:Nat):List Nat:=if firstG x≤v then [kidA x v,kidB x v] else if firstQ x≤v then (seqAt x (v - firstQ x)).2.2.map litN else []
inductive Obs (x:GrD):Nat→Prop
 | out {l:Int} (h:l∈x.2.2.2):Obs x (litN l)
 | kid {v u:Nat} (hv:Obs x v) (hu:u∈kidsO x v):Obs x u
open Classical in
noncomputable def obsB (x:GrD):List Bool:=(List.range (grN x)).map fun u=>decide (Obs x u)
theorem obsB_len {x:GrD}:(obsB x).length=grN x:=by simp[obsB]
open Classical in
theorem obs_eq {x:GrD} {s:List Bool} (hl:s.length=grN x) (h:∀ u,getB s u=true↔Obs x u):s=obsB x:=by
 refine getB_ext (by rw[hl,obsB_len]) fun u=>?_
 by_cases hu:u<grN x
 · have e:getB (obsB x) u=decide (Obs x u):=by simp[getB,obsB,hu]
   rw[e]
   exact Bool.eq_iff_iff.2 (by rw[h u,decide_eq_true_eq])
 · have h1:getB s u=false:=by simp[getB,List.getElem?_eq_none (show s.length≤u by omega)]
   have h2:getB (obsB x) u=false:=by simp[getB,List.getElem?_eq_none (show (obsB x).length≤u by rw[obsB_len];omega)]
   rw[h1,h2]
theorem root_lt {x:GrD} (hok:netOkB x=true) {l:Int} (h:l∈grRoots x):0≤l∧litN l<grN x:=by
 obtain⟨-,-,o2,-⟩:=netOk_of hok
 have:=o2 l h
 unfold litN
 omega
theorem outs_root {x:GrD} {l:Int} (h:l∈x.2.2.2):l∈grRoots x:=List.mem_append_left _ h
theorem seqAt_mem {x:GrD} {i:Nat} (h:i<x.2.1.length):x.2.1[i]? = some (seqAt x i)∧seqAt x i∈x.2.1:=by
 have e:x.2.1[i]? = some (seqAt x i):=by unfold seqAt;rw[List.getElem?_eq_getElem h];rfl
 exact⟨e,List.mem_of_getElem? e⟩
theorem seq_root {x:GrD} {i:Nat} (h:i<x.2.1.length) {l:Int} (hl:l∈(seqAt x i).2.2):l∈grRoots x:=by
 refine List.mem_append_right _ ?_
 exact List.mem_flatten.2 ⟨_,List.mem_map.2 ⟨_,(seqAt_mem h).2,rfl⟩,hl⟩
theorem firstG_eq {x:GrD}:firstG x=firstQ x+x.2.1.length:=rfl
theorem kids_in {x:GrD} (hok:netOkB x=true) {v u:Nat} (hv:v<grN x) (hu:u∈kidsO x v):u<grN x:=by
 unfold kidsO at hu
 split at hu
 · rename_i h
   obtain⟨a,b⟩:=kids_lt hok v h hv
   simp only[List.mem_cons,List.not_mem_nil,or_false] at hu
   rcases hu with rfl|rfl<;>omega
 · split at hu
   · rename_i h1 h2
     obtain⟨l,hl,rfl⟩:=List.mem_map.1 hu
     have:=firstG_eq (x:=x)
     exact (root_lt hok (seq_root (by omega) hl)).2
   · simp at hu
theorem obs_lt {x:GrD} (hok:netOkB x=true) {u:Nat} (h:Obs x u):u<grN x:=by
 induction h with
 | out h=>exact (root_lt hok (outs_root h)).2
 | kid hv hu ih=>exact kids_in hok ih hu
theorem obs_rch {x:GrD} {v u:Nat} (h:Rch (firstG x) (kidA x) (kidB x) v u) (hv:Obs x v):Obs x u:=by
 induction h with
 | refl v=>exact hv
 | a h r ih=>exact ih (.kid hv (by unfold kidsO;rw[if_pos h];simp))
 | b h r ih=>exact ih (.kid hv (by unfold kidsO;rw[if_pos h];simp))
def cntO (s:List Bool):Nat:=s.count false
structure InvO (x:GrD) (s:List Bool×List Nat):Prop where
 len:s.1.length=grN x
 obs:∀ u,getB s.1 u=true→Obs x u
 lt:∀ u∈s.2,u<grN x
 seen:∀ u∈s.2,getB s.1 u=true
 small:2*cntO s.1+s.2.length≤2*grN x
theorem getB_lt {s:List Bool} {u:Nat} (h:getB s u=true):u<s.length:=by
 unfold getB at h
 cases e:s[u]? with
 | none=>rw[e] at h;cases h
 | some b=>exact (List.getElem?_eq_some_iff.1 e).1
def setN (s:List Bool) (v:Nat):List Bool:=s.set v true
def msK (x:GrD) (m:List Bool):Nat→List Bool
 | 0=>m
 | i+1=>if getB (msK x m i) (firstQ x+i)=true then ((seqAt x i).2.2.map litN).foldl setN (msK x m i) else msK x m i
def rdK (x:GrD) (m:List Bool):Nat→List Bool
 | 0=>m
 | r+1=>msK x (sweepG x (rdK x m r)) x.2.1.length
def outM (x:GrD):List Bool:=(x.2.2.2.map litN).foldl setN (List.replicate (grN x) false)
theorem setN_all:∀ (vs:List Nat) {s:List Bool},(∀ v∈vs,v<s.length)→(vs.foldl setN s).length=s.length∧∀ u,(getB (vs.foldl setN s) u=true↔getB s u=true∨u∈vs)
 | [],s,_=>⟨rfl,fun u=>by simp⟩
 | v::vs,s,h=>by
   have hv:=h v (by simp)
   obtain⟨a,b⟩:=setN_all vs (s:=setN s v) (fun u hu=>by simpa [setN] using h u (by simp[hu]))
   refine⟨by simpa [setN] using a,fun u=>?_⟩
   simp only[List.foldl_cons]
   rw[b u,setN,getB_set hv]
   simp only[Bool.or_eq_true,decide_eq_true_eq,List.mem_cons]
   constructor
   · rintro ((h|h)|h)
     · exact .inr (.inl h)
     · exact .inl h
     · exact .inr (.inr h)
   · rintro (h|h|h)
     · exact .inl (.inr h)
     · exact .inl (.inl h)
     · exact .inr h
theorem seqKid {x:GrD} {i:Nat} (h:i<x.2.1.length):kidsO x (firstQ x+i)=(seqAt x i).2.2.map litN:=by
 unfold kidsO
 rw[if_neg (by have:=firstG_eq (x:=x);omega),if_pos (by omega),Nat.add_sub_cancel_left]
theorem msK_facts {x:GrD} (hok:netOkB x=true) {m:List Bool} (hl:m.length=grN x) (ho:∀ u,getB m u=true→Obs x u):∀ i,i≤x.2.1.length →
 (msK x m i).length=grN x∧(∀ u,getB (msK x m i) u=true→Obs x u)∧(∀ u,getB m u=true→getB (msK x m i) u=true)∧∀ j,j<i→getB m (firstQ x+j)=true→∀ k∈kidsO x (firstQ x+j),getB (msK x m i) k=true
 | 0,_=>⟨hl,ho,fun u h=>h,fun j h=>by omega⟩
 | i+1,hi=>by
   obtain⟨a,b,c,d⟩:=msK_facts hok hl ho i (by omega)
   have hk:=seqKid (x:=x) (i:=i) (by omega)
   unfold msK
   split
   · rename_i hs
     have hob:=b _ hs
     obtain⟨e,f⟩:=setN_all ((seqAt x i).2.2.map litN) (s:=msK x m i) (fun v hv=>by rw[a];exact kids_in hok (obs_lt hok hob) (hk▸hv))
     refine⟨by rw[e,a],fun u hu=>?_,fun u hu=>(f u).2 (.inl (c u hu)),fun j hj hm k hkk=>?_⟩
     · rcases (f u).1 hu with h|h
       · exact b u h
       · exact .kid hob (hk▸h)
     · by_cases hji:j=i
       · subst hji
         exact (f k).2 (.inr (hk▸hkk))
       · exact (f k).2 (.inl (d j (by omega) hm k hkk))
   · rename_i hs
     refine⟨a,b,c,fun j hj hm k hkk=>?_⟩
     by_cases hji:j=i
     · subst hji
       exact absurd (c _ hm) hs
     · exact d j (by omega) hm k hkk
theorem sweepG_len {x:GrD} {m:List Bool}:(sweepG x m).length=m.length:=swK_len _
theorem sweepG_facts {x:GrD} (hok:netOkB x=true) {m:List Bool} (hl:m.length=grN x) (ho:∀ u,getB m u=true→Obs x u) :
 (∀ u,getB (sweepG x m) u=true→Obs x u)∧(∀ u,getB m u=true→getB (sweepG x m) u=true)∧∀ u,getB (sweepG x m) u=true→firstG x≤u→∀ k∈kidsO x u,getB (sweepG x m) k=true:=by
 have h:=sweep_iff hok hl
 refine⟨fun u hu=>?_,fun u hu=>(h u).2 ⟨u,hu,.refl u⟩,fun u hu hF k hk=>?_⟩
 · obtain⟨r,hr,hru⟩:=(h u).1 hu
   exact obs_rch hru (ho r hr)
 · obtain⟨r,hr,hru⟩:=(h u).1 hu
   unfold kidsO at hk
   rw[if_pos hF] at hk
   simp only[List.mem_cons,List.not_mem_nil,or_false] at hk
   rcases hk with rfl|rfl
   · exact (h _).2 ⟨r,hr,hru.snoc_a hF⟩
   · exact (h _).2 ⟨r,hr,hru.snoc_b hF⟩
theorem outM_facts {x:GrD} (hok:netOkB x=true):(outM x).length=grN x∧(∀ u,getB (outM x) u=true→Obs x u)∧∀ l∈x.2.2.2,getB (outM x) (litN l)=true:=by
 obtain⟨a,b⟩:=setN_all (x.2.2.2.map litN) (s:=List.replicate (grN x) false) (fun v hv=>by
  obtain⟨l,hl,rfl⟩:=List.mem_map.1 hv
  simpa using (root_lt hok (outs_root hl)).2)
 refine⟨by unfold outM;rw[a];simp,fun u hu=>?_,fun l hl=>(b _).2 (.inr (List.mem_map.2 ⟨l,hl,rfl⟩))⟩
 rcases (b u).1 hu with h|h
 · rw[getB_rep] at h;cases h
 · obtain⟨l,hl,rfl⟩:=List.mem_map.1 h
   exact .out hl
theorem rdK_facts {x:GrD} (hok:netOkB x=true):∀ r,(rdK x (outM x) r).length=grN x∧(∀ u,getB (rdK x (outM x) r) u=true→Obs x u)∧∀ l∈x.2.2.2,getB (rdK x (outM x) r) (litN l)=true
 | 0=>outM_facts hok
 | r+1=>by
   obtain⟨a,b,c⟩:=rdK_facts hok r
   obtain⟨s1,s2,s3⟩:=sweepG_facts hok a b
   obtain⟨e,f,g,h⟩:=msK_facts hok (m:=sweepG x (rdK x (outM x) r)) (by rw[sweepG_len,a]) s1 x.2.1.length (Nat.le_refl _)
   exact⟨e,f,fun l hl=>g _ (s2 _ (c l hl))⟩
theorem rdK_step {x:GrD} (hok:netOkB x=true) (r:Nat):(∀ u,getB (sweepG x (rdK x (outM x) r)) u=true→getB (sweepG x (rdK x (outM x) (r+1))) u=true) ∧
 ∀ j,j<x.2.1.length→getB (sweepG x (rdK x (outM x) r)) (firstQ x+j)=true→∀ k∈kidsO x (firstQ x+j),getB (sweepG x (rdK x (outM x) (r+1))) k=true:=by
 obtain⟨a,b,c⟩:=rdK_facts hok r
 obtain⟨a',b',c'⟩:=rdK_facts hok (r+1)
 obtain⟨s1,s2,s3⟩:=sweepG_facts hok a b
 obtain⟨t1,t2,t3⟩:=sweepG_facts hok a' b'
 obtain⟨e,f,g,h⟩:=msK_facts hok (m:=sweepG x (rdK x (outM x) r)) (by rw[sweepG_len,a]) s1 x.2.1.length (Nat.le_refl _)
 exact⟨fun u hu=>t2 u (g u hu),fun j hj hm k hk=>t2 k (h j hj hm k hk)⟩
theorem countP_lt {p q:Nat→Bool}:∀ (l:List Nat),(∀ i∈l,p i=true→q i=true)→(∃ i∈l,q i=true∧p i=false)→l.countP p<l.countP q
 | [],_,h=>by obtain⟨i,hi,_⟩:=h;simp at hi
 | a::l,hm,h=>by
   have hle:l.countP p≤l.countP q:=List.countP_mono_left fun i hi hp=>hm i (by simp[hi]) hp
   obtain⟨i,hi,hq,hp⟩:=h
   rw[List.countP_cons,List.countP_cons]
   rcases List.mem_cons.1 hi with rfl|hi
   · rw[hq,hp];simp;omega
   · have ih:=countP_lt l (fun i hi=>hm i (by simp[hi])) ⟨i,hi,hq,hp⟩
     have:=hm a (by simp)
     cases hpa:p a with
     | false=>cases q a<;>simp<;>omega
     | true=>rw[this hpa];simp;omega
def cntS (x:GrD) (r:Nat):Nat:=(List.range x.2.1.length).countP fun i=>getB (sweepG x (rdK x (outM x) r)) (firstQ x+i)
theorem cntS_le {x:GrD} {r:Nat}:cntS x r≤x.2.1.length:=by
 have:=List.countP_le_length (p:=fun i=>getB (sweepG x (rdK x (outM x) r)) (firstQ x+i)) (l:=List.range x.2.1.length)
 simpa [cntS] using this
theorem some_still {x:GrD} (hok:netOkB x=true):∃ r,r≤x.2.1.length∧∀ i,i<x.2.1.length→getB (sweepG x (rdK x (outM x) (r+1))) (firstQ x+i)=true→getB (sweepG x (rdK x (outM x) r)) (firstQ x+i)=true:=by
 by_cases h:∃ r,r≤x.2.1.length∧∀ i,i<x.2.1.length→getB (sweepG x (rdK x (outM x) (r+1))) (firstQ x+i)=true→getB (sweepG x (rdK x (outM x) r)) (firstQ x+i)=true
 · exact h
 have hs:∀ r,r≤x.2.1.length→cntS x r<cntS x (r+1):=fun r hr=>by
  refine countP_lt _ (fun i hi hp=>(rdK_step hok r).1 _ hp) ?_
  obtain⟨i,h1⟩:=Classical.not_forall.1 fun hc=>h ⟨r,hr,hc⟩
  obtain⟨hi,h2⟩:=Classical.not_imp.1 h1
  obtain⟨hq,hp⟩:=Classical.not_imp.1 h2
  exact⟨i,List.mem_range.2 hi,hq,by simpa using hp⟩
 have hc:∀ r,r≤x.2.1.length+1→r≤cntS x r:=by
  intro r
  induction r with
  | zero=>intro _;exact Nat.zero_le _
  | succ r ih=>intro hr;have:=ih (by omega);have:=hs r (by omega);omega
 have:=hc (x.2.1.length+1) (Nat.le_refl _)
 have:=cntS_le (x:=x) (r:=x.2.1.length+1)
 omega
theorem rounds_obs {x:GrD} (hok:netOkB x=true):sweepG x (rdK x (outM x) (x.2.1.length+1))=obsB x:=by
 obtain⟨a,b,c⟩:=rdK_facts hok (x.2.1.length+1)
 obtain⟨s1,s2,s3⟩:=sweepG_facts hok a b
 obtain⟨r,hr,hst⟩:=some_still hok
 have hmono:∀ d u,getB (sweepG x (rdK x (outM x) (r+1))) u=true→getB (sweepG x (rdK x (outM x) (r+1+d))) u=true:=by
  intro d
  induction d with
  | zero=>exact fun u h=>h
  | succ d ih=>exact fun u h=>(rdK_step hok (r+1+d)).1 u (ih u h)
 refine obs_eq (by rw[sweepG_len,a]) fun u=>⟨s1 u,fun hu=>?_⟩
 have key:getB (sweepG x (rdK x (outM x) (r+1))) u=true:=by
  obtain⟨a',b',c'⟩:=rdK_facts hok (r+1)
  obtain⟨t1,t2,t3⟩:=sweepG_facts hok a' b'
  induction hu with
  | out h=>exact t2 _ (c' _ h)
  | @kid v u hv hu ih =>
    by_cases hF:firstG x≤v
    · exact t3 v ih hF _ hu
    · by_cases hQ:firstQ x≤v
      · have hlt:v - firstQ x<x.2.1.length:=by have:=firstG_eq (x:=x);omega
        have hv':firstQ x+(v - firstQ x)=v:=by omega
        exact (rdK_step hok r).2 (v - firstQ x) hlt (hst _ hlt (by rw[hv'];exact ih)) _ (by rw[hv'];exact hu)
      · unfold kidsO at hu
        rw[if_neg hF,if_neg hQ] at hu
        simp at hu
 have:=hmono (x.2.1.length - r) u key
 rwa [show r+1+(x.2.1.length - r)=x.2.1.length+1 by omega] at this
end Go.Proofs.Ytnjedabjbeipeaa
namespace Go.Proofs.Ytnjedabjbeipeaa
set_option linter.unusedVariables false
def mnI (a b:Int):Int:=if b<a then b else a
def mxI (a b:Int):Int:=if a<b then b else a
def trivB (a b:Int):Bool:=decide (a=0)||decide (b=0)||decide (xor64 a 1=b)||decide (a=1)||decide (a=b)||decide (b=1)
def trivV (a b:Int):Int:=if a=0∨b=0∨xor64 a 1=b then 0 else if a=1∨a=b then b else a
def fndL (an:List AndD) (x:AndD):Nat:=an.findIdx fun y=>decide (y=x)
def addV (fa:Int) (an:List AndD) (a b:Int):Int :=
 if trivB a b=true then trivV a b else if fndL an (mnI a b,mxI a b)<an.length then 2*(fa+fndL an (mnI a b,mxI a b)) else if an.length<300 then 2*(fa+an.length) else -1
def addM (an:List AndD) (a b:Int):Bool:=!trivB a b&&decide (¬ fndL an (mnI a b,mxI a b)<an.length)&&decide (an.length<300)
def addN (an:List AndD) (a b:Int):List AndD:=if addM an a b=true then an++[(mnI a b,mxI a b)] else an
theorem fnd_at {an:List AndD} {x:AndD} {i:Nat} (h:an[i]? = some x) (hpre:∀ j:Nat,j<i→an[j]?≠some x):fndL an x=i:=by
 obtain⟨hi,e⟩:=List.getElem?_eq_some_iff.1 h
 unfold fndL
 rw[List.findIdx_eq hi]
 refine⟨by simpa using e,fun j hj=>?_⟩
 have:=hpre j hj
 rw[List.getElem?_eq_getElem (by omega)] at this
 simpa using this
theorem fnd_none {an:List AndD} {x:AndD} (hpre:∀ j:Nat,j<an.length→an[j]?≠some x):fndL an x=an.length:=by
 unfold fndL
 rw[List.findIdx_eq_length]
 intro y hy
 obtain⟨j,hj,rfl⟩:=List.mem_iff_getElem.1 hy
 have:=hpre j hj
 rw[List.getElem?_eq_getElem hj] at this
 simpa using this
theorem addN_len {an:List AndD} {a b:Int}:an.length≤(addN an a b).length∧(addN an a b).length≤an.length+1:=by
 unfold addN;split<;>simp
end Go.Proofs.Ytnjedabjbeipeaa
namespace Go.Proofs.Ytnjedabjbeipeaa
set_option linter.unusedVariables false
def plMapV (pl:List Int) (l:Int):Int:=xor64 (atI pl (l / 2)) (l % 2)
theorem flip_half {v:Int} (h:0≤v):flip v / 2=v / 2∧0≤flip v:=by unfold flip;split<;>omega
theorem flip_flip {v:Int} (h:0≤v):flip (flip v)=v:=by unfold flip;split<;>split<;>omega
theorem mapV_eq {pl:List Int} {l:Int} (h0:0≤atI pl (l / 2)) (h1:atI pl (l / 2)≤1048576):plMapV pl l=if l % 2=0 then atI pl (l / 2) else flip (atI pl (l / 2)):=by
 unfold plMapV
 split
 · rename_i h;rw[h,xor64_zero h0 (by omega)]
 · rename_i h;rw[show l % 2=1 by omega,xor64_one h0 (by omega)]
theorem mapV_rng {pl:List Int} {l:Int} {n:Int} (h:0≤atI pl (l / 2)∧atI pl (l / 2)<2*n) (hn:n≤1000):0≤plMapV pl l∧plMapV pl l<2*n:=by
 rw[mapV_eq h.1 (by omega)]
 split
 · exact h
 · have:=flip_half h.1;omega
def litsAt (n:Nat) (ls:List Int):Prop:=∀ l∈ls,0≤l∧l<2*(n:Int)
def plIn (n:Int) (pl:List Int):Prop:=∀ v∈pl,0≤v∧v<2*n
theorem plIn_at {n:Int} {pl:List Int} (h:plIn n pl) (hn:0<n) (k:Int):0≤atI pl k∧atI pl k<2*n:=by
 unfold atI
 cases e:pl[k.toNat]? with
 | none=>simp only[Option.getD_none];omega
 | some v=>simpa using h v (List.mem_of_getElem? e)
theorem trivV_rng {a b n:Int} (ha:0≤a∧a<2*n) (hb:0≤b∧b<2*n):0≤trivV a b∧trivV a b<2*n:=by
 unfold trivV;split<;>(try split)<;>omega
theorem mn_rng {a b:Int} {P:Int→Prop} (ha:P a) (hb:P b):P (mnI a b)∧P (mxI a b):=by
 unfold mnI mxI
 constructor<;>split<;>assumption
theorem addV_rng {fa:Int} {an:List AndD} {a b:Int} (hf:0≤fa) (ha:0≤a∧a<2*(fa+an.length)) (hb:0≤b∧b<2*(fa+an.length)):-1≤addV fa an a b∧addV fa an a b<2*(fa+(addN an a b).length):=by
 have hl:=addN_len (an:=an) (a:=a) (b:=b)
 unfold addV
 split
 · have:=trivV_rng ha hb;omega
 · rename_i ht
   split
   · omega
   · rename_i hf2
     split
     · rename_i h3
       have:addM an a b=true:=by unfold addM;simp[ht,hf2,h3]
       unfold addN
       rw[if_pos this]
       simp;omega
     · omega
theorem addN_300 {an:List AndD} {a b:Int} (h:an.length≤300):(addN an a b).length≤300:=by
 unfold addN
 split
 · rename_i hm
   unfold addM at hm
   simp only[Bool.and_eq_true,decide_eq_true_eq] at hm
   simp;omega
 · exact h
def ansOk (fa:Int) (an:List AndD):Prop:=andsFit fa 0 an=true
theorem andFits_iff {n:Int} {x:AndD}:andFits n x=true↔(0≤x.1∧x.1<2*n)∧0≤x.2∧x.2<2*n:=by
 unfold andFits
 rw[Bool.and_eq_true,rng_iff,rng_iff]
 omega
theorem ansOk_add {fa:Int} {an:List AndD} {a b:Int} (h:ansOk fa an) (ha:0≤a∧a<2*(fa+an.length)) (hb:0≤b∧b<2*(fa+an.length)):ansOk fa (addN an a b):=by
 unfold addN
 split
 · unfold ansOk at h ⊢
   have:=andsFit_snoc (f:=fa) (xs:=an++[(mnI a b,mxI a b)]) (k:=an.length) (x:=(mnI a b,mxI a b)) (by simp)
   rw[List.take_of_length_le (by simp),List.take_left' rfl,h,Bool.true_and] at this
   rw[this,andFits_iff]
   exact mn_rng (P:=fun x=>0≤x∧x<2*(fa+(an.length:Int))) ha hb
 · exact h
def impR (x:GrD) (fa skip inst:Int) (to0:List Int) (an0:List AndD):Nat→List Int×List AndD×Bool
 | 0=>(to0,an0,true)
 | i+1 =>
   if (impR x fa skip inst to0 an0 i).2.2=false then impR x fa skip inst to0 an0 i
   else if (i:Int)=skip then ((impR x fa skip inst to0 an0 i).1++[inst],(impR x fa skip inst to0 an0 i).2.1,true)
   else if addV fa (impR x fa skip inst to0 an0 i).2.1 (plMapV (impR x fa skip inst to0 an0 i).1 (andAt x (firstG x+i)).1) (plMapV (impR x fa skip inst to0 an0 i).1 (andAt x (firstG x+i)).2)<0 then ((impR x fa skip inst to0 an0 i).1,(impR x fa skip inst to0 an0 i).2.1,false)
   else ((impR x fa skip inst to0 an0 i).1++[addV fa (impR x fa skip inst to0 an0 i).2.1 (plMapV (impR x fa skip inst to0 an0 i).1 (andAt x (firstG x+i)).1) (plMapV (impR x fa skip inst to0 an0 i).1 (andAt x (firstG x+i)).2)],
    addN (impR x fa skip inst to0 an0 i).2.1 (plMapV (impR x fa skip inst to0 an0 i).1 (andAt x (firstG x+i)).1) (plMapV (impR x fa skip inst to0 an0 i).1 (andAt x (firstG x+i)).2),true)
structure ImpOk (fa:Int) (n:Nat) (s:List Int×List AndD×Bool):Prop where
 len:s.2.2=true→s.1.length=n
 le:s.1.length≤n
 pl:plIn (fa+s.2.1.length) s.1
 an:s.2.1.length≤300
 ok:ansOk fa s.2.1
theorem impR_ok {x:GrD} (hok:netOkB x=true) {fa skip inst:Int} {to0:List Int} {an0:List AndD} (hfa:0<fa∧fa≤100) (hi:0≤inst∧inst<2*fa) (h0:ImpOk fa (firstG x) (to0,an0,true)) :
 ∀ i,i≤x.2.2.1.length→ImpOk fa (firstG x+i) (impR x fa skip inst to0 an0 i)∧an0.length≤(impR x fa skip inst to0 an0 i).2.1.length
 | 0,_=>⟨h0,Nat.le_refl _⟩
 | i+1,hile=>by
   obtain⟨ih,ihl⟩:=impR_ok hok hfa hi h0 (skip:=skip) i (by omega)
   obtain⟨hF,hgl,hNi,hno⟩:=ok_sizes hok
   have hN:=grN_eq x
   obtain⟨-,a1,a2,a3,a4,a5,a6⟩:=and_at hok (v:=firstG x+i) (by omega) (by omega)
   unfold impR
   generalize impR x fa skip inst to0 an0 i=s at *
   obtain⟨to,an,b⟩:=s
   simp only at ih ihl ⊢
   split
   · rename_i hb
     subst hb
     exact⟨⟨fun h=>by simp at h,by have:=ih.le;simp only at this ⊢;omega,ih.pl,ih.an,ih.ok⟩,ihl⟩
   · rename_i hb
     obtain rfl:b=true:=by simpa using hb
     have hl:=ih.len rfl
     have ha:=ih.an
     simp only at hl ha
     split
     · refine⟨⟨fun _=>by simp only[List.length_append,List.length_cons,List.length_nil];omega,by simp only[List.length_append,List.length_cons,List.length_nil];omega,fun v hv=>?_,ih.an,ih.ok⟩,ihl⟩
       simp only at hv ⊢
       rcases List.mem_append.1 hv with h|h
       · exact ih.pl v h
       · rw[List.mem_singleton.1 h];omega
     · have r1:=mapV_rng (l:=(andAt x (firstG x+i)).1) (plIn_at ih.pl (by simp only;omega) ((andAt x (firstG x+i)).1 / 2)) (by simp only;omega)
       have r2:=mapV_rng (l:=(andAt x (firstG x+i)).2) (plIn_at ih.pl (by simp only;omega) ((andAt x (firstG x+i)).2 / 2)) (by simp only;omega)
       simp only at r1 r2
       have h3:=addV_rng (fa:=fa) (by omega) r1 r2
       have h4:=ansOk_add ih.ok r1 r2
       have h5:=addN_len (an:=an) (a:=plMapV to (andAt x (firstG x+i)).1) (b:=plMapV to (andAt x (firstG x+i)).2)
       have h6:=addN_300 (a:=plMapV to (andAt x (firstG x+i)).1) (b:=plMapV to (andAt x (firstG x+i)).2) ha
       simp only at h4
       generalize plMapV to (andAt x (firstG x+i)).1=a at *
       generalize plMapV to (andAt x (firstG x+i)).2=b at *
       split
       · exact⟨⟨fun h=>by simp at h,by simp only;omega,ih.pl,ih.an,ih.ok⟩,ihl⟩
       · refine⟨⟨fun _=>by simp only[List.length_append,List.length_cons,List.length_nil];omega,by simp only[List.length_append,List.length_cons,List.length_nil];omega,fun v hv=>?_,h6,h4⟩,by simp only;omega⟩
         simp only at hv ⊢
         rcases List.mem_append.1 hv with h|h
         · have:=ih.pl v h;simp only at this;omega
         · rw[List.mem_singleton.1 h];omega
def leafL (n:Nat):List Int:=(List.range n).map fun k:Nat=>2*(k:Int)
theorem leafL_len {n:Nat}:(leafL n).length=n:=by simp[leafL]
theorem leafL_snoc {n:Nat}:leafL (n+1)=leafL n++[2*(n:Int)]:=by simp[leafL,List.range_succ]
theorem leafL_in {n:Nat} {m:Int} (h:(n:Int)≤m):plIn m (leafL n):=fun v hv=>by
 obtain⟨k,hk,rfl⟩:=List.mem_map.1 hv
 have:=List.mem_range.1 hk
 omega
end Go.Proofs.Ytnjedabjbeipeaa
namespace Go.Proofs.Ytnjedabjbeipeaa
set_option linter.unusedVariables false
end Go.Proofs.Ytnjedabjbeipeaa
namespace Go.Proofs.Ytnjedabjbeipeaa
set_option linter.unusedVariables false
set_option linter.unusedSimpArgs false
theorem seqOk_rng {s:SeqD} (h:seqOkB s=true):isI s.1∧isI s.2.1∧s.2.2.length≤4:=by
 have hl:=seqOk_len h
 unfold seqOkB at h
 unfold isI
 split at h
 · rename_i h1
   simp only[Bool.and_eq_true] at h
   have:=rng_iff.1 h.1
   exact⟨by omega,by omega,hl⟩
 · split at h
   · rename_i h1
     simp only[Bool.and_eq_true] at h
     have:=rng_iff.1 h.1
     exact⟨by omega,by omega,hl⟩
   · cases h
theorem okGr_netOk {x:GrD} (hok:netOkB x=true):okGr x:=by
 obtain⟨⟨n1,n2,n3,n4,n5,n6⟩,o1,o2,o3⟩:=netOk_of hok
 obtain⟨hF,hgl,hNi,hno⟩:=ok_sizes hok
 have hN:=grN_eq x
 refine⟨fun y hy=>?_,fun s hs=>⟨(seqOk_rng (o1 s hs)).1,(seqOk_rng (o1 s hs)).2.1,fun y hy=>?_⟩,fun a ha=>?_,by unfold isI;omega⟩
 · have:=o2 y (outs_root hy);unfold isI;omega
 · have:=o2 y (List.mem_append_right _ (List.mem_flatten.2 ⟨_,List.mem_map.2 ⟨s,hs,rfl⟩,hy⟩));unfold isI;omega
 · obtain⟨i,hi,rfl⟩:=List.mem_iff_getElem.1 ha
   obtain⟨e,a1,a2,a3,a4,a5,a6⟩:=and_at hok (v:=firstG x+i) (by omega) (by omega)
   rw[Nat.add_sub_cancel_left,List.getElem?_eq_getElem hi] at e
   rw[Option.some.inj e]
   unfold isI;omega
theorem fitGr_netOk {x:GrD} (hok:netOkB x=true):fitGr 1048576 x:=by
 obtain⟨⟨n1,n2,n3,n4,n5,n6⟩,o1,o2,o3⟩:=netOk_of hok
 exact⟨by omega,fun s hs=>by have:=seqOk_len (o1 s hs);omega,by omega,by omega⟩
def withA (x:GrD) (an:List AndD):GrD:=(x.1,x.2.1,an,x.2.2.2)
theorem netOk_withA {x:GrD} (hok:netOkB x=true) {an:List AndD} (hl:x.2.2.1.length≤an.length) (h3:an.length≤300) (ha:ansOk (firstG x) an):netOkB (withA x an)=true:=by
 obtain⟨⟨n1,n2,n3,n4,n5,n6⟩,o1,o2,o3⟩:=netOk_of hok
 obtain⟨hF,hgl,hNi,hno⟩:=ok_sizes hok
 have hN:=grN_eq x
 have hn:nodesG (withA x an)=1+x.1+x.2.1.length+an.length:=by
  unfold nodesG withA
  rw[if_pos ⟨rng_iff.2 ⟨n1,n2⟩,n3,h3,n5⟩]
 have hr:grRoots (withA x an)=grRoots x:=rfl
 unfold netOkB
 rw[hn,hr]
 simp only[Bool.and_eq_true,decide_eq_true_eq]
 refine⟨⟨⟨by omega,?_⟩,?_⟩,?_⟩
 · rw[List.all_eq_true];exact o1
 · unfold belowB
   rw[List.all_eq_true]
   intro y hy
   have:=o2 y hy
   exact rng_iff.2 (by omega)
 · show andsFit (1+x.1+(x.2.1.length:Int)) 0 an=true
   rw[←hF];exact ha
def sAddL (x:GrD) (a b:Int):GrD×Int :=
 if rng a 0 (2*(grN x:Int) - 1)=true∧rng b 0 (2*(grN x:Int) - 1)=true then (withA x (addN x.2.2.1 a b),addV (firstG x) x.2.2.1 a b) else (x,-1)
theorem sAddL_ok {x:GrD} {a b:Int} (ha:0≤a∧a<2*(grN x:Int)) (hb:0≤b∧b<2*(grN x:Int)):sAddL x a b=(withA x (addN x.2.2.1 a b),addV (firstG x) x.2.2.1 a b):=by
 unfold sAddL;rw[if_pos ⟨rng_iff.2 (by omega),rng_iff.2 (by omega)⟩]
theorem grN_withA {x:GrD} {an:List AndD}:grN (withA x an)=firstG x+an.length:=rfl
end Go.Proofs.Ytnjedabjbeipeaa
