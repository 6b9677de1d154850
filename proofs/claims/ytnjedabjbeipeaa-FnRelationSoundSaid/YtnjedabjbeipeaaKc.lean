/-
  A net without what can not be observed has the same cycles. Plain lemmas.
  Conditions: those typed in each theorem.
-/
import Derived.Test.YtnjedabjbeipeaaKb
import Derived.Test.YtnjedabjbeipeaaPa
import Derived.Test.YtnjedabjbeipeaaRc
namespace Go.Proofs.Ytnjedabjbeipeaa
open Go.RowKit Go.ChangeShapes Go.WideShapes
set_option linter.unusedVariables false
set_option linter.unusedSimpArgs false
def kpB (x:GrD) (m:List Bool) (v:Nat):Bool:=decide (v<firstQ x)||getB m v
def ctP (x:GrD) (m:List Bool):Nat→Nat
 | 0=>0
 | v+1=>if kpB x m v=true then ctP x m v+1 else ctP x m v
def plP (x:GrD) (m:List Bool):List Int:=(List.range (grN x)).map fun v=>if kpB x m v=true then 2*(ctP x m v:Int) else 0
def sqK (x:GrD) (m:List Bool) (pl:List Int):Nat→List SeqD
 | 0=>[]
 | i+1=>if getB m (firstQ x+i)=true then sqK x m pl i++[mapSeq pl (seqAt x i)] else sqK x m pl i
def anP (x:GrD) (m:List Bool) (pl:List Int):Nat→List AndD
 | 0=>[]
 | i+1=>if getB m (firstG x+i)=true then anP x m pl i++[(plMapV pl (andAt x (firstG x+i)).1,plMapV pl (andAt x (firstG x+i)).2)] else anP x m pl i
def prG (x:GrD) (m:List Bool):GrD:=(x.1,sqK x m (plP x m) x.2.1.length,anP x m (plP x m) x.2.2.1.length,x.2.2.2.map (plMapV (plP x m)))
noncomputable def pruneG (x:GrD):GrD:=prG x (obsB x)
section
variable {x:GrD} {m:List Bool} {pl:List Int}
theorem sqK_succ {i:Nat}:sqK x m pl (i+1)=if getB m (firstQ x+i)=true then sqK x m pl i++[mapSeq pl (seqAt x i)] else sqK x m pl i:=rfl
theorem anP_succ {i:Nat}:anP x m pl (i+1)=if getB m (firstG x+i)=true then anP x m pl i++[(plMapV pl (andAt x (firstG x+i)).1,plMapV pl (andAt x (firstG x+i)).2)] else anP x m pl i:=rfl
theorem ctP_le:∀ v,ctP x m v≤v
 | 0=>Nat.le_refl _
 | v+1=>by have:=ctP_le v;unfold ctP;split<;>omega
theorem ctP_mono {v:Nat}:∀ d,ctP x m v≤ctP x m (v+d)
 | 0=>Nat.le_refl _
 | d+1=>by
   have:=ctP_mono (v:=v) d
   show _≤(if kpB x m (v+d)=true then ctP x m (v+d)+1 else ctP x m (v+d))
   split<;>omega
theorem ctP_lt {u v:Nat} (hu:kpB x m u=true) (h:u<v):ctP x m u+1≤ctP x m v:=by
 have h1:ctP x m (u+1)=ctP x m u+1:=by
  show (if kpB x m u=true then ctP x m u+1 else ctP x m u)=_
  rw[if_pos hu]
 have:=ctP_mono (x:=x) (m:=m) (v:=u+1) (v - (u+1))
 rw[show u+1+(v - (u+1))=v by omega] at this
 omega
theorem ctP_low:∀ v,v≤firstQ x→ctP x m v=v
 | 0,_=>rfl
 | v+1,h=>by
   have ih:=ctP_low v (by omega)
   have hk:kpB x m v=true:=by unfold kpB;rw[decide_eq_true (by omega)];rfl
   show (if kpB x m v=true then ctP x m v+1 else ctP x m v)=_
   rw[if_pos hk,ih]
theorem kpB_high {v:Nat} (h:firstQ x≤v):kpB x m v=getB m v:=by unfold kpB;rw[decide_eq_false (by omega),Bool.false_or]
theorem ctP_seq:∀ i,i≤x.2.1.length→ctP x m (firstQ x+i)=firstQ x+(sqK x m pl i).length
 | 0,_=>by rw[Nat.add_zero,ctP_low _ (Nat.le_refl _)];rfl
 | i+1,h=>by
   have ih:=ctP_seq i (by omega)
   show (if kpB x m (firstQ x+i)=true then ctP x m (firstQ x+i)+1 else ctP x m (firstQ x+i))=_
   rw[kpB_high (by omega),ih,sqK_succ]
   split
   · rw[List.length_append];rfl
   · rfl
theorem sqK_len:∀ i,(sqK x m pl i).length≤i
 | 0=>Nat.le_refl _
 | i+1=>by have:=sqK_len i;unfold sqK;split<;>simp<;>omega
theorem anP_len:∀ i,(anP x m pl i).length≤i
 | 0=>Nat.le_refl _
 | i+1=>by have:=anP_len i;unfold anP;split<;>simp<;>omega
theorem keptK_sq:∀ i,(keptK m (firstQ x) i).length=(sqK x m pl i).length
 | 0=>rfl
 | i+1=>by
   have ih:=keptK_sq i
   unfold keptK sqK
   split
   · rw[List.length_append,List.length_append,ih];rfl
   · exact ih
theorem pr_first:firstG (prG x m)=firstQ x+(sqK x m (plP x m) x.2.1.length).length:=rfl
theorem ctP_and:∀ i,i≤x.2.2.1.length→ctP x m (firstG x+i)=firstG (prG x m)+(anP x m (plP x m) i).length
 | 0,_=>by
   rw[Nat.add_zero,show firstG x=firstQ x+x.2.1.length from rfl,ctP_seq (pl:=plP x m) _ (Nat.le_refl _),pr_first]
   rfl
 | i+1,h=>by
   have ih:=ctP_and i (by omega)
   show (if kpB x m (firstG x+i)=true then ctP x m (firstG x+i)+1 else ctP x m (firstG x+i))=_
   rw[kpB_high (by rw[firstG_eq];omega),ih,anP_succ]
   split
   · rw[List.length_append];rfl
   · rfl
theorem pr_size:grN (prG x m)=ctP x m (grN x):=by
 rw[grN_eq x,ctP_and _ (Nat.le_refl _)]
 rfl
theorem plP_at {v:Nat} (hv:v<grN x) (hk:kpB x m v=true):atI (plP x m) (v:Int)=2*(ctP x m v:Int):=by
 unfold atI plP
 rw[Int.toNat_natCast,List.getElem?_map,List.getElem?_range hv,Option.map_some,Option.getD_some,if_pos hk]
theorem plP_lit {l:Int} (h0:0≤l) (hv:litN l<grN x) (hk:kpB x m (litN l)=true):atI (plP x m) (l / 2)=2*(ctP x m (litN l):Int):=by
 have e:l / 2=((litN l:Nat):Int):=by unfold litN;omega
 rw[e,plP_at hv hk]
theorem plP_rng {l:Int} {n:Nat} (h0:0≤l) (hv:litN l<n) (hn:n≤grN x) (hN:grN x≤400) (hk:kpB x m (litN l)=true):0≤plMapV (plP x m) l∧plMapV (plP x m) l<2*(ctP x m n:Int):=by
 have e:=plP_lit (m:=m) h0 (by omega) hk
 have h1:=ctP_lt hk hv
 have h2:=ctP_le (x:=x) (m:=m) n
 exact mapV_rng (n:=ctP x m n) (by rw[e];omega) (by omega)
end
section
variable {x:GrD} (hok:netOkB x=true)
theorem get_obs {u:Nat} (h:getB (obsB x) u=true):Obs x u:=by
 have hl:u<grN x:=by
  have:=getB_lt h
  rwa [obsB_len] at this
 classical
 have e:getB (obsB x) u=decide (Obs x u):=by simp[getB,obsB,hl]
 rw[e] at h
 exact of_decide_eq_true h
include hok
theorem obs_get {u:Nat} (h:Obs x u):getB (obsB x) u=true:=by
 have:=obs_lt hok h
 classical
 have e:getB (obsB x) u=decide (Obs x u):=by simp[getB,obsB,this]
 rw[e]
 exact decide_eq_true h
theorem obs_kp {u:Nat} (h:Obs x u):kpB x (obsB x) u=true:=by unfold kpB;rw[obs_get hok h,Bool.or_true]
theorem and_kids {i:Nat} (hi:i<x.2.2.1.length) (h:getB (obsB x) (firstG x+i)=true):∀ l,(l=(andAt x (firstG x+i)).1∨l=(andAt x (firstG x+i)).2)→0≤l∧litN l<firstG x+i∧kpB x (obsB x) (litN l)=true:=by
 have hN:=grN_eq x
 obtain⟨-,a1,a2,a3,a4,a5,a6⟩:=and_at hok (v:=firstG x+i) (by omega) (by omega)
 have ho:=get_obs h
 have hk:kidsO x (firstG x+i)=[kidA x (firstG x+i),kidB x (firstG x+i)]:=by unfold kidsO;rw[if_pos (by omega)]
 rintro l (rfl|rfl)
 · have e:litN (andAt x (firstG x+i)).1=kidA x (firstG x+i):=rfl
   exact⟨a1,by omega,by rw[e];exact obs_kp hok (.kid ho (by rw[hk];simp))⟩
 · have e:litN (andAt x (firstG x+i)).2=kidB x (firstG x+i):=rfl
   exact⟨a2,by omega,by rw[e];exact obs_kp hok (.kid ho (by rw[hk];simp))⟩
theorem seq_kids {i:Nat} (hi:i<x.2.1.length) (h:getB (obsB x) (firstQ x+i)=true) {l:Int} (hl:l∈(seqAt x i).2.2):0≤l∧litN l<grN x∧kpB x (obsB x) (litN l)=true:=by
 have h1:=root_lt hok (seq_root hi hl)
 have hk:=seqKid (x:=x) hi
 exact⟨h1.1,h1.2,obs_kp hok (.kid (get_obs h) (by rw[hk];exact List.mem_map_of_mem hl))⟩
theorem out_kids {l:Int} (hl:l∈x.2.2.2):0≤l∧litN l<grN x∧kpB x (obsB x) (litN l)=true:=by
 have h1:=root_lt hok (outs_root hl)
 exact⟨h1.1,h1.2,obs_kp hok (.out hl)⟩
theorem sqK_in:∀ i,i≤x.2.1.length→∀ s∈sqK x (obsB x) (plP x (obsB x)) i,∃ j,j<i∧getB (obsB x) (firstQ x+j)=true∧s=mapSeq (plP x (obsB x)) (seqAt x j)
 | 0,_,s,h=>by have _:=hok;simp[sqK] at h
 | i+1,hi,s,h=>by
   unfold sqK at h
   split at h
   · rename_i hb
     rcases List.mem_append.1 h with h|h
     · obtain⟨j,h1,h2⟩:=sqK_in i (by omega) s h
       exact⟨j,by omega,h2⟩
     · exact⟨i,by omega,hb,List.mem_singleton.1 h⟩
   · obtain⟨j,h1,h2⟩:=sqK_in i (by omega) s h
     exact⟨j,by omega,h2⟩
theorem anP_in:∀ i,i≤x.2.2.1.length→∀ (j:Nat) (a:AndD),(anP x (obsB x) (plP x (obsB x)) i)[j]? = some a→∃ q,q<i∧getB (obsB x) (firstG x+q)=true∧a=(plMapV (plP x (obsB x)) (andAt x (firstG x+q)).1,plMapV (plP x (obsB x)) (andAt x (firstG x+q)).2)∧ctP x (obsB x) (firstG x+q)=firstG (prG x (obsB x))+j
 | 0,_,j,a,h=>by have _:=hok;simp[anP] at h
 | i+1,hi,j,a,h=>by
   unfold anP at h
   split at h
   · rename_i hb
     rcases Nat.lt_or_ge j (anP x (obsB x) (plP x (obsB x)) i).length with hj|hj
     · rw[List.getElem?_append_left hj] at h
       obtain⟨q,h1,h2⟩:=anP_in i (by omega) j a h
       exact⟨q,by omega,h2⟩
     · rw[List.getElem?_append_right hj] at h
       have hl:=(List.getElem?_eq_some_iff.1 h).1
       simp at hl
       have e:j=(anP x (obsB x) (plP x (obsB x)) i).length:=by omega
       rw[e,Nat.sub_self] at h
       exact⟨i,by omega,hb,(Option.some.inj h).symm,by rw[e];exact ctP_and i (by omega)⟩
   · obtain⟨q,h1,h2⟩:=anP_in i (by omega) j a h
     exact⟨q,by omega,h2⟩
theorem pruneG_ok:netOkB (pruneG x)=true:=by
 obtain⟨⟨n1,n2,n3,n4,n5,n6⟩,o1,o2,o3⟩:=netOk_of hok
 obtain⟨hF,hgl,hNi,hno⟩:=ok_sizes hok
 have hN:=grN_eq x
 have hsz:grN (pruneG x)=ctP x (obsB x) (grN x):=pr_size
 have hl1:=sqK_len (x:=x) (m:=obsB x) (pl:=plP x (obsB x)) x.2.1.length
 have hl2:=anP_len (x:=x) (m:=obsB x) (pl:=plP x (obsB x)) x.2.2.1.length
 refine netOk_mk ⟨n1,n2⟩ (by show (sqK x _ _ _).length≤12;omega) (by show (anP x _ _ _).length≤300;omega) (by show (x.2.2.2.map _).length≤16;rw[List.length_map];omega) (fun s hs=>?_) (fun y hy=>?_) (fun s hs y hy=>?_) (andsFit_of fun j a ha=>?_)
 · obtain⟨i,hi,hb,rfl⟩:=sqK_in hok _ (Nat.le_refl _) s hs
   exact mapSeq_ok (o1 _ (seqAt_mem hi).2)
 · obtain⟨l,hl,rfl⟩:=List.mem_map.1 hy
   obtain⟨k1,k2,k3⟩:=out_kids hok hl
   have:=plP_rng (n:=grN x) k1 k2 (Nat.le_refl _) hgl k3
   rw[hsz]
   exact this
 · obtain⟨i,hi,hb,rfl⟩:=sqK_in hok _ (Nat.le_refl _) s hs
   obtain⟨l,hl,rfl⟩:=List.mem_map.1 (show y∈(seqAt x i).2.2.map (plMapV (plP x (obsB x))) from hy)
   obtain⟨k1,k2,k3⟩:=seq_kids hok hi hb hl
   have:=plP_rng (n:=grN x) k1 k2 (Nat.le_refl _) hgl k3
   rw[hsz]
   exact this
 · obtain⟨q,hq,hb,rfl,hc⟩:=anP_in hok _ (Nat.le_refl _) j a ha
   have k:=and_kids hok hq hb
   obtain⟨p1,p2,p3⟩:=k _ (.inl rfl)
   obtain⟨q1,q2,q3⟩:=k _ (.inr rfl)
   have r1:=plP_rng p1 p2 (by omega) hgl p3
   have r2:=plP_rng q1 q2 (by omega) hgl q3
   rw[hc] at r1 r2
   have e:firstG (pruneG x)=firstG (prG x (obsB x)):=rfl
   simp only
   rw[e,Nat.zero_add]
   omega
end
section
variable {x:GrD} {st:List Int} {inp:Int} (hok:netOkB x=true) (hs:st.length=x.2.1.length) (hb:bitsI st)
include hok
theorem kept_eq:keptG x=keptK (obsB x) (firstQ x) x.2.1.length:=if_pos hok
include hs hb
end
section
variable {x:GrD} {st:List Int} {inp:Int} (hok:netOkB x=true)
include hok
end
end Go.Proofs.Ytnjedabjbeipeaa
