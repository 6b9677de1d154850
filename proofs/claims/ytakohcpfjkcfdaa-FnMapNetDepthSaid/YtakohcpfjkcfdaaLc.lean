/-
  Cuts that a mapping takes: those of least depth and those told in order. Plain lemmas.
  Conditions: those typed in each theorem.
-/
import Derived.Test.YtakohcpfjkcfdaaGc
import Derived.Test.YtakohcpfjkcfdaaFi
namespace Go.Proofs.Ytakohcpfjkcfdaa
open Go.RowKit Go.ChangeShapes Go.WideShapes
set_option linter.unusedVariables false
set_option linter.unusedSimpArgs false
attribute [local simp] mcone_len esc_len
structure GoodK (x:GrD) (k:Nat) (c:List Int):Prop where
 asc:AscP c
 len:c.length≤4
 cone:∀ y∈c,∃ u:Nat,y=(u:Int)∧Rch (firstG x) (kidA x) (kidB x) k u
 noleak:¬ Leak (firstG x) (kidA x) (kidB x) c k
theorem asc_of {c:List Int} (h:AscP c):ascB c=true:=ascB_of fun k hk=>by
 have h1:c[k]? = some c[k]:=List.getElem?_eq_getElem (by omega)
 have h2:c[k+1]? = some c[k+1]:=List.getElem?_eq_getElem (by omega)
 have h3:=ascP_at h h1 h2
 rw[atI_get h1,show ((k:Int)+1)=((k+1:Nat):Int) by omega,atI_get h2]
 exact h3
theorem good_cut {x:GrD} {k:Nat} {c:List Int} (hok:netOkB x=true) (hk:k<grN x) (h:GoodK x k c):cutOkB x k c=true:=by
 have h3:allB (marksI (coneL x k)) c=true:=List.all_eq_true.2 fun y hy=>by
  obtain⟨u,rfl,hr⟩:=h.cone y hy
  rw[marks_has]
  exact (cone_iff hok hk u).2 hr
 have h4:(escG x c (k+1) k (List.replicate (grN x) false)).1=false:=by
  cases he:(escG x c (k+1) k (List.replicate (grN x) false)).1 with
  | false=>rfl
  | true=>exact absurd ((esc_leak (cut:=c) (kids_lt hok) hk).1 he) h.noleak
 unfold cutOkB
 rw[decide_eq_true h.len,asc_of h.asc,h3,h4]
 rfl
theorem good_at {x:GrD} {i:Nat} {c:List Int} (hok:netOkB x=true) (hk:firstG x+i<grN x) (h:GoodK x (firstG x+i) c) (hn:((firstG x+i:Nat):Int)∉c):mapAtB x c i=true:=by
 unfold mapAtB
 rw[good_cut hok hk h,show hasB c ((firstG x+i:Nat):Int)=false from decide_eq_false hn]
 rfl
theorem orc_mono {F:Nat} {ka kb:Nat→Nat} {a c:List Int} (hs:∀ z,z∈a→z∈c) {v u:Nat} (h:Orc F ka kb c v u):Orc F ka kb a v u:=by
 have ho:∀ w,Opn c w→Opn a w:=fun w h=>⟨h.1,fun m=>h.2 (hs _ m)⟩
 induction h with
 | refl h=>exact .refl (ho _ h)
 | a h1 h2 r ih=>exact .a (ho _ h1) h2 ih
 | b h1 h2 r ih=>exact .b (ho _ h1) h2 ih
theorem good_merge {x:GrD} {k:Nat} {a b c:List Int} (hF:firstG x≤k) (ha:GoodK x (kidA x k) a) (hb:GoodK x (kidB x k) b) (h:mergeO a b=some c):GoodK x k c∧∀ y∈c,∃ u:Nat,y=(u:Int)∧(Rch (firstG x) (kidA x) (kidB x) (kidA x k) u∨Rch (firstG x) (kidA x) (kidB x) (kidB x k) u):=by
 unfold mergeO at h
 split at h
 · rename_i hl
   simp only[Option.some.injEq] at h
   subst h
   have hm:=mergeL_mem _ a b (Nat.le_refl _)
   have hc:∀ y∈mergeL a b,∃ u:Nat,y=(u:Int)∧(Rch (firstG x) (kidA x) (kidB x) (kidA x k) u∨Rch (firstG x) (kidA x) (kidB x) (kidB x k) u):=fun y hy=>by
    rcases (hm y).1 hy with h|h
    · obtain⟨u,e,r⟩:=ha.cone y h
      exact⟨u,e,.inl r⟩
    · obtain⟨u,e,r⟩:=hb.cone y h
      exact⟨u,e,.inr r⟩
   refine⟨⟨mergeL_asc _ a b (Nat.le_refl _) ha.asc hb.asc,hl,fun y hy=>?_,?_⟩,hc⟩
   · obtain⟨u,e,r⟩:=hc y hy
     rcases r with r|r
     · exact⟨u,e,.a hF r⟩
     · exact⟨u,e,.b hF r⟩
   · rintro⟨u,ho,hu⟩
     cases ho with
     | refl _=>omega
     | a _ _ r=>exact ha.noleak ⟨u,orc_mono (fun z hz=>(hm z).2 (.inl hz)) r,hu⟩
     | b _ _ r=>exact hb.noleak ⟨u,orc_mono (fun z hz=>(hm z).2 (.inr hz)) r,hu⟩
 · cases h
theorem good_one {x:GrD} {k:Nat}:GoodK x k [(k:Int)]:=by
 refine⟨by simp[AscP],by simp,fun y hy=>⟨k,by simpa using hy,.refl _⟩,?_⟩
 rintro⟨u,ho,hu⟩
 exact ho.opn.2 (by simp)
theorem good_zero {x:GrD}:GoodK x 0 []:=by
 refine⟨by simp[AscP],by simp,by simp,?_⟩
 rintro⟨u,ho,hu⟩
 exact ho.opn.1 rfl
theorem join_of {P:List Int→Prop} {a b:Rws} (h:∀ x∈a,∀ y∈b,∀ c,mergeO x y=some c→P c):∀ z∈joinC a b,P z:=fun z hz=>by
 have:=(cand_good (P:=P) (b:=b) a (l:=[]) ⟨List.Pairwise.nil,by simp⟩ h).1
 exact this.all z (List.mem_filter.1 (List.mem_of_mem_take hz)).1
theorem allC_in {F:Nat} {ka kb:Nat→Nat} {k q:Nat} (hq:q≤k):((allC F ka kb k)[q]?).getD []=((allC F ka kb q)[q]?).getD []:=by rw[allC_stay hq]
theorem allC_top {F:Nat} {ka kb:Nat→Nat} {k:Nat}:(allC F ka kb (k+1))[k+1]? = some (entC F ka kb (allC F ka kb k) (k+1)):=by
 show (allC F ka kb k++[entC F ka kb (allC F ka kb k) (k+1)])[k+1]? = _
 rw[List.getElem?_append_right (by rw[allC_len];exact Nat.le_refl _),allC_len,Nat.sub_self]
 rfl
def enumL (x:GrD) (k:Nat):Rws:=((allG x k)[k]?).getD []
theorem enumL_succ {x:GrD} {k:Nat}:enumL x (k+1)=(if firstG x≤k+1 then joinC (((allG x k)[kidA x (k+1)]?).getD []) (((allG x k)[kidB x (k+1)]?).getD []) else [])++[[((k+1:Nat):Int)]]:=by
 unfold enumL
 rw[allC_top]
 rfl
theorem enumL_and {x:GrD} (hok:netOkB x=true) {k:Nat} (hF:firstG x≤k) (hk:k<grN x):enumL x k=joinC (enumL x (kidA x k)) (enumL x (kidB x k))++[[(k:Int)]]:=by
 have hf:0<firstG x:=by unfold firstG;omega
 obtain⟨j,rfl⟩:∃ j,k=j+1:=⟨k - 1,by omega⟩
 obtain⟨k1,k2⟩:=kids_lt hok _ hF hk
 have ea:((allG x j)[kidA x (j+1)]?).getD []=enumL x (kidA x (j+1)):=allC_in (by omega)
 have eb:((allG x j)[kidB x (j+1)]?).getD []=enumL x (kidB x (j+1)):=allC_in (by omega)
 rw[enumL_succ,if_pos hF,ea,eb]
theorem enumL_low {x:GrD} {k:Nat} (hF:k<firstG x):enumL x k=if k=0 then [[]] else [[(k:Int)]]:=by
 cases k with
 | zero=>rfl
 | succ j=>rw[enumL_succ,if_neg (by omega)];rfl
theorem enumL_good {x:GrD} (hok:netOkB x=true):∀ k,k<grN x→(∀ c∈enumL x k,GoodK x k c)∧∃ c∈enumL x k,c.length≤1:=by
 intro k
 induction k using Nat.strongRecOn with
 | _ k ih =>
   intro hk
   by_cases hF:firstG x≤k
   · obtain⟨k1,k2⟩:=kids_lt hok _ hF hk
     rw[enumL_and hok hF hk]
     refine⟨fun c hc=>?_,[(k:Int)],by simp,by simp⟩
     rcases List.mem_append.1 hc with hc|hc
     · exact join_of (P:=GoodK x k) (fun a ha b hb c h=>(good_merge hF ((ih _ k1 (by omega)).1 a ha) ((ih _ k2 (by omega)).1 b hb) h).1) c hc
     · rw[List.mem_singleton.1 hc];exact good_one
   · rw[enumL_low (by omega)]
     split
     · rename_i h0
       subst h0
       exact⟨fun c hc=>by rw[List.mem_singleton.1 hc];exact good_zero,[],by simp,by simp⟩
     · exact⟨fun c hc=>by rw[List.mem_singleton.1 hc];exact good_one,[(k:Int)],by simp,by simp⟩
theorem insC_ne {l:Rws} {c:List Int}:insC l c≠[]:=by
 cases l with
 | nil=>simp[insC]
 | cons u l=>unfold insC;split<;>try split
             all_goals simp
theorem addO_ne {l:Rws} {o:Option (List Int)} (h:l≠[]∨o.isSome=true):addO l o≠[]:=by
 cases o with
 | none=>rcases h with h|h;exact h;cases h
 | some c=>exact insC_ne
theorem rowC_ne {x:List Int}:∀ (b:Rws) {l:Rws},(l≠[]∨∃ y∈b,(mergeO x y).isSome=true)→rowC x b l≠[]
 | [],l,h=>by
   rcases h with h|⟨y,hy,_⟩
   · exact h
   · cases hy
 | y::b,l,h=>by
   show rowC x b (addO l (mergeO x y))≠[]
   refine rowC_ne b ?_
   rcases h with h|⟨z,hz,hs⟩
   · exact .inl (addO_ne (.inl h))
   · rcases List.mem_cons.1 hz with rfl|hz
     · exact .inl (addO_ne (.inr hs))
     · exact .inr ⟨z,hz,hs⟩
theorem cand_ne {b:Rws}:∀ (a:Rws) {l:Rws},(l≠[]∨∃ x∈a,∃ y∈b,(mergeO x y).isSome=true)→a.foldl (fun l x=>rowC x b l) l≠[]
 | [],l,h=>by
   rcases h with h|⟨y,hy,_⟩
   · exact h
   · cases hy
 | x::a,l,h=>by
   rw[List.foldl_cons]
   refine cand_ne a ?_
   rcases h with h|⟨z,hz,y,hy,hs⟩
   · exact .inl (rowC_ne b (.inl h))
   · rcases List.mem_cons.1 hz with rfl|hz
     · exact .inl (rowC_ne b (.inr ⟨y,hy,hs⟩))
     · exact .inr ⟨z,hz,y,hy,hs⟩
theorem join_ne {a b:Rws} {u v:List Int} (hu:u∈a) (hv:v∈b) (h1:u.length≤1) (h2:v.length≤1):joinC a b≠[]:=by
 have hm:(mergeO u v).isSome=true:=by
  unfold mergeO
  rw[if_pos (by have:=(mergeL_len _ u v (Nat.le_refl _)).1;omega)]
  rfl
 have hc:candC a b≠[]:=cand_ne a (.inr ⟨u,hu,v,hv,hm⟩)
 have hs:SortC (candC a b):=(cand_good (P:=fun _=>True) (b:=b) a (l:=[]) ⟨List.Pairwise.nil,by simp⟩ (fun _ _ _ _ _ _=>trivial)).1.sort
 unfold joinC
 cases hcc:candC a b with
 | nil=>exact absurd hcc hc
 | cons w l =>
   rw[hcc] at hs
   have hk:keepB (w::l) w=true:=by rw[keep_take (i:=0) hs rfl];rfl
   rw[List.filter_cons,if_pos hk]
   simp
theorem enumL_map {x:GrD} (hok:netOkB x=true) {i:Nat} (hk:firstG x+i<grN x):2≤(enumL x (firstG x+i)).length∧(enumL x (firstG x+i)).length≤8∧∀ (q:Nat) (c:List Int),(enumL x (firstG x+i))[q]? = some c→q+1<(enumL x (firstG x+i)).length→mapAtB x c i=true:=by
 obtain⟨k1,k2⟩:=kids_lt hok _ (Nat.le_add_right _ i) hk
 obtain⟨ga,u,hu,hu1⟩:=enumL_good hok _ (show kidA x (firstG x+i)<grN x by omega)
 obtain⟨gb,v,hv,hv1⟩:=enumL_good hok _ (show kidB x (firstG x+i)<grN x by omega)
 have hne:=join_ne hu hv hu1 hv1
 have hpos:=List.length_pos_iff.2 hne
 have hj:=joinC_len (a:=enumL x (kidA x (firstG x+i))) (b:=enumL x (kidB x (firstG x+i)))
 rw[enumL_and hok (Nat.le_add_right _ i) hk]
 simp only[List.length_append,List.length_singleton]
 refine⟨by omega,by omega,fun q c hq hlt=>?_⟩
 rw[List.getElem?_append_left (by omega)] at hq
 have hc:=List.mem_of_getElem? hq
 obtain⟨h1,h2⟩:=join_of (P:=fun c=>GoodK x (firstG x+i) c∧_) (fun a ha b hb c h=>good_merge (Nat.le_add_right _ i) (ga a ha) (gb b hb) h) c hc
 refine good_at hok hk h1 fun hm=>?_
 obtain⟨w,hw,hr⟩:=h2 _ hm
 have hle:w<firstG x+i:=by
  rcases hr with hr|hr
  · have:=Rch.le (kids_lt hok) hr (by omega);omega
  · have:=Rch.le (kids_lt hok) hr (by omega);omega
 omega
theorem depth_map {x:GrD} (hok:netOkB x=true) {i:Nat} (hk:firstG x+i<grN x):mapAtB x (cutZ (hcG x (firstG x+i) (getZ (labelsL x) (firstG x+i)) (labelsL x))) i=true:=by
 have hn:=netF_of hok
 have hs:=labF_some hn (Nat.le_add_right (firstG x) i) hk
 have hL:=labelsL_ok hok
 have h1:1≤getZ (labelsL x) (firstG x+i):=(hL.lo _ (Nat.le_add_right _ i) hk).1
 cases hS:hcG x (firstG x+i) (getZ (labelsL x) (firstG x+i)) (labelsL x) with
 | none =>
   rw[show hcS (grN x) (firstG x) (kidA x) (kidB x) (coneL x) (firstG x+i) (getZ (labF (grN x) (firstG x) (kidA x) (kidB x) (coneL x)) (firstG x+i)) (labF (grN x) (firstG x) (kidA x) (kidB x) (coneL x))=none from hS] at hs
   cases hs
 | some S =>
   obtain⟨⟨p,hp⟩,h4,hm,hc⟩:=hc_cut hn hL (Nat.le_add_right _ i) hk (Nat.le_of_lt hk) h1 hS
   have hz:cutZ (some S)=S.map fun k:Nat=>(k:Int):=rfl
   rw[hz]
   refine good_at hok hk ⟨?_,by simpa using h4,fun y hy=>?_,hc.leak⟩ hc.own
   · unfold AscP
     rw[List.pairwise_map,hp]
     refine List.Pairwise.imp (fun h=>?_) (List.Pairwise.filter p List.pairwise_lt_range)
     omega
   · obtain⟨u,hu,rfl⟩:=List.mem_map.1 hy
     exact⟨u,rfl,(hm u hu).2.2.2.1⟩
end Go.Proofs.Ytakohcpfjkcfdaa
