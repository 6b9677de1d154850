/-
  Levels of a mapping. Plain lemmas.
  Conditions: those typed in each theorem.
-/
import Derived.Test.YtakohcpfjkcfdaaNq
import Derived.Test.YtakohcpfjkcfdaaNr
import Derived.Test.YtakohcpfjkcfdaaLc
namespace Go.Proofs.Ytakohcpfjkcfdaa
open Go.RowKit Go.ChangeShapes Go.WideShapes
set_option linter.unusedVariables false
set_option linter.unusedSimpArgs false
theorem lvM_stay {x:GrD} {cs:List RowD} {v i:Nat} (h:v<firstG x+i):∀ d,atI (lvM x cs (i+d)) (v:Int)=atI (lvM x cs i) (v:Int)
 | 0=>rfl
 | d+1=>by
   have ih:=lvM_stay (x:=x) (cs:=cs) h d
   rw[←ih]
   show atI ((lvM x cs (i+d)).set (firstG x+(i+d)) _) (v:Int)=_
   unfold atI
   rw[Int.toNat_natCast,List.getElem?_set_ne (by omega)]
theorem lvL_low {x:GrD} {cs:List RowD} {v:Nat} (h:v<firstG x):atI (levelsL x cs) (v:Int)=0:=by
 have:=lvM_stay (x:=x) (cs:=cs) (v:=v) (i:=0) (by omega) cs.length
 rw[Nat.zero_add] at this
 unfold levelsL
 rw[this]
 unfold lvM atI
 rw[List.getElem?_replicate]
 split<;>rfl
theorem mxK_congr {lv lv' c:List Int} (h:∀ y∈c,atI lv y=atI lv' y):∀ j,j≤c.length→mxK lv c j=mxK lv' c j
 | 0,_=>rfl
 | j+1,hj=>by
   have ih:=mxK_congr h j (by omega)
   have hc:c[j]? = some c[j]:=List.getElem?_eq_getElem (by omega)
   unfold mxK
   rw[ih,atI_get hc,h _ (List.getElem_mem _)]
theorem lvL_at {x:GrD} {cs:List RowD} (hm:mapOkB x cs=true) {i:Nat} {c:RowD} (hc:cs[i]? = some c):atI (levelsL x cs) ((firstG x+i:Nat):Int)=1+mxK (levelsL x cs) c c.length:=by
 obtain⟨hok,hl,hcs⟩:=mapOk_of hm
 have hN:=grN_eq x
 have hi:=(List.getElem?_eq_some_iff.1 hc).1
 have h1:=lvM_stay (x:=x) (cs:=cs) (v:=firstG x+i) (i:=i+1) (by omega) (cs.length - (i+1))
 rw[show i+1+(cs.length - (i+1))=cs.length by omega] at h1
 unfold levelsL
 rw[h1]
 have h2:atI (lvM x cs (i+1)) ((firstG x+i:Nat):Int)=1+mxK (lvM x cs i) c c.length:=by
  show atI ((lvM x cs i).set (firstG x+i) (1+mxK (lvM x cs i) ((cs[i]?).getD []) ((cs[i]?).getD []).length)) _=_
  unfold atI
  rw[Int.toNat_natCast,List.getElem?_set_self (by rw[lvM_len];omega),hc]
  rfl
 rw[h2]
 congr 1
 refine mxK_congr (fun y hy=>?_) _ (Nat.le_refl _)
 obtain⟨y0,y1⟩:=cut_below hm hc y hy
 obtain⟨v,rfl⟩:∃ v:Nat,y=v:=⟨y.toNat,by omega⟩
 have h3:=lvM_stay (x:=x) (cs:=cs) (v:=v) (i:=i) (by omega) (cs.length - i)
 rw[show i+(cs.length - i)=cs.length by omega] at h3
 exact h3.symm
end Go.Proofs.Ytakohcpfjkcfdaa
/-
  Labels and levels: no mapping is shallower than the labels, and the mapping of least depth is as deep as they. Plain lemmas.
  Conditions: those typed in each theorem.
-/
namespace Go.Proofs.Ytakohcpfjkcfdaa
open Go.RowKit Go.ChangeShapes Go.WideShapes
set_option linter.unusedVariables false
set_option linter.unusedSimpArgs false
theorem mx_left {a b:Int}:a≤mx a b:=by unfold mx;split<;>omega
theorem mx_right {a b:Int}:b≤mx a b:=by unfold mx;split<;>omega
theorem mxK_ge {lv c:List Int}:∀ (j i:Nat) (y:Int),i<j→c[i]? = some y→atI lv y≤mxK lv c j
 | 0,i,y,h,_=>by omega
 | j+1,i,y,h,hy=>by
   unfold mxK
   by_cases he:i=j
   · subst he
     rw[atI_get hy]
     exact mx_right
   · exact Int.le_trans (mxK_ge j i y (by omega) hy) mx_left
theorem mxK_le {lv c:List Int} {m:Int} (h0:0≤m) (h:∀ y∈c,atI lv y≤m):∀ j,j≤c.length→mxK lv c j≤m
 | 0,_=>h0
 | j+1,hj=>by
   have hc:c[j]? = some c[j]:=List.getElem?_eq_getElem (by omega)
   unfold mxK
   rw[atI_get hc]
   exact mx_le (mxK_le h0 h j (by omega)) (h _ (List.getElem_mem _))
theorem mxK_nn {lv c:List Int}:∀ j,0≤mxK lv c j
 | 0=>Int.le_refl 0
 | j+1=>mx_ge (mxK_nn j)
theorem cutF_at {x:GrD} {i:Nat} {c:List Int} (hok:netOkB x=true) (hk:firstG x+i<grN x) (h:mapAtB x c i=true):CutF (firstG x) (kidA x) (kidB x) (firstG x+i) c:=by
 unfold mapAtB cutOkB at h
 simp only[Bool.and_eq_true,Bool.not_eq_true'] at h
 refine⟨fun hm=>?_,fun hl=>?_⟩
 · have h1:hasB c ((firstG x+i:Nat):Int)=true:=decide_eq_true hm
   rw[h.1] at h1
   cases h1
 · have:=(esc_leak (cut:=c) (kids_lt hok) hk).2 hl
   rw[h.2.2] at this
   cases this
theorem getZ_atI {l:List Int} {k:Nat}:atI l (k:Int)=getZ l k:=by unfold atI getZ;rw[Int.toNat_natCast]
theorem levelsL_len {x:GrD} {cs:List RowD}:(levelsL x cs).length=grN x:=lvM_len _
theorem lab_le_lv {x:GrD} {cs:List RowD} (hm:mapOkB x cs=true):∀ k:Nat,k<grN x→getZ (labelsL x) k≤atI (levelsL x cs) k:=by
 obtain⟨hok,hl,hcs⟩:=mapOk_of hm
 have hN:=grN_eq x
 intro k
 induction k using Nat.strongRecOn with
 | _ k ih =>
   intro hk
   by_cases hF:k<firstG x
   · rw[(labelsL_ok hok).leaf k hF,lvL_low hF]
     exact Int.le_refl _
   · obtain⟨i,rfl⟩:∃ i,k=firstG x+i:=⟨k - firstG x,by omega⟩
     have hc:cs[i]? = some cs[i]:=List.getElem?_eq_getElem (by omega)
     obtain⟨c1,c2,c3⟩:=hcs i _ hc
     rw[lvL_at hm hc]
     have h0:=mxK_nn (lv:=levelsL x cs) (c:=cs[i]) cs[i].length
     refine labF_le (netF_of hok) (firstG x+i) (by omega) hk _ cs[i] (by omega) (cutF_at hok hk c1) c2 fun q hq hqN=>?_
     obtain⟨b1,b2⟩:=cut_below hm hc _ hq
     have h1:=ih q (by omega) hqN
     obtain⟨j,hj,he⟩:=List.getElem_of_mem hq
     have h2:=mxK_ge (lv:=levelsL x cs) (c:=cs[i]) cs[i].length j q hj (by rw[List.getElem?_eq_getElem hj,he])
     show getZ (labelsL x) q<_
     omega
theorem depth_at {x:GrD} {i:Nat} (hi:i<x.2.2.1.length):(depK x x.2.2.1.length)[i]? = some (cutZ (hcG x (firstG x+i) (getZ (labelsL x) (firstG x+i)) (labelsL x))):=by
 unfold depK
 rw[List.getElem?_map,List.getElem?_range hi]
 rfl
theorem depth_ok {x:GrD} (hok:netOkB x=true):mapOkB x (depthMap x)=true:=by
 have hN:=grN_eq x
 have hd:depthMap x=depK x x.2.2.1.length:=by unfold depthMap;rw[if_pos hok]
 have hl:(depthMap x).length=x.2.2.1.length:=by rw[hd,depK_len]
 unfold mapOkB mapsB
 rw[hok,decide_eq_true hl,Bool.true_and,Bool.true_and,List.all_eq_true]
 intro i hi
 have hi':i<x.2.2.1.length:=by rw[←hl];exact List.mem_range.1 hi
 rw[hd,depth_at hi',Option.getD_some]
 exact depth_map hok (by omega)
theorem depth_lv {x:GrD} (hok:netOkB x=true):levelsL x (depthMap x)=labelsL x:=by
 have hm:=depth_ok hok
 have hN:=grN_eq x
 have hn:=netF_of hok
 have hL:=labelsL_ok hok
 have hd:depthMap x=depK x x.2.2.1.length:=by unfold depthMap;rw[if_pos hok]
 have up:∀ k:Nat,k<grN x→atI (levelsL x (depthMap x)) k≤getZ (labelsL x) k:=by
  intro k
  induction k using Nat.strongRecOn with
  | _ k ih =>
    intro hk
    by_cases hF:k<firstG x
    · rw[hL.leaf k hF,lvL_low hF]
      exact Int.le_refl _
    · obtain⟨i,rfl⟩:∃ i,k=firstG x+i:=⟨k - firstG x,by omega⟩
      have hc:=depth_at (x:=x) (i:=i) (by omega)
      rw[←hd] at hc
      have h1:1≤getZ (labelsL x) (firstG x+i):=(hL.lo _ (by omega) hk).1
      have hs:=labF_some hn (Nat.le_add_right (firstG x) i) hk
      rw[lvL_at hm hc]
      cases hS:hcG x (firstG x+i) (getZ (labelsL x) (firstG x+i)) (labelsL x) with
      | none =>
        rw[show hcS (grN x) (firstG x) (kidA x) (kidB x) (coneL x) (firstG x+i) (getZ (labF (grN x) (firstG x) (kidA x) (kidB x) (coneL x)) (firstG x+i)) (labF (grN x) (firstG x) (kidA x) (kidB x) (coneL x))=none from hS] at hs
        cases hs
      | some S =>
        obtain⟨-,-,hmem,-⟩:=hc_cut hn hL (Nat.le_add_right _ i) hk (Nat.le_of_lt hk) h1 hS
        rw[hS] at hc
        have hle:mxK (levelsL x (depthMap x)) (cutZ (some S)) (cutZ (some S)).length≤getZ (labelsL x) (firstG x+i) - 1:=by
         refine mxK_le (by omega) (fun y hy=>?_) _ (Nat.le_refl _)
         obtain⟨b1,b2⟩:=cut_below hm hc y hy
         obtain⟨u,hu,rfl⟩:=List.mem_map.1 (show y∈S.map fun k:Nat=>(k:Int) from hy)
         have h2:=hmem u hu
         have h3:=ih u (by omega) h2.2.1
         have h4:=h2.2.2.2.2
         omega
        omega
 apply List.ext_getElem?
 intro k
 by_cases hk:k<grN x
 · have h1:=up k hk
   have h2:=lab_le_lv hm k hk
   have h3:atI (levelsL x (depthMap x)) k=getZ (labelsL x) k:=by omega
   rw[getZ_atI] at h3
   unfold getZ at h3
   have l1:=levelsL_len (x:=x) (cs:=depthMap x)
   have l2:=hL.len
   rw[List.getElem?_eq_getElem (by omega),List.getElem?_eq_getElem (by omega)] at h3 ⊢
   exact congrArg some h3
 · rw[List.getElem?_eq_none (by rw[levelsL_len];omega),List.getElem?_eq_none (by rw[hL.len];omega)]
end Go.Proofs.Ytakohcpfjkcfdaa
