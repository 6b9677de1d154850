/-
  Levels of a mapping. Plain lemmas.
  Conditions: those typed in each theorem.
-/
import Derived.Test.YtakohcpfjkcfdaaNq
import Derived.Test.YtakohcpfjkcfdaaNr
namespace Go.Proofs.Ytakohcpfjkcfdaa
open Go.RowKit Go.ChangeShapes Go.WideShapes
set_option linter.unusedVariables false
set_option linter.unusedSimpArgs false
theorem lvM_stay {x:GrD} {cs:List RowD} {v i:Nat} (h:v<firstG x+i):∀ d,atI (lvM x cs (i+d)) (v:Int)=atI (lvM x cs i) (v:Int)
 | 0=>rfl
 | d+1=>by
   have ih:=lvM_stay (x:=x) (cs:=cs) h d
   rw[←ih]
   show atI ((lvM x cs (i+d)).set (firstG x+(i+d)) _) (v:Int)=_
   unfold atI
   rw[Int.toNat_natCast,List.getElem?_set_ne (by omega)]
theorem lvL_low {x:GrD} {cs:List RowD} {v:Nat} (h:v<firstG x):atI (levelsL x cs) (v:Int)=0:=by
 have:=lvM_stay (x:=x) (cs:=cs) (v:=v) (i:=0) (by omega) cs.length
 rw[Nat.zero_add] at this
 unfold levelsL
 rw[this]
 unfold lvM atI
 rw[List.getElem?_replicate]
 split<;>rfl
theorem mxK_congr {lv lv' c:List Int} (h:∀ y∈c,atI lv y=atI lv' y):∀ j,j≤c.length→mxK lv c j=mxK lv' c j
 | 0,_=>rfl
 | j+1,hj=>by
   have ih:=mxK_congr h j (by omega)
   have hc:c[j]? = some c[j]:=List.getElem?_eq_getElem (by omega)
   unfold mxK
   rw[ih,atI_get hc,h _ (List.getElem_mem _)]
theorem lvL_at {x:GrD} {cs:List RowD} (hm:mapOkB x cs=true) {i:Nat} {c:RowD} (hc:cs[i]? = some c):atI (levelsL x cs) ((firstG x+i:Nat):Int)=1+mxK (levelsL x cs) c c.length:=by
 obtain⟨hok,hl,hcs⟩:=mapOk_of hm
 have hN:=grN_eq x
 have hi:=(List.getElem?_eq_some_iff.1 hc).1
 have h1:=lvM_stay (x:=x) (cs:=cs) (v:=firstG x+i) (i:=i+1) (by omega) (cs.length - (i+1))
 rw[show i+1+(cs.length - (i+1))=cs.length by omega] at h1
 unfold levelsL
 rw[h1]
 have h2:atI (lvM x cs (i+1)) ((firstG x+i:Nat):Int)=1+mxK (lvM x cs i) c c.length:=by
  show atI ((lvM x cs i).set (firstG x+i) (1+mxK (lvM x cs i) ((cs[i]?).getD []) ((cs[i]?).getD []).length)) _=_
  unfold atI
  rw[Int.toNat_natCast,List.getElem?_set_self (by rw[lvM_len];omega),hc]
  rfl
 rw[h2]
 congr 1
 refine mxK_congr (fun y hy=>?_) _ (Nat.le_refl _)
 obtain⟨y0,y1⟩:=cut_below hm hc y hy
 obtain⟨v,rfl⟩:∃ v:Nat,y=v:=⟨y.toNat,by omega⟩
 have h3:=lvM_stay (x:=x) (cs:=cs) (v:=v) (i:=i) (by omega) (cs.length - i)
 rw[show i+(cs.length - i)=cs.length by omega] at h3
 exact h3.symm
end Go.Proofs.Ytakohcpfjkcfdaa
