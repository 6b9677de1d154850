/-
  Area recovery as plain lists: it keeps a mapping and is never worse. Plain lemmas.
  Conditions: those typed in each theorem.
-/
import Derived.Test.YtakohcpfjkcfdaaMb
import Derived.Test.YtakohcpfjkcfdaaLc
namespace Go.Proofs.Ytakohcpfjkcfdaa
open Go.RowKit Go.ChangeShapes Go.WideShapes
set_option linter.unusedVariables false
set_option linter.unusedSimpArgs false
def stR (x:GrD) (i:Nat) (now:List RowD) (c:RowD):List RowD:=if betterB x (now.set i c) now=true then now.set i c else now
def rowR (x:GrD) (i:Nat) (now:List RowD) (k:Nat):List RowD:=((enumL x (firstG x+i)).take k).foldl (stR x i) now
def ndR (x:GrD) (now:List RowD) (i:Nat):List RowD:=if getB (usedL x now) i=true then rowR x i now ((enumL x (firstG x+i)).length - 1) else now
def recK (x:GrD) (cs:List RowD):Nat→List RowD
 | 0=>cs
 | j+1=>ndR x (recK x cs j) (x.2.2.1.length - 1 - j)
def recL (x:GrD) (cs:List RowD):List RowD:=if mapOkB x cs=true then recK x cs x.2.2.1.length else []
theorem mapOk_mk2 {x:GrD} {cs:List RowD} (hok:netOkB x=true) (hl:cs.length=x.2.2.1.length) (h:∀ (k:Nat) (c:RowD),cs[k]? = some c→mapAtB x c k=true):mapOkB x cs=true:=by
 simp only[mapOkB,Bool.and_eq_true,decide_eq_true_eq]
 refine⟨⟨hok,hl⟩,?_⟩
 unfold mapsB
 rw[List.all_eq_true]
 intro i hi
 have hil:=List.mem_range.1 hi
 rw[List.getElem?_eq_getElem hil]
 exact h i _ (List.getElem?_eq_getElem hil)
theorem mapOk_set {x:GrD} {cs:List RowD} {i:Nat} {c:RowD} (hm:mapOkB x cs=true) (h:mapAtB x c i=true):mapOkB x (cs.set i c)=true:=by
 obtain⟨hok,hl,hcs⟩:=mapOk_of hm
 refine mapOk_mk2 hok (by rw[List.length_set];exact hl) fun k r hr=>?_
 rw[List.getElem?_set] at hr
 split at hr
 · rename_i e
   subst e
   split at hr
   · cases hr;exact h
   · cases hr
 · exact (hcs k r hr).1
def NwP (x:GrD) (a b:List RowD):Prop:=mapOkB x a=true∧depthL x a≤depthL x b∧((costL x a).1<(costL x b).1∨(costL x a).1=(costL x b).1∧(costL x a).2.1≤(costL x b).2.1)
theorem NwP.refl {x:GrD} {a:List RowD} (h:mapOkB x a=true):NwP x a a:=⟨h,Int.le_refl _,.inr ⟨rfl,Int.le_refl _⟩⟩
theorem NwP.trans {x:GrD} {a b c:List RowD} (h1:NwP x a b) (h2:NwP x b c):NwP x a c:=by
 obtain⟨m1,d1,c1⟩:=h1
 obtain⟨-,d2,c2⟩:=h2
 exact⟨m1,by omega,by omega⟩
theorem stR_nw {x:GrD} {i:Nat} {now:List RowD} {c:RowD} (hm:mapOkB x now=true) (h:mapAtB x c i=true):NwP x (stR x i now c) now:=by
 unfold stR
 split
 · rename_i hb
   unfold betterB at hb
   simp only[Bool.and_eq_true,Bool.or_eq_true,decide_eq_true_eq] at hb
   exact⟨mapOk_set hm h,hb.1,by omega⟩
 · exact .refl hm
theorem rowR_nw {x:GrD} {i:Nat} {now:List RowD} (hm:mapOkB x now=true) (hi:firstG x+i<grN x):∀ k,k≤(enumL x (firstG x+i)).length - 1→NwP x (rowR x i now k) now
 | 0,_=>.refl hm
 | k+1,hk=>by
   have ih:=rowR_nw hm hi k (by omega)
   obtain⟨hok,hl,hcs⟩:=mapOk_of hm
   obtain⟨e2,e8,eM⟩:=enumL_map hok (i:=i) hi
   have hc:(enumL x (firstG x+i))[k]? = some (enumL x (firstG x+i))[k]:=List.getElem?_eq_getElem (by omega)
   unfold rowR
   rw[foldl_take2 hc]
   exact (stR_nw ih.1 (eM k _ hc (by omega))).trans ih
theorem rowR_succ {x:GrD} {i:Nat} {now:List RowD} {k:Nat} {c:RowD} (hc:(enumL x (firstG x+i))[k]? = some c):rowR x i now (k+1)=stR x i (rowR x i now k) c:=by
 unfold rowR
 exact foldl_take2 hc
theorem ndR_nw {x:GrD} {now:List RowD} {i:Nat} (hm:mapOkB x now=true) (hi:firstG x+i<grN x):NwP x (ndR x now i) now:=by
 unfold ndR
 split
 · exact rowR_nw hm hi _ (Nat.le_refl _)
 · exact .refl hm
theorem recK_nw {x:GrD} {cs:List RowD} (hm:mapOkB x cs=true):∀ j,j≤x.2.2.1.length→NwP x (recK x cs j) cs
 | 0,_=>.refl hm
 | j+1,hj=>by
   have hN:=grN_eq x
   have ih:=recK_nw hm j (by omega)
   exact (ndR_nw ih.1 (by omega)).trans ih
theorem better_not {x:GrD} {a b:List RowD} (h:NwP x b a):betterB x a b=false:=by
 obtain⟨-,d,c⟩:=h
 unfold betterB
 simp only[Bool.and_eq_false_iff,Bool.or_eq_false_iff,decide_eq_false_iff_not]
 right
 omega
end Go.Proofs.Ytakohcpfjkcfdaa
