/-
  A call's results as data that stay. Plain lemmas, about no function of the program.
  Conditions: those typed in each theorem.
-/
import Derived.Test.YtnjedabjbeipeaaV6
namespace Go.Proofs.Ytnjedabjbeipeaa
open Go.RowKit Go.ChangeShapes Go.WideShapes
set_option linter.unusedVariables false
def ofXs (x:X):V :=
 match x with
 | .tup xs=>.tup (xs.map ofX)
 | x=>ofX x
theorem xown_rd {P:Program} {w:World} {x:X} {v:Value} {F:List Nat} {G:Nat→Prop} (h:XOwn P w x v F) (hG:∀ g∈F,G g):XRd w G x v:=by
 cases h with
 | d h =>
   obtain⟨u,hu,hr⟩:=h.rd hG 0 _ rfl
   simp at hu
   subst hu
   exact .d hr
 | agg h=>exact .agg (h.rds hG)
theorem xown_lt {P:Program} {w:World} {x:X} {v:Value} {F:List Nat} (h:XOwn P w x v F):∀ g∈F,g<w.heap.size:=by
 cases h with
 | d h=>exact h.lt
 | agg h=>exact h.lt
def notTup:X→Prop
 | .tup _=>False
 | _=>True
theorem xrd_vr {w:World} {G:Nat→Prop} {x:X} {v:Value} (hx:notTup x) (h:VR w G [] [] (ofX x) v):XRd w G x v:=by
 cases x with
 | tup xs=>exact hx.elim
 | d d=>cases h with|d h=>exact .d h
 | agg ds =>
   cases h with
   | agg hl h1 h =>
     refine .agg ⟨rfl,by simpa using hl,fun i d hd=>?_⟩
     have hi:=(List.getElem?_eq_some_iff.1 hd).1
     rename_i vs
     have hv:vs[i]? = some (vs[i]'(by rw[hl];simpa using hi)):=List.getElem?_eq_getElem _
     refine⟨_,hv,?_⟩
     have:=h i (.d d) _ (by rw[List.getElem?_map,hd];rfl) hv
     cases this with|d h=>exact h
theorem conT_of_C {P:Program} {f:FuncId} {xs:List X} {r:X} (h:ConC P f xs r) (hx:∀ x∈xs,notTup x):ConT P f (xs.map ofX) [] (ofXs r) []:=by
 refine⟨h.1,trivial,fun w φ Fs R hR vs hm hl hv=>?_⟩
 have hφ:φ=[]:=List.eq_nil_of_length_eq_zero hm.flen
 have hFs:Fs=[]:=List.eq_nil_of_length_eq_zero hm.Flen
 subst hφ hFs
 have notop:∀ b,¬ top [] [] b:=fun b ⟨s,x,c,h,_⟩=>by simp at h
 refine (h.2 w vs (by simpa using hl) fun i x v hxi hvi=>?_).mono ?_
 · have h1:=hv i (ofX x) v (by rw[List.getElem?_map,hxi];rfl) hvi
   have h2:=xrd_vr (hx x (List.mem_of_getElem? hxi)) h1
   cases h2 with
   | d h=>exact .d (h.mono fun b hb=>⟨hb.1,fun _=>rfl⟩)
   | agg h=>exact .agg (h.mono fun b hb=>⟨hb.1,fun _=>rfl⟩)
 · rintro e w' ⟨v,F,rfl,hres,hnd,hge,hb⟩
   refine⟨v,[],[],rfl,⟨⟨hb.os,hb.tape,hb.output,hb.size,fun k hk _=>hb.block k hk⟩,fun b h=>absurd h (notop b),rfl,rfl,by simp,by simp,by simp,fun s x h F hs=>by simp at hs⟩,?_⟩
   have hgood:∀ g,w.heap.size≤g→g<w'.heap.size→good R [] [] w' g:=fun g h1 h2=>⟨h2,notop g,hR rfl g (.inr h1)⟩
   have one:∀ {x:X} {v:Value} {F:List Nat},XOwn P w' x v F→(∀ g∈F,w.heap.size≤g)→VR w' (good R [] [] w') [] [] (ofX x) v:=fun hx hF=>by
    exact ofX_vr (fun _ h=>h) (xown_rd hx fun g hg=>hgood g (hF g hg) (xown_lt hx g hg))
   cases hres with
   | one h1 =>
     cases r with
     | tup xs=>cases h1
     | d d=>exact one h1 hge
     | agg ds=>exact one h1 hge
   | tup hl2 hF2 h2 =>
     rename_i rs us Gs
     refine .tup (by simpa using hl2) fun i x v hx hv=>?_
     rw[List.getElem?_map,Option.map_eq_some_iff] at hx
     obtain⟨y,hy,rfl⟩:=hx
     have hi:=(List.getElem?_eq_some_iff.1 hy).1
     have hG:Gs[i]? = some (Gs[i]'(by omega)):=List.getElem?_eq_getElem _
     exact one (h2 i y v _ hy hv hG) fun g hg=>hge g (mem_flat hG hg)
end Go.Proofs.Ytnjedabjbeipeaa
