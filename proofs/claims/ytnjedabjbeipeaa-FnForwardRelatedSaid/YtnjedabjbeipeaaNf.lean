/-
  From a law's arguments to data.
  Conditions: those typed in each theorem.
-/
import Derived.Test.YtnjedabjbeipeaaNt
import Derived.Test.YtnjedabjbeipeaaNc
namespace Go.Proofs.Ytnjedabjbeipeaa
open Go.RowKit Go.ChangeShapes Go.WideShapes Go.ChangeAt
set_option linter.unusedVariables false
set_option linter.unusedSimpArgs false
theorem Rd.sub {w:World} {G:Nat→Prop} {t:TypeId} {es:List (List D)} {v:Value} (h:Rd w G (.sl t es) v):∀ e∈es,∀ d∈e,∃ u,Rd w G d u:=by
 intro e he d hd
 cases h with
 | nil=>simp at he
 | sl _ _ b o c s u hn hcap hG hs hc hr =>
   obtain⟨i,hi,rfl⟩:=List.mem_iff_getElem.1 he
   obtain⟨j,hj,rfl⟩:=List.mem_iff_getElem.1 hd
   exact⟨_,hr i _ j _ (List.getElem?_eq_getElem hi) (List.getElem?_eq_getElem hj)⟩
theorem Rds.cell {w:World} {G:Nat→Prop} {ds:List D} {vs:List Value} {f:List Nat} (h:Rds w G ds vs f) {d:D} (hd:d∈ds):∃ u,Rd w G d u:=by
 obtain⟨i,hi,rfl⟩:=List.mem_iff_getElem.1 hd
 obtain⟨v,_,hr⟩:=h.2.2 i _ (List.getElem?_eq_getElem hi)
 exact⟨v,hr⟩
theorem args1 {w:World} {G:Nat→Prop} {x:X} {v:Value} (h:XRd w G x v):∀ (i:Nat) (y:X) (u:Value),[x][i]? = some y→#[v][i]? = some u→XRd w G y u:=by
 intro i y u hy hu
 match i with
 | 0=>simp at hy hu;subst hy hu;exact h
 | i+1=>simp at hy
end Go.Proofs.Ytnjedabjbeipeaa
/-
  Contracts of the laws' helpers over links, by abstract walks. Written by mk_vt.py from those over sequential elements.
  Conditions: those typed in each theorem.
-/
namespace Go.Proofs.Ytnjedabjbeipeaa
open Go.RowKit Go.ChangeShapes Go.WideShapes
set_option linter.unusedVariables false
set_option linter.unusedSimpArgs false
abbrev LinkD:Type:=List Int×Int
def enLink (x:LinkD):List D:=e2 (eSl 3 (e1 eInt)) eInt x
abbrev ilk (x:List LinkD):X:=.d (eSl 44 enLink x)
def fitLk (m:Nat) (x:List LinkD):Prop:=x.length≤m∧∀ s∈x,s.1.length≤m
end Go.Proofs.Ytnjedabjbeipeaa
/-
  From the laws' arguments to graphs and links.
  Conditions: those typed in each theorem.
-/
namespace Go.Proofs.Ytnjedabjbeipeaa
open Go.RowKit Go.ChangeShapes Go.WideShapes Go.ChangeAt
set_option linter.unusedVariables false
set_option linter.unusedSimpArgs false
theorem OkD.sl_of {α:Type} {t:TypeId} {en:α→List D} {xs:List α} (h:OkD (eSl t en xs)):∀ x∈xs,∀ q∈en x,OkD q:=by
 intro x hx q hq
 cases h with
 | sl _ _ h=>exact h _ (List.mem_map_of_mem hx) q hq
theorem OkD.ints {xs:List Int} {t:TypeId} (h:OkD (eSl t (e1 eInt) xs)):∀ y∈xs,isI y:=fun y hy=>OkD.i64 (OkD.sl_of h y hy (eInt y) (by simp[e1]))
end Go.Proofs.Ytnjedabjbeipeaa
