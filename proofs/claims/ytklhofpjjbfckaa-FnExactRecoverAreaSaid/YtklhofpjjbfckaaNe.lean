/-
  From a law's arguments to data.
  Conditions: those typed in each theorem.
-/
import Derived.Test.YtklhofpjjbfckaaNt
namespace Go.Proofs.Ytklhofpjjbfckaa
open Go.RowKit Go.ChangeShapes Go.WideShapes Go.ChangeAt
set_option linter.unusedVariables false
set_option linter.unusedSimpArgs false
theorem open_aggR {α:Type} {P:Program} {t:TypeId} {fs:Array Field} {en:α→List D} (ht:P.underlying t=some (.struct fs)) (hO:OpE P en t) {H:Type} {enc:TypeId×Value→H} {W:World} {base:Nat} {v:Value} {d:DataW H} {p:List MemPlace}
 (hv:Value.okWide P W .any base t v) (h:DataW.Trod enc P W 0 (fun _=>true) true t v d p) (hlt:∀ x∈p,x.block<W.heap.size):∃ x:α,XRd W (·<W.heap.size) (.agg (en x)) v∧∀ q∈en x,OkD q:=by
 obtain⟨cs,rfl,_⟩:=okWide_struct ht hv
 obtain⟨fuel,hf⟩:=h
 obtain⟨x,h2,h3⟩:=hO hf hlt
 refine⟨x,?_,h3⟩
 have:=XRd.agg h2
 rw[Array.toArray_toList] at this
 exact this
theorem Rd.sub {w:World} {G:Nat→Prop} {t:TypeId} {es:List (List D)} {v:Value} (h:Rd w G (.sl t es) v):∀ e∈es,∀ d∈e,∃ u,Rd w G d u:=by
 intro e he d hd
 cases h with
 | nil=>simp at he
 | sl _ _ b o c s u hn hcap hG hs hc hr =>
   obtain⟨i,hi,rfl⟩:=List.mem_iff_getElem.1 he
   obtain⟨j,hj,rfl⟩:=List.mem_iff_getElem.1 hd
   exact⟨_,hr i _ j _ (List.getElem?_eq_getElem hi) (List.getElem?_eq_getElem hj)⟩
theorem Rds.cell {w:World} {G:Nat→Prop} {ds:List D} {vs:List Value} {f:List Nat} (h:Rds w G ds vs f) {d:D} (hd:d∈ds):∃ u,Rd w G d u:=by
 obtain⟨i,hi,rfl⟩:=List.mem_iff_getElem.1 hd
 obtain⟨v,_,hr⟩:=h.2.2 i _ (List.getElem?_eq_getElem hi)
 exact⟨v,hr⟩
theorem Rd.fit {α:Type} {w:World} {G:Nat→Prop} {t:TypeId} {en:α→List D} {xs:List α} {v:Value} (h:Rd w G (eSl t en xs) v):xs.length≤9223372036854775807:=by
 obtain⟨A,c,_,hl⟩:=h.len
 simpa using hl
theorem szL_fit {n:Nat} {l:Int} (h:0≤szL n l):(n:Int)≤l:=by unfold szL at h;split at h<;>omega
theorem szGo_fit {α:Type} {f:α→Int→Int} (hf:∀ x l,0≤l→f x l≤l):∀ {xs:List α} {l:Int},0≤l→0≤szGo f xs l→∀ x∈xs,∃ q,0≤q∧q≤l∧0≤f x q
 | [],l,_,_,x,hx=>by simp at hx
 | y::xs,l,h0,h,x,hx=>by
   have h':0≤(if f y l<0 then -1 else szGo f xs (f y l)):=h
   split at h'
   · omega
   · rcases List.mem_cons.1 hx with rfl|hx
     · exact⟨l,h0,by omega,by omega⟩
     · obtain⟨q,q1,q2,q3⟩:=szGo_fit hf (by omega) h' x hx
       exact⟨q,q1,by have:=hf y l h0;omega,q3⟩
theorem szS_fit {α:Type} {f:α→Int→Int} (hf:∀ x l,0≤l→f x l≤l) {xs:List α} {l:Int} (h:0≤szS f xs l):(xs.length:Int)≤l∧∀ x∈xs,∃ q,0≤q∧q≤l∧0≤f x q:=by
 unfold szS at h
 split at h
 · omega
 · refine⟨by omega,fun x hx=>?_⟩
   obtain⟨q,q1,q2,q3⟩:=szGo_fit hf (by omega) h x hx
   exact⟨q,q1,by omega,q3⟩
theorem args2 {w:World} {G:Nat→Prop} {x x2:X} {v v2:Value} (h:XRd w G x v) (h2:XRd w G x2 v2):∀ (i:Nat) (y:X) (u:Value),[x,x2][i]? = some y→#[v,v2][i]? = some u→XRd w G y u:=by
 intro i y u hy hu
 match i with
 | 0=>simp at hy hu;subst hy hu;exact h
 | 1=>simp at hy hu;subst hy hu;exact h2
 | i+2=>simp at hy
end Go.Proofs.Ytklhofpjjbfckaa
