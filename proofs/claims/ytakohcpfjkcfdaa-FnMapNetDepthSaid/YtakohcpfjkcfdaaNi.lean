/-
  From a law's arguments to data.
  Conditions: those typed in each theorem.
-/
import Derived.Test.YtakohcpfjkcfdaaNa
namespace Go.Proofs.Ytakohcpfjkcfdaa
open Go.RowKit Go.ChangeShapes Go.WideShapes Go.ChangeAt
set_option linter.unusedVariables false
set_option linter.unusedSimpArgs false
theorem Rd.sub {w:World} {G:Nat→Prop} {t:TypeId} {es:List (List D)} {v:Value} (h:Rd w G (.sl t es) v):∀ e∈es,∀ d∈e,∃ u,Rd w G d u:=by
 intro e he d hd
 cases h with
 | nil=>simp at he
 | sl _ _ b o c s u hn hcap hG hs hc hr =>
   obtain⟨i,hi,rfl⟩:=List.mem_iff_getElem.1 he
   obtain⟨j,hj,rfl⟩:=List.mem_iff_getElem.1 hd
   exact⟨_,hr i _ j _ (List.getElem?_eq_getElem hi) (List.getElem?_eq_getElem hj)⟩
theorem Rds.cell {w:World} {G:Nat→Prop} {ds:List D} {vs:List Value} {f:List Nat} (h:Rds w G ds vs f) {d:D} (hd:d∈ds):∃ u,Rd w G d u:=by
 obtain⟨i,hi,rfl⟩:=List.mem_iff_getElem.1 hd
 obtain⟨v,_,hr⟩:=h.2.2 i _ (List.getElem?_eq_getElem hi)
 exact⟨v,hr⟩
theorem args1 {w:World} {G:Nat→Prop} {x:X} {v:Value} (h:XRd w G x v):∀ (i:Nat) (y:X) (u:Value),[x][i]? = some y→#[v][i]? = some u→XRd w G y u:=by
 intro i y u hy hu
 match i with
 | 0=>simp at hy hu;subst hy hu;exact h
 | i+1=>simp at hy
end Go.Proofs.Ytakohcpfjkcfdaa
/-
  Contracts of the laws' helpers over links, by abstract walks. Written by mk_vt.py from those over sequential elements.
  Conditions: those typed in each theorem.
-/
namespace Go.Proofs.Ytakohcpfjkcfdaa
open Go.RowKit Go.ChangeShapes Go.WideShapes
set_option linter.unusedVariables false
set_option linter.unusedSimpArgs false
end Go.Proofs.Ytakohcpfjkcfdaa
/-
  Contracts of the laws' helpers over [][]int, by abstract walks.
  Conditions: those typed in each theorem.
-/
namespace Go.Proofs.Ytakohcpfjkcfdaa
open Go.RowKit Go.ChangeShapes Go.WideShapes
set_option linter.unusedVariables false
set_option linter.unusedSimpArgs false
attribute [local simp ↓] condG_true condG_false condB_true condB_false
attribute [local simp] AWp_skip AWp_region_t AWp_region_d AWp_region_f still_mk AWp_seq AWp_cond condV_bool condB AWp_block AWp_exit AWp_ret
attribute [local simp] AOps_nil AOp_move AOp_assign AOp_pick AOp_binOp AOp_unOp AOp_convert AOp_len AOp_max AOp_min AOp_indexAddr AOp_load
attribute [local simp] AOp_fieldAddr AOp_field AOp_extract AOp_nilCheck AOp_build AOp_alloc AOp_box AOp_call AOp_store AOp_append AOp_buildSlice nextB_some
attribute [local simp] nextB_none adoptO adoptC AOp_makeSlice AOp_slice AOp_makeFunc AOp_guard guardD_some guardG_bool guardG_undef nextO_some nextS_some
attribute [local simp] nextZ_some nextL_some nextM_some nextT_some sliceO sliceL sliceT partO partV boundV funcO pickO
attribute [local simp] convO lenO maxO minO idxO extO nilO buildO litO litC makeO chunks
attribute [local simp] fillV placeOf thenA inBlockA St.get St.put St.eval ofCell evalT abin_add abin_sub abin_mul
attribute [local simp] abin_quo abin_rem abin_and abin_or abin_xor abin_andNot abin_shl abin_shr abin_shlu abin_eql abin_eqp abin_neq
attribute [local simp] abin_lss abin_leq abin_gtr abin_geq abin_eqlb abin_neqb aun pickV lenV intOf? indexV takeD
attribute [local simp] takeV loadV fieldAddrV fieldV ofX presD presDs pres presAll cellsV V.cell storeV
attribute [local simp] freezeC putAt kill takeC plains plainV scalarV nat_neg keepT sets eSl e1
attribute [local simp] e2 e3 e4 eInt eBool abinS_d abinS_agg abinS nilEq abin_eqb AOp_makeMap AOp_lookup
attribute [local simp] AOp_mapUpdate lookG_some updG_some mapV kyOf vlOf lookV vlV buildA afterCall inst inst1
attribute [local simp] inst1s instD instDs RetA resVs resV gives give1 give1s Le isPin leSlots
attribute [local simp] leS leTmps leV le0 le0s ren ren0 renS ren0s frame enterT afterT_some
attribute [local simp] afterC_some lives Slot.live arrsOk viewV view0 renT rens renSs setAll List.range'_succ RetT
attribute [local simp] RetW joinV leT AOpsE_nil AOpsE_cons AOpsT_nil AOpsT_cons isCallT isFnO callOf callVC_fn condC_true
attribute [local simp] condC_false beginT_mk thenT_mk pickE pickT isT loose namesOf namesV names1 names0 stableN
attribute [local simp] sameAt Op.operands Call.operands
abbrev RowD:Type:=List Int
def enRow (x:RowD):List D:=e1 (eSl 3 (e1 eInt)) x
abbrev erows (xs:List RowD):D:=eSl 26 enRow xs
abbrev irows (xs:List RowD):X:=.d (erows xs)
def fitRw (m:Nat) (xs:List RowD):Prop:=xs.length≤m∧∀ x∈xs,x.length≤m
end Go.Proofs.Ytakohcpfjkcfdaa
