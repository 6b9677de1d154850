/-
  From a law's arguments to data.
  Conditions: those typed in each theorem.
-/
import Derived.Test.YtnjedabjbeipeaaNa
import Derived.Test.YtnjedabjbeipeaaNc
import Derived.Test.YtnjedabjbeipeaaNd
import Derived.Test.YtnjedabjbeipeaaNh
import Derived.Test.YtnjedabjbeipeaaNv
namespace Go.Proofs.Ytnjedabjbeipeaa
open Go.RowKit Go.ChangeShapes Go.WideShapes Go.ChangeAt
set_option linter.unusedVariables false
set_option linter.unusedSimpArgs false
theorem Rd.sub {w:World} {G:Nat→Prop} {t:TypeId} {es:List (List D)} {v:Value} (h:Rd w G (.sl t es) v):∀ e∈es,∀ d∈e,∃ u,Rd w G d u:=by
 intro e he d hd
 cases h with
 | nil=>simp at he
 | sl _ _ b o c s u hn hcap hG hs hc hr =>
   obtain⟨i,hi,rfl⟩:=List.mem_iff_getElem.1 he
   obtain⟨j,hj,rfl⟩:=List.mem_iff_getElem.1 hd
   exact⟨_,hr i _ j _ (List.getElem?_eq_getElem hi) (List.getElem?_eq_getElem hj)⟩
theorem Rds.cell {w:World} {G:Nat→Prop} {ds:List D} {vs:List Value} {f:List Nat} (h:Rds w G ds vs f) {d:D} (hd:d∈ds):∃ u,Rd w G d u:=by
 obtain⟨i,hi,rfl⟩:=List.mem_iff_getElem.1 hd
 obtain⟨v,_,hr⟩:=h.2.2 i _ (List.getElem?_eq_getElem hi)
 exact⟨v,hr⟩
theorem args1 {w:World} {G:Nat→Prop} {x:X} {v:Value} (h:XRd w G x v):∀ (i:Nat) (y:X) (u:Value),[x][i]? = some y→#[v][i]? = some u→XRd w G y u:=by
 intro i y u hy hu
 match i with
 | 0=>simp at hy hu;subst hy hu;exact h
 | i+1=>simp at hy
end Go.Proofs.Ytnjedabjbeipeaa
/-
  Contracts of the laws' helpers over links, by abstract walks. Written by mk_vt.py from those over sequential elements.
  Conditions: those typed in each theorem.
-/
namespace Go.Proofs.Ytnjedabjbeipeaa
open Go.RowKit Go.ChangeShapes Go.WideShapes
set_option linter.unusedVariables false
set_option linter.unusedSimpArgs false
abbrev LinkD:Type:=List Int×Int
def enLink (x:LinkD):List D:=e2 (eSl 3 (e1 eInt)) eInt x
abbrev ilk (x:List LinkD):X:=.d (eSl 44 enLink x)
def fitLk (m:Nat) (x:List LinkD):Prop:=x.length≤m∧∀ s∈x,s.1.length≤m
end Go.Proofs.Ytnjedabjbeipeaa
/-
  From the laws' arguments to graphs and links.
  Conditions: those typed in each theorem.
-/
namespace Go.Proofs.Ytnjedabjbeipeaa
open Go.RowKit Go.ChangeShapes Go.WideShapes Go.ChangeAt
set_option linter.unusedVariables false
set_option linter.unusedSimpArgs false
theorem OkD.sl_of {α:Type} {t:TypeId} {en:α→List D} {xs:List α} (h:OkD (eSl t en xs)):∀ x∈xs,∀ q∈en x,OkD q:=by
 intro x hx q hq
 cases h with
 | sl _ _ h=>exact h _ (List.mem_map_of_mem hx) q hq
theorem OkD.ints {xs:List Int} {t:TypeId} (h:OkD (eSl t (e1 eInt) xs)):∀ y∈xs,isI y:=fun y hy=>OkD.i64 (OkD.sl_of h y hy (eInt y) (by simp[e1]))
end Go.Proofs.Ytnjedabjbeipeaa
/-
  Contracts of the laws' helpers over [][]int, by abstract walks.
  Conditions: those typed in each theorem.
-/
namespace Go.Proofs.Ytnjedabjbeipeaa
open Go.RowKit Go.ChangeShapes Go.WideShapes
set_option linter.unusedVariables false
set_option linter.unusedSimpArgs false
attribute [local simp ↓] condG_true condG_false condB_true condB_false
attribute [local simp] AWp_skip AWp_region_t AWp_region_d AWp_region_f still_mk AWp_seq AWp_cond condV_bool condB AWp_block AWp_exit AWp_ret
attribute [local simp] AOps_nil AOp_move AOp_assign AOp_pick AOp_binOp AOp_unOp AOp_convert AOp_len AOp_max AOp_min AOp_indexAddr AOp_load
attribute [local simp] AOp_fieldAddr AOp_field AOp_extract AOp_nilCheck AOp_build AOp_alloc AOp_box AOp_call AOp_store AOp_append AOp_buildSlice nextB_some
attribute [local simp] nextB_none adoptO adoptC AOp_makeSlice AOp_slice AOp_makeFunc AOp_guard guardD_some guardG_bool guardG_undef nextO_some nextS_some
attribute [local simp] nextZ_some nextL_some nextM_some nextT_some sliceO sliceL sliceT partO partV boundV funcO pickO
attribute [local simp] convO lenO maxO minO idxO extO nilO buildO litO litC makeO chunks
attribute [local simp] fillV placeOf thenA inBlockA St.get St.put St.eval ofCell evalT abin_add abin_sub abin_mul
attribute [local simp] abin_quo abin_rem abin_and abin_or abin_xor abin_andNot abin_shl abin_shr abin_shlu abin_eql abin_eqp abin_neq
attribute [local simp] abin_lss abin_leq abin_gtr abin_geq abin_eqlb abin_neqb aun pickV lenV intOf? indexV takeD
attribute [local simp] takeV loadV fieldAddrV fieldV ofX presD presDs pres presAll cellsV V.cell storeV
attribute [local simp] freezeC putAt kill takeC plains plainV scalarV nat_neg keepT sets eSl e1
attribute [local simp] e2 e3 e4 eInt eBool abinS_d abinS_agg abinS nilEq abin_eqb AOp_makeMap AOp_lookup
attribute [local simp] AOp_mapUpdate lookG_some updG_some mapV kyOf vlOf lookV vlV buildA afterCall inst inst1
attribute [local simp] inst1s instD instDs RetA resVs resV gives give1 give1s Le isPin leSlots
attribute [local simp] leS leTmps leV le0 le0s ren ren0 renS ren0s frame enterT afterT_some
attribute [local simp] afterC_some lives Slot.live arrsOk viewV view0 renT rens renSs setAll List.range'_succ RetT
attribute [local simp] RetW joinV leT AOpsE_nil AOpsE_cons AOpsT_nil AOpsT_cons isCallT isFnO callOf callVC_fn condC_true
attribute [local simp] condC_false beginT_mk beginX_mk AOpsX_zero thenT_mk pickE pickT isT loose namesOf namesV names1
attribute [local simp] names0 stableN sameAt Op.operands Call.operands
abbrev RowD:Type:=List Int
def enRow (x:RowD):List D:=e1 (eSl 3 (e1 eInt)) x
end Go.Proofs.Ytnjedabjbeipeaa
/-
  Cones and cuts of a graph, by abstract walks: both sides.
  Conditions: those typed in each theorem.
-/
namespace Go.Proofs.Ytnjedabjbeipeaa
open Go.RowKit Go.ChangeShapes Go.WideShapes
set_option linter.unusedVariables false
set_option linter.unusedSimpArgs false
attribute [local simp ↓] condG_true condG_false condB_true condB_false
attribute [local simp] AWp_skip AWp_region_t AWp_region_d AWp_region_f still_mk AWp_seq AWp_cond condV_bool condB AWp_block AWp_exit AWp_ret
attribute [local simp] AOps_nil AOp_move AOp_assign AOp_pick AOp_binOp AOp_unOp AOp_convert AOp_len AOp_max AOp_min AOp_indexAddr AOp_load
attribute [local simp] AOp_fieldAddr AOp_field AOp_extract AOp_nilCheck AOp_build AOp_alloc AOp_box AOp_call AOp_store AOp_append AOp_buildSlice nextB_some
attribute [local simp] nextB_none adoptO adoptC AOp_makeSlice AOp_slice AOp_makeFunc AOp_guard guardD_some guardG_bool guardG_undef nextO_some nextS_some
attribute [local simp] nextZ_some nextL_some nextM_some nextT_some sliceO sliceL sliceT partO partV boundV funcO pickO
attribute [local simp] convO lenO maxO minO idxO extO nilO buildO litO litC makeO chunks
attribute [local simp] fillV placeOf thenA inBlockA St.get St.put St.eval ofCell evalT abin_add abin_sub abin_mul
attribute [local simp] abin_quo abin_rem abin_and abin_or abin_xor abin_andNot abin_shl abin_shr abin_shlu abin_eql abin_eqp abin_neq
attribute [local simp] abin_lss abin_leq abin_gtr abin_geq abin_eqlb abin_neqb aun pickV lenV intOf? indexV takeD
attribute [local simp] takeV loadV fieldAddrV fieldV ofX presD presDs pres presAll cellsV V.cell storeV
attribute [local simp] freezeC putAt kill takeC plains plainV scalarV nat_neg keepT sets eSl e1
attribute [local simp] e2 e3 e4 eInt eBool abinS_d abinS_agg abinS nilEq abin_eqb AOp_makeMap AOp_lookup
attribute [local simp] AOp_mapUpdate lookG_some updG_some mapV kyOf vlOf lookV vlV buildA afterCall inst inst1
attribute [local simp] inst1s instD instDs RetA resVs resV gives give1 give1s Le isPin leSlots
attribute [local simp] leS leTmps leV le0 le0s ren ren0 renS ren0s frame enterT afterT_some
attribute [local simp] afterC_some lives Slot.live arrsOk viewV view0 renT rens renSs setAll List.range'_succ RetT
attribute [local simp] RetW joinV leT AOpsE_nil AOpsE_cons AOpsT_nil AOpsT_cons isCallT isFnO callOf callVC_fn condC_true
attribute [local simp] condC_false beginT_mk beginX_mk AOpsX_zero thenT_mk pickE pickT isT loose namesOf namesV names1
attribute [local simp] names0 stableN sameAt Op.operands Call.operands
attribute [local simp] mcone_len esc_len
abbrev bools (s:List Bool):X:=.d (eSl 4 (e1 eBool) s)
def firstG (x:GrD):Nat:=1+x.1.toNat+x.2.1.length
def andAt (x:GrD) (v:Nat):AndD:=(x.2.2.1[v - firstG x]?).getD (0,0)
def kidA (x:GrD) (v:Nat):Nat:=(andAt x v).1.toNat / 2
def kidB (x:GrD) (v:Nat):Nat:=(andAt x v).2.toNat / 2
theorem grN_eq (x:GrD):grN x=firstG x+x.2.2.1.length:=rfl
theorem and_at {x:GrD} (hok:netOkB x=true) {v:Nat} (h1:firstG x≤v) (h2:v<grN x) :
 x.2.2.1[v - firstG x]? = some (andAt x v)∧0≤(andAt x v).1∧0≤(andAt x v).2∧(andAt x v).1 / 2=(kidA x v:Int)∧(andAt x v).2 / 2=(kidB x v:Int)∧kidA x v<v∧kidB x v<v:=by
 obtain⟨⟨n1,n2,n3,n4,n5,n6⟩,-,-,o3⟩:=netOk_of hok
 rw[grN_eq] at h2
 have hl:v - firstG x<x.2.2.1.length:=by omega
 have ha:x.2.2.1[v - firstG x]? = some (andAt x v):=by unfold andAt;rw[List.getElem?_eq_getElem hl];rfl
 have ho:=o3 _ _ ha
 have hf:(firstG x:Int)=1+x.1+x.2.1.length:=by unfold firstG;omega
 refine⟨ha,ho.1.1,ho.2.1,?_,?_,?_,?_⟩
 · unfold kidA;omega
 · unfold kidB;omega
 · unfold kidA;omega
 · unfold kidB;omega
theorem kids_lt {x:GrD} (hok:netOkB x=true):∀ v,firstG x≤v→v<grN x→kidA x v<v∧kidB x v<v:=fun v h1 h2=>(and_at hok h1 h2).2.2.2.2.2
theorem map_setB {s:List Bool} {v:Nat} {b:Bool}:(s.map (e1 eBool)).set v [.bool b]=(s.set v b).map (e1 eBool):=by rw[List.map_set];rfl
abbrev vgr (x:GrD):V:=.agg [.d (.int .i64 x.1),.d (eSl 31 enSeq x.2.1),.d (eSl 60 enAnd x.2.2.1),.d (eSl 3 (e1 eInt) x.2.2.2)]
end Go.Proofs.Ytnjedabjbeipeaa
/-
  Cuts and mappings of a graph, by abstract walks: both sides.
  Conditions: those typed in each theorem.
-/
namespace Go.Proofs.Ytnjedabjbeipeaa
open Go.RowKit Go.ChangeShapes Go.WideShapes
set_option linter.unusedVariables false
set_option linter.unusedSimpArgs false
attribute [local simp ↓] condG_true condG_false condB_true condB_false
attribute [local simp] AWp_skip AWp_region_t AWp_region_d AWp_region_f still_mk AWp_seq AWp_cond condV_bool condB AWp_block AWp_exit AWp_ret
attribute [local simp] AOps_nil AOp_move AOp_assign AOp_pick AOp_binOp AOp_unOp AOp_convert AOp_len AOp_max AOp_min AOp_indexAddr AOp_load
attribute [local simp] AOp_fieldAddr AOp_field AOp_extract AOp_nilCheck AOp_build AOp_alloc AOp_box AOp_call AOp_store AOp_append AOp_buildSlice nextB_some
attribute [local simp] nextB_none adoptO adoptC AOp_makeSlice AOp_slice AOp_makeFunc AOp_guard guardD_some guardG_bool guardG_undef nextO_some nextS_some
attribute [local simp] nextZ_some nextL_some nextM_some nextT_some sliceO sliceL sliceT partO partV boundV funcO pickO
attribute [local simp] convO lenO maxO minO idxO extO nilO buildO litO litC makeO chunks
attribute [local simp] fillV placeOf thenA inBlockA St.get St.put St.eval ofCell evalT abin_add abin_sub abin_mul
attribute [local simp] abin_quo abin_rem abin_and abin_or abin_xor abin_andNot abin_shl abin_shr abin_shlu abin_eql abin_eqp abin_neq
attribute [local simp] abin_lss abin_leq abin_gtr abin_geq abin_eqlb abin_neqb aun pickV lenV intOf? indexV takeD
attribute [local simp] takeV loadV fieldAddrV fieldV ofX presD presDs pres presAll cellsV V.cell storeV
attribute [local simp] freezeC putAt kill takeC plains plainV scalarV nat_neg keepT sets eSl e1
attribute [local simp] e2 e3 e4 eInt eBool abinS_d abinS_agg abinS nilEq abin_eqb AOp_makeMap AOp_lookup
attribute [local simp] AOp_mapUpdate lookG_some updG_some mapV kyOf vlOf lookV vlV buildA afterCall inst inst1
attribute [local simp] inst1s instD instDs RetA resVs resV gives give1 give1s Le isPin leSlots
attribute [local simp] leS leTmps leV le0 le0s ren ren0 renS ren0s frame enterT afterT_some
attribute [local simp] afterC_some lives Slot.live arrsOk viewV view0 renT rens renSs setAll List.range'_succ RetT
attribute [local simp] RetW joinV leT AOpsE_nil AOpsE_cons AOpsT_nil AOpsT_cons isCallT isFnO callOf callVC_fn condC_true
attribute [local simp] condC_false beginT_mk beginX_mk AOpsX_zero thenT_mk pickE pickT isT loose namesOf namesV names1
attribute [local simp] names0 stableN sameAt Op.operands Call.operands
attribute [local simp] mcone_len esc_len
theorem ok_sizes {x:GrD} (hok:netOkB x=true):(firstG x:Int)=1+x.1+x.2.1.length∧grN x≤400∧(1+x.1+(x.2.1.length:Int)+(x.2.2.1.length:Int))=grN x∧nodesG x=grN x:=by
 obtain⟨⟨n1,n2,n3,n4,n5,n6⟩,-,-,-⟩:=netOk_of hok
 have hN:=grN_eq x
 unfold firstG at hN
 refine⟨by unfold firstG;omega,by omega,by omega,by omega⟩
theorem rep_bools {n:Nat}:List.replicate n [D.bool false]=(List.replicate n false).map (e1 eBool):=by rw[List.map_replicate];rfl
end Go.Proofs.Ytnjedabjbeipeaa
