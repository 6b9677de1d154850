/-
  The exported functions on mappings, by abstract walks: both sides.
  Conditions: those typed in each theorem.
-/
import Derived.Test.YtakohcpfjkcfdaaMa
namespace Go.Proofs.Ytakohcpfjkcfdaa
open Go.RowKit Go.ChangeShapes Go.WideShapes
set_option linter.unusedVariables false
set_option linter.unusedSimpArgs false
attribute [local simp ↓] condG_true condG_false condB_true condB_false
attribute [local simp] AWp_skip AWp_region_t AWp_region_d AWp_region_f still_mk AWp_seq AWp_cond condV_bool condB AWp_block AWp_exit AWp_ret
attribute [local simp] AOps_nil AOp_move AOp_assign AOp_pick AOp_binOp AOp_unOp AOp_convert AOp_len AOp_max AOp_min AOp_indexAddr AOp_load
attribute [local simp] AOp_fieldAddr AOp_field AOp_extract AOp_nilCheck AOp_build AOp_alloc AOp_box AOp_call AOp_store AOp_append AOp_buildSlice nextB_some
attribute [local simp] nextB_none adoptO adoptC AOp_makeSlice AOp_slice AOp_makeFunc AOp_guard guardD_some guardG_bool guardG_undef nextO_some nextS_some
attribute [local simp] nextZ_some nextL_some nextM_some nextT_some sliceO sliceL sliceT partO partV boundV funcO pickO
attribute [local simp] convO lenO maxO minO idxO extO nilO buildO litO litC makeO chunks
attribute [local simp] fillV placeOf thenA inBlockA St.get St.put St.eval ofCell evalT abin_add abin_sub abin_mul
attribute [local simp] abin_quo abin_rem abin_and abin_or abin_xor abin_andNot abin_shl abin_shr abin_shlu abin_eql abin_eqp abin_neq
attribute [local simp] abin_lss abin_leq abin_gtr abin_geq abin_eqlb abin_neqb aun pickV lenV intOf? indexV takeD
attribute [local simp] takeV loadV fieldAddrV fieldV ofX presD presDs pres presAll cellsV V.cell storeV
attribute [local simp] freezeC putAt kill takeC plains plainV scalarV nat_neg keepT sets eSl e1
attribute [local simp] e2 e3 e4 eInt eBool abinS_d abinS_agg abinS nilEq abin_eqb AOp_makeMap AOp_lookup
attribute [local simp] AOp_mapUpdate lookG_some updG_some mapV kyOf vlOf lookV vlV buildA afterCall inst inst1
attribute [local simp] inst1s instD instDs RetA resVs resV gives give1 give1s Le isPin leSlots
attribute [local simp] leS leTmps leV le0 le0s ren ren0 renS ren0s frame enterT afterT_some
attribute [local simp] afterC_some lives Slot.live arrsOk viewV view0 renT rens renSs setAll List.range'_succ RetT
attribute [local simp] RetW joinV leT AOpsE_nil AOpsE_cons AOpsT_nil AOpsT_cons isCallT isFnO callOf callVC_fn condC_true
attribute [local simp] condC_false beginT_mk thenT_mk pickE pickT isT loose namesOf namesV names1 names0 stableN
attribute [local simp] sameAt Op.operands Call.operands
attribute [local simp] mcone_len esc_len
def ifMap {α:Type} (x:GrD) (cs:List RowD) (a b:α):α:=if mapOkB x cs=true then a else b
def betterB (x:GrD) (a b:List RowD):Bool:=decide (depthL x a≤depthL x b)&&(decide ((costL x a).1<(costL x b).1)||decide ((costL x a).1=(costL x b).1)&&decide ((costL x a).2.1<(costL x b).2.1))
theorem iMapDepth_con (x:GrD) (cs:List RowD) (hx:fitGr 1048576 x) (hc:fitRw 1048576 cs):ConC Try.prog 11 [igr x,irows cs] (.d (.int .i64 (ifMap x cs (depthL x cs) (-1)))):=by
 refine con_of (by kernel_rfl) Try.func11 rfl rfl rfl ?_
 simp[enGr]
 refine call_step (iMapOk_con x cs hx hc) ?_
 simp
 rcases Bool.eq_false_or_eq_true (mapOkB x cs) with h|h
 case inr=>simp[h,ifMap]
 have hd:(costL x cs).2.2=depthL x cs:=rfl
 simp[h,ifMap]
 refine call_step (iCost_con x cs hx hc h) ?_
 simp[hd]
theorem sMapDepth_con (x:GrD) (cs:List RowD) (hx:fitGr 1048576 x) (hg:okGr x) (hc:fitRw 1048576 cs):ConC Try.prog 15 [igr x,irows cs] (.d (.int .i64 (ifMap x cs (depthL x cs) (-1)))):=by
 refine con_of (by kernel_rfl) Try.func15 rfl rfl rfl ?_
 simp[enGr]
 refine call_step (sMapOk_con x cs hx hg hc) ?_
 simp
 rcases Bool.eq_false_or_eq_true (mapOkB x cs) with h|h
 case inr=>simp[h,ifMap]
 simp[h,ifMap]
 refine call_step (sDepth_con x cs hx hc h) ?_
 simp
theorem iMapCount_con (x:GrD) (cs:List RowD) (hx:fitGr 1048576 x) (hc:fitRw 1048576 cs):ConC Try.prog 16 [igr x,irows cs] (.d (.int .i64 (ifMap x cs (costL x cs).1 (-1)))):=by
 refine con_of (by kernel_rfl) Try.func16 rfl rfl rfl ?_
 simp[enGr]
 refine call_step (iMapOk_con x cs hx hc) ?_
 simp
 rcases Bool.eq_false_or_eq_true (mapOkB x cs) with h|h
 case inr=>simp[h,ifMap]
 simp[h,ifMap]
 refine call_step (iCost_con x cs hx hc h) ?_
 simp
theorem sMapCount_con (x:GrD) (cs:List RowD) (hx:fitGr 1048576 x) (hg:okGr x) (hc:fitRw 1048576 cs):ConC Try.prog 17 [igr x,irows cs] (.d (.int .i64 (ifMap x cs (costL x cs).1 (-1)))):=by
 refine con_of (by kernel_rfl) Try.func17 rfl rfl rfl ?_
 simp[enGr]
 refine call_step (sMapOk_con x cs hx hg hc) ?_
 simp
 rcases Bool.eq_false_or_eq_true (mapOkB x cs) with h|h
 case inr=>simp[h,ifMap]
 simp[h,ifMap]
 refine call_step (sCount_con x cs hx hc h) ?_
 simp
def bmB (x:GrD) (a b:List RowD):Bool:=mapOkB x a&&mapOkB x b&&betterB x a b
theorem ibetter_con (x:GrD) (a b:List RowD) (hx:fitGr 1048576 x) (ha:fitRw 1048576 a) (hb:fitRw 1048576 b) (ma:mapOkB x a=true) (mb:mapOkB x b=true):ConC Try.prog 39 [igr x,irows a,irows b] (.d (.bool (betterB x a b))):=by
 have hda:(costL x a).2.2=depthL x a:=rfl
 have hdb:(costL x b).2.2=depthL x b:=rfl
 refine con_of (by kernel_rfl) Try.func39 rfl rfl rfl ?_
 simp[enGr]
 refine call_step (iCost_con x a hx ha ma) ?_
 simp[hda]
 refine call_step (iCost_con x b hx hb mb) ?_
 simp[hdb]
 unfold betterB
 generalize depthL x a=da
 generalize depthL x b=db
 generalize (costL x a).1=ca
 generalize (costL x b).1=cb
 generalize (costL x a).2.1=ea
 generalize (costL x b).2.1=eb
 have hbe:(ca==cb)=decide (ca=cb):=rfl
 by_cases h1:da≤db<;>by_cases h2:ca<cb<;>by_cases h3:ca=cb<;>simp[h1,h2,h3,hbe]
theorem iBetter_con (x:GrD) (a b:List RowD) (hx:fitGr 1048576 x) (ha:fitRw 1048576 a) (hb:fitRw 1048576 b):ConC Try.prog 18 [igr x,irows a,irows b] (.d (.bool (bmB x a b))):=by
 refine con_of (by kernel_rfl) Try.func18 rfl rfl rfl ?_
 simp[enGr]
 refine call_step (iMapOk_con x a hx ha) ?_
 simp
 rcases Bool.eq_false_or_eq_true (mapOkB x a) with ma|ma
 case inr=>simp[ma,bmB]
 simp[ma]
 refine call_step (iMapOk_con x b hx hb) ?_
 simp
 rcases Bool.eq_false_or_eq_true (mapOkB x b) with mb|mb
 case inr=>simp[mb,bmB]
 simp[mb]
 refine call_step (ibetter_con x a b hx ha hb ma mb) ?_
 simp[bmB,ma,mb]
end Go.Proofs.Ytakohcpfjkcfdaa
