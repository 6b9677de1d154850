/-
  The exported functions on mappings, by abstract walks: both sides.
  Conditions: those typed in each theorem.
-/
import Derived.Test.YtklhofpjjbfckaaMa
namespace Go.Proofs.Ytklhofpjjbfckaa
open Go.RowKit Go.ChangeShapes Go.WideShapes
set_option linter.unusedVariables false
set_option linter.unusedSimpArgs false
attribute [local simp ↓] condG_true condG_false condB_true condB_false
attribute [local simp] AWp_skip AWp_region_t AWp_region_d AWp_region_f still_mk AWp_seq AWp_cond condV_bool condB AWp_block AWp_exit AWp_ret
attribute [local simp] AOps_nil AOp_move AOp_assign AOp_pick AOp_binOp AOp_unOp AOp_convert AOp_len AOp_max AOp_min AOp_indexAddr AOp_load
attribute [local simp] AOp_fieldAddr AOp_field AOp_extract AOp_nilCheck AOp_build AOp_alloc AOp_box AOp_call AOp_store AOp_append AOp_buildSlice nextB_some
attribute [local simp] nextB_none adoptO adoptC AOp_makeSlice AOp_slice AOp_makeFunc AOp_guard guardD_some guardG_bool guardG_undef nextO_some nextS_some
attribute [local simp] nextZ_some nextL_some nextM_some nextT_some sliceO sliceL sliceT partO partV boundV funcO pickO
attribute [local simp] convO lenO maxO minO idxO extO nilO buildO litO litC makeO chunks
attribute [local simp] fillV placeOf thenA inBlockA St.get St.put St.eval ofCell evalT abin_add abin_sub abin_mul
attribute [local simp] abin_quo abin_rem abin_and abin_or abin_xor abin_andNot abin_shl abin_shr abin_shlu abin_eql abin_eqp abin_neq
attribute [local simp] abin_lss abin_leq abin_gtr abin_geq abin_eqlb abin_neqb aun pickV lenV intOf? indexV takeD
attribute [local simp] takeV loadV fieldAddrV fieldV ofX presD presDs pres presAll cellsV V.cell storeV
attribute [local simp] freezeC putAt kill takeC plains plainV scalarV nat_neg keepT sets eSl e1
attribute [local simp] e2 e3 e4 eInt eBool abinS_d abinS_agg abinS nilEq abin_eqb AOp_makeMap AOp_lookup
attribute [local simp] AOp_mapUpdate lookG_some updG_some mapV kyOf vlOf lookV vlV buildA afterCall inst inst1
attribute [local simp] inst1s instD instDs RetA resVs resV gives give1 give1s Le isPin leSlots
attribute [local simp] leS leTmps leV le0 le0s ren ren0 renS ren0s frame enterT afterT_some
attribute [local simp] afterC_some lives Slot.live arrsOk viewV view0 renT rens renSs setAll List.range'_succ RetT
attribute [local simp] RetW joinV leT AOpsE_nil AOpsE_cons AOpsT_nil AOpsT_cons isCallT isFnO callOf callVC_fn condC_true
attribute [local simp] condC_false beginT_mk thenT_mk pickE pickT isT loose namesOf namesV names1 names0 stableN
attribute [local simp] sameAt Op.operands Call.operands
attribute [local simp] mcone_len esc_len
def betterB (x:GrD) (a b:List RowD):Bool:=decide (depthL x a≤depthL x b)&&(decide ((costL x a).1<(costL x b).1)||decide ((costL x a).1=(costL x b).1)&&decide ((costL x a).2.1<(costL x b).2.1))
theorem ibetter_con (x:GrD) (a b:List RowD) (hx:fitGr 1048576 x) (ha:fitRw 1048576 a) (hb:fitRw 1048576 b) (ma:mapOkB x a=true) (mb:mapOkB x b=true):ConC Try.prog 227 [igr x,irows a,irows b] (.d (.bool (betterB x a b))):=by
 have hda:(costL x a).2.2=depthL x a:=rfl
 have hdb:(costL x b).2.2=depthL x b:=rfl
 refine con_of (by kernel_rfl) Try.func227 rfl rfl rfl ?_
 simp[enGr]
 refine call_step (iCost_con x a hx ha ma) ?_
 simp[hda]
 refine call_step (iCost_con x b hx hb mb) ?_
 simp[hdb]
 unfold betterB
 generalize depthL x a=da
 generalize depthL x b=db
 generalize (costL x a).1=ca
 generalize (costL x b).1=cb
 generalize (costL x a).2.1=ea
 generalize (costL x b).2.1=eb
 have hbe:(ca==cb)=decide (ca=cb):=rfl
 by_cases h1:da≤db<;>by_cases h2:ca<cb<;>by_cases h3:ca=cb<;>simp[h1,h2,h3,hbe]
theorem l19Better_con (x:GrD) (a b:List RowD) (hx:fitGr 1048576 x) (ha:fitRw 1048576 a) (hb:fitRw 1048576 b) (ma:mapOkB x a=true) (mb:mapOkB x b=true):ConC Try.prog 152 [igr x,irows a,irows b] (.d (.bool (betterB x a b))):=by
 refine con_of (by kernel_rfl) Try.func152 rfl rfl rfl ?_
 have c1:=sDepth_con x a hx ha ma
 have c2:=sDepth_con x b hx hb mb
 have c3:=sCount_con x a hx ha ma
 have c4:=sCount_con x b hx hb mb
 simp[enGr]
 refine⟨by kernel_rfl,?_⟩
 refine call_step (c1) ?_
 simp
 refine call_step (c2) ?_
 simp
 unfold betterB
 generalize depthL x a=da at *
 generalize depthL x b=db at *
 by_cases h1:da≤db
 case neg=>simp[h1,show db<da by omega]
 simp[h1,show ¬ db<da by omega]
 refine call_step (c3) ?_
 simp
 refine call_step (c4) ?_
 simp
 generalize (costL x a).1=ca at *
 generalize (costL x b).1=cb at *
 generalize (costL x a).2.1=ea at *
 generalize (costL x b).2.1=eb at *
 have hbe:(ca==cb)=decide (ca=cb):=rfl
 by_cases h2:ca<cb<;>by_cases h3:ca=cb<;>first | (simp[h1,h2,h3,hbe];done)|(simp[h1,h2,h3,hbe];omega)
end Go.Proofs.Ytklhofpjjbfckaa
