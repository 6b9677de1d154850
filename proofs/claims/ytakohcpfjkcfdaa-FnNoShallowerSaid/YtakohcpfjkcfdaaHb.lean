/-
  Searching for a way, by the program: a visit. By abstract walks.
  Conditions: those typed in each theorem.
-/
import Derived.Test.YtakohcpfjkcfdaaHa
namespace Go.Proofs.Ytakohcpfjkcfdaa
open Go.RowKit Go.ChangeShapes Go.WideShapes
set_option linter.unusedVariables false
set_option linter.unusedSimpArgs false
attribute [local simp ↓] condG_true condG_false condB_true condB_false
attribute [local simp] AWp_skip AWp_region_t AWp_region_d AWp_region_f still_mk AWp_seq AWp_cond condV_bool condB AWp_block AWp_exit AWp_ret
attribute [local simp] AOps_nil AOp_move AOp_assign AOp_pick AOp_binOp AOp_unOp AOp_convert AOp_len AOp_max AOp_min AOp_indexAddr AOp_load
attribute [local simp] AOp_fieldAddr AOp_field AOp_extract AOp_nilCheck AOp_build AOp_alloc AOp_box AOp_call AOp_store AOp_append AOp_buildSlice nextB_some
attribute [local simp] nextB_none adoptO adoptC AOp_makeSlice AOp_slice AOp_makeFunc AOp_guard guardD_some guardG_bool guardG_undef nextO_some nextS_some
attribute [local simp] nextZ_some nextL_some nextM_some nextT_some sliceO sliceL sliceT partO partV boundV funcO pickO
attribute [local simp] convO lenO maxO minO idxO extO nilO buildO litO litC makeO chunks
attribute [local simp] fillV placeOf thenA inBlockA St.get St.put St.eval ofCell evalT abin_add abin_sub abin_mul
attribute [local simp] abin_quo abin_rem abin_and abin_or abin_xor abin_andNot abin_shl abin_shr abin_shlu abin_eql abin_eqp abin_neq
attribute [local simp] abin_lss abin_leq abin_gtr abin_geq abin_eqlb abin_neqb aun pickV lenV intOf? indexV takeD
attribute [local simp] takeV loadV fieldAddrV fieldV ofX presD presDs pres presAll cellsV V.cell storeV
attribute [local simp] freezeC putAt kill takeC plains plainV scalarV nat_neg keepT sets eSl e1
attribute [local simp] e2 e3 e4 eInt eBool abinS_d abinS_agg abinS nilEq abin_eqb AOp_makeMap AOp_lookup
attribute [local simp] AOp_mapUpdate lookG_some updG_some mapV kyOf vlOf lookV vlV buildA afterCall inst inst1
attribute [local simp] inst1s instD instDs RetA resVs resV gives give1 give1s Le isPin leSlots
attribute [local simp] leS leTmps leV le0 le0s ren ren0 renS ren0s frame enterT afterT_some
attribute [local simp] afterC_some lives Slot.live arrsOk viewV view0 renT rens renSs setAll List.range'_succ RetT
attribute [local simp] RetW joinV leT AOpsE_nil AOpsE_cons AOpsT_nil AOpsT_cons isCallT isFnO callOf callVC_fn condC_true
attribute [local simp] condC_false beginT_mk thenT_mk pickE pickT isT loose namesOf namesV names1 names0 stableN
attribute [local simp] sameAt Op.operands Call.operands
abbrev vStep (a:Int) (b:Bool):V:=.agg [.d (.int .i64 a),.d (.bool b)]
theorem key_T {t:Nat} (h:t≤9223372036854775807):KeyIn Try.prog 79 (kyT t):=key_step (by omega)
set_option maxRecDepth 100000 in
theorem visit_old (M:List (Ky×Vl)) (Q:List (List D)) (a c a':Int) (b d b':Bool) (ha:-9223372036854775808≤a∧a≤9223372036854775807) (h:getM M (a,.inl b)=some (a',some b')) :
 ConT Try.prog 81 [vStep a b,vStep c d,.ptr 0 0,.ptr 2 0] [.var 79 [.ref 1],.blk (.mp 79 M),.var 100 [.ref 3],.blk (.que 84 2 Q)]
  (.tup []) [.var 79 [.ref 1],.blk (.mp 79 M),.var 100 [.ref 3],.blk (.que 84 2 Q)]:=by
 have hk:=key_step (b:=b) ha
 refine conT_of (by kernel_rfl) Try.func81 rfl rfl rfl (by simp[laters,Later]) (by simp[lives,Slot.live]) ?_
 simp[hk,h]
 exact⟨[0,1,2,3],by simp⟩
set_option maxRecDepth 100000 in
theorem visit_new (M:List (Ky×Vl)) (Q:List (List D)) (a c:Int) (b d:Bool) (ha:-9223372036854775808≤a∧a≤9223372036854775807) (h:getM M (a,.inl b)=none) (hq:Q.length≤1048576) :
 ConT Try.prog 81 [vStep a b,vStep c d,.ptr 0 0,.ptr 2 0] [.var 79 [.ref 1],.blk (.mp 79 M),.var 100 [.ref 3],.blk (.que 84 2 Q)]
  (.tup []) [.var 79 [.ref 1],.blk (.mp 79 (M++[((a,.inl b),(c,some d))])),.var 100 [.ref 4],.dead,.blk (.que 84 2 (Q++[[.int .i64 a,.bool b]]))]:=by
 have hk:=key_step (b:=b) ha
 have hs:=setM_new (v:=(c,some d)) h
 refine conT_of (by kernel_rfl) Try.func81 rfl rfl rfl (by simp[laters,Later]) (by simp[lives,Slot.live]) ?_
 simp[hk,h,hs]
 refine app_que vt_el_100 (by exact rfl) (by simp) (by exact rfl) (by simp) (by simp[flatP,flatD]) (by first | (simp;done)|(simp;omega)) ?_
 simp
 exact⟨[0,1,2,3,8],by simp⟩
end Go.Proofs.Ytakohcpfjkcfdaa
