/-
  The law of RecoverArea: each call returns true, at every input.
  Conditions: none.
-/
import Derived.Test.YtklhofpjjbfckaaIu
import Derived.Test.YtklhofpjjbfckaaMq
import Derived.Test.YtklhofpjjbfckaaNf
import Derived.Test.YtklhofpjjbfckaaKfFnExactRecoverArea
namespace Go.Proofs.Ytklhofpjjbfckaa
open Go.RowKit Go.ChangeShapes Go.WideShapes Go.ChangeAt
set_option linter.unusedVariables false
set_option linter.unusedSimpArgs false
attribute [local simp ↓] condG_true condG_false condB_true condB_false
attribute [local simp] AWp_skip AWp_region_t AWp_region_d AWp_region_f still_mk AWp_seq AWp_cond condV_bool condB AWp_block AWp_exit AWp_ret
attribute [local simp] AOps_nil AOp_move AOp_assign AOp_pick AOp_binOp AOp_unOp AOp_convert AOp_len AOp_max AOp_min AOp_indexAddr AOp_load
attribute [local simp] AOp_fieldAddr AOp_field AOp_extract AOp_nilCheck AOp_build AOp_alloc AOp_box AOp_call AOp_store AOp_append AOp_buildSlice nextB_some
attribute [local simp] nextB_none adoptO adoptC AOp_makeSlice AOp_slice AOp_makeFunc AOp_guard guardD_some guardG_bool guardG_undef nextO_some nextS_some
attribute [local simp] nextZ_some nextL_some nextM_some nextT_some sliceO sliceL sliceT partO partV boundV funcO pickO
attribute [local simp] convO lenO maxO minO idxO extO nilO buildO litO litC makeO chunks
attribute [local simp] fillV placeOf thenA inBlockA St.get St.put St.eval ofCell evalT abin_add abin_sub abin_mul
attribute [local simp] abin_quo abin_rem abin_and abin_or abin_xor abin_andNot abin_shl abin_shr abin_shlu abin_eql abin_eqp abin_neq
attribute [local simp] abin_lss abin_leq abin_gtr abin_geq abin_eqlb abin_neqb aun pickV lenV intOf? indexV takeD
attribute [local simp] takeV loadV fieldAddrV fieldV ofX presD presDs pres presAll cellsV V.cell storeV
attribute [local simp] freezeC putAt kill takeC plains plainV scalarV nat_neg keepT sets eSl e1
attribute [local simp] e2 e3 e4 eInt eBool abinS_d abinS_agg abinS nilEq abin_eqb AOp_makeMap AOp_lookup
attribute [local simp] AOp_mapUpdate lookG_some updG_some mapV kyOf vlOf lookV vlV buildA afterCall inst inst1
attribute [local simp] inst1s instD instDs RetA resVs resV gives give1 give1s Le isPin leSlots
attribute [local simp] leS leTmps leV le0 le0s ren ren0 renS ren0s frame enterT afterT_some
attribute [local simp] afterC_some lives Slot.live arrsOk viewV view0 renT rens renSs setAll List.range'_succ RetT
attribute [local simp] RetW joinV leT AOpsE_nil AOpsE_cons AOpsT_nil AOpsT_cons isCallT isFnO callOf callVC_fn condC_true
attribute [local simp] condC_false beginT_mk thenT_mk pickE pickT isT loose namesOf namesV names1 names0 stableN
attribute [local simp] sameAt Op.operands Call.operands
theorem recL_fit {x:GrD} {cs:List RowD}:fitRw 1048576 (recL x cs):=by
 unfold recL
 split
 · rename_i hm
   exact mapOk_rows2 (recK_nw hm _ (Nat.le_refl _)).1
 · exact⟨by simp,by simp⟩
set_option maxRecDepth 100000 in
set_option maxHeartbeats 2000000 in
theorem law_RecoverArea (x:GrD) (cs:List RowD) (hx:fitGr 9223372036854775807 x) (hc:fitRw 9223372036854775807 cs) (gx:okGr x):ConC Try.prog 11 [.agg (enGr 155 161 x),irows cs] (.d (.bool true)):=by
 refine con_ofS (by kernel_rfl) Try.func11 rfl rfl rfl ?_
 simp[enGr]
 refine call_step (szNet_con x 1048576 hx (by omega)) ?_
 simp
 intro h1
 have b1:=szGrL_le x 1048576 (by omega)
 have hf:=fitGr_sz h1
 refine call_step (szRows_con cs _ hc ⟨h1,by omega⟩) ?_
 simp
 intro h2
 have hr:=fitRw_sz h2 ⟨h1,by omega⟩
 have cx:=cGr_le hf
 have cc:=cRows_le hr
 have hl:=recL_fit (x:=x) (cs:=cs)
 have cl:=cRows_le hl
 have ks:=sRecover_con x cs hf gx hr
 have ki:=iRecover_con x cs hf hr
 generalize recL x cs=r at *
 have hq:(0:Int)≤1+costs cRow r:=by omega
 have hq2:¬ (1+(costs cRow r:Int)<0):=by omega
 have hk:¬ (1+(cGr x:Int)+costs cRow cs<0):=by omega
 have hk2:(0:Int)≤1+cGr x+costs cRow cs:=by omega
 refine call_step (toNet_con x hf) ?_
 simp[enGr]
 refine call_step (toRows_con cs hr) ?_
 simp
 refine call_step (ks) ?_
 simp
 refine call_step (toNet_con x hf) ?_
 simp[enGr]
 refine call_step (toRows_con cs hr) ?_
 simp
 refine call_step (ki) ?_
 simp
 refine call_step (eqRows_con r hl) ?_
 simp
 refine⟨by kernel_rfl,?_⟩
 refine call_step (toNet_con x hf) ?_
 simp[enGr]
 refine call_step (eqNet_con x hf) ?_
 simp
 refine call_step (toRows_con cs hr) ?_
 simp
 refine call_step (eqRows_con cs hr) ?_
 simp
 refine callW_step (markNet_conW x 1 (by omega) (by omega)) [6,7,8] (by simp) (by simp) (by simp) ?_
 simp[setAll]
 refine callM_step (markIntSS_conM cs (1+cGr x) (by omega) (by omega)) (by rfl) ?_
 simp[hk,hk2]
 refine call_step (eqRows_con r hl) ?_
 simp
 refine callM_step (markIntSS_conM r 1 (by omega) (by omega)) (by rfl) ?_
 simp
 refine call_step (heldIntSS_con r 1 hl (by omega) (by omega)) ?_
 simp[hq,hq2]
 refine call_step (toNet_con x hf) ?_
 simp[enGr]
 refine call_step (toRows_con cs hr) ?_
 simp
 refine call_step (ki) ?_
 simp
 refine call_step (eqRows_con r hl) ?_
 simp
 refine call_step (heldIntSS_con r 1 hl (by omega) (by omega)) ?_
 simp[hq,hq2]
set_option maxRecDepth 100000 in
theorem FnExactRecoverArea_lifted (os:Os) (started:os.Started) (H:Type) (enc:TypeId×Value→H) :
 ReturnsInHanded {} Try.checked os 11 .any (Rows.fnExactRecoverAreaSpec.pre6 enc Try.prog Try.f11 Rows.fnExactRecoverAreaRow.domain false) (Rows.fnExactRecoverAreaSpec.post enc Try.prog Try.f11 false true false false):=by
 refine law_lift (C:=Try.checked) Try.own started (by kernel_rfl) Try.func11
  (ChangeSpec.witness6 (enc:=enc) (C:=Try.checked) false ⟨#[],#[.agg #[.int .i64 0,.slice none 0 0,.slice none 0 0,.slice none 0 0],.slice none 0 0],[]⟩ 8 (by kernel_rfl) (by kernel_rfl) (by kernel_rfl) (by kernel_rfl))
  Try.laidOut (of_decide_eq_true (by kernel_rfl)) rfl rfl Try.underlying4 ?_
 intro W base args ds ps hval0 hA0 hlt
 have hval:∀ (j:Nat) t v,Try.f11.params[j]? = some t→args[j]? = some v→Value.okWide Try.prog W .any base t v:=hval0
 have hA:DataW.TrodAll enc Try.prog W 0 (fun _=>true) true Try.f11.params.toList args.toList ds ps:=hA0
 clear hval0 hA0
 rw[Try.params11] at hA hval
 obtain⟨v0,vs0,d0,ds0,p0,q0,hargs,rfl,rfl,h0,r0⟩:=trodAll_cons hA
 obtain⟨v1,vs1,d1,ds1,p1,q1,rfl,rfl,rfl,h1,r1⟩:=trodAll_cons r0
 obtain⟨rfl,rfl,rfl⟩:=trodAll_nil r1
 obtain rfl:args=#[v0,v1]:=by cases args;simp_all
 obtain⟨a,ha,ga⟩:=open_aggR Try.underlying43 opE_net (hval 0 _ v0 rfl rfl) h0 (fun x hx=>hlt x (by simp[hx]))
 obtain⟨cs,hc⟩:=openD_sl Try.underlying45 op_rows (hval 1 _ v1 rfl rfl) h1 (fun x hx=>hlt x (by simp[hx]))
 exact⟨rfl,law_con (law_RecoverArea a cs (fitGr_of ha) (fitRw_of hc) (okGr_of ga)) rfl (args2 ha (.d hc))⟩
theorem FnExactRecoverArea_holds:Rows.FnExactRecoverAreaSaid :=
 OpenClaim.holds_of_wide 11 Try.f11 rfl rfl rfl rfl rfl rfl rfl ⟨rfl,rfl,rfl,rfl,rfl⟩ rfl rfl rfl rfl rfl (by kernel_rfl) Try.func11 FnExactRecoverArea_closed
  (of_decide_eq_true (by kernel_rfl)) (by unfold Func.isWrapper;first | (rw[if_pos (by decide +kernel)];kernel_rfl)|(rw[if_neg (by decide +kernel)];exact⟨rfl,rfl⟩))
  (fun os started H enc _=>FnExactRecoverArea_lifted os started H enc)
#print axioms FnExactRecoverArea_holds
end Go.Proofs.Ytklhofpjjbfckaa
