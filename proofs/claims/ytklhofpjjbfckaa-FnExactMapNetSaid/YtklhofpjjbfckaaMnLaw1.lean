/-
  The law of MapNet: each call returns true, at every input.
  Conditions: none.
-/
import Derived.Test.YtklhofpjjbfckaaIu
import Derived.Test.YtklhofpjjbfckaaHg
import Derived.Test.YtklhofpjjbfckaaMq
import Derived.Test.YtklhofpjjbfckaaMp
import Derived.Test.YtklhofpjjbfckaaKfFnExactMapNet
namespace Go.Proofs.Ytklhofpjjbfckaa
open Go.RowKit Go.ChangeShapes Go.WideShapes Go.ChangeAt
set_option linter.unusedVariables false
set_option linter.unusedSimpArgs false
attribute [local simp ↓] condG_true condG_false condB_true condB_false
attribute [local simp] AWp_skip AWp_region_t AWp_region_d AWp_region_f still_mk AWp_seq AWp_cond condV_bool condB AWp_block AWp_exit AWp_ret
attribute [local simp] AOps_nil AOp_move AOp_assign AOp_pick AOp_binOp AOp_unOp AOp_convert AOp_len AOp_max AOp_min AOp_indexAddr AOp_load
attribute [local simp] AOp_fieldAddr AOp_field AOp_extract AOp_nilCheck AOp_build AOp_alloc AOp_box AOp_call AOp_store AOp_append AOp_buildSlice nextB_some
attribute [local simp] nextB_none adoptO adoptC AOp_makeSlice AOp_slice AOp_makeFunc AOp_guard guardD_some guardG_bool guardG_undef nextO_some nextS_some
attribute [local simp] nextZ_some nextL_some nextM_some nextT_some sliceO sliceL sliceT partO partV boundV funcO pickO
attribute [local simp] convO lenO maxO minO idxO extO nilO buildO litO litC makeO chunks
attribute [local simp] fillV placeOf thenA inBlockA St.get St.put St.eval ofCell evalT abin_add abin_sub abin_mul
attribute [local simp] abin_quo abin_rem abin_and abin_or abin_xor abin_andNot abin_shl abin_shr abin_shlu abin_eql abin_eqp abin_neq
attribute [local simp] abin_lss abin_leq abin_gtr abin_geq abin_eqlb abin_neqb aun pickV lenV intOf? indexV takeD
attribute [local simp] takeV loadV fieldAddrV fieldV ofX presD presDs pres presAll cellsV V.cell storeV
attribute [local simp] freezeC putAt kill takeC plains plainV scalarV nat_neg keepT sets eSl e1
attribute [local simp] e2 e3 e4 eInt eBool abinS_d abinS_agg abinS nilEq abin_eqb AOp_makeMap AOp_lookup
attribute [local simp] AOp_mapUpdate lookG_some updG_some mapV kyOf vlOf lookV vlV buildA afterCall inst inst1
attribute [local simp] inst1s instD instDs RetA resVs resV gives give1 give1s Le isPin leSlots
attribute [local simp] leS leTmps leV le0 le0s ren ren0 renS ren0s frame enterT afterT_some
attribute [local simp] afterC_some lives Slot.live arrsOk viewV view0 renT rens renSs setAll List.range'_succ RetT
attribute [local simp] RetW joinV leT AOpsE_nil AOpsE_cons AOpsT_nil AOpsT_cons isCallT isFnO callOf callVC_fn condC_true
attribute [local simp] condC_false beginT_mk thenT_mk pickE pickT isT loose namesOf namesV names1 names0 stableN
attribute [local simp] sameAt Op.operands Call.operands
theorem recL_fit {x:GrD} {cs:List RowD}:fitRw 1048576 (recL x cs):=by
 unfold recL
 split
 · rename_i hm
   exact mapOk_rows2 (recK_nw hm _ (Nat.le_refl _)).1
 · exact⟨by simp,by simp⟩
theorem goS_len {N F:Nat} {ka kb:Nat→Nat} {up:List Bool}:∀ (n:Nat) (s:StS),((goS N F ka kb up n s).getD []).length≤N
 | 0,s=>by simp[goS]
 | n+1,s=>by
   unfold goS
   generalize seekS N F ka kb up s.1 s.2=q
   obtain⟨es,o⟩:=q
   cases o with
   | none =>
     have:=List.length_filter_le (fun k=>decide (2*k∈keyE es)&&!decide (2*k+1∈keyE es)) (List.range N)
     simpa [outS] using this
   | some u=>exact goS_len n _
theorem depthMap_fit {x:GrD}:fitRw 1048576 (depthMap x):=by
 unfold depthMap
 split
 · rename_i hok
   obtain⟨⟨n1,n2,n3,n4,n5,n6⟩,-,-,-⟩:=netOk_of hok
   obtain⟨hF',hgl,hNi,hno⟩:=ok_sizes hok
   refine⟨by rw[depK_len];omega,fun r hr=>?_⟩
   obtain⟨i,-,rfl⟩:=List.mem_map.1 hr
   unfold cutZ
   rw[natI_len]
   have:=goS_len (N:=grN x) (F:=firstG x) (ka:=kidA x) (kb:=kidB x) (up:=upL (grN x) (coneL x) (firstG x+i) (getZ (labelsL x) (firstG x+i)) (labelsL x)) 5 (List.replicate (grN x) false,List.replicate (grN x) 0)
   unfold hcG hcS
   omega
 · exact⟨by simp,by simp⟩
theorem iMapNet_con (x:GrD) (hx:fitGr 1048576 x):ConC Try.prog 70 [igr x] (irows (recL x (depthMap x))):=by
 have kD:=iDepth_con' x hx
 have kR:=iRecover_con x (depthMap x) hx depthMap_fit
 generalize recL x (depthMap x)=r at *
 generalize depthMap x=d at *
 refine con_ofD (by kernel_rfl) Try.func70 rfl rfl rfl ?_
 simp[enGr]
 refine drawD_of 3 (by kernel_rfl) ?_
 simp[enGr]
 refine call_step (kD) ?_
 simp[enGr]
 refine call_step (kR) ?_
 simp
theorem sMapNet_con (x:GrD) (hx:fitGr 1048576 x) (hg:okGr x):ConC Try.prog 69 [igr x] (irows (recL x (depthMap x))):=by
 have kD:=sDepth_con' x hx hg
 have kR:=sRecover_con x (depthMap x) hx hg depthMap_fit
 generalize recL x (depthMap x)=r at *
 generalize depthMap x=d at *
 refine con_ofD (by kernel_rfl) Try.func69 rfl rfl rfl ?_
 simp[enGr]
 refine drawD_of 3 (by kernel_rfl) ?_
 simp[enGr]
 refine call_step (kD) ?_
 simp[enGr]
 refine call_step (kR) ?_
 simp
set_option maxRecDepth 100000 in
set_option maxHeartbeats 2000000 in
theorem law_MapNet (x:GrD) (hx:fitGr 9223372036854775807 x) (gx:okGr x):ConC Try.prog 14 [.agg (enGr 155 161 x)] (.d (.bool true)):=by
 refine con_ofS (by kernel_rfl) Try.func14 rfl rfl rfl ?_
 simp[enGr]
 refine call_step (szNet_con x 1048576 hx (by omega)) ?_
 simp
 intro h1
 have hf:=fitGr_sz h1
 have hr:=recL_fit (x:=x) (cs:=depthMap x)
 have cc:=cRows_le hr
 have cx:=cGr_le hf
 have ks:=sMapNet_con x hf gx
 have ki:=iMapNet_con x hf
 generalize recL x (depthMap x)=r at *
 have hq:(0:Int)≤1+costs cRow r:=by omega
 have hq2:¬ (1+(costs cRow r:Int)<0):=by omega
 have hk:¬ (1+(cGr x:Int)<0):=by omega
 have hk2:(0:Int)≤1+cGr x:=by omega
 refine call_step (toNet_con x hf) ?_
 simp[enGr]
 refine call_step (ks) ?_
 simp
 refine call_step (toNet_con x hf) ?_
 simp[enGr]
 refine call_step (ki) ?_
 simp
 refine call_step (eqRows_con r hr) ?_
 simp
 refine⟨by kernel_rfl,?_⟩
 refine call_step (toNet_con x hf) ?_
 simp[enGr]
 refine call_step (eqNet_con x hf) ?_
 simp
 refine callW_step (markNet_conW x 1 (by omega) (by omega)) [5,6,7] (by simp) (by simp) (by simp) ?_
 simp[setAll,hk,hk2]
 refine call_step (eqRows_con r hr) ?_
 simp
 refine callM_step (markIntSS_conM r 1 (by omega) (by omega)) (by rfl) ?_
 simp
 refine call_step (heldIntSS_con r 1 hr (by omega) (by omega)) ?_
 simp[hq,hq2]
 refine call_step (toNet_con x hf) ?_
 simp[enGr]
 refine call_step (ki) ?_
 simp
 refine call_step (eqRows_con r hr) ?_
 simp
 refine call_step (heldIntSS_con r 1 hr (by omega) (by omega)) ?_
 simp[hq,hq2]
set_option maxRecDepth 100000 in
theorem FnExactMapNet_lifted (os:Os) (started:os.Started) (H:Type) (enc:TypeId×Value→H) :
 ReturnsInHanded {} Try.checked os 14 .any (Rows.fnExactMapNetSpec.pre6 enc Try.prog Try.f14 Rows.fnExactMapNetRow.domain false) (Rows.fnExactMapNetSpec.post enc Try.prog Try.f14 false true false false):=by
 refine law_lift (C:=Try.checked) Try.own started (by kernel_rfl) Try.func14
  (ChangeSpec.witness6 (enc:=enc) (C:=Try.checked) false ⟨#[],#[.agg #[.int .i64 0,.slice none 0 0,.slice none 0 0,.slice none 0 0]],[]⟩ 8 (by kernel_rfl) (by kernel_rfl) (by kernel_rfl) (by kernel_rfl))
  Try.laidOut (of_decide_eq_true (by kernel_rfl)) rfl rfl Try.underlying4 ?_
 intro W base args ds ps hval0 hA0 hlt
 have hval:∀ (j:Nat) t v,Try.f14.params[j]? = some t→args[j]? = some v→Value.okWide Try.prog W .any base t v:=hval0
 have hA:DataW.TrodAll enc Try.prog W 0 (fun _=>true) true Try.f14.params.toList args.toList ds ps:=hA0
 clear hval0 hA0
 rw[Try.params14] at hA hval
 obtain⟨v0,vs0,d0,ds0,p0,q0,hargs,rfl,rfl,h0,r0⟩:=trodAll_cons hA
 obtain⟨rfl,rfl,rfl⟩:=trodAll_nil r0
 obtain rfl:args=#[v0]:=by cases args;simp_all
 obtain⟨a,ha,ga⟩:=open_aggR Try.underlying43 opE_net (hval 0 _ v0 rfl rfl) h0 (fun x hx=>hlt x (by simp[hx]))
 exact⟨rfl,law_con (law_MapNet a (fitGr_of ha) (okGr_of ga)) rfl (args1 ha)⟩
theorem FnExactMapNet_holds:Rows.FnExactMapNetSaid :=
 OpenClaim.holds_of_wide 14 Try.f14 rfl rfl rfl rfl rfl rfl rfl ⟨rfl,rfl,rfl,rfl,rfl⟩ rfl rfl rfl rfl rfl (by kernel_rfl) Try.func14 FnExactMapNet_closed
  (of_decide_eq_true (by kernel_rfl)) (by unfold Func.isWrapper;first | (rw[if_pos (by decide +kernel)];kernel_rfl)|(rw[if_neg (by decide +kernel)];exact⟨rfl,rfl⟩))
  (fun os started H enc _=>FnExactMapNet_lifted os started H enc)
#print axioms FnExactMapNet_holds
end Go.Proofs.Ytklhofpjjbfckaa
