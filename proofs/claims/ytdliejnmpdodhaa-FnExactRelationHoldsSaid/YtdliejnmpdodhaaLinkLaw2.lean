/-
  The law of RelationHolds: each call returns true, at every input.
  Conditions: none.
-/
import Derived.Test.YtdliejnmpdodhaaNu
namespace Go.Proofs.Ytdliejnmpdodhaa
open Go.RowKit Go.ChangeShapes Go.WideShapes Go.ChangeAt
set_option linter.unusedVariables false
set_option linter.unusedSimpArgs false
attribute [local simp ↓] condG_true condG_false condB_true condB_false
attribute [local simp] AWp_skip AWp_region_t AWp_region_f still_mk AWp_seq AWp_cond condV_bool condB AWp_block AWp_exit AWp_ret AOps_nil
attribute [local simp] AOp_move AOp_assign AOp_pick AOp_binOp AOp_unOp AOp_convert AOp_len AOp_max AOp_min AOp_indexAddr AOp_load AOp_fieldAddr
attribute [local simp] AOp_field AOp_extract AOp_nilCheck AOp_build AOp_alloc AOp_box AOp_call AOp_store AOp_append AOp_buildSlice AOp_makeSlice AOp_slice
attribute [local simp] AOp_makeFunc AOp_guard guardD_some guardG_bool guardG_undef nextO_some nextS_some nextZ_some nextL_some nextM_some nextT_some sliceO
attribute [local simp] sliceL sliceT partO partV boundV funcO pickO convO lenO maxO minO idxO
attribute [local simp] extO nilO buildO litO litC makeO chunks fillV placeOf thenA inBlockA St.get
attribute [local simp] St.put St.eval ofCell evalT abin_add abin_sub abin_mul abin_quo abin_rem abin_and abin_or abin_xor
attribute [local simp] abin_andNot abin_shl abin_shr abin_shlu abin_eql abin_neq abin_lss abin_leq abin_gtr abin_geq abin_eqlb abin_neqb
attribute [local simp] aun pickV lenV intOf? indexV takeD takeV loadV fieldAddrV fieldV ofX presD
attribute [local simp] presDs pres presAll cellsV V.cell storeV freezeC putAt kill takeC plains plainV
attribute [local simp] scalarV nat_neg keepT sets eSl e1 e2 e3 e4 eInt eBool afterCall
attribute [local simp] inst inst1 inst1s instD instDs RetA resVs resV gives give1 give1s Le
attribute [local simp] isPin leSlots leS leTmps leV le0 le0s ren ren0 renS ren0s frame
attribute [local simp] enterT afterT_some lives Slot.live arrsOk viewV view0 renT rens renSs setAll List.range'_succ
attribute [local simp] RetT joinV leT
set_option maxRecDepth 100000 in
set_option maxHeartbeats 1000000 in
theorem law_rel (a b : GrD) (ls : List LinkD) (ha : fitGr 9223372036854775807 a) (hb : fitGr 9223372036854775807 b) (hl : fitLk 9223372036854775807 ls) (ga : okGr a) (gb : okGr b) :
    ConC Try.prog 8 [.agg (enGr 105 112 a), .agg (enGr 105 112 b), .d (eSl 74 enLink ls)] (.d (.bool true)) := by
  refine con_of (by kernel_rfl) Try.func8 rfl rfl rfl ?_
  simp [enGr]
  refine call_step (szNet_con a 1048576 ha (by omega)) ?_
  simp
  intro h1
  have b1 := szGrL_le a 1048576 (by omega)
  have fa := fitGr_sz h1
  refine call_step (szNet_con b _ hb ⟨h1, by omega⟩) ?_
  simp
  intro h2
  have b2 := szGrL_le b _ h1
  have fb := fitGr_szI h2 ⟨h1, by omega⟩
  refine call_step (szLinkS_con ls _ hl.1 hl.2 ⟨h2, by omega⟩) ?_
  simp
  intro h3
  have fl := fitLk_sz h3 ⟨h2, by omega⟩
  refine ⟨by kernel_rfl, ?_⟩
  refine call_step (toNet_con a fa) ?_
  simp [enGr]
  refine call_step (toNet_con b fb) ?_
  simp [enGr]
  refine call_step (toLinkS_con ls fl.1 fl.2) ?_
  simp
  refine call_step (sRel_con a b ls fa fb fl ga gb) ?_
  simp
  refine call_step (toNet_con a fa) ?_
  simp [enGr]
  refine call_step (toNet_con b fb) ?_
  simp [enGr]
  refine call_step (toLinkS_con ls fl.1 fl.2) ?_
  simp
  refine call_step (iRel_con a b ls fa fb fl) ?_
  simp
  refine ⟨by kernel_rfl, ?_⟩
  refine call_step (toNet_con a fa) ?_
  simp [enGr]
  refine call_step (eqNet_con a fa) ?_
  simp
  refine ⟨by kernel_rfl, ?_⟩
  refine call_step (toNet_con b fb) ?_
  simp [enGr]
  refine call_step (eqNet_con b fb) ?_
  simp
  refine call_step (toLinkS_con ls fl.1 fl.2) ?_
  simp
  refine call_step (eqLinkS_con ls fl.1 fl.2) ?_
  simp
set_option maxRecDepth 100000 in
theorem FnExactRelationHolds_lifted (os : Os) (started : os.Started) (H : Type) (enc : TypeId × Value → H) :
    ReturnsInHanded {} Try.checked os 8 .any (Rows.fnExactRelationHoldsSpec.pre6 enc Try.prog Try.f8 Rows.fnExactRelationHoldsRow.domain false) (Rows.fnExactRelationHoldsSpec.post enc Try.prog Try.f8 false true false false) := by
  refine law_lift (C := Try.checked) Try.own started (by kernel_rfl) Try.func8
    (ChangeSpec.witness6 (enc := enc) (C := Try.checked) false ⟨#[], #[.agg #[.int .i64 0, .slice none 0 0, .slice none 0 0, .slice none 0 0], .agg #[.int .i64 0, .slice none 0 0, .slice none 0 0, .slice none 0 0], .slice none 0 0], []⟩ 8 (by kernel_rfl) (by kernel_rfl) (by kernel_rfl) (by kernel_rfl))
    Try.laidOut (of_decide_eq_true (by kernel_rfl)) rfl rfl Try.underlying4 ?_
  intro W base args ds ps hval0 hA0 hlt
  have hval : ∀ (j : Nat) t v, Try.f8.params[j]? = some t → args[j]? = some v → Value.okWide Try.prog W .any base t v := hval0
  have hA : DataW.TrodAll enc Try.prog W 0 (fun _ => true) true Try.f8.params.toList args.toList ds ps := hA0
  clear hval0 hA0
  rw [Try.params8] at hA hval
  obtain ⟨v0, vs0, d0, ds0, p0, q0, hargs, rfl, rfl, h0, r0⟩ := trodAll_cons hA
  obtain ⟨v1, vs1, d1, ds1, p1, q1, rfl, rfl, rfl, h1, r1⟩ := trodAll_cons r0
  obtain ⟨v2, vs2, d2, ds2, p2, q2, rfl, rfl, rfl, h2, r2⟩ := trodAll_cons r1
  obtain ⟨rfl, rfl, rfl⟩ := trodAll_nil r2
  obtain rfl : args = #[v0, v1, v2] := by cases args; simp_all
  obtain ⟨a, ha, ga⟩ := open_aggR Try.underlying26 opE_net (hval 0 _ v0 rfl rfl) h0 (fun x hx => hlt x (by simp [hx]))
  obtain ⟨b, hb, gb⟩ := open_aggR Try.underlying26 opE_net (hval 1 _ v1 rfl rfl) h1 (fun x hx => hlt x (by simp [hx]))
  obtain ⟨ls, hl⟩ := openD_sl Try.underlying27 op_links (hval 2 _ v2 rfl rfl) h2 (fun x hx => hlt x (by simp [hx]))
  exact ⟨rfl, law_con (law_rel a b ls (fitGr_of ha) (fitGr_of hb) (fitLk_of hl) (okGr_of ga) (okGr_of gb)) rfl (args3 ha hb (.d hl))⟩

/-- THE STATEMENT, PROVED. -/
theorem FnExactRelationHolds_holds : Rows.FnExactRelationHoldsSaid :=
  OpenClaim.holds_of_wide 8 Try.f8 rfl rfl rfl rfl rfl rfl rfl ⟨rfl, rfl, rfl, rfl, rfl⟩ rfl rfl rfl rfl rfl (by kernel_rfl) Try.func8 (by kernel_rfl)
    (of_decide_eq_true (by kernel_rfl)) (by unfold Func.isWrapper; first | (rw [if_pos (by decide +kernel)]; kernel_rfl) | (rw [if_neg (by decide +kernel)]; exact ⟨rfl, rfl⟩))
    (fun os started H enc _ => FnExactRelationHolds_lifted os started H enc)
#print axioms FnExactRelationHolds_holds
end Go.Proofs.Ytdliejnmpdodhaa
