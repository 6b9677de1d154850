/-
  The law of EqualProof: each call returns true, at every input.
  Conditions: none.
-/
import Derived.Test.YtoppcdccplgalaaRt
import Derived.Test.YtoppcdccplgalaaNf
namespace Go.Proofs.Ytoppcdccplgalaa
open Go.RowKit Go.ChangeShapes Go.WideShapes Go.ChangeAt
set_option linter.unusedVariables false
set_option linter.unusedSimpArgs false
attribute [local simp ↓] condG_true condG_false condB_true condB_false
attribute [local simp] AWp_skip AWp_region_t AWp_region_d AWp_region_f still_mk AWp_seq AWp_cond condV_bool condB AWp_block AWp_exit AWp_ret
attribute [local simp] AOps_nil AOp_move AOp_assign AOp_pick AOp_binOp AOp_unOp AOp_convert AOp_len AOp_max AOp_min AOp_indexAddr AOp_load
attribute [local simp] AOp_fieldAddr AOp_field AOp_extract AOp_nilCheck AOp_build AOp_alloc AOp_box AOp_call AOp_store AOp_append AOp_buildSlice nextB_some
attribute [local simp] nextB_none adoptO adoptC AOp_makeSlice AOp_slice AOp_makeFunc AOp_guard guardD_some guardG_bool guardG_undef nextO_some nextS_some
attribute [local simp] nextZ_some nextL_some nextM_some nextT_some sliceO sliceL sliceT partO partV boundV funcO pickO
attribute [local simp] convO lenO maxO minO idxO extO nilO buildO litO litC makeO chunks
attribute [local simp] fillV placeOf thenA inBlockA St.get St.put St.eval ofCell evalT abin_add abin_sub abin_mul
attribute [local simp] abin_quo abin_rem abin_and abin_or abin_xor abin_andNot abin_shl abin_shr abin_shlu abin_eql abin_eqp abin_neq
attribute [local simp] abin_lss abin_leq abin_gtr abin_geq abin_eqlb abin_neqb aun pickV lenV intOf? indexV takeD
attribute [local simp] takeV loadV fieldAddrV fieldV ofX presD presDs pres presAll cellsV V.cell storeV
attribute [local simp] freezeC putAt kill takeC plains plainV scalarV nat_neg keepT sets eSl e1
attribute [local simp] e2 e3 e4 eInt eBool afterCall inst inst1 inst1s instD instDs RetA
attribute [local simp] resVs resV gives give1 give1s Le isPin leSlots leS leTmps leV le0
attribute [local simp] le0s ren ren0 renS ren0s frame enterT afterT_some afterC_some lives Slot.live arrsOk
attribute [local simp] viewV view0 renT rens renSs setAll List.range'_succ RetT RetW joinV leT AOpsE_nil
attribute [local simp] AOpsE_cons AOpsT_nil AOpsT_cons isCallT callOf condC_true condC_false beginT_mk thenT_mk pickE pickT isT
attribute [local simp] loose namesOf namesV names1 names0 stableN sameAt Op.operands Call.operands
set_option maxRecDepth 100000 in
set_option maxHeartbeats 1000000 in
theorem law_eqproof (x y : GrD) (pf : List RowD) (hx : fitGr 9223372036854775807 x) (hy : fitGr 9223372036854775807 y) (gx : okGr x) (gy : okGr y) (hp : fitRw 9223372036854775807 pf) :
    ConC Try.prog 10 [.agg (enGr 145 148 x), .agg (enGr 145 148 y), irows pf] (.d (.bool true)) := by
  refine con_of (by kernel_rfl) Try.func10 rfl rfl rfl ?_
  simp [enGr]
  refine call_step (szNet_con x 1048576 hx (by omega)) ?_
  simp
  intro h1
  have hf := fitGr_sz h1
  have b1 := szGrL_le x 1048576 (by omega)
  refine call_step (szNet_con y _ hy (by omega)) ?_
  simp [enGr]
  intro h2
  have hg := fitGr_szI h2 (by omega)
  have b2 := szGrL_le y _ h1
  refine call_step (szRows_con pf _ hp (by omega)) ?_
  simp
  intro h3
  have hr := fitRw_sz h3 (by omega)
  have ks := sEqProof_con x y pf hf hg gx gy hr
  have ki := iEqProof_con x y pf hf hg hr
  generalize eqpL x y pf = r at *
  refine ⟨by kernel_rfl, ?_⟩
  refine call_step (toNet_con x hf) ?_
  simp [enGr]
  refine call_step (toNet_con y hg) ?_
  simp [enGr]
  refine call_step (toRows_con pf hr) ?_
  simp
  refine call_step (ks) ?_
  simp
  refine call_step (toNet_con x hf) ?_
  simp [enGr]
  refine call_step (toNet_con y hg) ?_
  simp [enGr]
  refine call_step (toRows_con pf hr) ?_
  simp
  refine call_step (ki) ?_
  simp
  refine ⟨by kernel_rfl, ?_⟩
  refine call_step (toNet_con x hf) ?_
  simp [enGr]
  refine call_step (eqNet_con x hf) ?_
  simp
  refine ⟨by kernel_rfl, ?_⟩
  refine call_step (toNet_con y hg) ?_
  simp [enGr]
  refine call_step (eqNet_con y hg) ?_
  simp
  refine call_step (toRows_con pf hr) ?_
  simp
  refine call_step (eqRows_con pf hr) ?_
  simp
set_option maxRecDepth 100000 in
theorem FnExactEqualProof_lifted (os : Os) (started : os.Started) (H : Type) (enc : TypeId × Value → H) :
    ReturnsInHanded {} Try.checked os 10 .any (Rows.fnExactEqualProofSpec.pre6 enc Try.prog Try.f10 Rows.fnExactEqualProofRow.domain false) (Rows.fnExactEqualProofSpec.post enc Try.prog Try.f10 false true false false) := by
  refine law_lift (C := Try.checked) Try.own started (by kernel_rfl) Try.func10
    (ChangeSpec.witness6 (enc := enc) (C := Try.checked) false ⟨#[], #[.agg #[.int .i64 0, .slice none 0 0, .slice none 0 0, .slice none 0 0], .agg #[.int .i64 0, .slice none 0 0, .slice none 0 0, .slice none 0 0], .slice none 0 0], []⟩ 8 (by kernel_rfl) (by kernel_rfl) (by kernel_rfl) (by kernel_rfl))
    Try.laidOut (of_decide_eq_true (by kernel_rfl)) rfl rfl Try.underlying4 ?_
  intro W base args ds ps hval0 hA0 hlt
  have hval : ∀ (j : Nat) t v, Try.f10.params[j]? = some t → args[j]? = some v → Value.okWide Try.prog W .any base t v := hval0
  have hA : DataW.TrodAll enc Try.prog W 0 (fun _ => true) true Try.f10.params.toList args.toList ds ps := hA0
  clear hval0 hA0
  rw [Try.params10] at hA hval
  obtain ⟨v0, vs0, d0, ds0, p0, q0, hargs, rfl, rfl, h0, r0⟩ := trodAll_cons hA
  obtain ⟨v1, vs1, d1, ds1, p1, q1, rfl, rfl, rfl, h1, r1⟩ := trodAll_cons r0
  obtain ⟨v2, vs2, d2, ds2, p2, q2, rfl, rfl, rfl, h2, r2⟩ := trodAll_cons r1
  obtain ⟨rfl, rfl, rfl⟩ := trodAll_nil r2
  obtain rfl : args = #[v0, v1, v2] := by cases args; simp_all
  obtain ⟨a, ha, ga⟩ := open_aggR Try.underlying26 opE_net (hval 0 _ v0 rfl rfl) h0 (fun x hx => hlt x (by simp [hx]))
  obtain ⟨b, hb, gb⟩ := open_aggR Try.underlying26 opE_net (hval 1 _ v1 rfl rfl) h1 (fun x hx => hlt x (by simp [hx]))
  obtain ⟨cs, hc⟩ := openD_sl Try.underlying40 op_rows (hval 2 _ v2 rfl rfl) h2 (fun x hx => hlt x (by simp [hx]))
  exact ⟨rfl, law_con (law_eqproof a b cs (fitGr_of ha) (fitGr_of hb) (okGr_of ga) (okGr_of gb) (fitRw_of hc)) rfl (args3 ha hb (.d hc))⟩

/-- THE STATEMENT, PROVED. -/
theorem FnExactEqualProof_holds : Rows.FnExactEqualProofSaid :=
  OpenClaim.holds_of_wide 10 Try.f10 rfl rfl rfl rfl rfl rfl rfl ⟨rfl, rfl, rfl, rfl, rfl⟩ rfl rfl rfl rfl rfl (by kernel_rfl) Try.func10 (by kernel_rfl)
    (of_decide_eq_true (by kernel_rfl)) (by unfold Func.isWrapper; first | (rw [if_pos (by decide +kernel)]; kernel_rfl) | (rw [if_neg (by decide +kernel)]; exact ⟨rfl, rfl⟩))
    (fun os started H enc _ => FnExactEqualProof_lifted os started H enc)
#print axioms FnExactEqualProof_holds
end Go.Proofs.Ytoppcdccplgalaa
