/-
  The law of ForwardLinks: each call returns true, at every input.
  Conditions: none.
-/
import Derived.Test.YtklhofpjjbfckaaUh
import Derived.Test.YtklhofpjjbfckaaMr
import Derived.Test.YtklhofpjjbfckaaKfFnExactForwardLinks
namespace Go.Proofs.Ytklhofpjjbfckaa
open Go.RowKit Go.ChangeShapes Go.WideShapes Go.ChangeAt
set_option linter.unusedVariables false
set_option linter.unusedSimpArgs false
attribute [local simp ↓] condG_true condG_false condB_true condB_false
attribute [local simp] AWp_skip AWp_region_t AWp_region_d AWp_region_f still_mk AWp_seq AWp_cond condV_bool condB AWp_block AWp_exit AWp_ret
attribute [local simp] AOps_nil AOp_move AOp_assign AOp_pick AOp_binOp AOp_unOp AOp_convert AOp_len AOp_max AOp_min AOp_indexAddr AOp_load
attribute [local simp] AOp_fieldAddr AOp_field AOp_extract AOp_nilCheck AOp_build AOp_alloc AOp_box AOp_call AOp_store AOp_append AOp_buildSlice nextB_some
attribute [local simp] nextB_none adoptO adoptC AOp_makeSlice AOp_slice AOp_makeFunc AOp_guard guardD_some guardG_bool guardG_undef nextO_some nextS_some
attribute [local simp] nextZ_some nextL_some nextM_some nextT_some sliceO sliceL sliceT partO partV boundV funcO pickO
attribute [local simp] convO lenO maxO minO idxO extO nilO buildO litO litC makeO chunks
attribute [local simp] fillV placeOf thenA inBlockA St.get St.put St.eval ofCell evalT abin_add abin_sub abin_mul
attribute [local simp] abin_quo abin_rem abin_and abin_or abin_xor abin_andNot abin_shl abin_shr abin_shlu abin_eql abin_eqp abin_neq
attribute [local simp] abin_lss abin_leq abin_gtr abin_geq abin_eqlb abin_neqb aun pickV lenV intOf? indexV takeD
attribute [local simp] takeV loadV fieldAddrV fieldV ofX presD presDs pres presAll cellsV V.cell storeV
attribute [local simp] freezeC putAt kill takeC plains plainV scalarV nat_neg keepT sets eSl e1
attribute [local simp] e2 e3 e4 eInt eBool afterCall inst inst1 inst1s instD instDs RetA
attribute [local simp] resVs resV gives give1 give1s Le isPin leSlots leS leTmps leV le0
attribute [local simp] le0s ren ren0 renS ren0s frame enterT afterT_some afterC_some lives Slot.live arrsOk
attribute [local simp] viewV view0 renT rens renSs setAll List.range'_succ RetT RetW joinV leT AOpsE_nil
attribute [local simp] AOpsE_cons AOpsT_nil AOpsT_cons isCallT isFnO callOf callVC_fn condC_true condC_false beginT_mk thenT_mk pickE
attribute [local simp] pickT isT loose namesOf namesV names1 names0 stableN sameAt Op.operands Call.operands
theorem fwdLk_fit {x : GrD} {k : Int} : fitLk 1048576 (fwdLk x k) := by
  unfold fwdLk
  split
  · refine ⟨by have := keptG_len (x := fwdG x k); simp; omega, fun s hs => ?_⟩
    obtain ⟨i, _, rfl⟩ := List.mem_map.1 hs
    unfold lkOf
    split <;> simp
  · exact ⟨by simp, by simp⟩
set_option maxRecDepth 100000 in
set_option maxHeartbeats 2000000 in
theorem law_fwd (x : GrD) (j : Int) (hx : fitGr 9223372036854775807 x) (gx : okGr x) : ConC Try.prog 5 [.agg (enGr 155 161 x), .d (.int .i64 j)] (.d (.bool true)) := by
  refine con_ofS (by kernel_rfl) Try.func5 rfl rfl rfl ?_
  simp [enGr]
  refine call_step (szNet_con x 1048576 hx (by omega)) ?_
  simp
  intro h
  have hf := fitGr_sz h
  have hc := cGr_le hf
  have hfl := fwdLk_fit (x := x) (k := j)
  have hcl := cLinks_le hfl
  have ks := sForwardLinks_con x j hf gx
  have ki := iForwardLinks_con x j hf
  generalize fwdLk x j = ls at *
  generalize fwdOkB x j = b at *
  have hq : (0 : Int) ≤ 1 + costs cLink ls := by omega
  have hq2 : ¬ (1 + (costs cLink ls : Int) < 0) := by omega
  have hk : ¬ (1 + (cGr x : Int) < 0) := by omega
  have hk2 : (0 : Int) ≤ 1 + cGr x := by omega
  have hbb : (b == b) = true := by simp
  refine call_step (toNet_con x hf) ?_
  simp [enGr]
  refine call_step (ks) ?_
  simp
  refine call_step (toNet_con x hf) ?_
  simp [enGr]
  refine call_step (ki) ?_
  simp
  refine call_step (eqLinkS_con ls hfl.1 hfl.2) ?_
  simp [hbb]
  refine ⟨by kernel_rfl, ?_⟩
  refine call_step (toNet_con x hf) ?_
  simp [enGr]
  refine call_step (eqNet_con x hf) ?_
  simp

  refine callW_step (markNet_conW x 1 (by omega) (by omega)) [5, 6, 7] (by simp) (by simp) (by simp) ?_
  simp [setAll, hk, hk2]
  refine call_step (eqLinkS_con ls hfl.1 hfl.2) ?_
  simp [hbb]
  refine callM_step (markLinkS_conM ls 1 (by omega) (by omega)) (by rfl) ?_
  simp
  refine call_step (heldLinkS_con ls 1 hfl (by omega) (by omega)) ?_
  simp [hq, hq2]
  refine call_step (toNet_con x hf) ?_
  simp [enGr]
  refine call_step (ki) ?_
  simp
  refine call_step (eqLinkS_con ls hfl.1 hfl.2) ?_
  simp [hbb]
  refine call_step (heldLinkS_con ls 1 hfl (by omega) (by omega)) ?_
  simp [hq, hq2]
set_option maxRecDepth 100000 in
theorem FnExactForwardLinks_lifted (os : Os) (started : os.Started) (H : Type) (enc : TypeId × Value → H) :
    ReturnsInHanded {} Try.checked os 5 .any (Rows.fnExactForwardLinksSpec.pre6 enc Try.prog Try.f5 Rows.fnExactForwardLinksRow.domain false) (Rows.fnExactForwardLinksSpec.post enc Try.prog Try.f5 false true false false) := by
  refine law_lift (C := Try.checked) Try.own started (by kernel_rfl) Try.func5
    (ChangeSpec.witness6 (enc := enc) (C := Try.checked) false ⟨#[], #[.agg #[.int .i64 0, .slice none 0 0, .slice none 0 0, .slice none 0 0], .int .i64 0], []⟩ 8 (by kernel_rfl) (by kernel_rfl) (by kernel_rfl) (by kernel_rfl))
    Try.laidOut (of_decide_eq_true (by kernel_rfl)) rfl rfl Try.underlying4 ?_
  intro W base args ds ps hval0 hA0 hlt
  have hval : ∀ (j : Nat) t v, Try.f5.params[j]? = some t → args[j]? = some v → Value.okWide Try.prog W .any base t v := hval0
  have hA : DataW.TrodAll enc Try.prog W 0 (fun _ => true) true Try.f5.params.toList args.toList ds ps := hA0
  clear hval0 hA0
  rw [Try.params5] at hA hval
  obtain ⟨v0, vs0, d0, ds0, p0, q0, hargs, rfl, rfl, h0, r0⟩ := trodAll_cons hA
  obtain ⟨v1, vs1, d1, ds1, p1, q1, rfl, rfl, rfl, h1, r1⟩ := trodAll_cons r0
  obtain ⟨rfl, rfl, rfl⟩ := trodAll_nil r1
  obtain rfl : args = #[v0, v1] := by cases args; simp_all
  obtain ⟨a, ha, ga⟩ := open_aggR Try.underlying43 opE_net (hval 0 _ v0 rfl rfl) h0 (fun x hx => hlt x (by simp [hx]))
  obtain ⟨b, rfl, rfl, rfl, wf1⟩ := open_int Try.underlying3 (hval 1 _ v1 rfl rfl) h1
  exact ⟨rfl, law_con (law_fwd a b (fitGr_of ha) (okGr_of ga)) rfl (args2 ha (.d (.int _ _)))⟩

/-- THE STATEMENT, PROVED. -/
theorem FnExactForwardLinks_holds : Rows.FnExactForwardLinksSaid :=
  OpenClaim.holds_of_wide 5 Try.f5 rfl rfl rfl rfl rfl rfl rfl ⟨rfl, rfl, rfl, rfl, rfl⟩ rfl rfl rfl rfl rfl (by kernel_rfl) Try.func5 FnExactForwardLinks_closed
    (of_decide_eq_true (by kernel_rfl)) (by unfold Func.isWrapper; first | (rw [if_pos (by decide +kernel)]; kernel_rfl) | (rw [if_neg (by decide +kernel)]; exact ⟨rfl, rfl⟩))
    (fun os started H enc _ => FnExactForwardLinks_lifted os started H enc)
#print axioms FnExactForwardLinks_holds
end Go.Proofs.Ytklhofpjjbfckaa
