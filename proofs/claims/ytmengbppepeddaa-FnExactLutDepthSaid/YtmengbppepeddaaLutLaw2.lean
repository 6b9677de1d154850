/-
  The laws of LutDepth and LutStateOk: each call returns true, at every input.
  Conditions: none.
-/
import Derived.Test.YtmengbppepeddaaWh
namespace Go.Proofs.Ytmengbppepeddaa
open Go.RowKit Go.ChangeShapes Go.WideShapes Go.ChangeAt
set_option linter.unusedVariables false
set_option linter.unusedSimpArgs false
attribute [local simp ↓] condG_true condG_false condB_true condB_false
attribute [local simp] AWp_skip AWp_region_t AWp_region_f still_mk AWp_seq AWp_cond condV_bool condB AWp_block AWp_exit AWp_ret AOps_nil
attribute [local simp] AOp_move AOp_assign AOp_pick AOp_binOp AOp_unOp AOp_convert AOp_len AOp_max AOp_min AOp_indexAddr AOp_load AOp_fieldAddr
attribute [local simp] AOp_field AOp_extract AOp_nilCheck AOp_build AOp_alloc AOp_box AOp_call AOp_store AOp_append AOp_buildSlice AOp_makeSlice AOp_slice
attribute [local simp] AOp_makeFunc AOp_guard guardD_some guardG_bool guardG_undef nextO_some nextS_some nextZ_some nextL_some nextM_some nextT_some sliceO
attribute [local simp] sliceL sliceT partO partV boundV funcO pickO convO lenO maxO minO idxO
attribute [local simp] extO nilO buildO litO litC makeO chunks fillV placeOf thenA inBlockA St.get
attribute [local simp] St.put St.eval ofCell evalT abin_add abin_sub abin_mul abin_quo abin_rem abin_and abin_or abin_xor
attribute [local simp] abin_andNot abin_shl abin_shr abin_shlu abin_eql abin_neq abin_lss abin_leq abin_gtr abin_geq abin_eqlb abin_neqb
attribute [local simp] aun pickV lenV intOf? indexV takeD takeV loadV fieldAddrV fieldV ofX presD
attribute [local simp] presDs pres presAll cellsV V.cell storeV freezeC putAt kill takeC plains plainV
attribute [local simp] scalarV nat_neg keepT sets eSl e1 e2 e3 e4 eInt eBool afterCall
attribute [local simp] inst inst1 inst1s instD instDs RetA resVs resV gives give1 give1s Le
attribute [local simp] isPin leSlots leS leTmps leV le0 le0s ren ren0 renS ren0s frame
attribute [local simp] enterT afterT_some lives Slot.live arrsOk viewV view0 renT rens renSs setAll List.range'_succ
attribute [local simp] RetT joinV leT
theorem law_depth (x : NetD) (hx : fitNet 9223372036854775807 x) : ConC Try.prog 5 [.agg (enNet 71 73 x)] (.d (.bool true)) := by
  refine con_of (by kernel_rfl) Try.func5 rfl rfl rfl ?_
  simp [enNet]
  refine call_step (szNet_con x 1048576 hx (by omega)) ?_
  simp
  intro h
  have hf : fitNet 1048576 x := fit_sz h
  refine call_step (toNet_con x hf) ?_
  simp [enNet]
  refine call_step (sLutDepth_con x hf) ?_
  simp
  refine call_step (toNet_con x hf) ?_
  simp [enNet]
  refine call_step (iLutDepth_con x hf) ?_
  simp
  refine ⟨by kernel_rfl, ?_⟩
  refine call_step (toNet_con x hf) ?_
  simp [enNet]
  refine call_step (eqNet_con x hf) ?_
  simp
theorem law_state (x : NetD) (st : List Int) (hx : fitNet 9223372036854775807 x) (hs : st.length ≤ 9223372036854775807) : ConC Try.prog 6 [.agg (enNet 71 73 x), .d (eSl 3 (e1 eInt) st)] (.d (.bool true)) := by
  refine con_of (by kernel_rfl) Try.func6 rfl rfl rfl ?_
  by_cases hl : st.length ≤ 1048576
  case neg => simp [enNet, show ¬ (st.length : Int) ≤ 1048576 by omega]
  simp [enNet, show (st.length : Int) ≤ 1048576 by omega, show ¬ (1048576 : Int) < st.length by omega]
  refine call_step (szNet_con x 1048576 hx (by omega)) ?_
  simp
  intro h
  have hf : fitNet 1048576 x := fit_sz h
  refine call_step (toNet_con x hf) ?_
  simp [enNet]
  refine call_step (toInts_con st hl) ?_
  simp
  refine call_step (sStateOk_con x st hf hl) ?_
  simp
  refine call_step (toNet_con x hf) ?_
  simp [enNet]
  refine call_step (toInts_con st hl) ?_
  simp
  refine call_step (iStateOk_con x st hf hl) ?_
  simp
  refine ⟨by kernel_rfl, ?_⟩
  refine call_step (toNet_con x hf) ?_
  simp [enNet]
  refine call_step (eqNet_con x hf) ?_
  simp
  refine call_step (toInts_con st hl) ?_
  simp
  refine call_step (eqInts_con st hl) ?_
  simp
theorem op_ints' : OpD Try.prog (eSl 3 (e1 eInt)) 24 := opd_sl Try.underlying24 (by simp) (fun x => by simp [e1]) (ope_1 (opd_int Try.underlying3))
set_option maxRecDepth 100000 in
theorem FnExactLutDepth_lifted (os : Os) (started : os.Started) (H : Type) (enc : TypeId × Value → H) :
    ReturnsInHanded {} Try.checked os 5 .any (Rows.fnExactLutDepthSpec.pre6 enc Try.prog Try.f5 Rows.fnExactLutDepthRow.domain false) (Rows.fnExactLutDepthSpec.post enc Try.prog Try.f5 false true false false) := by
  refine law_lift (C := Try.checked) Try.own started (by kernel_rfl) Try.func5
    (ChangeSpec.witness6 (enc := enc) (C := Try.checked) false ⟨#[], #[.agg #[.int .i64 0, .slice none 0 0, .slice none 0 0, .slice none 0 0]], []⟩ 8 (by kernel_rfl) (by kernel_rfl) (by kernel_rfl) (by kernel_rfl))
    Try.laidOut (of_decide_eq_true (by kernel_rfl)) rfl rfl Try.underlying4 ?_
  intro W base args ds ps hval0 hA0 hlt
  have hval : ∀ (j : Nat) t v, Try.f5.params[j]? = some t → args[j]? = some v → Value.okWide Try.prog W .any base t v := hval0
  have hA : DataW.TrodAll enc Try.prog W 0 (fun _ => true) true Try.f5.params.toList args.toList ds ps := hA0
  clear hval0 hA0
  rw [Try.params5] at hA hval
  obtain ⟨v0, vs0, d0, ds0, p0, q0, hargs, rfl, rfl, h0, r0⟩ := trodAll_cons hA
  obtain ⟨rfl, rfl, rfl⟩ := trodAll_nil r0
  obtain rfl : args = #[v0] := by cases args; simp_all
  obtain ⟨x, hx⟩ := open_agg Try.underlying26 opE_lutnet (hval 0 _ v0 rfl rfl) h0 (fun x hx => hlt x (by simp [hx]))
  exact ⟨rfl, law_con (law_depth x (fit_of hx)) rfl (args1 hx)⟩

/-- THE STATEMENT, PROVED. -/
theorem FnExactLutDepth_holds : Rows.FnExactLutDepthSaid :=
  OpenClaim.holds_of_wide 5 Try.f5 rfl rfl rfl rfl rfl rfl rfl ⟨rfl, rfl, rfl, rfl, rfl⟩ rfl rfl rfl rfl rfl (by kernel_rfl) Try.func5 (by kernel_rfl)
    (of_decide_eq_true (by kernel_rfl)) (by unfold Func.isWrapper; first | (rw [if_pos (by decide +kernel)]; kernel_rfl) | (rw [if_neg (by decide +kernel)]; exact ⟨rfl, rfl⟩))
    (fun os started H enc _ => FnExactLutDepth_lifted os started H enc)
#print axioms FnExactLutDepth_holds
set_option maxRecDepth 100000 in
theorem FnExactLutStateOk_lifted (os : Os) (started : os.Started) (H : Type) (enc : TypeId × Value → H) :
    ReturnsInHanded {} Try.checked os 6 .any (Rows.fnExactLutStateOkSpec.pre6 enc Try.prog Try.f6 Rows.fnExactLutStateOkRow.domain false) (Rows.fnExactLutStateOkSpec.post enc Try.prog Try.f6 false true false false) := by
  refine law_lift (C := Try.checked) Try.own started (by kernel_rfl) Try.func6
    (ChangeSpec.witness6 (enc := enc) (C := Try.checked) false ⟨#[], #[.agg #[.int .i64 0, .slice none 0 0, .slice none 0 0, .slice none 0 0], .slice none 0 0], []⟩ 8 (by kernel_rfl) (by kernel_rfl) (by kernel_rfl) (by kernel_rfl))
    Try.laidOut (of_decide_eq_true (by kernel_rfl)) rfl rfl Try.underlying4 ?_
  intro W base args ds ps hval0 hA0 hlt
  have hval : ∀ (j : Nat) t v, Try.f6.params[j]? = some t → args[j]? = some v → Value.okWide Try.prog W .any base t v := hval0
  have hA : DataW.TrodAll enc Try.prog W 0 (fun _ => true) true Try.f6.params.toList args.toList ds ps := hA0
  clear hval0 hA0
  rw [Try.params6] at hA hval
  obtain ⟨v0, vs0, d0, ds0, p0, q0, hargs, rfl, rfl, h0, r0⟩ := trodAll_cons hA
  obtain ⟨v1, vs1, d1, ds1, p1, q1, rfl, rfl, rfl, h1, r1⟩ := trodAll_cons r0
  obtain ⟨rfl, rfl, rfl⟩ := trodAll_nil r1
  obtain rfl : args = #[v0, v1] := by cases args; simp_all
  obtain ⟨x, hx⟩ := open_agg Try.underlying26 opE_lutnet (hval 0 _ v0 rfl rfl) h0 (fun x hx => hlt x (by simp [hx]))
  obtain ⟨st, hs⟩ := openD_sl Try.underlying24 op_ints' (hval 1 _ v1 rfl rfl) h1 (fun x hx => hlt x (by simp [hx]))
  exact ⟨rfl, law_con (law_state x st (fit_of hx) hs.fit) rfl (args2 hx (.d hs))⟩

/-- THE STATEMENT, PROVED. -/
theorem FnExactLutStateOk_holds : Rows.FnExactLutStateOkSaid :=
  OpenClaim.holds_of_wide 6 Try.f6 rfl rfl rfl rfl rfl rfl rfl ⟨rfl, rfl, rfl, rfl, rfl⟩ rfl rfl rfl rfl rfl (by kernel_rfl) Try.func6 (by kernel_rfl)
    (of_decide_eq_true (by kernel_rfl)) (by unfold Func.isWrapper; first | (rw [if_pos (by decide +kernel)]; kernel_rfl) | (rw [if_neg (by decide +kernel)]; exact ⟨rfl, rfl⟩))
    (fun os started H enc _ => FnExactLutStateOk_lifted os started H enc)
#print axioms FnExactLutStateOk_holds
end Go.Proofs.Ytmengbppepeddaa
