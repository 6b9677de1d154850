/-
  The law of NetCnf: each call returns true, at every input.
  Conditions: none.
-/
import Derived.Test.YtoppcdccplgalaaRf
import Derived.Test.YtoppcdccplgalaaMp
import Derived.Test.YtoppcdccplgalaaMq
namespace Go.Proofs.Ytoppcdccplgalaa
open Go.RowKit Go.ChangeShapes Go.WideShapes Go.ChangeAt
set_option linter.unusedVariables false
set_option linter.unusedSimpArgs false
attribute [local simp ↓] condG_true condG_false condB_true condB_false
attribute [local simp] AWp_skip AWp_region_t AWp_region_d AWp_region_f still_mk AWp_seq AWp_cond condV_bool condB AWp_block AWp_exit AWp_ret
attribute [local simp] AOps_nil AOp_move AOp_assign AOp_pick AOp_binOp AOp_unOp AOp_convert AOp_len AOp_max AOp_min AOp_indexAddr AOp_load
attribute [local simp] AOp_fieldAddr AOp_field AOp_extract AOp_nilCheck AOp_build AOp_alloc AOp_box AOp_call AOp_store AOp_append AOp_buildSlice nextB_some
attribute [local simp] nextB_none adoptO adoptC AOp_makeSlice AOp_slice AOp_makeFunc AOp_guard guardD_some guardG_bool guardG_undef nextO_some nextS_some
attribute [local simp] nextZ_some nextL_some nextM_some nextT_some sliceO sliceL sliceT partO partV boundV funcO pickO
attribute [local simp] convO lenO maxO minO idxO extO nilO buildO litO litC makeO chunks
attribute [local simp] fillV placeOf thenA inBlockA St.get St.put St.eval ofCell evalT abin_add abin_sub abin_mul
attribute [local simp] abin_quo abin_rem abin_and abin_or abin_xor abin_andNot abin_shl abin_shr abin_shlu abin_eql abin_neq abin_lss
attribute [local simp] abin_leq abin_gtr abin_geq abin_eqlb abin_neqb aun pickV lenV intOf? indexV takeD takeV
attribute [local simp] loadV fieldAddrV fieldV ofX presD presDs pres presAll cellsV V.cell storeV freezeC
attribute [local simp] putAt kill takeC plains plainV scalarV nat_neg keepT sets eSl e1 e2
attribute [local simp] e3 e4 eInt eBool afterCall inst inst1 inst1s instD instDs RetA resVs
attribute [local simp] resV gives give1 give1s Le isPin leSlots leS leTmps leV le0 le0s
attribute [local simp] ren ren0 renS ren0s frame enterT afterT_some afterC_some lives Slot.live arrsOk viewV
attribute [local simp] view0 renT rens renSs setAll List.range'_succ RetT RetW joinV leT AOpsE_nil AOpsE_cons
attribute [local simp] AOpsT_nil AOpsT_cons isCallT callOf condC_true condC_false beginT_mk thenT_mk pickE pickT isT loose
attribute [local simp] namesOf namesV names1 names0 stableN sameAt Op.operands Call.operands
theorem heldCnf_con (x : CnfD) (k : Int) (hx : fitCn 1048576 x) (h0 : 0 ≤ k) (hk : k + costs cRow x.2 ≤ 1152921504606846976) : ConC Try.prog 26 [icnf (x.1, mks cRow mRow k x.2), .d (.int .i64 k)] (.d (.int .i64 (k + costs cRow x.2))) := by
  have hq2 : ¬ (k + (costs cRow x.2 : Int) < 0) := by omega
  have hq : (0 : Int) ≤ k + costs cRow x.2 := by omega
  refine con_of (by kernel_rfl) Try.func26 rfl rfl rfl ?_
  simp [enCnf]
  refine call_step (heldIntSS_con x.2 k hx h0 hk) ?_
  simp [hq, hq2]
set_option maxRecDepth 100000 in
set_option maxHeartbeats 1000000 in
theorem law_netcnf (x : GrD) (b : Int) (hx : fitGr 9223372036854775807 x) (gx : okGr x) (hb : isI b) : ConC Try.prog 4 [.agg (enGr 145 148 x), .d (.int .i64 b)] (.d (.bool true)) := by
  refine con_ofS (by kernel_rfl) Try.func4 rfl rfl rfl ?_
  simp [enGr]
  refine call_step (szNet_con x 1048576 hx (by omega)) ?_
  simp
  intro h
  have hf := fitGr_sz h
  have hc := cGr_le hf
  have ks := sNetCnf_con x b hf gx hb
  have ki := iNetCnf_con x b hf
  have hfc := netCnf_fit (x := x) (lit := b)
  generalize netCnfL x b = c at *
  generalize netCnfOk x b = ok at *
  have cr := cRows_le hfc
  have hk : ¬ (1 + (cGr x : Int) < 0) := by omega
  have hk2 : (0 : Int) ≤ 1 + cGr x := by omega
  have hq : (0 : Int) ≤ 1 + costs cRow c.2 := by omega
  have hq2 : ¬ (1 + (costs cRow c.2 : Int) < 0) := by omega
  refine call_step (toNet_con x hf) ?_
  simp [enGr]
  refine call_step (ks) ?_
  simp [enCnf]
  refine call_step (toNet_con x hf) ?_
  simp [enGr]
  refine call_step (ki) ?_
  simp [enCnf]
  refine call_step (eqCnf_con c hfc) ?_
  simp [enCnf]
  refine ⟨by kernel_rfl, ?_⟩
  refine call_step (toNet_con x hf) ?_
  simp [enGr]
  refine call_step (eqNet_con x hf) ?_
  simp

  refine callW_step (markNet_conW x 1 (by omega) (by omega)) [6, 7, 8] (by simp) (by simp) (by simp) ?_
  simp [setAll, hk, hk2]
  refine call_step (eqCnf_con c hfc) ?_
  simp [enCnf]
  refine callW_step (markCnf_conW c 1 (by omega) (by omega)) [10] (by simp) (by simp) (by simp) ?_
  simp [setAll, hq, hq2]
  refine call_step (heldCnf_con c 1 hfc (by omega) (by omega)) ?_
  simp [hq, hq2]
  refine call_step (toNet_con x hf) ?_
  simp [enGr]
  refine call_step (ki) ?_
  simp [enCnf]
  refine call_step (eqCnf_con c hfc) ?_
  simp [enCnf]
  refine call_step (heldCnf_con c 1 hfc (by omega) (by omega)) ?_
  simp [hq, hq2]
set_option maxRecDepth 100000 in
theorem FnExactNetCnf_lifted (os : Os) (started : os.Started) (H : Type) (enc : TypeId × Value → H) :
    ReturnsInHanded {} Try.checked os 4 .any (Rows.fnExactNetCnfSpec.pre6 enc Try.prog Try.f4 Rows.fnExactNetCnfRow.domain false) (Rows.fnExactNetCnfSpec.post enc Try.prog Try.f4 false true false false) := by
  refine law_lift (C := Try.checked) Try.own started (by kernel_rfl) Try.func4
    (ChangeSpec.witness6 (enc := enc) (C := Try.checked) false ⟨#[], #[.agg #[.int .i64 0, .slice none 0 0, .slice none 0 0, .slice none 0 0], .int .i64 0], []⟩ 8 (by kernel_rfl) (by kernel_rfl) (by kernel_rfl) (by kernel_rfl))
    Try.laidOut (of_decide_eq_true (by kernel_rfl)) rfl rfl Try.underlying4 ?_
  intro W base args ds ps hval0 hA0 hlt
  have hval : ∀ (j : Nat) t v, Try.f4.params[j]? = some t → args[j]? = some v → Value.okWide Try.prog W .any base t v := hval0
  have hA : DataW.TrodAll enc Try.prog W 0 (fun _ => true) true Try.f4.params.toList args.toList ds ps := hA0
  clear hval0 hA0
  rw [Try.params4] at hA hval
  obtain ⟨v0, vs0, d0, ds0, p0, q0, hargs, rfl, rfl, h0, r0⟩ := trodAll_cons hA
  obtain ⟨v1, vs1, d1, ds1, p1, q1, rfl, rfl, rfl, h1, r1⟩ := trodAll_cons r0
  obtain ⟨rfl, rfl, rfl⟩ := trodAll_nil r1
  obtain rfl : args = #[v0, v1] := by cases args; simp_all
  obtain ⟨a, ha, ga⟩ := open_aggR Try.underlying26 opE_net (hval 0 _ v0 rfl rfl) h0 (fun x hx => hlt x (by simp [hx]))
  obtain ⟨b, rfl, rfl, rfl, wf1⟩ := open_int Try.underlying3 (hval 1 _ v1 rfl rfl) h1
  exact ⟨rfl, law_con (law_netcnf a b (fitGr_of ha) (okGr_of ga) (OkD.i64 (.int _ _ wf1))) rfl (args2 ha (.d (.int _ _)))⟩

/-- THE STATEMENT, PROVED. -/
theorem FnExactNetCnf_holds : Rows.FnExactNetCnfSaid :=
  OpenClaim.holds_of_wide 4 Try.f4 rfl rfl rfl rfl rfl rfl rfl ⟨rfl, rfl, rfl, rfl, rfl⟩ rfl rfl rfl rfl rfl (by kernel_rfl) Try.func4 (by kernel_rfl)
    (of_decide_eq_true (by kernel_rfl)) (by unfold Func.isWrapper; first | (rw [if_pos (by decide +kernel)]; kernel_rfl) | (rw [if_neg (by decide +kernel)]; exact ⟨rfl, rfl⟩))
    (fun os started H enc _ => FnExactNetCnf_lifted os started H enc)
#print axioms FnExactNetCnf_holds
end Go.Proofs.Ytoppcdccplgalaa
