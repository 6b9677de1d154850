/-
  The law of CheckProof: each call returns true, at every input.
  Conditions: none.
-/
import Derived.Test.YtbmapbbjbdpbcaaQe
namespace Go.Proofs.Ytbmapbbjbdpbcaa
open Go.RowKit Go.ChangeShapes Go.WideShapes Go.ChangeAt
set_option linter.unusedVariables false
set_option linter.unusedSimpArgs false
attribute [local simp ↓] condG_true condG_false condB_true condB_false
attribute [local simp] AWp_skip AWp_region_t AWp_region_d AWp_region_f still_mk AWp_seq AWp_cond condV_bool condB AWp_block AWp_exit AWp_ret
attribute [local simp] AOps_nil AOp_move AOp_assign AOp_pick AOp_binOp AOp_unOp AOp_convert AOp_len AOp_max AOp_min AOp_indexAddr AOp_load
attribute [local simp] AOp_fieldAddr AOp_field AOp_extract AOp_nilCheck AOp_build AOp_alloc AOp_box AOp_call AOp_store AOp_append AOp_buildSlice AOp_makeSlice
attribute [local simp] AOp_slice AOp_makeFunc AOp_guard guardD_some guardG_bool guardG_undef nextO_some nextS_some nextZ_some nextL_some nextM_some nextT_some
attribute [local simp] sliceO sliceL sliceT partO partV boundV funcO pickO convO lenO maxO minO
attribute [local simp] idxO extO nilO buildO litO litC makeO chunks fillV placeOf thenA inBlockA
attribute [local simp] St.get St.put St.eval ofCell evalT abin_add abin_sub abin_mul abin_quo abin_rem abin_and abin_or
attribute [local simp] abin_xor abin_andNot abin_shl abin_shr abin_shlu abin_eql abin_neq abin_lss abin_leq abin_gtr abin_geq abin_eqlb
attribute [local simp] abin_neqb aun pickV lenV intOf? indexV takeD takeV loadV fieldAddrV fieldV ofX
attribute [local simp] presD presDs pres presAll cellsV V.cell storeV freezeC putAt kill takeC plains
attribute [local simp] plainV scalarV nat_neg keepT sets eSl e1 e2 e3 e4 eInt eBool
attribute [local simp] afterCall inst inst1 inst1s instD instDs RetA resVs resV gives give1 give1s
attribute [local simp] Le isPin leSlots leS leTmps leV le0 le0s ren ren0 renS ren0s
attribute [local simp] frame enterT afterT_some lives Slot.live arrsOk viewV view0 renT rens renSs setAll
attribute [local simp] List.range'_succ RetT RetW joinV leT AOpsE_nil AOpsE_cons AOpsT_nil AOpsT_cons beginT_mk thenT_mk pickE
attribute [local simp] pickT isT loose namesOf namesV names1 names0 stableN sameAt Op.operands Call.operands
theorem szCnfL_le (x : CnfD) (l : Int) (h : 0 ≤ l) : szCnfL x l ≤ l := szRows_le x.2 l h
theorem law_check (x : CnfD) (pf : List RowD) (hx : fitCn 9223372036854775807 x) (hp : fitRw 9223372036854775807 pf) : ConC Try.prog 10 [icnf x, irows pf] (.d (.bool true)) := by
  refine con_of (by kernel_rfl) Try.func10 rfl rfl rfl ?_
  simp [enCnf]
  refine call_step (szCnf_con x 1048576 hx (by omega)) ?_
  simp
  intro h1
  have b1 := szCnfL_le x 1048576 (by omega)
  have hf : fitCn 1048576 x := fitRw_sz (x := x.2) h1 (by omega)
  refine call_step (szRows_con pf _ hp ⟨h1, by omega⟩) ?_
  simp
  intro h2
  have hr := fitRw_sz h2 ⟨h1, by omega⟩
  refine call_step (toCnf_con x hf) ?_
  simp [enCnf]
  refine call_step (toRows_con pf hr) ?_
  simp
  refine call_step (sCheck_con x pf hf hr) ?_
  simp
  refine call_step (toCnf_con x hf) ?_
  simp [enCnf]
  refine call_step (toRows_con pf hr) ?_
  simp
  refine call_step (iCheck_con x pf hf hr) ?_
  simp
  refine ⟨by kernel_rfl, ?_⟩
  refine call_step (toCnf_con x hf) ?_
  simp [enCnf]
  refine call_step (eqCnf_con x hf) ?_
  simp
  refine call_step (toRows_con pf hr) ?_
  simp
  refine call_step (eqRows_con pf hr) ?_
  simp
set_option maxRecDepth 100000 in
theorem FnExactCheckProof_lifted (os : Os) (started : os.Started) (H : Type) (enc : TypeId × Value → H) :
    ReturnsInHanded {} Try.checked os 10 .any (Rows.fnExactCheckProofSpec.pre6 enc Try.prog Try.f10 Rows.fnExactCheckProofRow.domain false) (Rows.fnExactCheckProofSpec.post enc Try.prog Try.f10 false true false false) := by
  refine law_lift (C := Try.checked) Try.own started (by kernel_rfl) Try.func10
    (ChangeSpec.witness6 (enc := enc) (C := Try.checked) false ⟨#[], #[.agg #[.int .i64 0, .slice none 0 0], .slice none 0 0], []⟩ 8 (by kernel_rfl) (by kernel_rfl) (by kernel_rfl) (by kernel_rfl))
    Try.laidOut (of_decide_eq_true (by kernel_rfl)) rfl rfl Try.underlying4 ?_
  intro W base args ds ps hval0 hA0 hlt
  have hval : ∀ (j : Nat) t v, Try.f10.params[j]? = some t → args[j]? = some v → Value.okWide Try.prog W .any base t v := hval0
  have hA : DataW.TrodAll enc Try.prog W 0 (fun _ => true) true Try.f10.params.toList args.toList ds ps := hA0
  clear hval0 hA0
  rw [Try.params10] at hA hval
  obtain ⟨v0, vs0, d0, ds0, p0, q0, hargs, rfl, rfl, h0, r0⟩ := trodAll_cons hA
  obtain ⟨v1, vs1, d1, ds1, p1, q1, rfl, rfl, rfl, h1, r1⟩ := trodAll_cons r0
  obtain ⟨rfl, rfl, rfl⟩ := trodAll_nil r1
  obtain rfl : args = #[v0, v1] := by cases args; simp_all
  obtain ⟨a, ha, ga⟩ := open_aggR Try.underlying42 opE_cnf (hval 0 _ v0 rfl rfl) h0 (fun x hx => hlt x (by simp [hx]))
  obtain ⟨cs, hc⟩ := openD_sl Try.underlying35 op_rows (hval 1 _ v1 rfl rfl) h1 (fun x hx => hlt x (by simp [hx]))
  exact ⟨rfl, law_con (law_check a cs (fitCn_of ha) (fitRw_of hc)) rfl (args2 ha (.d hc))⟩

/-- THE STATEMENT, PROVED. -/
theorem FnExactCheckProof_holds : Rows.FnExactCheckProofSaid :=
  OpenClaim.holds_of_wide 10 Try.f10 rfl rfl rfl rfl rfl rfl rfl ⟨rfl, rfl, rfl, rfl, rfl⟩ rfl rfl rfl rfl rfl (by kernel_rfl) Try.func10 (by kernel_rfl)
    (of_decide_eq_true (by kernel_rfl)) (by unfold Func.isWrapper; first | (rw [if_pos (by decide +kernel)]; kernel_rfl) | (rw [if_neg (by decide +kernel)]; exact ⟨rfl, rfl⟩))
    (fun os started H enc _ => FnExactCheckProof_lifted os started H enc)
#print axioms FnExactCheckProof_holds
end Go.Proofs.Ytbmapbbjbdpbcaa
