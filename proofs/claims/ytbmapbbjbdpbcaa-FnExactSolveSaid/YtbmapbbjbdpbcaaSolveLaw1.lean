/-
  The law of Solve: each call returns true, at every input.
  Conditions: none.
-/
import Derived.Test.YtbmapbbjbdpbcaaQh
import Derived.Test.YtbmapbbjbdpbcaaMq
namespace Go.Proofs.Ytbmapbbjbdpbcaa
open Go.RowKit Go.ChangeShapes Go.WideShapes Go.ChangeAt
set_option linter.unusedVariables false
set_option linter.unusedSimpArgs false
attribute [local simp ↓] condG_true condG_false condB_true condB_false
attribute [local simp] AWp_skip AWp_region_t AWp_region_d AWp_region_f still_mk AWp_seq AWp_cond condV_bool condB AWp_block AWp_exit AWp_ret
attribute [local simp] AOps_nil AOp_move AOp_assign AOp_pick AOp_binOp AOp_unOp AOp_convert AOp_len AOp_max AOp_min AOp_indexAddr AOp_load
attribute [local simp] AOp_fieldAddr AOp_field AOp_extract AOp_nilCheck AOp_build AOp_alloc AOp_box AOp_call AOp_store AOp_append AOp_buildSlice AOp_makeSlice
attribute [local simp] AOp_slice AOp_makeFunc AOp_guard guardD_some guardG_bool guardG_undef nextO_some nextS_some nextZ_some nextL_some nextM_some nextT_some
attribute [local simp] sliceO sliceL sliceT partO partV boundV funcO pickO convO lenO maxO minO
attribute [local simp] idxO extO nilO buildO litO litC makeO chunks fillV placeOf thenA inBlockA
attribute [local simp] St.get St.put St.eval ofCell evalT abin_add abin_sub abin_mul abin_quo abin_rem abin_and abin_or
attribute [local simp] abin_xor abin_andNot abin_shl abin_shr abin_shlu abin_eql abin_neq abin_lss abin_leq abin_gtr abin_geq abin_eqlb
attribute [local simp] abin_neqb aun pickV lenV intOf? indexV takeD takeV loadV fieldAddrV fieldV ofX
attribute [local simp] presD presDs pres presAll cellsV V.cell storeV freezeC putAt kill takeC plains
attribute [local simp] plainV scalarV nat_neg keepT sets eSl e1 e2 e3 e4 eInt eBool
attribute [local simp] afterCall inst inst1 inst1s instD instDs RetA resVs resV gives give1 give1s
attribute [local simp] Le isPin leSlots leS leTmps leV le0 le0s ren ren0 renS ren0s
attribute [local simp] frame enterT afterT_some afterC_some lives Slot.live arrsOk viewV view0 renT rens renSs
attribute [local simp] setAll List.range'_succ RetT RetW joinV leT AOpsE_nil AOpsE_cons AOpsT_nil AOpsT_cons isCallT callOf
attribute [local simp] condC_true condC_false beginT_mk thenT_mk pickE pickT isT loose namesOf namesV names1 names0
attribute [local simp] stableN sameAt Op.operands Call.operands
theorem eqBools_con (xs : List Bool) (hx : xs.length ≤ 1048576) :
    ConC Try.prog 19 [.d (eSl 4 (e1 eBool) xs), .d (eSl 4 (e1 eBool) xs)] (.d (.bool true)) := by
  refine con_of (by kernel_rfl) Try.func19 rfl rfl rfl ?_
  simp
  refine aw_loopU [true, true, false, false, false, true, false, false, false, false, false, false, false, false, false, false, false, false, false, false, false, false, false, false, false, false] (fun k : Nat => k ≤ xs.length) (fun k : Nat => [(5, .d (.int .i64 k))]) (fun k : Nat => []) (fun k : Nat => xs.length - k) 0 ?_ ?_ ?_
  · simp
  · exact ⟨[], by simp⟩
  rintro I S μ hI hS hμ k hk
  by_cases hlt : k < xs.length
  · have hx1 : xs[k]? = some xs[k] := List.getElem?_eq_getElem hlt
    have w2 : IntKind.i64.wrap ((k : Int) + 1) = (k : Int) + 1 := wrap_id (by omega) (by omega)
    have hd : decide (k < xs.length) = true := decide_eq_true hlt
    generalize xs[k] = v at *
    simp [hd, hx1, w2]
    refine ⟨by kernel_rfl, ?_⟩
    exact round_of hI hS hμ (k + 1) (by omega) (by omega) ⟨[], by simp⟩
  · have hk' : k = xs.length := by omega
    subst hk'
    simp [hlt]
theorem solveL_fit {v : Int} {cls : List RowD} {B : Int} : (solveL v cls B).2.1.length ≤ 400 ∧ fitRw 1048576 (solveL v cls B).2.2 := by
  unfold solveL
  split
  · rename_i h
    have hv4 := clauseOk_of_cnf h.1
    obtain ⟨n, rfl⟩ : ∃ n : Nat, v = n := ⟨v.toNat, by omega⟩
    have hr := rng_iff.1 h.2
    have hsf := srch_facts (cnfOk_clauses h.1) B.toNat B.toNat (List.replicate n 0) [] [] (by simp) (trits_rep n)
    simp only [Int.toNat_natCast]
    generalize srch cls B.toNat B.toNat (List.replicate n 0) [] [] = r at *
    obtain ⟨f1, f2, f3, f4⟩ := hsf
    split
    · rename_i h1
      have := (f4 h1).1
      refine ⟨?_, by simp [fitRw]⟩
      rw [ones_len]; omega
    · split
      · rename_i h2
        obtain ⟨a, b, c⟩ := f3 h2
        refine ⟨by simp, ?_, c (by simp) (by simp; omega)⟩
        simp only [List.length_nil] at a ⊢
        omega
      · exact ⟨by simp, by simp [fitRw]⟩
  · exact ⟨by simp, by simp [fitRw]⟩
set_option maxRecDepth 100000 in
set_option maxHeartbeats 1000000 in
theorem law_Solve (x : CnfD) (B : Int) (hx : fitCn 9223372036854775807 x) : ConC Try.prog 13 [icnf x, .d (.int .i64 B)] (.d (.bool true)) := by
  refine con_ofS (by kernel_rfl) Try.func13 rfl rfl rfl ?_
  simp [enCnf]
  refine call_step (szCnf_con x 1048576 hx (by omega)) ?_
  simp
  intro h1
  have hf : fitCn 1048576 x := fitRw_sz (x := x.2) h1 (by omega)
  have cc := cRows_le hf
  obtain ⟨hb, hr⟩ := solveL_fit (v := x.1) (cls := x.2) (B := B)
  have cr := cRows_le hr
  have c1 := sSolve_con x B hf
  have c2 := iSolve_con x B hf
  generalize solveL x.1 x.2 B = res at *
  obtain ⟨g, bs, pf⟩ := res
  simp only at hb hr cr c1 c2
  have hq : (0 : Int) ≤ 1 + bs.length := by omega
  have hq2 : ¬ (1 + (bs.length : Int) < 0) := by omega
  have hq3 : (0 : Int) ≤ 1 + bs.length + costs cRow pf := by omega
  have hq4 : ¬ (1 + (bs.length : Int) + costs cRow pf < 0) := by omega
  have hk : ¬ (1 + (costs cRow x.2 : Int) < 0) := by omega
  have hk2 : (0 : Int) ≤ 1 + costs cRow x.2 := by omega
  refine call_step (toCnf_con x hf) ?_
  simp [enCnf]
  refine call_step (c1) ?_
  simp
  refine call_step (toCnf_con x hf) ?_
  simp [enCnf]
  refine call_step (c2) ?_
  simp
  refine call_step (eqBools_con bs (by omega)) ?_
  simp
  refine call_step (eqRows_con pf hr) ?_
  simp
  refine ⟨by kernel_rfl, ?_⟩
  refine call_step (toCnf_con x hf) ?_
  simp [enCnf]
  refine call_step (eqCnf_con x hf) ?_
  simp
  refine callW_step (markCnf_conW x 1 (by omega) (by omega)) [4] (by simp) (by simp) (by simp) ?_
  simp [setAll, hk, hk2]
  refine call_step (eqBools_con bs (by omega)) ?_
  simp
  refine call_step (eqRows_con pf hr) ?_
  simp
  refine callM_step (markBoolS_conM bs 1 (by omega) (by omega)) (by rfl) ?_
  simp
  refine callM_step (markIntSS_conM pf (1 + bs.length) (by omega) (by omega)) (by rfl) ?_
  simp
  refine call_step (heldBoolS_con bs 1 (by omega) (by omega)) ?_
  simp [hq, hq2]
  refine call_step (heldIntSS_con pf (1 + bs.length) hr (by omega) (by omega)) ?_
  simp [hq3, hq4]
  refine call_step (toCnf_con x hf) ?_
  simp [enCnf]
  refine call_step (c2) ?_
  simp
  refine call_step (eqBools_con bs (by omega)) ?_
  simp
  refine call_step (eqRows_con pf hr) ?_
  simp
  refine call_step (heldBoolS_con bs 1 (by omega) (by omega)) ?_
  simp [hq, hq2]
  refine call_step (heldIntSS_con pf (1 + bs.length) hr (by omega) (by omega)) ?_
  simp [hq3, hq4]
set_option maxRecDepth 100000 in
theorem FnExactSolve_lifted (os : Os) (started : os.Started) (H : Type) (enc : TypeId × Value → H) :
    ReturnsInHanded {} Try.checked os 13 .any (Rows.fnExactSolveSpec.pre6 enc Try.prog Try.f13 Rows.fnExactSolveRow.domain false) (Rows.fnExactSolveSpec.post enc Try.prog Try.f13 false true false false) := by
  refine law_lift (C := Try.checked) Try.own started (by kernel_rfl) Try.func13
    (ChangeSpec.witness6 (enc := enc) (C := Try.checked) false ⟨#[], #[.agg #[.int .i64 0, .slice none 0 0], .int .i64 0], []⟩ 8 (by kernel_rfl) (by kernel_rfl) (by kernel_rfl) (by kernel_rfl))
    Try.laidOut (of_decide_eq_true (by kernel_rfl)) rfl rfl Try.underlying4 ?_
  intro W base args ds ps hval0 hA0 hlt
  have hval : ∀ (j : Nat) t v, Try.f13.params[j]? = some t → args[j]? = some v → Value.okWide Try.prog W .any base t v := hval0
  have hA : DataW.TrodAll enc Try.prog W 0 (fun _ => true) true Try.f13.params.toList args.toList ds ps := hA0
  clear hval0 hA0
  rw [Try.params13] at hA hval
  obtain ⟨v0, vs0, d0, ds0, p0, q0, hargs, rfl, rfl, h0, r0⟩ := trodAll_cons hA
  obtain ⟨v1, vs1, d1, ds1, p1, q1, rfl, rfl, rfl, h1, r1⟩ := trodAll_cons r0
  obtain ⟨rfl, rfl, rfl⟩ := trodAll_nil r1
  obtain rfl : args = #[v0, v1] := by cases args; simp_all
  obtain ⟨a, ha, ga⟩ := open_aggR Try.underlying42 opE_cnf (hval 0 _ v0 rfl rfl) h0 (fun x hx => hlt x (by simp [hx]))
  obtain ⟨b, rfl, rfl, rfl, wf1⟩ := open_int Try.underlying3 (hval 1 _ v1 rfl rfl) h1
  exact ⟨rfl, law_con (law_Solve a b (fitCn_of ha)) rfl (args2 ha (.d (.int _ _)))⟩

/-- THE STATEMENT, PROVED. -/
theorem FnExactSolve_holds : Rows.FnExactSolveSaid :=
  OpenClaim.holds_of_wide 13 Try.f13 rfl rfl rfl rfl rfl rfl rfl ⟨rfl, rfl, rfl, rfl, rfl⟩ rfl rfl rfl rfl rfl (by kernel_rfl) Try.func13 (by kernel_rfl)
    (of_decide_eq_true (by kernel_rfl)) (by unfold Func.isWrapper; first | (rw [if_pos (by decide +kernel)]; kernel_rfl) | (rw [if_neg (by decide +kernel)]; exact ⟨rfl, rfl⟩))
    (fun os started H enc _ => FnExactSolve_lifted os started H enc)
#print axioms FnExactSolve_holds
end Go.Proofs.Ytbmapbbjbdpbcaa
