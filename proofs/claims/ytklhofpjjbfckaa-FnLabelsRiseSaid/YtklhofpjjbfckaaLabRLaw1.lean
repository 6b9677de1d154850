/-
  The law of labels that rise: each call returns true, at every input.
  Conditions: none.
-/
import Derived.Test.YtklhofpjjbfckaaPe
import Derived.Test.YtklhofpjjbfckaaHi
import Derived.Test.YtklhofpjjbfckaaKfFnLabelsRise
namespace Go.Proofs.Ytklhofpjjbfckaa
open Go.RowKit Go.ChangeShapes Go.WideShapes Go.ChangeAt
set_option linter.unusedVariables false
set_option linter.unusedSimpArgs false
attribute [local simp ↓] condG_true condG_false condB_true condB_false
attribute [local simp] AWp_skip AWp_region_t AWp_region_d AWp_region_f still_mk AWp_seq AWp_cond condV_bool condB AWp_block AWp_exit AWp_ret
attribute [local simp] AOps_nil AOp_move AOp_assign AOp_pick AOp_binOp AOp_unOp AOp_convert AOp_len AOp_max AOp_min AOp_indexAddr AOp_load
attribute [local simp] AOp_fieldAddr AOp_field AOp_extract AOp_nilCheck AOp_build AOp_alloc AOp_box AOp_call AOp_store AOp_append AOp_buildSlice nextB_some
attribute [local simp] nextB_none adoptO adoptC AOp_makeSlice AOp_slice AOp_makeFunc AOp_guard guardD_some guardG_bool guardG_undef nextO_some nextS_some
attribute [local simp] nextZ_some nextL_some nextM_some nextT_some sliceO sliceL sliceT partO partV boundV funcO pickO
attribute [local simp] convO lenO maxO minO idxO extO nilO buildO litO litC makeO chunks
attribute [local simp] fillV placeOf thenA inBlockA St.get St.put St.eval ofCell evalT abin_add abin_sub abin_mul
attribute [local simp] abin_quo abin_rem abin_and abin_or abin_xor abin_andNot abin_shl abin_shr abin_shlu abin_eql abin_eqp abin_neq
attribute [local simp] abin_lss abin_leq abin_gtr abin_geq abin_eqlb abin_neqb aun pickV lenV intOf? indexV takeD
attribute [local simp] takeV loadV fieldAddrV fieldV ofX presD presDs pres presAll cellsV V.cell storeV
attribute [local simp] freezeC putAt kill takeC plains plainV scalarV nat_neg keepT sets eSl e1
attribute [local simp] e2 e3 e4 eInt eBool abinS_d abinS_agg abinS nilEq abin_eqb AOp_makeMap AOp_lookup
attribute [local simp] AOp_mapUpdate lookG_some updG_some mapV kyOf vlOf lookV vlV buildA afterCall inst inst1
attribute [local simp] inst1s instD instDs RetA resVs resV gives give1 give1s Le isPin leSlots
attribute [local simp] leS leTmps leV le0 le0s ren ren0 renS ren0s frame enterT afterT_some
attribute [local simp] afterC_some lives Slot.live arrsOk viewV view0 renT rens renSs setAll List.range'_succ RetT
attribute [local simp] RetW joinV leT AOpsE_nil AOpsE_cons AOpsT_nil AOpsT_cons isCallT isFnO callOf callVC_fn condC_true
attribute [local simp] condC_false beginT_mk thenT_mk pickE pickT isT loose namesOf namesV names1 names0 stableN
attribute [local simp] sameAt Op.operands Call.operands
abbrev ibytes (bs : List Int) : X := .d (eSl 5 (e1 eByte) bs)
theorem big_con (bs : List Int) (h : bs.length ≤ 9223372036854775807) : ConC Try.prog 15 [ibytes bs] (.d (.bool (decide (1048576 < bs.length)))) := by
  refine con_of (by kernel_rfl) Try.func15 rfl rfl rfl ?_
  simp
  omega
theorem opd_byte : OpD Try.prog eByte 5 := fun h _ => by
  obtain ⟨n, rfl, _, hw⟩ := DataW.trod_int Try.underlying5 h
  exact ⟨n, _, rfl, .int _ _, .int _ _ hw⟩
theorem bytes_len {w : World} {G : Nat → Prop} {bs : List Int} {v : Value} (h : Rd w G (eSl 5 (e1 eByte) bs) v) : bs.length ≤ 9223372036854775807 := by
  obtain ⟨_, _, _, h⟩ := Rd.len h
  simpa using h
theorem op_bytes : OpD Try.prog (eSl 5 (e1 eByte)) 22 := opd_sl Try.underlying22 (by simp) (fun x => by simp [e1]) (ope_1 opd_byte)
set_option maxRecDepth 100000 in
set_option maxHeartbeats 10000000 in
theorem law_rise (bs : List Int) (hb : bs.length ≤ 9223372036854775807) : ConC Try.prog 6 [ibytes bs] (.d (.bool true)) := by
  have k0 := big_con bs hb
  refine con_ofD (by kernel_rfl) Try.func6 rfl rfl rfl ?_
  simp
  by_cases hbig : 1048576 < bs.length
  · rw [decide_eq_true hbig] at k0
    refine call_step (k0) ?_
    simp
  rw [decide_eq_false hbig] at k0
  refine call_step (k0) ?_
  simp
  have kM := DrawMapping_conT bs (by omega)
  have hok := drN_ok bs
  generalize drN bs = x at *
  generalize drM bs = cs at *
  obtain ⟨⟨n1, n2, n3, n4, n5, n6⟩, -, -, -⟩ := netOk_of hok
  obtain ⟨hF, hgl, hNi, hno⟩ := ok_sizes hok
  have hN := grN_eq x
  have hx := fitGr_netOk hok
  have hg := okGr_netOk hok
  have kL := iLabels_con x hx
  have hZ : labZ x = labelsL x := if_pos hok
  rw [hZ] at kL
  have hL := labelsL_ok hok
  have hll := hL.len
  have kN := sNodeCount_con x
  rw [hno] at kN
  have w0 : IntKind.i64.wrap ((grN x : Int) - x.2.2.1.length) = (firstG x : Int) := by rw [wrap_id (by omega) (by omega)]; omega
  refine callT_step (kM) [] [] (by simp) ?_
  simp
  refine call_step (kL) ?_
  simp [enGr]
  refine drawD_of 7 (by kernel_rfl) ?_
  simp
  refine call_step (kN) ?_
  simp [w0]
  refine call_step (kN) ?_
  simp [hll]
  refine aw_loopN [false, false, false, true, false, true, true, true, false, false, false, false, false, false, false, false, false, false, false, false, false, false, false, false, false, false, false, false, false, false, false, false, false, false, false, false, false, false, false, false, false, false, false, false, false, false, false, false, false, false, false, false, false, false, false, false, false, false, false, false, false, false, false, false, false, false, false, false, false, false, false, false, false, false, false, false, false] (fun i : Nat => i ≤ x.2.2.1.length) (fun i : Nat => [(7, .d (.int .i64 i))]) (fun i : Nat => fun sl => [.var 28 [.d (.int .i64 x.1), .d (eSl 31 enSeq x.2.1), .d (eSl 61 enAnd x.2.2.1), .d (eSl 3 (e1 eInt) x.2.2.2)], .arr 3 true ((labelsL x).map (e1 eInt))]) (fun i : Nat => x.2.2.1.length - i) 0 ?_ ?_ ?_
  · exact Nat.zero_le _
  · exact ⟨[0, 1], by simp⟩
  rintro I S μ hI hS hμ i hi
  by_cases hlt : i < x.2.2.1.length
  · obtain ⟨k, hk⟩ : ∃ k, k = firstG x + i := ⟨_, rfl⟩
    have hkN : k < grN x := by omega
    obtain ⟨ha, a1, a2, a3, a4, a5, a6⟩ := and_at hok (v := k) (by omega) hkN
    rw [show k - firstG x = i by omega] at ha
    have hL2 : (enAnd (andAt x k)).length = 2 := rfl
    have q1 : IntKind.i64.wrap ((andAt x k).1.tdiv 2) = (kidA x k : Int) := by rw [Int.tdiv_eq_ediv_of_nonneg a1, a3]; exact wrap_id (by omega) (by omega)
    have q2 : IntKind.i64.wrap ((andAt x k).2.tdiv 2) = (kidB x k : Int) := by rw [Int.tdiv_eq_ediv_of_nonneg a2, a4]; exact wrap_id (by omega) (by omega)
    have hatA : (labelsL x)[kidA x k]? = some (getZ (labelsL x) (kidA x k)) := by unfold getZ; rw [List.getElem?_eq_getElem (by omega)]; rfl
    have hatB : (labelsL x)[kidB x k]? = some (getZ (labelsL x) (kidB x k)) := by unfold getZ; rw [List.getElem?_eq_getElem (by omega)]; rfl
    have hatK : (labelsL x)[k]? = some (getZ (labelsL x) k) := by unfold getZ; rw [List.getElem?_eq_getElem (by omega)]; rfl
    have hmx : (if getZ (labelsL x) (kidA x k) < getZ (labelsL x) (kidB x k) then getZ (labelsL x) (kidB x k) else getZ (labelsL x) (kidA x k)) = kidM (kidA x) (kidB x) (labelsL x) k := mx_max _ _
    have hlo := hL.lo k (by omega) hkN
    have hhi := hL.hi k (by omega) hkN
    have hbn : kidM (kidA x) (kidB x) (labelsL x) k ≤ 400 ∧ 0 ≤ kidM (kidA x) (kidB x) (labelsL x) k := by
      have hb : ∀ q, getZ (labelsL x) q ≤ x.2.2.1.length := fun q => by
        rw [labelsL_eq]
        exact lab_bnd (netF_of hok) (x.2.2.1.length) q (by omega)
      have h1 := hb (kidA x k)
      have h2 := hb (kidB x k)
      have h3 := hL.pos (kidA x k)
      unfold kidM
      omega
    have wf : IntKind.i64.wrap ((firstG x : Int) + (i : Int)) = (k : Int) := by rw [wrap_id (by omega) (by omega)]; omega
    have w1 : IntKind.i64.wrap ((i : Int) + 1) = (i : Int) + 1 := wrap_id (by omega) (by omega)
    have hlt1 := decide_eq_true hlt
    generalize getZ (labelsL x) (kidA x k) = za at *
    generalize getZ (labelsL x) (kidB x k) = zb at *
    generalize getZ (labelsL x) k = zk at *
    generalize kidM (kidA x) (kidB x) (labelsL x) k = pm at *
    generalize kidA x k = ka at *
    generalize kidB x k = kb at *
    generalize andAt x k = an at *
    generalize labelsL x = lab at *
    have wp : IntKind.i64.wrap (pm + 1) = pm + 1 := wrap_id (by omega) (by omega)
    obtain ⟨m1, hm1⟩ : ∃ m1, (if (1 : Int) < pm then pm else 1) = m1 := ⟨_, rfl⟩
    have hm2 : ¬ zk < m1 := by rw [← hm1]; split <;> omega
    have hm3 : ¬ pm + 1 < zk := by omega
    simp [hlt, hlt1]
    refine drawD_of 22 (by kernel_rfl) ?_
    simp [ha, hL2, enAnd, q1, q2, hatA, hatB, hmx, hatK, wf, w1, wp, hm1, hm2, hm3]
    exact round_of hI hS hμ (i + 1) (by omega) (by omega) ⟨[0, 1], by simp⟩
  · obtain rfl : i = x.2.2.1.length := by omega
    simp
set_option maxRecDepth 100000 in
theorem FnLabelsRise_lifted (os : Os) (started : os.Started) (H : Type) (enc : TypeId × Value → H) :
    ReturnsInHanded {} Try.checked os 6 .any (Rows.fnLabelsRiseSpec.pre6 enc Try.prog Try.f6 Rows.fnLabelsRiseRow.domain false) (Rows.fnLabelsRiseSpec.post enc Try.prog Try.f6 false true false false) := by
  refine law_lift (C := Try.checked) Try.own started (by kernel_rfl) Try.func6
    (ChangeSpec.witness6 (enc := enc) (C := Try.checked) false ⟨#[], #[.slice none 0 0], []⟩ 8 (by kernel_rfl) (by kernel_rfl) (by kernel_rfl) (by kernel_rfl))
    Try.laidOut (of_decide_eq_true (by kernel_rfl)) rfl rfl Try.underlying4 ?_
  intro W base args ds ps hval0 hA0 hlt
  have hval : ∀ (j : Nat) t v, Try.f6.params[j]? = some t → args[j]? = some v → Value.okWide Try.prog W .any base t v := hval0
  have hA : DataW.TrodAll enc Try.prog W 0 (fun _ => true) true Try.f6.params.toList args.toList ds ps := hA0
  clear hval0 hA0
  rw [Try.params6] at hA hval
  obtain ⟨v0, vs0, d0, ds0, p0, q0, hargs, rfl, rfl, h0, r0⟩ := trodAll_cons hA
  obtain ⟨rfl, rfl, rfl⟩ := trodAll_nil r0
  obtain rfl : args = #[v0] := by cases args; simp_all
  obtain ⟨bs, hb⟩ := openD_sl Try.underlying22 op_bytes (hval 0 _ v0 rfl rfl) h0 (fun x hx => hlt x (by simp [hx]))
  exact ⟨rfl, law_con (law_rise bs (bytes_len hb)) rfl (args1 (.d hb))⟩

theorem FnLabelsRise_holds : Rows.FnLabelsRiseSaid :=
  OpenClaim.holds_of_wide 6 Try.f6 rfl rfl rfl rfl rfl rfl rfl ⟨rfl, rfl, rfl, rfl, rfl⟩ rfl rfl rfl rfl rfl (by kernel_rfl) Try.func6 FnLabelsRise_closed
    (of_decide_eq_true (by kernel_rfl)) (by unfold Func.isWrapper; first | (rw [if_pos (by decide +kernel)]; kernel_rfl) | (rw [if_neg (by decide +kernel)]; exact ⟨rfl, rfl⟩))
    (fun os started H enc _ => FnLabelsRise_lifted os started H enc)
#print axioms FnLabelsRise_holds
end Go.Proofs.Ytklhofpjjbfckaa
