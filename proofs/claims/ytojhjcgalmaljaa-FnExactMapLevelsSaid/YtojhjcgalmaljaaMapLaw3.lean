/-
  The laws of MapLevels and MapUsed: each call returns true, at every input.
  Conditions: none.
-/
import Derived.Test.YtojhjcgalmaljaaMb
import Derived.Test.YtojhjcgalmaljaaMp
namespace Go.Proofs.Ytojhjcgalmaljaa
open Go.RowKit Go.ChangeShapes Go.WideShapes Go.ChangeAt
set_option linter.unusedVariables false
set_option linter.unusedSimpArgs false
attribute [local simp ↓] condG_true condG_false condB_true condB_false
attribute [local simp] AWp_skip AWp_region_t AWp_region_d AWp_region_f still_mk AWp_seq AWp_cond condV_bool condB AWp_block AWp_exit AWp_ret
attribute [local simp] AOps_nil AOp_move AOp_assign AOp_pick AOp_binOp AOp_unOp AOp_convert AOp_len AOp_max AOp_min AOp_indexAddr AOp_load
attribute [local simp] AOp_fieldAddr AOp_field AOp_extract AOp_nilCheck AOp_build AOp_alloc AOp_box AOp_call AOp_store AOp_append AOp_buildSlice AOp_makeSlice
attribute [local simp] AOp_slice AOp_makeFunc AOp_guard guardD_some guardG_bool guardG_undef nextO_some nextS_some nextZ_some nextL_some nextM_some nextT_some
attribute [local simp] sliceO sliceL sliceT partO partV boundV funcO pickO convO lenO maxO minO
attribute [local simp] idxO extO nilO buildO litO litC makeO chunks fillV placeOf thenA inBlockA
attribute [local simp] St.get St.put St.eval ofCell evalT abin_add abin_sub abin_mul abin_quo abin_rem abin_and abin_or
attribute [local simp] abin_xor abin_andNot abin_shl abin_shr abin_shlu abin_eql abin_neq abin_lss abin_leq abin_gtr abin_geq abin_eqlb
attribute [local simp] abin_neqb aun pickV lenV intOf? indexV takeD takeV loadV fieldAddrV fieldV ofX
attribute [local simp] presD presDs pres presAll cellsV V.cell storeV freezeC putAt kill takeC plains
attribute [local simp] plainV scalarV nat_neg keepT sets eSl e1 e2 e3 e4 eInt eBool
attribute [local simp] afterCall inst inst1 inst1s instD instDs RetA resVs resV gives give1 give1s
attribute [local simp] Le isPin leSlots leS leTmps leV le0 le0s ren ren0 renS ren0s
attribute [local simp] frame enterT afterT_some lives Slot.live arrsOk viewV view0 renT rens renSs setAll
attribute [local simp] List.range'_succ RetT RetW joinV leT
set_option maxRecDepth 100000 in
set_option maxHeartbeats 1000000 in
theorem law_MapLevels (x : GrD) (cs : List RowD) (hx : fitGr 9223372036854775807 x) (hc : fitRw 9223372036854775807 cs) (gx : okGr x) : ConC Try.prog 7 [.agg (enGr 82 90 x), irows cs] (.d (.bool true)) := by
  refine con_ofS (by kernel_rfl) Try.func7 rfl rfl rfl ?_
  simp [enGr]
  refine call_step (szNet_con x 1048576 hx (by omega)) ?_
  simp
  intro h1
  have b1 := szGrL_le x 1048576 (by omega)
  have hf := fitGr_sz h1
  refine call_step (szRows_con cs _ hc ⟨h1, by omega⟩) ?_
  simp
  intro h2
  have hr := fitRw_sz h2 ⟨h1, by omega⟩
  have cx := cGr_le hf
  have cc := cRows_le hr
  have hg : (ifMap x cs (levelsL x cs) []).length ≤ 1048576 := by
    unfold ifMap
    split
    · rename_i hm
      obtain ⟨hok, hl, hcs⟩ := mapOk_of hm
      obtain ⟨⟨n1, n2, n3, n4, n5, n6⟩, -, -, -⟩ := netOk_of hok
      obtain ⟨hF, hgl, hNi, hno⟩ := ok_sizes hok
      first | (rw [show (levelsL x cs).length = grN x from lvM_len _]; omega) | (rw [usedL_len]; omega)
    · simp
  have c1 := sMapLevels_con x cs hf gx hr
  have c2 := iMapLevels_con x cs hf hr
  generalize ifMap x cs (levelsL x cs) [] = res at *
  have hq : (0 : Int) ≤ 1 + res.length := by omega
  have hq2 : ¬ (1 + (res.length : Int) < 0) := by omega
  have hk : ¬ (1 + (cGr x : Int) + costs cRow cs < 0) := by omega
  have hk2 : (0 : Int) ≤ 1 + cGr x + costs cRow cs := by omega
  refine call_step (toNet_con x hf) ?_
  simp [enGr]
  refine call_step (toRows_con cs hr) ?_
  simp
  refine call_step (c1) ?_
  simp
  refine call_step (toNet_con x hf) ?_
  simp [enGr]
  refine call_step (toRows_con cs hr) ?_
  simp
  refine call_step (c2) ?_
  simp
  refine call_step (eqInts_con res hg) ?_
  simp
  refine ⟨by kernel_rfl, ?_⟩
  refine call_step (toNet_con x hf) ?_
  simp [enGr]
  refine call_step (eqNet_con x hf) ?_
  simp
  refine call_step (toRows_con cs hr) ?_
  simp
  refine call_step (eqRows_con cs hr) ?_
  simp
  refine callW_step (markNet_conW x 1 (by omega) (by omega)) [6, 7, 8] (by simp) (by simp) (by simp) ?_
  simp [setAll]
  refine callM_step (markIntSS_conM cs (1 + cGr x) (by omega) (by omega)) (by rfl) ?_
  simp [hk, hk2]
  refine call_step (eqInts_con res hg) ?_
  simp
  refine callM_step (markIntS_conM res 1 (by omega) (by omega)) (by rfl) ?_
  simp
  refine call_step (heldIntS_con res 1 hg (by omega)) ?_
  simp [hq, hq2]
  refine call_step (toNet_con x hf) ?_
  simp [enGr]
  refine call_step (toRows_con cs hr) ?_
  simp
  refine call_step (c2) ?_
  simp
  refine call_step (eqInts_con res hg) ?_
  simp
  refine call_step (heldIntS_con res 1 hg (by omega)) ?_
  simp [hq, hq2]
theorem eqBools_con (xs : List Bool) (hx : xs.length ≤ 1048576) :
    ConC Try.prog 36 [bools xs, bools xs] (.d (.bool true)) := by
  refine con_of (by kernel_rfl) Try.func36 rfl rfl rfl ?_
  simp
  refine aw_loopU [true, true, false, false, false, true, false, false, false, false, false, false, false, false, false, false, false, false, false, false, false, false, false, false, false, false] (fun k : Nat => k ≤ xs.length) (fun k : Nat => [(5, .d (.int .i64 k))]) (fun k : Nat => []) (fun k : Nat => xs.length - k) 0 ?_ ?_ ?_
  · simp
  · exact ⟨[], by simp⟩
  rintro I S μ hI hS hμ k hk
  by_cases hlt : k < xs.length
  · have hx1 : xs[k]? = some xs[k] := List.getElem?_eq_getElem hlt
    have w2 : IntKind.i64.wrap ((k : Int) + 1) = (k : Int) + 1 := wrap_id (by omega) (by omega)
    have hd : decide (k < xs.length) = true := decide_eq_true hlt
    generalize xs[k] = v at *
    simp [hd, hx1, w2]
    refine ⟨by kernel_rfl, ?_⟩
    exact round_of hI hS hμ (k + 1) (by omega) (by omega) ⟨[], by simp⟩
  · have hk' : k = xs.length := by omega
    subst hk'
    simp [hlt]
set_option maxRecDepth 100000 in
set_option maxHeartbeats 1000000 in
theorem law_MapUsed (x : GrD) (cs : List RowD) (hx : fitGr 9223372036854775807 x) (hc : fitRw 9223372036854775807 cs) (gx : okGr x) : ConC Try.prog 9 [.agg (enGr 82 90 x), irows cs] (.d (.bool true)) := by
  refine con_ofS (by kernel_rfl) Try.func9 rfl rfl rfl ?_
  simp [enGr]
  refine call_step (szNet_con x 1048576 hx (by omega)) ?_
  simp
  intro h1
  have b1 := szGrL_le x 1048576 (by omega)
  have hf := fitGr_sz h1
  refine call_step (szRows_con cs _ hc ⟨h1, by omega⟩) ?_
  simp
  intro h2
  have hr := fitRw_sz h2 ⟨h1, by omega⟩
  have cx := cGr_le hf
  have cc := cRows_le hr
  have hg : (ifMap x cs (usedL x cs) []).length ≤ 1048576 := by
    unfold ifMap
    split
    · rename_i hm
      obtain ⟨hok, hl, hcs⟩ := mapOk_of hm
      obtain ⟨⟨n1, n2, n3, n4, n5, n6⟩, -, -, -⟩ := netOk_of hok
      obtain ⟨hF, hgl, hNi, hno⟩ := ok_sizes hok
      first | (rw [show (levelsL x cs).length = grN x from lvM_len _]; omega) | (rw [usedL_len]; omega)
    · simp
  have c1 := sMapUsed_con x cs hf gx hr
  have c2 := iMapUsed_con x cs hf hr
  generalize ifMap x cs (usedL x cs) [] = res at *
  have hq : (0 : Int) ≤ 1 + res.length := by omega
  have hq2 : ¬ (1 + (res.length : Int) < 0) := by omega
  have hk : ¬ (1 + (cGr x : Int) + costs cRow cs < 0) := by omega
  have hk2 : (0 : Int) ≤ 1 + cGr x + costs cRow cs := by omega
  refine call_step (toNet_con x hf) ?_
  simp [enGr]
  refine call_step (toRows_con cs hr) ?_
  simp
  refine call_step (c1) ?_
  simp
  refine call_step (toNet_con x hf) ?_
  simp [enGr]
  refine call_step (toRows_con cs hr) ?_
  simp
  refine call_step (c2) ?_
  simp
  refine call_step (eqBools_con res hg) ?_
  simp
  refine ⟨by kernel_rfl, ?_⟩
  refine call_step (toNet_con x hf) ?_
  simp [enGr]
  refine call_step (eqNet_con x hf) ?_
  simp
  refine call_step (toRows_con cs hr) ?_
  simp
  refine call_step (eqRows_con cs hr) ?_
  simp
  refine callW_step (markNet_conW x 1 (by omega) (by omega)) [6, 7, 8] (by simp) (by simp) (by simp) ?_
  simp [setAll]
  refine callM_step (markIntSS_conM cs (1 + cGr x) (by omega) (by omega)) (by rfl) ?_
  simp [hk, hk2]
  refine call_step (eqBools_con res hg) ?_
  simp
  refine callM_step (markBoolS_conM res 1 (by omega) (by omega)) (by rfl) ?_
  simp
  refine call_step (heldBoolS_con res 1 hg (by omega)) ?_
  simp [hq, hq2]
  refine call_step (toNet_con x hf) ?_
  simp [enGr]
  refine call_step (toRows_con cs hr) ?_
  simp
  refine call_step (c2) ?_
  simp
  refine call_step (eqBools_con res hg) ?_
  simp
  refine call_step (heldBoolS_con res 1 hg (by omega)) ?_
  simp [hq, hq2]
set_option maxRecDepth 100000 in
theorem FnExactMapLevels_lifted (os : Os) (started : os.Started) (H : Type) (enc : TypeId × Value → H) :
    ReturnsInHanded {} Try.checked os 7 .any (Rows.fnExactMapLevelsSpec.pre6 enc Try.prog Try.f7 Rows.fnExactMapLevelsRow.domain false) (Rows.fnExactMapLevelsSpec.post enc Try.prog Try.f7 false true false false) := by
  refine law_lift (C := Try.checked) Try.own started (by kernel_rfl) Try.func7
    (ChangeSpec.witness6 (enc := enc) (C := Try.checked) false ⟨#[], #[.agg #[.int .i64 0, .slice none 0 0, .slice none 0 0, .slice none 0 0], .slice none 0 0], []⟩ 8 (by kernel_rfl) (by kernel_rfl) (by kernel_rfl) (by kernel_rfl))
    Try.laidOut (of_decide_eq_true (by kernel_rfl)) rfl rfl Try.underlying4 ?_
  intro W base args ds ps hval0 hA0 hlt
  have hval : ∀ (j : Nat) t v, Try.f7.params[j]? = some t → args[j]? = some v → Value.okWide Try.prog W .any base t v := hval0
  have hA : DataW.TrodAll enc Try.prog W 0 (fun _ => true) true Try.f7.params.toList args.toList ds ps := hA0
  clear hval0 hA0
  rw [Try.params7] at hA hval
  obtain ⟨v0, vs0, d0, ds0, p0, q0, hargs, rfl, rfl, h0, r0⟩ := trodAll_cons hA
  obtain ⟨v1, vs1, d1, ds1, p1, q1, rfl, rfl, rfl, h1, r1⟩ := trodAll_cons r0
  obtain ⟨rfl, rfl, rfl⟩ := trodAll_nil r1
  obtain rfl : args = #[v0, v1] := by cases args; simp_all
  obtain ⟨a, ha, ga⟩ := open_aggR Try.underlying26 opE_net (hval 0 _ v0 rfl rfl) h0 (fun x hx => hlt x (by simp [hx]))
  obtain ⟨cs, hc⟩ := openD_sl Try.underlying27 op_rows (hval 1 _ v1 rfl rfl) h1 (fun x hx => hlt x (by simp [hx]))
  exact ⟨rfl, law_con (law_MapLevels a cs (fitGr_of ha) (fitRw_of hc) (okGr_of ga)) rfl (args2 ha (.d hc))⟩

/-- THE STATEMENT, PROVED. -/
theorem FnExactMapLevels_holds : Rows.FnExactMapLevelsSaid :=
  OpenClaim.holds_of_wide 7 Try.f7 rfl rfl rfl rfl rfl rfl rfl ⟨rfl, rfl, rfl, rfl, rfl⟩ rfl rfl rfl rfl rfl (by kernel_rfl) Try.func7 (by kernel_rfl)
    (of_decide_eq_true (by kernel_rfl)) (by unfold Func.isWrapper; first | (rw [if_pos (by decide +kernel)]; kernel_rfl) | (rw [if_neg (by decide +kernel)]; exact ⟨rfl, rfl⟩))
    (fun os started H enc _ => FnExactMapLevels_lifted os started H enc)
#print axioms FnExactMapLevels_holds
set_option maxRecDepth 100000 in
theorem FnExactMapUsed_lifted (os : Os) (started : os.Started) (H : Type) (enc : TypeId × Value → H) :
    ReturnsInHanded {} Try.checked os 9 .any (Rows.fnExactMapUsedSpec.pre6 enc Try.prog Try.f9 Rows.fnExactMapUsedRow.domain false) (Rows.fnExactMapUsedSpec.post enc Try.prog Try.f9 false true false false) := by
  refine law_lift (C := Try.checked) Try.own started (by kernel_rfl) Try.func9
    (ChangeSpec.witness6 (enc := enc) (C := Try.checked) false ⟨#[], #[.agg #[.int .i64 0, .slice none 0 0, .slice none 0 0, .slice none 0 0], .slice none 0 0], []⟩ 8 (by kernel_rfl) (by kernel_rfl) (by kernel_rfl) (by kernel_rfl))
    Try.laidOut (of_decide_eq_true (by kernel_rfl)) rfl rfl Try.underlying4 ?_
  intro W base args ds ps hval0 hA0 hlt
  have hval : ∀ (j : Nat) t v, Try.f9.params[j]? = some t → args[j]? = some v → Value.okWide Try.prog W .any base t v := hval0
  have hA : DataW.TrodAll enc Try.prog W 0 (fun _ => true) true Try.f9.params.toList args.toList ds ps := hA0
  clear hval0 hA0
  rw [Try.params9] at hA hval
  obtain ⟨v0, vs0, d0, ds0, p0, q0, hargs, rfl, rfl, h0, r0⟩ := trodAll_cons hA
  obtain ⟨v1, vs1, d1, ds1, p1, q1, rfl, rfl, rfl, h1, r1⟩ := trodAll_cons r0
  obtain ⟨rfl, rfl, rfl⟩ := trodAll_nil r1
  obtain rfl : args = #[v0, v1] := by cases args; simp_all
  obtain ⟨a, ha, ga⟩ := open_aggR Try.underlying26 opE_net (hval 0 _ v0 rfl rfl) h0 (fun x hx => hlt x (by simp [hx]))
  obtain ⟨cs, hc⟩ := openD_sl Try.underlying27 op_rows (hval 1 _ v1 rfl rfl) h1 (fun x hx => hlt x (by simp [hx]))
  exact ⟨rfl, law_con (law_MapUsed a cs (fitGr_of ha) (fitRw_of hc) (okGr_of ga)) rfl (args2 ha (.d hc))⟩

/-- THE STATEMENT, PROVED. -/
theorem FnExactMapUsed_holds : Rows.FnExactMapUsedSaid :=
  OpenClaim.holds_of_wide 9 Try.f9 rfl rfl rfl rfl rfl rfl rfl ⟨rfl, rfl, rfl, rfl, rfl⟩ rfl rfl rfl rfl rfl (by kernel_rfl) Try.func9 (by kernel_rfl)
    (of_decide_eq_true (by kernel_rfl)) (by unfold Func.isWrapper; first | (rw [if_pos (by decide +kernel)]; kernel_rfl) | (rw [if_neg (by decide +kernel)]; exact ⟨rfl, rfl⟩))
    (fun os started H enc _ => FnExactMapUsed_lifted os started H enc)
#print axioms FnExactMapUsed_holds
end Go.Proofs.Ytojhjcgalmaljaa
