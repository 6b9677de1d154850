/-
  The laws of LutValues, LutStep and LutRun: each call returns true, at every input.
  Conditions: none.
-/
import Derived.Test.YtmengbppepeddaaWm
import Derived.Test.YtmengbppepeddaaMo
namespace Go.Proofs.Ytmengbppepeddaa
open Go.RowKit Go.ChangeShapes Go.WideShapes Go.ChangeAt
set_option linter.unusedVariables false
set_option linter.unusedSimpArgs false
attribute [local simp ↓] condG_true condG_false condB_true condB_false
attribute [local simp] AWp_skip AWp_region_t AWp_region_f still_mk AWp_seq AWp_cond condV_bool condB AWp_block AWp_exit AWp_ret AOps_nil
attribute [local simp] AOp_move AOp_assign AOp_pick AOp_binOp AOp_unOp AOp_convert AOp_len AOp_max AOp_min AOp_indexAddr AOp_load AOp_fieldAddr
attribute [local simp] AOp_field AOp_extract AOp_nilCheck AOp_build AOp_alloc AOp_box AOp_call AOp_store AOp_append AOp_buildSlice AOp_makeSlice AOp_slice
attribute [local simp] AOp_makeFunc AOp_guard guardD_some guardG_bool guardG_undef nextO_some nextS_some nextZ_some nextL_some nextM_some nextT_some sliceO
attribute [local simp] sliceL sliceT partO partV boundV funcO pickO convO lenO maxO minO idxO
attribute [local simp] extO nilO buildO litO litC makeO chunks fillV placeOf thenA inBlockA St.get
attribute [local simp] St.put St.eval ofCell evalT abin_add abin_sub abin_mul abin_quo abin_rem abin_and abin_or abin_xor
attribute [local simp] abin_andNot abin_shl abin_shr abin_shlu abin_eql abin_neq abin_lss abin_leq abin_gtr abin_geq abin_eqlb abin_neqb
attribute [local simp] aun pickV lenV intOf? indexV takeD takeV loadV fieldAddrV fieldV ofX presD
attribute [local simp] presDs pres presAll cellsV V.cell storeV freezeC putAt kill takeC plains plainV
attribute [local simp] scalarV nat_neg keepT sets eSl e1 e2 e3 e4 eInt eBool afterCall
attribute [local simp] inst inst1 inst1s instD instDs RetA resVs resV gives give1 give1s Le
attribute [local simp] isPin leSlots leS leTmps leV le0 le0s ren ren0 renS ren0s frame
attribute [local simp] enterT afterT_some lives Slot.live arrsOk viewV view0 renT rens renSs setAll List.range'_succ
attribute [local simp] RetT RetW joinV leT
theorem costs_le {α : Type} {f : α → Nat} {m : Nat} : ∀ {xs : List α}, (∀ x ∈ xs, f x ≤ m) → costs f xs ≤ xs.length * m
  | [], _ => by simp [costs]
  | x :: xs, h => by
    have h1 := h x (by simp)
    have h2 := costs_le (f := f) (m := m) (xs := xs) (fun y hy => h y (by simp [hy]))
    simp [costs, Nat.succ_mul]
    omega
theorem cNet_le {x : NetD} (h : fitNet 1048576 x) : cNet x ≤ 4398046511104 := by
  obtain ⟨h1, h2, h3, h4, h5⟩ := h
  have k1 := costs_le (f := cSeq) (m := 1048578) (xs := x.2.1) (fun s hs => by have := h2 s hs; simp [cSeq]; omega)
  have k2 := costs_le (f := cLut) (m := 1048577) (xs := x.2.2.1) (fun s hs => by have := h4 s hs; simp [cLut]; omega)
  have k3 := Nat.mul_le_mul_right 1048578 h1
  have k4 := Nat.mul_le_mul_right 1048577 h3
  unfold cNet
  omega
theorem law_values (x : NetD) (st : List Int) (inp : Int) (hx : fitNet 9223372036854775807 x) (hs : st.length ≤ 9223372036854775807) : ConC Try.prog 7 [.agg (enNet 71 73 x), .d (eSl 3 (e1 eInt) st), .d (.int .i64 inp)] (.d (.bool true)) := by
  refine con_ofS (by kernel_rfl) Try.func7 rfl rfl rfl ?_
  by_cases hl : st.length ≤ 1048576
  case neg => simp [enNet, show ¬ (st.length : Int) ≤ 1048576 by omega]
  simp [enNet, show (st.length : Int) ≤ 1048576 by omega, show ¬ (1048576 : Int) < st.length by omega]
  refine call_step (szNet_con x 1048576 hx (by omega)) ?_
  simp
  intro h
  have hf : fitNet 1048576 x := fit_sz h
  have hc := cNet_le hf
  have hg : (lutValuesL x st inp).length ≤ 1048576 := by
    unfold lutValuesL
    split
    · rename_i ho
      rw [valsU_len]
      have hok := (stateOk_net ho).1
      obtain ⟨⟨n1, n2, n3, n4, n5, n6⟩, -, -, o3⟩ := lutOk_of hok
      unfold luN
      omega
    · simp
  refine call_step (toNet_con x hf) ?_
  simp [enNet]
  refine call_step (toInts_con st hl) ?_
  simp
  refine call_step (sLutValues_con x st inp hf hl) ?_
  simp
  refine call_step (toNet_con x hf) ?_
  simp [enNet]
  refine call_step (toInts_con st hl) ?_
  simp
  refine call_step (iLutValues_con x st inp hf hl) ?_
  simp
  refine call_step (eqInts_con _ hg) ?_
  simp
  refine ⟨by kernel_rfl, ?_⟩
  refine call_step (toNet_con x hf) ?_
  simp [enNet]
  refine call_step (eqNet_con x hf) ?_
  simp
  refine call_step (toInts_con st hl) ?_
  simp
  refine call_step (eqInts_con st hl) ?_
  simp
  refine callW_step (markLutNet_conW x 1 (by omega) (by omega)) [6, 7, 8] (by simp) (by simp) (by simp) ?_
  simp [setAll]
  refine callM_step (markIntS_conM st (1 + cNet x) (by omega) (by omega)) (by rfl) ?_
  simp
  have hk : ¬ (1 + (cNet x : Int) + st.length < 0) := by omega
  simp [hk]
  refine call_step (eqInts_con _ hg) ?_
  simp
  refine callM_step (markIntS_conM (lutValuesL x st inp) 1 (by omega) (by omega)) (by rfl) ?_
  simp
  have hq : (0 : Int) ≤ 1 + (lutValuesL x st inp).length := by omega
  have hq2 : ¬ (1 + ((lutValuesL x st inp).length : Int) < 0) := by omega
  refine call_step (heldIntS_con (lutValuesL x st inp) 1 hg (by omega)) ?_
  simp [hq, hq2]
  refine call_step (toNet_con x hf) ?_
  simp [enNet]
  refine call_step (toInts_con st hl) ?_
  simp
  refine call_step (iLutValues_con x st inp hf hl) ?_
  simp
  refine call_step (eqInts_con _ hg) ?_
  simp
  refine call_step (heldIntS_con (lutValuesL x st inp) 1 hg (by omega)) ?_
  simp [hq, hq2]
theorem law_step (x : NetD) (st : List Int) (inp : Int) (hx : fitNet 9223372036854775807 x) (hs : st.length ≤ 9223372036854775807) : ConC Try.prog 8 [.agg (enNet 71 73 x), .d (eSl 3 (e1 eInt) st), .d (.int .i64 inp)] (.d (.bool true)) := by
  refine con_ofS (by kernel_rfl) Try.func8 rfl rfl rfl ?_
  by_cases hl : st.length ≤ 1048576
  case neg => simp [enNet, show ¬ (st.length : Int) ≤ 1048576 by omega]
  simp [enNet, show (st.length : Int) ≤ 1048576 by omega, show ¬ (1048576 : Int) < st.length by omega]
  refine call_step (szNet_con x 1048576 hx (by omega)) ?_
  simp
  intro h
  have hf : fitNet 1048576 x := fit_sz h
  have hc := cNet_le hf
  have hg : (lutStepL x st inp).1.length ≤ 1048576 := by
    unfold lutStepL
    split
    · rename_i ho
      have hn := stateOk_net ho
      show (nxtU x st (valsU x st inp)).length ≤ 1048576
      rw [nxtU_len hn.2]
      exact hf.1
    · simp
  refine call_step (toNet_con x hf) ?_
  simp [enNet]
  refine call_step (toInts_con st hl) ?_
  simp
  refine call_step (sLutStepF_con x st inp hf hl) ?_
  simp
  refine call_step (toNet_con x hf) ?_
  simp [enNet]
  refine call_step (toInts_con st hl) ?_
  simp
  refine call_step (iLutStep_con x st inp hf hl) ?_
  simp
  refine call_step (eqInts_con _ hg) ?_
  simp
  refine ⟨by kernel_rfl, ?_⟩
  refine call_step (toNet_con x hf) ?_
  simp [enNet]
  refine call_step (eqNet_con x hf) ?_
  simp
  refine call_step (toInts_con st hl) ?_
  simp
  refine call_step (eqInts_con st hl) ?_
  simp
  refine callW_step (markLutNet_conW x 1 (by omega) (by omega)) [6, 7, 8] (by simp) (by simp) (by simp) ?_
  simp [setAll]
  refine callM_step (markIntS_conM st (1 + cNet x) (by omega) (by omega)) (by rfl) ?_
  simp
  have hk : ¬ (1 + (cNet x : Int) + st.length < 0) := by omega
  simp [hk]
  refine call_step (eqInts_con _ hg) ?_
  simp
  refine callM_step (markIntS_conM (lutStepL x st inp).1 1 (by omega) (by omega)) (by rfl) ?_
  simp
  have hq : (0 : Int) ≤ 1 + (lutStepL x st inp).1.length := by omega
  have hq2 : ¬ (1 + ((lutStepL x st inp).1.length : Int) < 0) := by omega
  refine call_step (heldIntS_con (lutStepL x st inp).1 1 hg (by omega)) ?_
  simp [hq, hq2]
  refine call_step (toNet_con x hf) ?_
  simp [enNet]
  refine call_step (toInts_con st hl) ?_
  simp
  refine call_step (iLutStep_con x st inp hf hl) ?_
  simp
  refine call_step (eqInts_con _ hg) ?_
  simp
  refine call_step (heldIntS_con (lutStepL x st inp).1 1 hg (by omega)) ?_
  simp [hq, hq2]
theorem law_run (x : NetD) (ins : List Int) (hx : fitNet 9223372036854775807 x) (hs : ins.length ≤ 9223372036854775807) : ConC Try.prog 9 [.agg (enNet 71 73 x), .d (eSl 3 (e1 eInt) ins)] (.d (.bool true)) := by
  refine con_ofS (by kernel_rfl) Try.func9 rfl rfl rfl ?_
  by_cases hl : ins.length ≤ 1048576
  case neg => simp [enNet, show ¬ (ins.length : Int) ≤ 1048576 by omega]
  simp [enNet, show (ins.length : Int) ≤ 1048576 by omega, show ¬ (1048576 : Int) < ins.length by omega]
  refine call_step (szNet_con x 1048576 hx (by omega)) ?_
  simp
  intro h
  have hf : fitNet 1048576 x := fit_sz h
  have hc := cNet_le hf
  have hg : (lutRunL x ins).length ≤ 1048576 := by
    unfold lutRunL
    split
    · rw [runOuts_len]; exact hl
    · simp
  refine call_step (toNet_con x hf) ?_
  simp [enNet]
  refine call_step (toInts_con ins hl) ?_
  simp
  refine call_step (sLutRun_con x ins hf hl) ?_
  simp
  refine call_step (toNet_con x hf) ?_
  simp [enNet]
  refine call_step (toInts_con ins hl) ?_
  simp
  refine call_step (iLutRun_con x ins hf hl) ?_
  simp
  refine call_step (eqInts_con _ hg) ?_
  simp
  refine ⟨by kernel_rfl, ?_⟩
  refine call_step (toNet_con x hf) ?_
  simp [enNet]
  refine call_step (eqNet_con x hf) ?_
  simp
  refine call_step (toInts_con ins hl) ?_
  simp
  refine call_step (eqInts_con ins hl) ?_
  simp
  refine callW_step (markLutNet_conW x 1 (by omega) (by omega)) [6, 7, 8] (by simp) (by simp) (by simp) ?_
  simp [setAll]
  refine callM_step (markIntS_conM ins (1 + cNet x) (by omega) (by omega)) (by rfl) ?_
  simp
  have hk : ¬ (1 + (cNet x : Int) + ins.length < 0) := by omega
  simp [hk]
  refine call_step (eqInts_con _ hg) ?_
  simp
  refine callM_step (markIntS_conM (lutRunL x ins) 1 (by omega) (by omega)) (by rfl) ?_
  simp
  have hq : (0 : Int) ≤ 1 + (lutRunL x ins).length := by omega
  have hq2 : ¬ (1 + ((lutRunL x ins).length : Int) < 0) := by omega
  refine call_step (heldIntS_con (lutRunL x ins) 1 hg (by omega)) ?_
  simp [hq, hq2]
  refine call_step (toNet_con x hf) ?_
  simp [enNet]
  refine call_step (toInts_con ins hl) ?_
  simp
  refine call_step (iLutRun_con x ins hf hl) ?_
  simp
  refine call_step (eqInts_con _ hg) ?_
  simp
  refine call_step (heldIntS_con (lutRunL x ins) 1 hg (by omega)) ?_
  simp [hq, hq2]
theorem op_ints' : OpD Try.prog (eSl 3 (e1 eInt)) 24 := opd_sl Try.underlying24 (by simp) (fun x => by simp [e1]) (ope_1 (opd_int Try.underlying3))
set_option maxRecDepth 100000 in
theorem FnExactLutValues_lifted (os : Os) (started : os.Started) (H : Type) (enc : TypeId × Value → H) :
    ReturnsInHanded {} Try.checked os 7 .any (Rows.fnExactLutValuesSpec.pre6 enc Try.prog Try.f7 Rows.fnExactLutValuesRow.domain false) (Rows.fnExactLutValuesSpec.post enc Try.prog Try.f7 false true false false) := by
  refine law_lift (C := Try.checked) Try.own started (by kernel_rfl) Try.func7
    (ChangeSpec.witness6 (enc := enc) (C := Try.checked) false ⟨#[], #[.agg #[.int .i64 0, .slice none 0 0, .slice none 0 0, .slice none 0 0], .slice none 0 0, .int .i64 0], []⟩ 8 (by kernel_rfl) (by kernel_rfl) (by kernel_rfl) (by kernel_rfl))
    Try.laidOut (of_decide_eq_true (by kernel_rfl)) rfl rfl Try.underlying4 ?_
  intro W base args ds ps hval0 hA0 hlt
  have hval : ∀ (j : Nat) t v, Try.f7.params[j]? = some t → args[j]? = some v → Value.okWide Try.prog W .any base t v := hval0
  have hA : DataW.TrodAll enc Try.prog W 0 (fun _ => true) true Try.f7.params.toList args.toList ds ps := hA0
  clear hval0 hA0
  rw [Try.params7] at hA hval
  obtain ⟨v0, vs0, d0, ds0, p0, q0, hargs, rfl, rfl, h0, r0⟩ := trodAll_cons hA
  obtain ⟨v1, vs1, d1, ds1, p1, q1, rfl, rfl, rfl, h1, r1⟩ := trodAll_cons r0
  obtain ⟨v2, vs2, d2, ds2, p2, q2, rfl, rfl, rfl, h2, r2⟩ := trodAll_cons r1
  obtain ⟨rfl, rfl, rfl⟩ := trodAll_nil r2
  obtain rfl : args = #[v0, v1, v2] := by cases args; simp_all
  obtain ⟨x, hx⟩ := open_agg Try.underlying26 opE_lutnet (hval 0 _ v0 rfl rfl) h0 (fun x hx => hlt x (by simp [hx]))
  obtain ⟨st, hs⟩ := openD_sl Try.underlying24 op_ints' (hval 1 _ v1 rfl rfl) h1 (fun x hx => hlt x (by simp [hx]))
  obtain ⟨inp, rfl, rfl, rfl, wf2⟩ := open_int Try.underlying3 (hval 2 _ v2 rfl rfl) h2
  exact ⟨rfl, law_con (law_values x st inp (fit_of hx) hs.fit) rfl (args3 hx (.d hs) (.d (.int _ _)))⟩

/-- THE STATEMENT, PROVED. -/
theorem FnExactLutValues_holds : Rows.FnExactLutValuesSaid :=
  OpenClaim.holds_of_wide 7 Try.f7 rfl rfl rfl rfl rfl rfl rfl ⟨rfl, rfl, rfl, rfl, rfl⟩ rfl rfl rfl rfl rfl (by kernel_rfl) Try.func7 (by kernel_rfl)
    (of_decide_eq_true (by kernel_rfl)) (by unfold Func.isWrapper; first | (rw [if_pos (by decide +kernel)]; kernel_rfl) | (rw [if_neg (by decide +kernel)]; exact ⟨rfl, rfl⟩))
    (fun os started H enc _ => FnExactLutValues_lifted os started H enc)
#print axioms FnExactLutValues_holds
set_option maxRecDepth 100000 in
theorem FnExactLutStep_lifted (os : Os) (started : os.Started) (H : Type) (enc : TypeId × Value → H) :
    ReturnsInHanded {} Try.checked os 8 .any (Rows.fnExactLutStepSpec.pre6 enc Try.prog Try.f8 Rows.fnExactLutStepRow.domain false) (Rows.fnExactLutStepSpec.post enc Try.prog Try.f8 false true false false) := by
  refine law_lift (C := Try.checked) Try.own started (by kernel_rfl) Try.func8
    (ChangeSpec.witness6 (enc := enc) (C := Try.checked) false ⟨#[], #[.agg #[.int .i64 0, .slice none 0 0, .slice none 0 0, .slice none 0 0], .slice none 0 0, .int .i64 0], []⟩ 8 (by kernel_rfl) (by kernel_rfl) (by kernel_rfl) (by kernel_rfl))
    Try.laidOut (of_decide_eq_true (by kernel_rfl)) rfl rfl Try.underlying4 ?_
  intro W base args ds ps hval0 hA0 hlt
  have hval : ∀ (j : Nat) t v, Try.f8.params[j]? = some t → args[j]? = some v → Value.okWide Try.prog W .any base t v := hval0
  have hA : DataW.TrodAll enc Try.prog W 0 (fun _ => true) true Try.f8.params.toList args.toList ds ps := hA0
  clear hval0 hA0
  rw [Try.params8] at hA hval
  obtain ⟨v0, vs0, d0, ds0, p0, q0, hargs, rfl, rfl, h0, r0⟩ := trodAll_cons hA
  obtain ⟨v1, vs1, d1, ds1, p1, q1, rfl, rfl, rfl, h1, r1⟩ := trodAll_cons r0
  obtain ⟨v2, vs2, d2, ds2, p2, q2, rfl, rfl, rfl, h2, r2⟩ := trodAll_cons r1
  obtain ⟨rfl, rfl, rfl⟩ := trodAll_nil r2
  obtain rfl : args = #[v0, v1, v2] := by cases args; simp_all
  obtain ⟨x, hx⟩ := open_agg Try.underlying26 opE_lutnet (hval 0 _ v0 rfl rfl) h0 (fun x hx => hlt x (by simp [hx]))
  obtain ⟨st, hs⟩ := openD_sl Try.underlying24 op_ints' (hval 1 _ v1 rfl rfl) h1 (fun x hx => hlt x (by simp [hx]))
  obtain ⟨inp, rfl, rfl, rfl, wf2⟩ := open_int Try.underlying3 (hval 2 _ v2 rfl rfl) h2
  exact ⟨rfl, law_con (law_step x st inp (fit_of hx) hs.fit) rfl (args3 hx (.d hs) (.d (.int _ _)))⟩

/-- THE STATEMENT, PROVED. -/
theorem FnExactLutStep_holds : Rows.FnExactLutStepSaid :=
  OpenClaim.holds_of_wide 8 Try.f8 rfl rfl rfl rfl rfl rfl rfl ⟨rfl, rfl, rfl, rfl, rfl⟩ rfl rfl rfl rfl rfl (by kernel_rfl) Try.func8 (by kernel_rfl)
    (of_decide_eq_true (by kernel_rfl)) (by unfold Func.isWrapper; first | (rw [if_pos (by decide +kernel)]; kernel_rfl) | (rw [if_neg (by decide +kernel)]; exact ⟨rfl, rfl⟩))
    (fun os started H enc _ => FnExactLutStep_lifted os started H enc)
#print axioms FnExactLutStep_holds
set_option maxRecDepth 100000 in
theorem FnExactLutRun_lifted (os : Os) (started : os.Started) (H : Type) (enc : TypeId × Value → H) :
    ReturnsInHanded {} Try.checked os 9 .any (Rows.fnExactLutRunSpec.pre6 enc Try.prog Try.f9 Rows.fnExactLutRunRow.domain false) (Rows.fnExactLutRunSpec.post enc Try.prog Try.f9 false true false false) := by
  refine law_lift (C := Try.checked) Try.own started (by kernel_rfl) Try.func9
    (ChangeSpec.witness6 (enc := enc) (C := Try.checked) false ⟨#[], #[.agg #[.int .i64 0, .slice none 0 0, .slice none 0 0, .slice none 0 0], .slice none 0 0], []⟩ 8 (by kernel_rfl) (by kernel_rfl) (by kernel_rfl) (by kernel_rfl))
    Try.laidOut (of_decide_eq_true (by kernel_rfl)) rfl rfl Try.underlying4 ?_
  intro W base args ds ps hval0 hA0 hlt
  have hval : ∀ (j : Nat) t v, Try.f9.params[j]? = some t → args[j]? = some v → Value.okWide Try.prog W .any base t v := hval0
  have hA : DataW.TrodAll enc Try.prog W 0 (fun _ => true) true Try.f9.params.toList args.toList ds ps := hA0
  clear hval0 hA0
  rw [Try.params9] at hA hval
  obtain ⟨v0, vs0, d0, ds0, p0, q0, hargs, rfl, rfl, h0, r0⟩ := trodAll_cons hA
  obtain ⟨v1, vs1, d1, ds1, p1, q1, rfl, rfl, rfl, h1, r1⟩ := trodAll_cons r0
  obtain ⟨rfl, rfl, rfl⟩ := trodAll_nil r1
  obtain rfl : args = #[v0, v1] := by cases args; simp_all
  obtain ⟨x, hx⟩ := open_agg Try.underlying26 opE_lutnet (hval 0 _ v0 rfl rfl) h0 (fun x hx => hlt x (by simp [hx]))
  obtain ⟨st, hs⟩ := openD_sl Try.underlying24 op_ints' (hval 1 _ v1 rfl rfl) h1 (fun x hx => hlt x (by simp [hx]))
  exact ⟨rfl, law_con (law_run x st (fit_of hx) hs.fit) rfl (args2 hx (.d hs))⟩

/-- THE STATEMENT, PROVED. -/
theorem FnExactLutRun_holds : Rows.FnExactLutRunSaid :=
  OpenClaim.holds_of_wide 9 Try.f9 rfl rfl rfl rfl rfl rfl rfl ⟨rfl, rfl, rfl, rfl, rfl⟩ rfl rfl rfl rfl rfl (by kernel_rfl) Try.func9 (by kernel_rfl)
    (of_decide_eq_true (by kernel_rfl)) (by unfold Func.isWrapper; first | (rw [if_pos (by decide +kernel)]; kernel_rfl) | (rw [if_neg (by decide +kernel)]; exact ⟨rfl, rfl⟩))
    (fun os started H enc _ => FnExactLutRun_lifted os started H enc)
#print axioms FnExactLutRun_holds
end Go.Proofs.Ytmengbppepeddaa
