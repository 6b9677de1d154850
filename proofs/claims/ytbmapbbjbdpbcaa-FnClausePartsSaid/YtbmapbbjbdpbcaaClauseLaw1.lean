/-
  The law of the clauses of a formula: each call returns true, at every input.
  Conditions: none.
-/
import Derived.Test.YtbmapbbjbdpbcaaQi
import Derived.Test.YtbmapbbjbdpbcaaDb
namespace Go.Proofs.Ytbmapbbjbdpbcaa
open Go.RowKit Go.ChangeShapes Go.WideShapes Go.ChangeAt
set_option linter.unusedVariables false
set_option linter.unusedSimpArgs false
attribute [local simp ↓] condG_true condG_false condB_true condB_false
attribute [local simp] AWp_skip AWp_region_t AWp_region_d AWp_region_f still_mk AWp_seq AWp_cond condV_bool condB AWp_block AWp_exit AWp_ret
attribute [local simp] AOps_nil AOp_move AOp_assign AOp_pick AOp_binOp AOp_unOp AOp_convert AOp_len AOp_max AOp_min AOp_indexAddr AOp_load
attribute [local simp] AOp_fieldAddr AOp_field AOp_extract AOp_nilCheck AOp_build AOp_alloc AOp_box AOp_call AOp_store AOp_append AOp_buildSlice AOp_makeSlice
attribute [local simp] AOp_slice AOp_makeFunc AOp_guard guardD_some guardG_bool guardG_undef nextO_some nextS_some nextZ_some nextL_some nextM_some nextT_some
attribute [local simp] sliceO sliceL sliceT partO partV boundV funcO pickO convO lenO maxO minO
attribute [local simp] idxO extO nilO buildO litO litC makeO chunks fillV placeOf thenA inBlockA
attribute [local simp] St.get St.put St.eval ofCell evalT abin_add abin_sub abin_mul abin_quo abin_rem abin_and abin_or
attribute [local simp] abin_xor abin_andNot abin_shl abin_shr abin_shlu abin_eql abin_neq abin_lss abin_leq abin_gtr abin_geq abin_eqlb
attribute [local simp] abin_neqb aun pickV lenV intOf? indexV takeD takeV loadV fieldAddrV fieldV ofX
attribute [local simp] presD presDs pres presAll cellsV V.cell storeV freezeC putAt kill takeC plains
attribute [local simp] plainV scalarV nat_neg keepT sets eSl e1 e2 e3 e4 eInt eBool
attribute [local simp] afterCall inst inst1 inst1s instD instDs RetA resVs resV gives give1 give1s
attribute [local simp] Le isPin leSlots leS leTmps leV le0 le0s ren ren0 renS ren0s
attribute [local simp] frame enterT afterT_some afterC_some lives Slot.live arrsOk viewV view0 renT rens renSs
attribute [local simp] setAll List.range'_succ RetT RetW joinV leT AOpsE_nil AOpsE_cons AOpsT_nil AOpsT_cons isCallT callOf
attribute [local simp] condC_true condC_false beginT_mk thenT_mk pickE pickT isT loose namesOf namesV names1 names0
attribute [local simp] stableN sameAt Op.operands Call.operands
theorem big_con (bs : List Int) (h : bs.length ≤ 9223372036854775807) : ConC Try.prog 25 [ibytes bs] (.d (.bool (decide (1048576 < bs.length)))) := by
  refine con_of (by kernel_rfl) Try.func25 rfl rfl rfl ?_
  simp
  omega
theorem any_take {α : Type} {p : α → Bool} {xs : List α} {k : Nat} {x : α} (hx : xs[k]? = some x) : (xs.take (k + 1)).any p = ((xs.take k).any p || p x) := by
  rw [take_snoc' hx]; simp
theorem opd_byte : OpD Try.prog eByte 5 := fun h _ => by
  obtain ⟨n, rfl, _, hw⟩ := DataW.trod_int Try.underlying5 h
  exact ⟨n, _, rfl, .int _ _, .int _ _ hw⟩
theorem bytes_len {w : World} {G : Nat → Prop} {bs : List Int} {v : Value} (h : Rd w G (eSl 5 (e1 eByte) bs) v) : bs.length ≤ 9223372036854775807 := by
  obtain ⟨_, _, _, h⟩ := Rd.len h
  simpa using h
theorem op_bytes : OpD Try.prog (eSl 5 (e1 eByte)) 33 := opd_sl Try.underlying33 (by simp) (fun x => by simp [e1]) (ope_1 opd_byte)
set_option maxRecDepth 100000 in
set_option maxHeartbeats 2000000 in
theorem law_clauses (bs : List Int) (hb : bs.length ≤ 9223372036854775807) : ConC Try.prog 5 [ibytes bs] (.d (.bool true)) := by
  have k0 := big_con bs hb
  refine con_of (by kernel_rfl) Try.func5 rfl rfl rfl ?_
  simp
  by_cases hbig : 1048576 < bs.length
  · rw [decide_eq_true hbig] at k0
    refine call_step (k0) ?_
    simp
  rw [decide_eq_false hbig] at k0
  refine call_step (k0) ?_
  simp
  have k1 := DrawCnf_con bs (by omega)
  obtain ⟨d1, d2, d3⟩ := cnfD_facts (cur0_ok (bs := bs) (by omega))
  have d4 := cnfDV_rng (cur0 bs)
  have d5 := (asgD_facts (cnfDV (cur0 bs)) [] (cnfD (cur0 bs)).2 d2).1
  have e1' : drawnV bs = cnfDV (cur0 bs) := rfl
  have e2' : drawnC bs = (cnfD (cur0 bs)).1 := rfl
  have e3' : drawnA bs = (asgD (cnfDV (cur0 bs)) [] (cnfD (cur0 bs)).2).1 := rfl
  rw [← e1'] at d3 d4 d5 e3'
  rw [← e2'] at d1 d3
  rw [← e3'] at d5
  clear e1' e2' e3'
  generalize drawnV bs = v at *
  generalize drawnC bs = cls at *
  generalize drawnA bs = a at *
  simp only [List.length_nil, Nat.zero_add] at d5
  have hfit : fitCn 1048576 (v, cls) := ⟨by simp; omega, fun r hr => by have := (d3 r hr).1; omega⟩
  have hok : cnfOkL v cls = true := by
    unfold cnfOkL
    rw [rng_iff.2 (by omega), decide_eq_true (by omega)]
    simp only [Bool.true_and, List.all_eq_true]
    intro c hc
    unfold clauseOkL
    rw [decide_eq_true (by have := (d3 c hc).1; omega)]
    simp only [Bool.true_and, List.all_eq_true]
    exact fun l hl => litOk_iff.2 ((d3 c hc).2 l hl)
  refine call_step (k1) ?_
  simp [enCnf]
  refine aw_loopU [false, false, false, true, true, true, true, false, false, false, false, false, false, false, false, false, false, false, false, false, false, false, false, false, false, false, false, false, false, false, false, false, false, false, false, false, false, false, false, false, false, false, false, false, false, false, false, false, false, false, false, false, false, false, false, false, false, false, false, false, false, false, false, false, false, false, false, false, false, false, false, false, false, false, false, false, false, false, false, false, false, false, false, false, false, false, false, false, false] (fun i : Nat => i ≤ cls.length) (fun i : Nat => [(5, .d (.bool ((cls.take i).all (clauseTrueL a)))), (6, .d (.int .i64 i))]) (fun i : Nat => []) (fun i : Nat => cls.length - i) 0 ?_ ?_ ?_
  · exact Nat.zero_le _
  · exact ⟨[0, 1, 2], by simp⟩
  rintro I S μ hI hS hμ i hi
  by_cases hlt : i < cls.length
  case neg =>
    obtain rfl : i = cls.length := by omega
    rw [List.take_length]
    have c1 := iCnfTrue_con (v, cls) a hfit (by omega)
    have c2 : cnfTrueL v cls a = cls.all (clauseTrueL a) := by
      unfold cnfTrueL
      rw [hok, decide_eq_true (by omega)]; simp
    simp only [c2] at c1
    generalize cls.all (clauseTrueL a) = t at *
    have c3 := iCnfOk_con (v, cls) hfit
    simp only [hok] at c3
    simp [decide_eq_false hlt, hlt]
    refine call_step (c1) ?_
    simp [enCnf]
    refine call_step (c3) ?_
    simp [enCnf]
  have hx1 : cls[i]? = some cls[i] := List.getElem?_eq_getElem hlt
  have hd : decide (i < cls.length) = true := decide_eq_true hlt
  have w1 : IntKind.i64.wrap ((i : Int) + 1) = (i : Int) + 1 := wrap_id (by omega) (by omega)
  have hall := all_snoc' (p := clauseTrueL a) hx1
  obtain ⟨r1, r2⟩ := d3 _ (List.getElem_mem hlt)
  generalize cls[i] = c at *
  have hL : (enRow c).length = 1 := rfl
  simp [hd]
  refine aw_loopU [false, false, false, true, true, true, true, true, true, false, false, false, false, false, false, false, false, false, false, false, false, false, false, false, false, false, false, false, false, false, false, false, false, false, false, false, false, false, false, false, false, false, false, false, false, false, false, false, false, false, false, false, false, false, false, false, false, false, false, false, false, false, false, false, false, false, false, false, false, false, false, false, false, false, false, false, false, false, false, false, false, false, false, false, false, false, false, false, false] (fun k : Nat => k ≤ c.length) (fun k : Nat => [(7, .d (.bool ((c.take k).any (litTrue a)))), (8, .d (.int .i64 k))]) (fun k : Nat => []) (fun k : Nat => c.length - k) 0 ?_ ?_ ?_
  · exact Nat.zero_le _
  · exact ⟨[0, 1, 2], by simp⟩
  rintro I2 S2 μ2 hI2 hS2 hμ2 k hk
  by_cases hlk : k < c.length
  case neg =>
    obtain rfl : k = c.length := by omega
    rw [List.take_length]
    have hcl : clauseTrueL a c = c.any (litTrue a) := rfl
    have c4 := iClauseTrue_con c a (by omega) (by omega) (by rw [d5]; exact r2)
    rw [← hcl]
    generalize clauseTrueL a c = t at *
    rcases Bool.eq_false_or_eq_true ((cls.take i).all (clauseTrueL a)) with hac | hac
    · rw [hac] at hall
      simp [decide_eq_false hlk, hlk, hx1, hL, enRow, hac]
      refine call_step (c4) ?_
      simp [w1, hac]
      exact round_of hI hS hμ (i + 1) (by omega) (by omega) ⟨[0, 1, 2], by simp [hall]⟩
    · rw [hac] at hall
      simp [decide_eq_false hlk, hlk, hx1, hL, enRow, hac]
      refine call_step (c4) ?_
      simp [w1, hac]
      exact round_of hI hS hμ (i + 1) (by omega) (by omega) ⟨[0, 1, 2], by simp [hall]⟩
  have hy1 : c[k]? = some c[k] := List.getElem?_eq_getElem hlk
  have hdk : decide (k < c.length) = true := decide_eq_true hlk
  have w2 : IntKind.i64.wrap ((k : Int) + 1) = (k : Int) + 1 := wrap_id (by omega) (by omega)
  have hany := any_take (p := litTrue a) hy1
  have hli := r2 _ (List.getElem_mem hlk)
  generalize c[k] = x at *
  simp [hdk, hx1, hL, enRow, hy1, -AOp_assign]
  rw [AOp_assign, AOps_nil]
  rw [thenA]
  rw [AWp_region_f]
  generalize hK : inBlockA 3 _ = K
  generalize (cls.take i).all (clauseTrueL a) = ac at *
  rcases Bool.eq_false_or_eq_true ((c.take k).any (litTrue a)) with han | han
  · rw [han, Bool.true_or] at hany
    simp [han]
    subst hK
    simp [w2]
    exact round_of hI2 hS2 hμ2 (k + 1) (by omega) (by omega) ⟨[0, 1, 2], by simp [hany]⟩
  rw [han, Bool.false_or] at hany
  rcases lit_cases hli with ⟨m, hm, e⟩ | ⟨m, hm, e⟩
  · have hb1 : a[m]? = some a[m] := List.getElem?_eq_getElem (by omega)
    have hv := litTrue_pos hb1
    rw [← e] at hv
    rw [hv] at hany
    generalize a[m]'(by omega) = b at *
    have w3 : IntKind.i64.wrap (x - 1) = (m : Int) := by rw [wrap_id (by omega) (by omega)]; omega
    have q1 : decide (0 < x) = true := decide_eq_true (by omega)
    have q3 : decide (x < 0) = false := decide_eq_false (by omega)
    have q4 : 0 < x := by omega
    have q5 : ¬ x < 0 := by omega
    cases b with
    | true =>
      simp [han, q1, q3, q4, q5, w3, hb1]
      subst hK
      simp [w2]
      exact round_of hI2 hS2 hμ2 (k + 1) (by omega) (by omega) ⟨[0, 1, 2], by simp [hany]⟩
    | false =>
      simp [han, q1, q3, q4, q5, w3, hb1]
      subst hK
      simp [w2]
      exact round_of hI2 hS2 hμ2 (k + 1) (by omega) (by omega) ⟨[0, 1, 2], by simp [hany]⟩
  · have hb1 : a[m]? = some a[m] := List.getElem?_eq_getElem (by omega)
    have hv := litTrue_neg hb1
    rw [← e] at hv
    rw [hv] at hany
    generalize a[m]'(by omega) = b at *
    have w3 : IntKind.i64.wrap (-x) = (m : Int) + 1 := by rw [wrap_id (by omega) (by omega)]; omega
    have w4 : IntKind.i64.wrap (m : Int) = (m : Int) := wrap_id (by omega) (by omega)
    have q1 : decide (0 < x) = false := decide_eq_false (by omega)
    have q3 : decide (x < 0) = true := decide_eq_true (by omega)
    have q4 : ¬ 0 < x := by omega
    have q5 : x < 0 := by omega
    cases b with
    | true =>
      simp [han, q1, q3, q4, q5, w3, w4, hb1]
      subst hK
      simp [w2]
      exact round_of hI2 hS2 hμ2 (k + 1) (by omega) (by omega) ⟨[0, 1, 2], by simp [hany]⟩
    | false =>
      simp [han, q1, q3, q4, q5, w3, w4, hb1]
      subst hK
      simp [w2]
      exact round_of hI2 hS2 hμ2 (k + 1) (by omega) (by omega) ⟨[0, 1, 2], by simp [hany]⟩
set_option maxRecDepth 100000 in
theorem FnClauseParts_lifted (os : Os) (started : os.Started) (H : Type) (enc : TypeId × Value → H) :
    ReturnsInHanded {} Try.checked os 5 .any (Rows.fnClausePartsSpec.pre6 enc Try.prog Try.f5 Rows.fnClausePartsRow.domain false) (Rows.fnClausePartsSpec.post enc Try.prog Try.f5 false true false false) := by
  refine law_lift (C := Try.checked) Try.own started (by kernel_rfl) Try.func5
    (ChangeSpec.witness6 (enc := enc) (C := Try.checked) false ⟨#[], #[.slice none 0 0], []⟩ 8 (by kernel_rfl) (by kernel_rfl) (by kernel_rfl) (by kernel_rfl))
    Try.laidOut (of_decide_eq_true (by kernel_rfl)) rfl rfl Try.underlying4 ?_
  intro W base args ds ps hval0 hA0 hlt
  have hval : ∀ (j : Nat) t v, Try.f5.params[j]? = some t → args[j]? = some v → Value.okWide Try.prog W .any base t v := hval0
  have hA : DataW.TrodAll enc Try.prog W 0 (fun _ => true) true Try.f5.params.toList args.toList ds ps := hA0
  clear hval0 hA0
  rw [Try.params5] at hA hval
  obtain ⟨v0, vs0, d0, ds0, p0, q0, hargs, rfl, rfl, h0, r0⟩ := trodAll_cons hA
  obtain ⟨rfl, rfl, rfl⟩ := trodAll_nil r0
  obtain rfl : args = #[v0] := by cases args; simp_all
  obtain ⟨bs, hb⟩ := openD_sl Try.underlying33 op_bytes (hval 0 _ v0 rfl rfl) h0 (fun x hx => hlt x (by simp [hx]))
  exact ⟨rfl, law_con (law_clauses bs (bytes_len hb)) rfl (args1 (.d hb))⟩

/-- THE STATEMENT, PROVED. -/
theorem FnClauseParts_holds : Rows.FnClausePartsSaid :=
  OpenClaim.holds_of_wide 5 Try.f5 rfl rfl rfl rfl rfl rfl rfl ⟨rfl, rfl, rfl, rfl, rfl⟩ rfl rfl rfl rfl rfl (by kernel_rfl) Try.func5 (by kernel_rfl)
    (of_decide_eq_true (by kernel_rfl)) (by unfold Func.isWrapper; first | (rw [if_pos (by decide +kernel)]; kernel_rfl) | (rw [if_neg (by decide +kernel)]; exact ⟨rfl, rfl⟩))
    (fun os started H enc _ => FnClauseParts_lifted os started H enc)
#print axioms FnClauseParts_holds
end Go.Proofs.Ytbmapbbjbdpbcaa
