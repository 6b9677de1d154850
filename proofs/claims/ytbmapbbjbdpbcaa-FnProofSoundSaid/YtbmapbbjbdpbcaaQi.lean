/-
  Clauses and formulas under an assignment: both sides. 
  Conditions: those typed in each theorem.
-/
import Derived.Test.YtbmapbbjbdpbcaaQj
namespace Go.Proofs.Ytbmapbbjbdpbcaa
open Go.RowKit Go.ChangeShapes Go.WideShapes
set_option linter.unusedVariables false
set_option linter.unusedSimpArgs false
attribute [local simp ↓] condG_true condG_false condB_true condB_false
attribute [local simp] AWp_skip AWp_region_t AWp_region_d AWp_region_f still_mk AWp_seq AWp_cond condV_bool condB AWp_block AWp_exit AWp_ret
attribute [local simp] AOps_nil AOp_move AOp_assign AOp_pick AOp_binOp AOp_unOp AOp_convert AOp_len AOp_max AOp_min AOp_indexAddr AOp_load
attribute [local simp] AOp_fieldAddr AOp_field AOp_extract AOp_nilCheck AOp_build AOp_alloc AOp_box AOp_call AOp_store AOp_append AOp_buildSlice nextB_some
attribute [local simp] nextB_none adoptO adoptC AOp_makeSlice AOp_slice AOp_makeFunc AOp_guard guardD_some guardG_bool guardG_undef nextO_some nextS_some
attribute [local simp] nextZ_some nextL_some nextM_some nextT_some sliceO sliceL sliceT partO partV boundV funcO pickO
attribute [local simp] convO lenO maxO minO idxO extO nilO buildO litO litC makeO chunks
attribute [local simp] fillV placeOf thenA inBlockA St.get St.put St.eval ofCell evalT abin_add abin_sub abin_mul
attribute [local simp] abin_quo abin_rem abin_and abin_or abin_xor abin_andNot abin_shl abin_shr abin_shlu abin_eql abin_neq abin_lss
attribute [local simp] abin_leq abin_gtr abin_geq abin_eqlb abin_neqb aun pickV lenV intOf? indexV takeD takeV
attribute [local simp] loadV fieldAddrV fieldV ofX presD presDs pres presAll cellsV V.cell storeV freezeC
attribute [local simp] putAt kill takeC plains plainV scalarV nat_neg keepT sets eSl e1 e2
attribute [local simp] e3 e4 eInt eBool afterCall inst inst1 inst1s instD instDs RetA resVs
attribute [local simp] resV gives give1 give1s Le isPin leSlots leS leTmps leV le0 le0s
attribute [local simp] ren ren0 renS ren0s frame enterT afterT_some afterC_some lives Slot.live arrsOk viewV
attribute [local simp] view0 renT rens renSs setAll List.range'_succ RetT RetW joinV leT AOpsE_nil AOpsE_cons
attribute [local simp] AOpsT_nil AOpsT_cons isCallT callOf condC_true condC_false beginT_mk thenT_mk pickE pickT isT loose
attribute [local simp] namesOf namesV names1 names0 stableN sameAt Op.operands Call.operands
abbrev ibools (s : List Bool) : X := .d (eSl 4 (e1 eBool) s)
set_option maxRecDepth 100000 in
theorem iClauseTrue_con (cl : List Int) (a : List Bool) (hc : cl.length ≤ 1048576) (ha : a.length ≤ 1048576) (hl : ∀ l ∈ cl, litIn a.length l) : ConC Try.prog 17 [ints cl, ibools a] (.d (.bool (clauseTrueL a cl))) := by
  generalize hF : clauseTrueL a cl = F
  unfold clauseTrueL at hF
  refine con_of (by kernel_rfl) Try.func17 rfl rfl rfl ?_
  simp
  refine aw_loopU [false, true, false, false, false, false, false, true, true, true, false, false, false, false, false, false, false, false, false, false, false, false, false, false, false, false, false, false, false, false, false, false, false, false, false, false, false, false, false, false, false, false, false, false, false, false, false, false, false] (fun k : Nat => k ≤ cl.length ∧ (cl.drop k).any (litTrue a) = F) (fun k : Nat => [(9, .d (.int .i64 k))]) (fun k : Nat => []) (fun k : Nat => cl.length - k) 0 ?_ ?_ ?_
  · exact ⟨Nat.zero_le _, by simpa using hF⟩
  · exact ⟨[], by simp⟩
  rintro I S μ hI hS hμ k ⟨hk, hG⟩
  by_cases hlt : k < cl.length
  · have hx1 : cl[k]? = some cl[k] := List.getElem?_eq_getElem hlt
    have hd : decide (k < cl.length) = true := decide_eq_true hlt
    have w1 : IntKind.i64.wrap ((k : Int) + 1) = (k : Int) + 1 := wrap_id (by omega) (by omega)
    have wn : IntKind.i64.wrap (-(a.length : Int)) = -(a.length : Int) := wrap_id (by omega) (by omega)
    rw [any_at hx1] at hG
    have hli := hl _ (List.getElem_mem hlt)
    generalize cl[k] = x at *
    simp [hd, hx1, -AOp_assign]
    rw [AOp_assign, AOps_nil]
    rw [thenA]
    rw [AWp_seq]
    rw [AWp_region_f]
    generalize hK : thenA _ _ = K
    rcases lit_cases hli with ⟨m, hm, e⟩ | ⟨m, hm, e⟩
    · have hb : a[m]? = some a[m] := List.getElem?_eq_getElem hm
      have hv := litTrue_pos hb
      rw [← e] at hv
      rw [hv] at hG
      generalize a[m] = b at *
      have w2 : IntKind.i64.wrap (x - 1) = (m : Int) := by rw [wrap_id (by omega) (by omega)]; omega
      have q1 : decide (0 < x) = true := decide_eq_true (by omega)
      have q2 : decide (x ≤ (a.length : Int)) = true := decide_eq_true (by omega)
      have q3 : decide (x < 0) = false := decide_eq_false (by omega)
      have q4 : 0 < x := by omega
      have q5 : ¬ x < 0 := by omega
      have q6 : x ≤ (a.length : Int) := by omega
      cases b with
      | true =>
        simp only [Bool.true_or] at hG
        subst hG
        simp [hd, hx1, q1, q2, q3, q4, q5, q6, w2, hb]
        subst hK
        simp [hd, hx1, q1, q2, q3, q4, q5, q6, w2, hb]
      | false =>
        simp only [Bool.false_or] at hG
        simp [hd, hx1, q1, q2, q3, q4, q5, q6, w2, hb, w1]
        subst hK
        simp [hd, hx1, q1, q2, q3, q4, q5, q6, w2, hb, w1]
        exact round_of hI hS hμ (k + 1) ⟨by omega, hG⟩ (by omega) ⟨[], by simp⟩
    · have hb : a[m]? = some a[m] := List.getElem?_eq_getElem hm
      have hv := litTrue_neg hb
      rw [← e] at hv
      rw [hv] at hG
      generalize a[m] = b at *
      have w2 : IntKind.i64.wrap (-x) = (m : Int) + 1 := by rw [wrap_id (by omega) (by omega)]; omega
      have w3 : IntKind.i64.wrap (m : Int) = (m : Int) := wrap_id (by omega) (by omega)
      have q1 : decide (0 < x) = false := decide_eq_false (by omega)
      have q2 : decide (-(a.length : Int) ≤ x) = true := decide_eq_true (by omega)
      have q3 : decide (x < 0) = true := decide_eq_true (by omega)
      have q4 : ¬ 0 < x := by omega
      have q5 : x < 0 := by omega
      have q6 : -(a.length : Int) ≤ x := by omega
      cases b with
      | true =>
        simp only [Bool.not_true, Bool.false_or] at hG
        simp [hd, hx1, q1, q2, q3, q4, q5, q6, w2, w3, hb, w1, wn]
        subst hK
        simp [hd, hx1, q1, q2, q3, q4, q5, q6, w2, w3, hb, w1, wn]
        exact round_of hI hS hμ (k + 1) ⟨by omega, hG⟩ (by omega) ⟨[], by simp⟩
      | false =>
        simp only [Bool.not_false, Bool.true_or] at hG
        subst hG
        simp [hd, hx1, q1, q2, q3, q4, q5, q6, w2, w3, hb, wn]
        subst hK
        simp [hd, hx1, q1, q2, q3, q4, q5, q6, w2, w3, hb, wn]
  · obtain rfl : k = cl.length := by omega
    rw [List.drop_length, List.any_nil] at hG
    subst hG
    simp [decide_eq_false hlt, hlt]
set_option maxRecDepth 100000 in
theorem iCnfTrue_con (x : CnfD) (a : List Bool) (hx : fitCn 1048576 x) (ha : a.length ≤ 1048576) : ConC Try.prog 27 [icnf x, ibools a] (.d (.bool (cnfTrueL x.1 x.2 a))) := by
  obtain ⟨v, cls⟩ := x
  obtain ⟨hx1', hx2⟩ := id hx
  simp only at hx1' hx2
  generalize hF : cnfTrueL v cls a = F
  unfold cnfTrueL at hF
  refine con_of (by kernel_rfl) Try.func27 rfl rfl rfl ?_
  simp [enCnf]
  refine call_step (iCnfOk_con (v, cls) hx) ?_
  simp
  cases hok : cnfOkL v cls with
  | false =>
    rw [hok] at hF
    simp only [Bool.false_and] at hF
    subst hF
    simp [hok]
  | true =>
  rw [hok] at hF
  simp only [Bool.true_and] at hF
  by_cases hav : (a.length : Int) = v
  case neg =>
    rw [decide_eq_false hav] at hF
    simp only [Bool.false_and] at hF
    subst hF
    simp [hok, hav, show ((a.length : Int) != v) = true by simpa using hav]
  subst hav
  simp only [decide_true, Bool.true_and] at hF
  have hci := cnfOk_clauses hok
  simp [hok]
  refine aw_loopU [false, true, false, false, false, false, false, false, false, false, false, false, false, false, false, false, false, false, true, true, true, false, false, false, false, false, false, false, false] (fun k : Nat => k ≤ cls.length ∧ (cls.drop k).all (clauseTrueL a) = F) (fun k : Nat => [(20, .d (.int .i64 k))]) (fun k : Nat => []) (fun k : Nat => cls.length - k) 0 ?_ ?_ ?_
  · exact ⟨Nat.zero_le _, by simpa using hF⟩
  · exact ⟨[0], by simp⟩
  rintro I S μ hI hS hμ k ⟨hk, hG⟩
  by_cases hlt : k < cls.length
  · have hx1 : cls[k]? = some cls[k] := List.getElem?_eq_getElem hlt
    have hd : decide (k < cls.length) = true := decide_eq_true hlt
    have w1 : IntKind.i64.wrap ((k : Int) + 1) = (k : Int) + 1 := wrap_id (by omega) (by omega)
    rw [all_at hx1] at hG
    have hc1 := hx2 _ (List.getElem_mem hlt)
    have hc2 := hci _ (List.getElem_mem hlt)
    generalize cls[k] = c at *
    have hL : (enRow c).length = 1 := rfl
    have hct := iClauseTrue_con c a hc1 ha hc2
    generalize clauseTrueL a c = b at *
    simp [hd, hx1, hL, enRow]
    refine call_step (hct) ?_
    simp
    cases b with
    | false =>
      simp only [Bool.false_and] at hG
      subst hG
      simp
    | true =>
      simp only [Bool.true_and] at hG
      simp [w1]
      exact round_of hI hS hμ (k + 1) ⟨by omega, hG⟩ (by omega) ⟨[0], by simp⟩
  · obtain rfl : k = cls.length := by omega
    rw [List.drop_length, List.all_nil] at hG
    subst hG
    simp [decide_eq_false hlt, hlt]
end Go.Proofs.Ytbmapbbjbdpbcaa
