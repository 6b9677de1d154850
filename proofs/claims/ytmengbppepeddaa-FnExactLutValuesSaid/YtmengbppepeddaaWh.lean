/-
  Steps of sequential elements and states, by abstract walks.
  Conditions: those typed in each theorem.
-/
import Derived.Test.YtmengbppepeddaaWg
import Derived.Test.YtmengbppepeddaaNs
namespace Go.Proofs.Ytmengbppepeddaa
open Go.RowKit Go.ChangeShapes Go.WideShapes
set_option linter.unusedVariables false
set_option linter.unusedSimpArgs false
attribute [local simp ↓] condG_true condG_false condB_true condB_false
attribute [local simp] AWp_skip AWp_region_t AWp_region_f still_mk AWp_seq AWp_cond condV_bool condB AWp_block AWp_exit AWp_ret AOps_nil
attribute [local simp] AOp_move AOp_assign AOp_pick AOp_binOp AOp_unOp AOp_convert AOp_len AOp_max AOp_min AOp_indexAddr AOp_load AOp_fieldAddr
attribute [local simp] AOp_field AOp_extract AOp_nilCheck AOp_build AOp_alloc AOp_box AOp_call AOp_store AOp_append AOp_buildSlice AOp_makeSlice AOp_slice
attribute [local simp] AOp_makeFunc AOp_guard guardD_some guardG_bool guardG_undef nextO_some nextS_some nextZ_some nextL_some nextM_some nextT_some sliceO
attribute [local simp] sliceL sliceT partO partV boundV funcO pickO convO lenO maxO minO idxO
attribute [local simp] extO nilO buildO litO litC makeO chunks fillV placeOf thenA inBlockA St.get
attribute [local simp] St.put St.eval ofCell evalT abin_add abin_sub abin_mul abin_quo abin_rem abin_and abin_or abin_xor
attribute [local simp] abin_andNot abin_shl abin_shr abin_shlu abin_eql abin_neq abin_lss abin_leq abin_gtr abin_geq abin_eqlb abin_neqb
attribute [local simp] aun pickV lenV intOf? indexV takeD takeV loadV fieldAddrV fieldV ofX presD
attribute [local simp] presDs pres presAll cellsV V.cell storeV freezeC putAt kill takeC plains plainV
attribute [local simp] scalarV nat_neg keepT sets eSl e1 e2 e3 e4 eInt eBool afterCall
attribute [local simp] inst inst1 inst1s instD instDs RetA resVs resV gives give1 give1s Le
attribute [local simp] isPin leSlots leS leTmps leV le0 le0s ren ren0 renS ren0s frame
attribute [local simp] enterT afterT_some lives Slot.live arrsOk viewV view0 renT rens renSs setAll List.range'_succ
attribute [local simp] RetT RetW joinV leT
/-- The states of sequential elements are in their ranges. -/
def stateOkB (x : NetD) (st : List Int) : Bool := lutNetOkB x && decide (st.length = x.2.1.length) && (st.zip x.2.1).all fun p => rng p.1 0 (seqMostL p.2.1)
theorem iStateOk_con (x : NetD) (st : List Int) (hx : fitNet 1048576 x) (hs : st.length ≤ 1048576) : ConC Try.prog 21 [inet x, .d (eSl 3 (e1 eInt) st)] (.d (.bool (stateOkB x st))) := by
  refine con_of (by kernel_rfl) Try.func21 rfl rfl rfl ?_
  simp [enNet]
  refine call_step (iLutNetOk_con x hx) ?_
  simp
  rcases Bool.eq_false_or_eq_true (lutNetOkB x) with hok | hok
  case inr => simp [hok, stateOkB]
  by_cases hl : st.length = x.2.1.length
  case neg =>
    have hl' : ((st.length : Int) != x.2.1.length) = true := by simp; omega
    have hl2 : ¬ (st.length : Int) = x.2.1.length := by omega
    simp [hok, hl', hl2, stateOkB, hl]
  simp [hok, hl]
  refine aw_loopU [false, false, true, false, false, false, false, false, false, false, false, false, false, false, false, false, false, false, true, true, true, false, false, false, false, false, false, false, false, false, false, false, false, false, false, false] (fun k : Nat => k ≤ st.length ∧ ((st.zip x.2.1).take k).all (fun p => rng p.1 0 (seqMostL p.2.1)) = true) (fun k : Nat => [(20, .d (.int .i64 k))]) (fun k : Nat => []) (fun k : Nat => st.length - k) 0 ?_ ?_ ?_
  · simp
  · exact ⟨[0], by simp⟩
  rintro I S μ hI hS hμ k ⟨hk, ha⟩
  by_cases hlt : k < st.length
  · have hx1 : st[k]? = some st[k] := List.getElem?_eq_getElem hlt
    have hx2 : x.2.1[k]? = some (x.2.1[k]'(by omega)) := List.getElem?_eq_getElem _
    have hL : (enSeq (x.2.1[k]'(by omega))).length = 3 := rfl
    have w2 : IntKind.i64.wrap ((k : Int) + 1) = (k : Int) + 1 := wrap_id (by omega) (by omega)
    have hz : (st.zip x.2.1)[k]? = some (st[k], x.2.1[k]'(by omega)) := by simp [List.getElem?_zip_eq_some]
    generalize st[k] = v at *
    generalize x.2.1[k]'(by omega) = s at *
    have hd : decide (k < x.2.1.length) = true := decide_eq_true (by omega)
    have hd1 : decide (k < st.length) = true := decide_eq_true (by omega)
    simp [hd, hx1, hx2, hL, enSeq]
    refine call_step (seqMost_con s.1) ?_
    simp
    refine call_step (inr_con _ _ _) ?_
    simp
    rcases Bool.eq_false_or_eq_true (rng v 0 (seqMostL s.1)) with hr | hr
    · simp [hr, w2]
      exact round_of hI hS hμ (k + 1) ⟨by omega, by rw [all_snoc' hz, ha]; simp [hr]⟩ (by omega) ⟨[0], by simp⟩
    · simp [hr, stateOkB, all_not' (p := fun p : Int × SeqD => rng p.1 0 (seqMostL p.2.1)) hz hr]
  · have hk' : k = st.length := by omega
    subst hk'
    rw [List.take_of_length_le (by rw [List.length_zip]; omega)] at ha
    simp [hlt, stateOkB, ha, hok, hl, show ¬ st.length < x.2.1.length by omega]
theorem sStateOk_con (x : NetD) (st : List Int) (hx : fitNet 1048576 x) (hs : st.length ≤ 1048576) : ConC Try.prog 19 [inet x, .d (eSl 3 (e1 eInt) st)] (.d (.bool (stateOkB x st))) := by
  refine con_of (by kernel_rfl) Try.func19 rfl rfl rfl ?_
  simp [enNet]
  refine call_step (sLutNetOk_con x hx) ?_
  simp
  rcases Bool.eq_false_or_eq_true (lutNetOkB x) with hok | hok
  case inr => simp [hok, stateOkB]
  by_cases hl : st.length = x.2.1.length
  case neg =>
    have hl' : ((st.length : Int) != x.2.1.length) = true := by simp; omega
    have hl2 : ¬ (st.length : Int) = x.2.1.length := by omega
    simp [hok, hl', hl2, stateOkB, hl]
  simp [hok, hl]
  refine aw_loopU [false, true, true, false, false, true, false, false, false, false, false, false, false, false, false, false, false, false, false, false, false, false, false, false, false, false, false, false, false, false, false, false, false, false, false] (fun k : Nat => k ≤ st.length ∧ ((st.zip x.2.1).take k).all (fun p => rng p.1 0 (seqMostL p.2.1)) = true) (fun k : Nat => [(5, .d (.int .i64 k))]) (fun k : Nat => []) (fun k : Nat => st.length - k) 0 ?_ ?_ ?_
  · simp
  · exact ⟨[0], by simp⟩
  rintro I S μ hI hS hμ k ⟨hk, ha⟩
  by_cases hlt : k < st.length
  · have hx1 : st[k]? = some st[k] := List.getElem?_eq_getElem hlt
    have hx2 : x.2.1[k]? = some (x.2.1[k]'(by omega)) := List.getElem?_eq_getElem _
    have hL : (enSeq (x.2.1[k]'(by omega))).length = 3 := rfl
    have w2 : IntKind.i64.wrap ((k : Int) + 1) = (k : Int) + 1 := wrap_id (by omega) (by omega)
    have hz : (st.zip x.2.1)[k]? = some (st[k], x.2.1[k]'(by omega)) := by simp [List.getElem?_zip_eq_some]
    generalize st[k] = v at *
    generalize x.2.1[k]'(by omega) = s at *
    have hd : decide (k < x.2.1.length) = true := decide_eq_true (by omega)
    have hd1 : decide (k < st.length) = true := decide_eq_true (by omega)
    have hn := seqNext_neg (k := s.1) (v := v) (i := 0)
    simp [hd, hd1, hx1, hx2, hL, enSeq]
    refine ⟨by kernel_rfl, ?_⟩
    refine call_step (sSeqNext_con _ _ _) ?_
    simp
    rcases Bool.eq_false_or_eq_true (rng v 0 (seqMostL s.1)) with hr | hr
    · have hn' : decide (seqNextL s.1 v 0 < 0) = false := by rw [decide_eq_false_iff_not, hn, hr]; simp
      have hn2 : 0 ≤ seqNextL s.1 v 0 := by simpa using hn'
      have hn3 : (seqNextL s.1 v 0 < 0) = False := eq_false (by omega)
      simp [hn', hn2, hn3, w2]
      exact round_of hI hS hμ (k + 1) ⟨by omega, by rw [all_snoc' hz, ha]; simp [hr]⟩ (by omega) ⟨[0], by simp⟩
    · have hn' : seqNextL s.1 v 0 < 0 := by rw [hn, hr]
      have hn3 : (0 ≤ seqNextL s.1 v 0) = False := eq_false (by omega)
      simp [hn', hn3, stateOkB, all_not' (p := fun p : Int × SeqD => rng p.1 0 (seqMostL p.2.1)) hz hr, show ¬ 0 ≤ seqNextL s.1 v 0 by omega]
  · have hk' : k = st.length := by omega
    subst hk'
    rw [List.take_of_length_le (by rw [List.length_zip]; omega)] at ha
    simp [hlt, stateOkB, ha, hok, hl, show ¬ st.length < x.2.1.length by omega]
end Go.Proofs.Ytmengbppepeddaa
