/-
  What follows by propagation: both sides.
  Conditions: those typed in each theorem.
-/
import Derived.Test.YtoppcdccplgalaaQb
import Derived.Test.YtoppcdccplgalaaQc
namespace Go.Proofs.Ytoppcdccplgalaa
open Go.RowKit Go.ChangeShapes Go.WideShapes
set_option linter.unusedVariables false
set_option linter.unusedSimpArgs false
attribute [local simp ↓] condG_true condG_false condB_true condB_false
attribute [local simp] AWp_skip AWp_region_t AWp_region_d AWp_region_f still_mk AWp_seq AWp_cond condV_bool condB AWp_block AWp_exit AWp_ret
attribute [local simp] AOps_nil AOp_move AOp_assign AOp_pick AOp_binOp AOp_unOp AOp_convert AOp_len AOp_max AOp_min AOp_indexAddr AOp_load
attribute [local simp] AOp_fieldAddr AOp_field AOp_extract AOp_nilCheck AOp_build AOp_alloc AOp_box AOp_call AOp_store AOp_append AOp_buildSlice nextB_some
attribute [local simp] nextB_none adoptO adoptC AOp_makeSlice AOp_slice AOp_makeFunc AOp_guard guardD_some guardG_bool guardG_undef nextO_some nextS_some
attribute [local simp] nextZ_some nextL_some nextM_some nextT_some sliceO sliceL sliceT partO partV boundV funcO pickO
attribute [local simp] convO lenO maxO minO idxO extO nilO buildO litO litC makeO chunks
attribute [local simp] fillV placeOf thenA inBlockA St.get St.put St.eval ofCell evalT abin_add abin_sub abin_mul
attribute [local simp] abin_quo abin_rem abin_and abin_or abin_xor abin_andNot abin_shl abin_shr abin_shlu abin_eql abin_eqp abin_neq
attribute [local simp] abin_lss abin_leq abin_gtr abin_geq abin_eqlb abin_neqb aun pickV lenV intOf? indexV takeD
attribute [local simp] takeV loadV fieldAddrV fieldV ofX presD presDs pres presAll cellsV V.cell storeV
attribute [local simp] freezeC putAt kill takeC plains plainV scalarV nat_neg keepT sets eSl e1
attribute [local simp] e2 e3 e4 eInt eBool afterCall inst inst1 inst1s instD instDs RetA
attribute [local simp] resVs resV gives give1 give1s Le isPin leSlots leS leTmps leV le0
attribute [local simp] le0s ren ren0 renS ren0s frame enterT afterT_some afterC_some lives Slot.live arrsOk
attribute [local simp] viewV view0 renT rens renSs setAll List.range'_succ RetT RetW joinV leT AOpsE_nil
attribute [local simp] AOpsE_cons AOpsT_nil AOpsT_cons isCallT callOf condC_true condC_false beginT_mk thenT_mk pickE pickT isT
attribute [local simp] loose namesOf namesV names1 names0 stableN sameAt Op.operands Call.operands
set_option maxRecDepth 100000 in
set_option maxHeartbeats 1000000 in
theorem iCons_con (cls : List RowD) (v : Nat) (cl : List Int) (hv : v ≤ 400) (hc : fitRw 1048576 cls) (hcl : clausesIn v cls) (hl : cl.length ≤ 1048576) (hli : ∀ l ∈ cl, litIn v l) : ConC Try.prog 196 [icnf (v, cls), ints cl] (.d (.bool (followsL v cls cl))) := by
  generalize hF : followsL v cls cl = F
  unfold followsL at hF
  refine con_of (by kernel_rfl) Try.func196 rfl rfl rfl ?_
  simp [enCnf, show (v : Int) ≤ 1099511627776 by omega]
  refine aw_loopU [false, false, true, false, false, true, false, false, false, false, false, false, false, true, true, true, false, false, false, false, false, false, false, false, false, false, false, false, false, false, false, false, false, false, false, false, false, false, false, false, false, false, false, false] (fun i : Nat × List Int => i.1 ≤ cl.length ∧ i.2.length = v ∧ trits i.2 ∧ negGo (cl.drop i.1) i.2 = negGo cl (List.replicate v 0)) (fun i : Nat × List Int => [(15, .d (.int .i64 i.1))]) (fun i : Nat × List Int => [(1, .arr 3 true (i.2.map (e1 eInt)))]) (fun i : Nat × List Int => cl.length - i.1) (0, List.replicate v 0) ?_ ?_ ?_
  · exact ⟨by omega, by simp, trits_rep v, rfl⟩
  · exact ⟨[0, 1], by simp⟩
  rintro I S μ hI hS hμ ⟨k, q⟩ ⟨hk, hq, hqt, hn⟩
  simp only at hk hq hqt hn
  have hd : decide (k < cl.length) = decide (k < cl.length) := rfl
  by_cases hlt : k < cl.length
  · have hx1 : cl[k]? = some cl[k] := List.getElem?_eq_getElem hlt
    have w2 : IntKind.i64.wrap ((k : Int) + 1) = (k : Int) + 1 := wrap_id (by omega) (by omega)
    have hd : decide (k < cl.length) = true := decide_eq_true hlt
    rw [negGo_at hx1] at hn
    have hlx := hli cl[k] (List.getElem_mem _)
    generalize cl[k] = y at *
    simp [hd, hx1]
    refine call_step (iVal_con q y (by omega) hqt (by rw [hq]; exact hlx)) ?_
    simp
    by_cases hv1 : valOf q y = 1
    · rw [if_pos hv1] at hn
      rw [← hn] at hF
      simp only at hF
      simp [hv1, ← hF]
    rw [if_neg hv1] at hn
    have hv1' : (valOf q y == 1) = false := by simpa using hv1
    have hts := trits_setLit hqt (-y)
    have hls := setLit_len q (-y)
    rcases lit_cases hlx with ⟨m, hm, e⟩ | ⟨m, hm, e⟩
    · have hse : setLit q (-y) = q.set m (-1) := by rw [e]; exact setLit_n1 q m
      rw [hse] at hn hts hls
      have hg := getD_some (p := q) (m := m) (by omega)
      have w3 : IntKind.i64.wrap (y - 1) = (m : Int) := by rw [wrap_id (by omega) (by omega)]; omega
      have hset := map_setI (q := q) (m := m) (v := -1)
      generalize q.set m (-1) = q3 at *
      generalize q.getD m 0 = z0 at hg
      simp [hv1, hv1', show 0 < y by omega, show ¬ y ≤ 0 by omega, w3, hg, hset, w2]
      exact round_of hI hS hμ (k + 1, q3) ⟨by simp; omega, by simp; omega, hts, hn⟩ (by simp; omega) ⟨[0, 1], by simp⟩
    · have hse : setLit q (-y) = q.set m 1 := by rw [e]; exact setLit_n2 q m
      rw [hse] at hn hts hls
      have hg := getD_some (p := q) (m := m) (by omega)
      have w3 : IntKind.i64.wrap (-y) = (m : Int) + 1 := by rw [wrap_id (by omega) (by omega)]; omega
      have w4 : IntKind.i64.wrap (m : Int) = (m : Int) := wrap_id (by omega) (by omega)
      have hset := map_setI (q := q) (m := m) (v := 1)
      generalize q.set m 1 = q3 at *
      generalize q.getD m 0 = z0 at hg
      simp [hv1, hv1', show ¬ 0 < y by omega, show y ≤ 0 by omega, w3, w4, hg, hset, w2]
      exact round_of hI hS hμ (k + 1, q3) ⟨by simp; omega, by simp; omega, hts, hn⟩ (by simp; omega) ⟨[0, 1], by simp⟩
  · have hk' : k = cl.length := by omega
    subst hk'
    rw [List.drop_length, negGo] at hn
    rw [← hn] at hF
    simp only at hF
    simp [hlt, decide_eq_false hlt]
    have hP := iProp_con cls q _ rfl hc (by omega) hqt (by rw [hq]; exact hcl)
    generalize propL cls q = R at *
    refine call_step (hP) ?_
    simp [hF]
set_option maxRecDepth 100000 in
set_option maxHeartbeats 1000000 in
theorem sCons_con (cls : List RowD) (v : Nat) (cl : List Int) (hv : v ≤ 400) (hc : fitRw 1048576 cls) (hcl : clausesIn v cls) (hl : cl.length ≤ 1048576) (hli : ∀ l ∈ cl, litIn v l) : ConC Try.prog 194 [.d (.int .i64 v), irows cls, ints cl] (.d (.bool (followsL v cls cl))) := by
  generalize hF : followsL v cls cl = F
  unfold followsL at hF
  refine con_of (by kernel_rfl) Try.func194 rfl rfl rfl ?_
  simp [enCnf, show (v : Int) ≤ 1099511627776 by omega]
  refine aw_loopU [false, true, true, false, false, false, false, true, true, false, false, false, false, false, false, false, false, false, false, false, false, false, false, false, false, false, false, false, false, false, false, false, false, false, false, false, false, false, false, false, false, false, false, false, false, false, false] (fun i : Nat × List Int => i.1 ≤ cl.length ∧ i.2.length = v ∧ trits i.2 ∧ negGo (cl.drop i.1) i.2 = negGo cl (List.replicate v 0)) (fun i : Nat × List Int => [(8, .d (.int .i64 i.1))]) (fun i : Nat × List Int => [(0, .arr 3 true (i.2.map (e1 eInt)))]) (fun i : Nat × List Int => cl.length - i.1) (0, List.replicate v 0) ?_ ?_ ?_
  · exact ⟨by omega, by simp, trits_rep v, rfl⟩
  · exact ⟨[0], by simp⟩
  rintro I S μ hI hS hμ ⟨k, q⟩ ⟨hk, hq, hqt, hn⟩
  simp only at hk hq hqt hn
  have hd : decide (k < cl.length) = decide (k < cl.length) := rfl
  by_cases hlt : k < cl.length
  · have hx1 : cl[k]? = some cl[k] := List.getElem?_eq_getElem hlt
    have w2 : IntKind.i64.wrap ((k : Int) + 1) = (k : Int) + 1 := wrap_id (by omega) (by omega)
    have hd : decide (k < cl.length) = true := decide_eq_true hlt
    rw [negGo_at hx1] at hn
    have hlx := hli cl[k] (List.getElem_mem _)
    generalize cl[k] = y at *
    simp [hd, hx1]
    refine call_step (sVal_con q y (by omega) hqt (by rw [hq]; exact hlx)) ?_
    simp
    by_cases hv1 : valOf q y = 1
    · rw [if_pos hv1] at hn
      rw [← hn] at hF
      simp only at hF
      simp [hv1, ← hF]
    rw [if_neg hv1] at hn
    have hv1' : (valOf q y == 1) = false := by simpa using hv1
    have hts := trits_setLit hqt (-y)
    have hls := setLit_len q (-y)
    rcases lit_cases hlx with ⟨m, hm, e⟩ | ⟨m, hm, e⟩
    · have hse : setLit q (-y) = q.set m (-1) := by rw [e]; exact setLit_n1 q m
      rw [hse] at hn hts hls
      have hg := getD_some (p := q) (m := m) (by omega)
      have w3 : IntKind.i64.wrap (y - 1) = (m : Int) := by rw [wrap_id (by omega) (by omega)]; omega
      have hset := map_setI (q := q) (m := m) (v := -1)
      generalize q.set m (-1) = q3 at *
      generalize q.getD m 0 = z0 at hg
      simp [hv1, hv1', show 0 < y by omega, show ¬ y ≤ 0 by omega, w3, hg, hset, w2]
      exact round_of hI hS hμ (k + 1, q3) ⟨by simp; omega, by simp; omega, hts, hn⟩ (by simp; omega) ⟨[0], by simp⟩
    · have hse : setLit q (-y) = q.set m 1 := by rw [e]; exact setLit_n2 q m
      rw [hse] at hn hts hls
      have hg := getD_some (p := q) (m := m) (by omega)
      have w3 : IntKind.i64.wrap (-y) = (m : Int) + 1 := by rw [wrap_id (by omega) (by omega)]; omega
      have w4 : IntKind.i64.wrap (m : Int) = (m : Int) := wrap_id (by omega) (by omega)
      have hset := map_setI (q := q) (m := m) (v := 1)
      generalize q.set m 1 = q3 at *
      generalize q.getD m 0 = z0 at hg
      simp [hv1, hv1', show ¬ 0 < y by omega, show y ≤ 0 by omega, w3, w4, hg, hset, w2]
      exact round_of hI hS hμ (k + 1, q3) ⟨by simp; omega, by simp; omega, hts, hn⟩ (by simp; omega) ⟨[0], by simp⟩
  · have hk' : k = cl.length := by omega
    subst hk'
    rw [List.drop_length, negGo] at hn
    rw [← hn] at hF
    simp only at hF
    simp [hlt, decide_eq_false hlt]
    have hP := sRun_con cls q _ rfl hc (by omega) hqt (by rw [hq]; exact hcl)
    generalize propL cls q = R at *
    refine call_step (hP) ?_
    simp [hF]
end Go.Proofs.Ytoppcdccplgalaa
