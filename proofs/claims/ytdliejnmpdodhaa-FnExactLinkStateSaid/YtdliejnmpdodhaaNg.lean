/-
  States and root values of a graph, by abstract walks.
  Conditions: those typed in each theorem.
-/
import Derived.Test.YtdliejnmpdodhaaNz
namespace Go.Proofs.Ytdliejnmpdodhaa
open Go.RowKit Go.ChangeShapes Go.WideShapes
set_option linter.unusedVariables false
set_option linter.unusedSimpArgs false
attribute [local simp ↓] condG_true condG_false condB_true condB_false
attribute [local simp] AWp_skip AWp_region_t AWp_region_f still_mk AWp_seq AWp_cond condV_bool condB AWp_block AWp_exit AWp_ret AOps_nil
attribute [local simp] AOp_move AOp_assign AOp_pick AOp_binOp AOp_unOp AOp_convert AOp_len AOp_max AOp_min AOp_indexAddr AOp_load AOp_fieldAddr
attribute [local simp] AOp_field AOp_extract AOp_nilCheck AOp_build AOp_alloc AOp_box AOp_call AOp_store AOp_append AOp_buildSlice AOp_makeSlice AOp_slice
attribute [local simp] AOp_makeFunc AOp_guard guardD_some guardG_bool guardG_undef nextO_some nextS_some nextZ_some nextL_some nextM_some nextT_some sliceO
attribute [local simp] sliceL sliceT partO partV boundV funcO pickO convO lenO maxO minO idxO
attribute [local simp] extO nilO buildO litO litC makeO chunks fillV placeOf thenA inBlockA St.get
attribute [local simp] St.put St.eval ofCell evalT abin_add abin_sub abin_mul abin_quo abin_rem abin_and abin_or abin_xor
attribute [local simp] abin_andNot abin_shl abin_shr abin_shlu abin_eql abin_neq abin_lss abin_leq abin_gtr abin_geq abin_eqlb abin_neqb
attribute [local simp] aun pickV lenV intOf? indexV takeD takeV loadV fieldAddrV fieldV ofX presD
attribute [local simp] presDs pres presAll cellsV V.cell storeV freezeC putAt kill takeC plains plainV
attribute [local simp] scalarV nat_neg keepT sets eSl e1 e2 e3 e4 eInt eBool afterCall
attribute [local simp] inst inst1 inst1s instD instDs RetA resVs resV gives give1 give1s Le
attribute [local simp] isPin leSlots leS leTmps leV le0 le0s ren ren0 renS ren0s frame
attribute [local simp] enterT afterT_some lives Slot.live arrsOk viewV view0 renT rens renSs setAll List.range'_succ
attribute [local simp] RetT RetW joinV leT
theorem iStateOkG_con (x : GrD) (st : List Int) (hx : fitGr 1048576 x) (hs : st.length ≤ 1048576) : ConC Try.prog 88 [igr x, ints st] (.d (.bool (stOkGB x st))) := by
  refine con_of (by kernel_rfl) Try.func88 rfl rfl rfl ?_
  simp [enGr]
  refine call_step (iNetOk_con x hx) ?_
  simp
  rcases Bool.eq_false_or_eq_true (netOkB x) with hok | hok
  case inr => simp [hok, stOkGB]
  by_cases hl : st.length = x.2.1.length
  case neg =>
    have hl' : ((st.length : Int) != x.2.1.length) = true := by simp; omega
    have hl2 : ¬ (st.length : Int) = x.2.1.length := by omega
    simp [hok, hl', hl2, stOkGB, hl]
  simp [hok, hl]
  refine aw_loopU [false, false, true, false, false, false, false, false, false, false, false, false, false, false, false, false, false, false, true, true, true, false, false, false, false, false, false, false, false, false, false, false, false, false, false, false] (fun k : Nat => k ≤ st.length ∧ ((st.zip x.2.1).take k).all (fun p => rng p.1 0 (seqMostL p.2.1)) = true) (fun k : Nat => [(20, .d (.int .i64 k))]) (fun k : Nat => []) (fun k : Nat => st.length - k) 0 ?_ ?_ ?_
  · simp
  · exact ⟨[0], by simp⟩
  rintro I S μ hI hS hμ k ⟨hk, ha⟩
  by_cases hlt : k < st.length
  · have hx1 : st[k]? = some st[k] := List.getElem?_eq_getElem hlt
    have hx2 : x.2.1[k]? = some (x.2.1[k]'(by omega)) := List.getElem?_eq_getElem _
    have hL : (enSeq (x.2.1[k]'(by omega))).length = 3 := rfl
    have w2 : IntKind.i64.wrap ((k : Int) + 1) = (k : Int) + 1 := wrap_id (by omega) (by omega)
    have hz : (st.zip x.2.1)[k]? = some (st[k], x.2.1[k]'(by omega)) := by simp [List.getElem?_zip_eq_some]
    generalize st[k] = v at *
    generalize x.2.1[k]'(by omega) = s at *
    have hd : decide (k < x.2.1.length) = true := decide_eq_true (by omega)
    have hd1 : decide (k < st.length) = true := decide_eq_true (by omega)
    simp [hd, hx1, hx2, hL, enSeq]
    refine call_step (seqMost_con s.1) ?_
    simp
    refine call_step (inr_con _ _ _) ?_
    simp
    rcases Bool.eq_false_or_eq_true (rng v 0 (seqMostL s.1)) with hr | hr
    · simp [hr, w2]
      exact round_of hI hS hμ (k + 1) ⟨by omega, by rw [all_snoc' hz, ha]; simp [hr]⟩ (by omega) ⟨[0], by simp⟩
    · simp [hr, stOkGB, all_not' (p := fun p : Int × SeqD => rng p.1 0 (seqMostL p.2.1)) hz hr]
  · have hk' : k = st.length := by omega
    subst hk'
    rw [List.take_of_length_le (by rw [List.length_zip]; omega)] at ha
    simp [hlt, stOkGB, ha, hok, hl, show ¬ st.length < x.2.1.length by omega]
def lkStL (a b : GrD) (ls : List LinkD) (st : List Int) : List Int := if linksOkB a b ls = true ∧ stOkGB a st = true then lkL ls st else []
theorem stOk_bits {x : GrD} {st : List Int} (h : flopsB x = true) (hs : stOkGB x st = true) : st.length = x.2.1.length ∧ bitsI st := by
  simp only [stOkGB, Bool.and_eq_true, decide_eq_true_eq] at hs
  obtain ⟨⟨_, h1⟩, h2⟩ := hs
  refine ⟨h1, fun v hv => ?_⟩
  obtain ⟨i, hi, rfl⟩ := List.mem_iff_getElem.1 hv
  have hz : (st[i], x.2.1[i]'(by omega)) ∈ st.zip x.2.1 := List.mem_iff_getElem.2 ⟨i, by simp; omega, by simp⟩
  have h3 := List.all_eq_true.1 h2 _ hz
  have h4 := flops_of h _ (List.of_mem_zip hz).2
  simp only [h4] at h3
  exact rng_iff.1 h3
theorem iLinkState_con (a b : GrD) (ls : List LinkD) (st : List Int) (ha : fitGr 1048576 a) (hb : fitGr 1048576 b) (hl : fitLk 1048576 ls) (hs : st.length ≤ 1048576) : ConC Try.prog 37 [igr a, igr b, ilk ls, ints st] (ints (lkStL a b ls st)) := by
  refine con_of (by kernel_rfl) Try.func37 rfl rfl rfl ?_
  simp [enGr]
  refine call_step (iLinksOk_con a b ls ha hb hl) ?_
  simp
  rcases Bool.eq_false_or_eq_true (linksOkB a b ls) with h1 | h1
  case inr => simp [h1, lkStL]
  simp [h1]
  refine call_step (iStateOkG_con a st ha hs) ?_
  simp
  rcases Bool.eq_false_or_eq_true (stOkGB a st) with h2 | h2
  case inr => simp [h2, lkStL]
  obtain ⟨oa, ob, fa, fb, ll, lin⟩ := linksOk_of h1
  obtain ⟨k1, k2⟩ := stOk_bits fa h2
  simp [h2, lkStL, h1]
  refine call_step (linkState_con ls st hl.1 hs k2 (lin _ k1)) ?_
  simp
theorem sLinkState_con (a b : GrD) (ls : List LinkD) (st : List Int) (ha : fitGr 1048576 a) (hb : fitGr 1048576 b) (hl : fitLk 1048576 ls) (ga : okGr a) (gb : okGr b) (hs : st.length ≤ 1048576) : ConC Try.prog 35 [igr a, igr b, ilk ls, ints st] (ints (lkStL a b ls st)) := by
  refine con_of (by kernel_rfl) Try.func35 rfl rfl rfl ?_
  simp [enGr]
  refine call_step (sLinksOk_con a b ls ha hb hl ga gb) ?_
  simp
  rcases Bool.eq_false_or_eq_true (linksOkB a b ls) with h1 | h1
  case inr => simp [h1, lkStL]
  simp [h1]
  refine call_step (sStateOkG_con a st ha ga hs) ?_
  simp
  rcases Bool.eq_false_or_eq_true (stOkGB a st) with h2 | h2
  case inr => simp [h2, lkStL]
  obtain ⟨oa, ob, fa, fb, ll, lin⟩ := linksOk_of h1
  obtain ⟨k1, k2⟩ := stOk_bits fa h2
  simp [h2, lkStL, h1]
  refine call_step (l25State_con ls st hl.1 hs k2 (lin _ k1)) ?_
  simp
def rootsV (x : GrD) (b : Int) : List Int := (grRoots x).map (litL (valsL x (stX x b) b))
def rootVL (x : GrD) (b : Int) : List Int := if netOkB x = true then rootsV x b else []
theorem roots_in {x : GrD} (hok : netOkB x = true) : ∀ y ∈ grRoots x, 0 ≤ y ∧ y < 2 * (grN x : Int) := (netOk_of hok).2.2.1
theorem rootsV_len {x : GrD} {b : Int} : (rootsV x b).length = (grRoots x).length := by simp [rootsV]
theorem stX_ok {x : GrD} {b : Int} (hok : netOkB x = true) : stOkGB x (stX x b) = true := by
  simp only [stOkGB, hok, stX_len, decide_true, Bool.true_and]
  refine List.all_eq_true.2 fun p hp => ?_
  have h1 := stX_bits p.1 (List.of_mem_zip hp).1
  have h2 := (netOk_of hok).2.1 p.2 (List.of_mem_zip hp).2
  refine rng_iff.2 ⟨h1.1, ?_⟩
  unfold seqOkB at h2
  unfold seqMostL
  split at h2
  · rename_i h; rw [if_pos h]; exact h1.2
  · rename_i h
    rw [if_neg h]
    split at h2
    · rename_i h; rw [if_pos h]; omega
    · cases h2
set_option maxRecDepth 100000 in
theorem iRootV_con (x : GrD) (b : Int) (hx : fitGr 1048576 x) : ConC Try.prog 20 [igr x, .d (.int .i64 b)] (ints (rootVL x b)) := by
  refine con_of (by kernel_rfl) Try.func20 rfl rfl rfl ?_
  simp [enGr]
  refine call_step (iNetOk_con x hx) ?_
  simp
  rcases Bool.eq_false_or_eq_true (netOkB x) with hok | hok
  case inr => simp [hok, rootVL]
  obtain ⟨⟨n1, n2, n3, n4, n5, n6⟩, o1, o2, o3⟩ := netOk_of hok
  simp [hok, rootVL]
  refine ⟨by omega, ?_⟩
  refine aw_loopU [false, true, true, false, false, true, false, false, false, false, false, false, false, false, false, false, false, false, false, true, true, false, false, false, false, false, false, false, false, false, false, false, false, false, false, false, false, false, false, false, false, false, false, false, false, false, false, false, false, false, false, false, false, false] (fun j : Nat => j ≤ x.2.1.length) (fun j : Nat => [(20, .d (.int .i64 j))]) (fun j : Nat => [(1, .arr 3 true (mix ((stX x b).map (e1 eInt)) [.int .i64 0] j))]) (fun j : Nat => x.2.1.length - j) 0 ?_ ?_ ?_
  · simp
  · exact ⟨[0, 1], by simp [mix_zero, stX_len]⟩
  rintro I2 S2 μ2 hI2 hS2 hμ2 j hj
  have hml := mix_len (ys := (stX x b).map (e1 eInt)) (z := [D.int .i64 0]) (k := j) (by rw [List.length_map, stX_len]; exact hj)
  rw [List.length_map, stX_len] at hml
  by_cases hlt2 : j < x.2.1.length
  · have w4 : IntKind.i64.wrap ((j : Int) + 1) = (j : Int) + 1 := wrap_id (by omega) (by omega)
    have w5 : IntKind.i64.wrap (x.1 + (j : Int)) = x.1 + (j : Int) := wrap_id (by omega) (by omega)
    have wu2 : IntKind.u64.wrap (x.1 + (j : Int)) = x.1 + (j : Int) := u64_id (by omega) (by omega)
    have hat := mix_at (ys := (stX x b).map (e1 eInt)) (z := [D.int .i64 0]) (k := j) (by rw [List.length_map, stX_len]; exact hlt2)
    have hset := mix_set (ys := (stX x b).map (e1 eInt)) (z := [D.int .i64 0]) (k := j) (y := e1 eInt (shr64 b (x.1 + (j : Int)) % 2)) (by rw [List.getElem?_map, stX_at hlt2]; rfl)
    simp only [e1, eInt] at hset
    have hd : decide (j < x.2.1.length) = true := decide_eq_true hlt2
    generalize hmx : mix ((stX x b).map (e1 eInt)) [D.int .i64 0] j = mx at *
    simp [hd, hml, w5, wu2, show 0 ≤ x.1 + (j : Int) by omega, and64_one, hat, w4]
    exact round_of hI2 hS2 hμ2 (j + 1) (by omega) (by omega) ⟨[0, 1], by simp [hset]⟩
  · have hj' : j = x.2.1.length := by omega
    have hall2 := mix_all (ys := (stX x b).map (e1 eInt)) (z := [D.int .i64 0])
    rw [List.length_map, stX_len] at hall2
    subst hj'
    rw [hall2]
    rw [hall2] at hml
    have hsl := stX_len (a := x) (x := b)
    have cV := nodeValues_con x (stX x b) b hx hok hsl
    have hvl := valsL_len (x := x) (st := stX x b) (i := b)
    have hvb := valsL_bits (x := x) (st := stX x b) (i := b)
    have hrl : rootsV x b = (rootsV x b).take (grRoots x).length := by rw [List.take_of_length_le (Nat.le_of_eq rootsV_len)]
    have hra : ∀ k y, (grRoots x)[k]? = some y → (rootsV x b)[k]? = some (litL (valsL x (stX x b) b) y) := fun k y h => by unfold rootsV; rw [List.getElem?_map, h]; rfl
    have hrs : (grRoots x).length ≤ 16777216 := by
      have h1 := grK_len (x := x) (k := x.2.1.length) (M := 1048576) hx.2.1
      rw [grK_all] at h1
      omega
    have hgl : grN x ≤ 400 := by unfold grN; omega
    rw [hrl]
    generalize rootsV x b = rv at *
    simp [hml]
    refine call_step (cV) ?_
    simp
    generalize valsL x (stX x b) b = vals at *
    refine call_step (iRoots_con x hx n3) ?_
    simp
    have hin := roots_in hok
    generalize grRoots x = rs at *
    refine aw_loopN [false, false, false, false, false, false, false, true, true, false, false, false, false, false, false, false, false, false, false, false, false, false, false, false, false, false, false, false, false, false, false, false, false, false, false, false, false, false, false, false, true, true, true, false, false, false, false, false, false, false, false, false, false, false] (fun k : Nat => k ≤ rs.length) (fun k : Nat => [(8, nilR k 4), (42, .d (.int .i64 k))]) (fun k : Nat => nilS k (rv.take k)) (fun k : Nat => rs.length - k) 0 ?_ ?_ ?_
    · simp
    · exact ⟨[0, 1, 2, 3], by simp [nilR, nilS]⟩
    rintro I S μ hI hS hμ k hk
    by_cases hlt : k < rs.length
    · have hx1 : rs[k]? = some rs[k] := List.getElem?_eq_getElem hlt
      have hnx : rv.take (k + 1) = rv.take k ++ [litL vals rs[k]] := take_snoc' (hra k _ hx1)
      have w2 : IntKind.i64.wrap ((k : Int) + 1) = (k : Int) + 1 := wrap_id (by omega) (by omega)
      have hli := hin _ (List.getElem_mem hlt)
      generalize rs[k] = s at *
      have hd : decide (k < rs.length) = true := decide_eq_true hlt
      have hc := litValue_con vals s hvb (by omega) (by omega)
      have hll : (rv.take k).length ≤ 16777216 := by rw [List.length_take]; omega
      by_cases hk0 : k = 0
      · subst hk0
        have w20 : IntKind.i64.wrap 1 = 1 := by decide
        simp [nilR, nilS, hd, hx1]
        refine call_step (hc) ?_
        simp
        refine app_data vt_el_24 rfl (by simp) rfl (by simp) (by simp) (by first | (simp; done) | (simp; omega)) (by simp [flatP, flatD]) ?_
        simp [w20]
        exact round_of hI hS hμ 1 (by omega) (by omega) ⟨[0, 1, 2, 3, 5], by simp [nilR, nilS, hnx]⟩
      · simp [nilR, nilS, hd, hx1, hk0]
        refine call_step (hc) ?_
        simp
        refine app_data vt_el_24 rfl (by simp) rfl (by simp) (by simp) (by first | (simp; done) | (simp; omega)) (by simp [flatP, flatD]) ?_
        simp [w2]
        exact round_of hI hS hμ (k + 1) (by omega) (by omega) ⟨[0, 1, 2, 3, 6], by simp [nilR, nilS, hnx]⟩
    · have hk' : k = rs.length := by omega
      subst hk'
      by_cases hk0 : rs.length = 0
      · simp [nilR, nilS, hk0]
      · simp [nilR, nilS, hk0]
set_option maxRecDepth 100000 in
theorem sRootV_con (x : GrD) (b : Int) (hx : fitGr 1048576 x) (hg : okGr x) : ConC Try.prog 19 [igr x, .d (.int .i64 b)] (ints (rootVL x b)) := by
  refine con_of (by kernel_rfl) Try.func19 rfl rfl rfl ?_
  simp [enGr]
  refine call_step (sNetOk_con x hx hg) ?_
  simp
  rcases Bool.eq_false_or_eq_true (netOkB x) with hok | hok
  case inr => simp [hok, rootVL]
  obtain ⟨⟨n1, n2, n3, n4, n5, n6⟩, o1, o2, o3⟩ := netOk_of hok
  simp [hok, rootVL]
  have hts : stX x b = (stX x b).take x.2.1.length := by rw [List.take_of_length_le (by rw [stX_len]; omega)]
  refine aw_loopU [false, true, true, false, false, true, true, true, false, false, false, false, false, false, false, false, false, false, false, false, false, false, false, false, false, false, false, false, false, false, false, false, false, false, false, false, false, false, false, false, false, false, false, false, false, false, false, false, false, false, false, false, false, false, false, false] (fun j : Nat => j ≤ x.2.1.length) (fun j : Nat => [(6, .ref 2), (7, .d (.int .i64 j))]) (fun j : Nat => [(2, .arr 3 true (((stX x b).take j).map (e1 eInt)))]) (fun j : Nat => x.2.1.length - j) 0 ?_ ?_ ?_
  · simp
  · exact ⟨[0, 1, 2], by simp⟩
  rintro I2 S2 μ2 hI2 hS2 hμ2 j hj
  by_cases hlt2 : j < x.2.1.length
  · have w4 : IntKind.i64.wrap ((j : Int) + 1) = (j : Int) + 1 := wrap_id (by omega) (by omega)
    have w5 : IntKind.i64.wrap (x.1 + (j : Int)) = x.1 + (j : Int) := wrap_id (by omega) (by omega)
    have hnx : (stX x b).take (j + 1) = (stX x b).take j ++ [shr64 b (x.1 + (j : Int)) % 2] := take_snoc' (stX_at hlt2)
    have hd : decide (j < x.2.1.length) = true := decide_eq_true hlt2
    have hln : ((stX x b).take j).length ≤ 12 := by rw [List.length_take]; omega
    simp [hd, w5, show 0 ≤ x.1 + (j : Int) by omega, and64_one]
    refine app_data vt_el_24 rfl (by simp) rfl (by simp) (by simp) (by first | (simp; done) | (simp; omega)) (by simp [flatP, flatD]) ?_
    simp [w4]
    exact round_of hI2 hS2 hμ2 (j + 1) (by omega) (by omega) ⟨[0, 1, 4], by simp [hnx]⟩
  · have hj' : j = x.2.1.length := by omega
    subst hj'
    rw [← hts]
    have hsl := stX_len (a := x) (x := b)
    have cV := sNodeValues_con x (stX x b) b hx hg (stX_ok hok)
    have hvl := valsL_len (x := x) (st := stX x b) (i := b)
    have hvb := valsL_bits (x := x) (st := stX x b) (i := b)
    have hrl : rootsV x b = (rootsV x b).take (grRoots x).length := by rw [List.take_of_length_le (Nat.le_of_eq rootsV_len)]
    have hra : ∀ k y, (grRoots x)[k]? = some y → (rootsV x b)[k]? = some (litL (valsL x (stX x b) b) y) := fun k y h => by unfold rootsV; rw [List.getElem?_map, h]; rfl
    have hrs : (grRoots x).length ≤ 16777216 := by
      have h1 := grK_len (x := x) (k := x.2.1.length) (M := 1048576) hx.2.1
      rw [grK_all] at h1
      omega
    have hgl : grN x ≤ 400 := by unfold grN; omega
    rw [hrl]
    generalize rootsV x b = rv at *
    simp [hlt2]
    refine call_step (cV) ?_
    simp
    generalize valsL x (stX x b) b = vals at *
    refine call_step (sRoots_con x hx n3) ?_
    simp
    have hin := roots_in hok
    generalize grRoots x = rs at *
    refine aw_loopU [false, false, false, false, false, true, false, false, true, true, true, false, false, false, false, false, false, false, false, false, false, false, false, false, false, false, false, false, false, false, false, false, false, false, false, false, false, false, false, false, false, false, false, false, false, false, false, false, false, false, false, false, false, false, false, false] (fun k : Nat => k ≤ rs.length) (fun k : Nat => [(5, .ref 1), (10, .d (.int .i64 k))]) (fun k : Nat => [(1, .arr 3 true ((rv.take k).map (e1 eInt)))]) (fun k : Nat => rs.length - k) 0 ?_ ?_ ?_
    · simp
    · exact ⟨[0, 1, 2, 3, 4], by simp⟩
    rintro I S μ hI hS hμ k hk
    by_cases hlt : k < rs.length
    · have hx1 : rs[k]? = some rs[k] := List.getElem?_eq_getElem hlt
      have hnx : rv.take (k + 1) = rv.take k ++ [litL vals rs[k]] := take_snoc' (hra k _ hx1)
      have w2 : IntKind.i64.wrap ((k : Int) + 1) = (k : Int) + 1 := wrap_id (by omega) (by omega)
      have hli := hin _ (List.getElem_mem hlt)
      generalize rs[k] = s at *
      have hd : decide (k < rs.length) = true := decide_eq_true hlt
      have hc := l09Bit_con vals s hvb (by omega) (by omega)
      have hll : (rv.take k).length ≤ 16777216 := by rw [List.length_take]; omega
      simp [hd, hx1]
      refine call_step (hc) ?_
      simp
      refine app_data vt_el_24 rfl (by simp) rfl (by simp) (by simp) (by first | (simp; done) | (simp; omega)) (by simp [flatP, flatD]) ?_
      simp [w2]
      exact round_of hI hS hμ (k + 1) (by omega) (by omega) ⟨[0, 6, 2, 3, 4], by simp [hnx]⟩
    · have hk' : k = rs.length := by omega
      subst hk'
      simp [hlt]
end Go.Proofs.Ytdliejnmpdodhaa
