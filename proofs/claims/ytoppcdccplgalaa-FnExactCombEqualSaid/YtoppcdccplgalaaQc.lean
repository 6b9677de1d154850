/-
  Propagation in the reference; consequences and proofs, by abstract walks: both sides.
  Conditions: those typed in each theorem.
-/
import Derived.Test.YtoppcdccplgalaaQb
namespace Go.Proofs.Ytoppcdccplgalaa
open Go.RowKit Go.ChangeShapes Go.WideShapes
set_option linter.unusedVariables false
set_option linter.unusedSimpArgs false
attribute [local simp ↓] condG_true condG_false condB_true condB_false
attribute [local simp] AWp_skip AWp_region_t AWp_region_d AWp_region_f still_mk AWp_seq AWp_cond condV_bool condB AWp_block AWp_exit AWp_ret
attribute [local simp] AOps_nil AOp_move AOp_assign AOp_pick AOp_binOp AOp_unOp AOp_convert AOp_len AOp_max AOp_min AOp_indexAddr AOp_load
attribute [local simp] AOp_fieldAddr AOp_field AOp_extract AOp_nilCheck AOp_build AOp_alloc AOp_box AOp_call AOp_store AOp_append AOp_buildSlice nextB_some
attribute [local simp] nextB_none adoptO adoptC AOp_makeSlice AOp_slice AOp_makeFunc AOp_guard guardD_some guardG_bool guardG_undef nextO_some nextS_some
attribute [local simp] nextZ_some nextL_some nextM_some nextT_some sliceO sliceL sliceT partO partV boundV funcO pickO
attribute [local simp] convO lenO maxO minO idxO extO nilO buildO litO litC makeO chunks
attribute [local simp] fillV placeOf thenA inBlockA St.get St.put St.eval ofCell evalT abin_add abin_sub abin_mul
attribute [local simp] abin_quo abin_rem abin_and abin_or abin_xor abin_andNot abin_shl abin_shr abin_shlu abin_eql abin_eqp abin_neq
attribute [local simp] abin_lss abin_leq abin_gtr abin_geq abin_eqlb abin_neqb aun pickV lenV intOf? indexV takeD
attribute [local simp] takeV loadV fieldAddrV fieldV ofX presD presDs pres presAll cellsV V.cell storeV
attribute [local simp] freezeC putAt kill takeC plains plainV scalarV nat_neg keepT sets eSl e1
attribute [local simp] e2 e3 e4 eInt eBool afterCall inst inst1 inst1s instD instDs RetA
attribute [local simp] resVs resV gives give1 give1s Le isPin leSlots leS leTmps leV le0
attribute [local simp] le0s ren ren0 renS ren0s frame enterT afterT_some afterC_some lives Slot.live arrsOk
attribute [local simp] viewV view0 renT rens renSs setAll List.range'_succ RetT RetW joinV leT AOpsE_nil
attribute [local simp] AOpsE_cons AOpsT_nil AOpsT_cons isCallT callOf condC_true condC_false beginT_mk thenT_mk pickE pickT isT
attribute [local simp] loose namesOf namesV names1 names0 stableN sameAt Op.operands Call.operands
set_option maxRecDepth 100000 in
set_option maxHeartbeats 1000000 in
theorem sRun_con (cls : List RowD) (p : List Int) (R : Option (List Int)) (hR : propL cls p = R) (hc : fitRw 1048576 cls) (hp : p.length ≤ 1048576) (ht : trits p) (hl : clausesIn p.length cls) : ConC Try.prog 210 [irows cls, ints p] (optI R) := by
  obtain ⟨hc1, hc2⟩ := hc
  refine con_of (by kernel_rfl) Try.func210 rfl rfl rfl ?_
  simp
  refine app_data vt_el_24 rfl (by simp) rfl (by simp) (by simp) (by first | (simp; done) | (simp; omega)) (by simp [flatP, flatD]) ?_
  simp
  refine aw_loopU [true, false, false, false, false, false, true, true, false, false, false, false, false, false, false, false, false, false, false, false, false, false, false, false, false, false, false, false, false, false, false, false, false, false, false, false, false, false, false, false, false, false, false, false, false, false, false, false, false, false, false, false, false, false, false, false, false, false, false, false, false, false, false, false, false, false, false, false, false, false, false, false, false, false, false, false, false, false, false, false, false, false, false] (fun i : List Int × Bool => i.1.length = p.length ∧ trits i.1 ∧ (i.2 = true → propL cls i.1 = R) ∧ (i.2 = false → R = some i.1)) (fun i : List Int × Bool => [(7, .d (.bool i.2))]) (fun i : List Int × Bool => [(1, .arr 3 true (i.1.map (e1 eInt)))]) (fun i : List Int × Bool => 2 * zerosL i.1 + (if i.2 = true then 1 else 0)) (p, true) ?_ ?_ ?_
  · exact ⟨rfl, ht, fun _ => hR, fun h => by cases h⟩
  · exact ⟨[0, 1], by simp⟩
  rintro I S μ hI hS hμ ⟨q, ch⟩ ⟨hq, hqt, hct, hcf⟩
  simp only at hq hqt hct hcf
  cases ch with
  | false =>
    have hR2 := hcf rfl
    subst hR2
    simp
  | true =>
    have hR2 := hct rfl
    have hpr := propL_step (cls := cls) (p := q) (by rw [hq]; exact hl) hqt
    have hpf := fun p' ch' => passL_facts (cls := cls) (p := q) (p' := p') (ch := false) (ch' := ch') (by rw [hq]; exact hl) hqt
    rw [hR2] at hpr
    simp
    refine aw_loopU [true, false, false, false, false, false, true, true, true, false, false, false, false, false, false, false, false, false, false, false, false, false, false, false, false, false, false, false, false, false, false, false, false, false, false, false, false, false, false, false, false, false, false, false, false, false, false, false, false, false, false, false, false, false, false, false, false, false, false, false, false, false, false, false, false, false, false, false, false, false, false, false, false, false, false, false, false, false, false, false, false, false, false] (fun i : Nat × List Int × Bool => i.1 ≤ cls.length ∧ i.2.1.length = p.length ∧ trits i.2.1 ∧ passL (cls.drop i.1) i.2.1 i.2.2 = passL cls q false) (fun i : Nat × List Int × Bool => [(7, .d (.bool i.2.2)), (8, .d (.int .i64 i.1))]) (fun i : Nat × List Int × Bool => [(1, .arr 3 true (i.2.1.map (e1 eInt)))]) (fun i : Nat × List Int × Bool => cls.length - i.1) (0, q, false) ?_ ?_ ?_
    · exact ⟨Nat.zero_le _, hq, hqt, rfl⟩
    · exact ⟨[0, 1], by simp⟩
    rintro I2 S2 μ2 hI2 hS2 hμ2 ⟨k, q2, ch2⟩ ⟨hk, hq2, hqt2, hps⟩
    simp only at hk hq2 hqt2 hps
    by_cases hlt : k < cls.length
    · have hx1 : cls[k]? = some cls[k] := List.getElem?_eq_getElem hlt
      have hL : (enRow cls[k]).length = 1 := rfl
      have w2 : IntKind.i64.wrap ((k : Int) + 1) = (k : Int) + 1 := wrap_id (by omega) (by omega)
      have hd : decide (k < cls.length) = true := decide_eq_true hlt
      have hcl := hc2 _ (List.getElem_mem hlt)
      have hli : ∀ l ∈ cls[k], litIn q2.length l := by rw [hq2]; exact hl _ (List.getElem_mem hlt)
      rw [pass_at' hx1] at hps
      generalize cls[k] = c at *
      have hum := unitOf_mem (p := q2) (cl := c)
      have hu0 : unitGo q2 c 0 = unitOf q2 c := rfl
      generalize unitOf q2 c = uc at *
      simp [hd]
      refine aw_loopU [true, false, false, false, false, false, true, true, true, true, true, true, true, false, false, false, false, false, false, false, false, false, false, false, false, false, false, false, false, false, false, false, false, false, false, false, false, false, false, false, false, false, false, false, false, false, false, false, false, false, false, false, false, false, false, false, false, false, false, false, false, false, false, false, false, false, false, false, false, false, false, false, false, false, false, false, false, false, false, false, false, false, false] (fun i : Nat × Int × Bool × Bool => i.1 ≤ c.length ∧ (i.2.2.1 = false → i.2.2.2 = false → unitGo q2 (c.drop i.1) i.2.1 = uc) ∧ ((i.2.2.1 = true ∨ i.2.2.2 = true) → uc = (0, false))) (fun i : Nat × Int × Bool × Bool => [(9, .d (.int .i64 i.2.1)), (10, .d (.bool i.2.2.1)), (11, .d (.bool i.2.2.2)), (12, .d (.int .i64 i.1))]) (fun i : Nat × Int × Bool × Bool => []) (fun i : Nat × Int × Bool × Bool => c.length - i.1) (0, 0, false, false) ?_ ?_ ?_
      · exact ⟨Nat.zero_le _, fun _ _ => by simpa using hu0, by simp⟩
      · exact ⟨[0, 1], by simp⟩
      rintro I3 S3 μ3 hI3 hS3 hμ3 ⟨j, u, sat, many⟩ ⟨hj, hgo, hst⟩
      simp only at hj hgo hst
      -- behind the loop
      by_cases hend : sat = true ∨ many = true
      · have hz := hst hend
        subst hz
        rw [if_neg (by simp), if_pos rfl] at hps
        rcases Bool.eq_false_or_eq_true sat with h1 | h1
        · subst h1
          by_cases hjl : j < c.length
          · simp [hx1, hL, enRow, hd, hjl, decide_eq_true hjl, w2]
            exact round_of hI2 hS2 hμ2 (k + 1, q2, ch2) ⟨by simp; omega, hq2, hqt2, hps⟩ (by simp; omega) ⟨[0, 1], by simp⟩
          · simp [hx1, hL, enRow, hd, hjl, decide_eq_false hjl, w2]
            exact round_of hI2 hS2 hμ2 (k + 1, q2, ch2) ⟨by simp; omega, hq2, hqt2, hps⟩ (by simp; omega) ⟨[0, 1], by simp⟩
        · subst h1
          obtain rfl : many = true := by simpa using hend
          by_cases hjl : j < c.length
          · simp [hx1, hL, enRow, hd, hjl, decide_eq_true hjl, w2]
            exact round_of hI2 hS2 hμ2 (k + 1, q2, ch2) ⟨by simp; omega, hq2, hqt2, hps⟩ (by simp; omega) ⟨[0, 1], by simp⟩
          · simp [hx1, hL, enRow, hd, hjl, decide_eq_false hjl, w2]
            exact round_of hI2 hS2 hμ2 (k + 1, q2, ch2) ⟨by simp; omega, hq2, hqt2, hps⟩ (by simp; omega) ⟨[0, 1], by simp⟩
      obtain ⟨rfl, rfl⟩ : sat = false ∧ many = false := by
        constructor
        · cases sat with
          | false => rfl
          | true => exact absurd (.inl rfl) hend
        · cases many with
          | false => rfl
          | true => exact absurd (.inr rfl) hend
      have hgo2 := hgo rfl rfl
      by_cases hjl : j < c.length
      · have hy1 : c[j]? = some c[j] := List.getElem?_eq_getElem hjl
        have w5 : IntKind.i64.wrap ((j : Int) + 1) = (j : Int) + 1 := wrap_id (by omega) (by omega)
        have hd2 : decide (j < c.length) = true := decide_eq_true hjl
        have hyl := hli _ (List.getElem_mem hjl)
        rw [unit_at hy1] at hgo2
        generalize c[j] = y at *
        have hval := sVal_con q2 y (by omega) hqt2 hyl
        generalize valOf q2 y = v at *
        simp [hx1, hL, enRow, hd, hd2, hy1]
        refine call_step (hval) ?_
        simp
        by_cases h1 : v = 1
        · rw [if_pos h1] at hgo2
          subst h1
          simp [w5]
          exact round_of hI3 hS3 hμ3 (j + 1, u, true, false) ⟨by simp; omega, by simp, fun _ => hgo2.symm⟩ (by simp; omega) ⟨[0, 1], by simp⟩
        rw [if_neg h1] at hgo2
        have h1' : (v == 1) = false := by simpa using h1
        by_cases h0 : v = 0
        case neg =>
          rw [if_neg h0] at hgo2
          simp [h1, h1', h0, show (v == 0) = false by simpa using h0, w5]
          exact round_of hI3 hS3 hμ3 (j + 1, u, false, false) ⟨by simp; omega, fun _ _ => hgo2, by simp⟩ (by simp; omega) ⟨[0, 1], by simp⟩
        rw [if_pos h0] at hgo2
        subst h0
        by_cases hu : u = 0
        · rw [if_neg (by simp [hu])] at hgo2
          simp [h1, h1', hu, w5]
          exact round_of hI3 hS3 hμ3 (j + 1, y, false, false) ⟨by simp; omega, fun _ _ => hgo2, by simp⟩ (by simp; omega) ⟨[0, 1], by simp⟩
        by_cases huy : u = y
        · rw [if_neg (by simp [huy])] at hgo2
          subst huy
          simp [h1, h1', hu, show (u != 0) = true by simpa using hu, w5]
          exact round_of hI3 hS3 hμ3 (j + 1, u, false, false) ⟨by simp; omega, fun _ _ => hgo2, by simp⟩ (by simp; omega) ⟨[0, 1], by simp⟩
        · rw [if_pos ⟨hu, huy⟩] at hgo2
          simp [h1, h1', hu, show (u != 0) = true by simpa using hu, huy, show (u != y) = true by simpa using huy, w5]
          exact round_of hI3 hS3 hμ3 (j + 1, y, false, true) ⟨by simp; omega, by simp, fun _ => hgo2.symm⟩ (by simp; omega) ⟨[0, 1], by simp⟩
      · have hj' : j = c.length := by omega
        subst hj'
        rw [List.drop_length, unitGo] at hgo2
        subst hgo2
        simp only at hps hum
        by_cases hu0 : u = 0
        · rw [if_pos (by simp [hu0])] at hps
          rw [← hps] at hpr
          simp only at hpr
          simp [hx1, hL, enRow, hd, hjl, decide_eq_false hjl, hu0, hpr]
        have hue : (u == 0) = false := by simpa using hu0
        rw [if_neg (by simp [hu0]), if_neg hu0] at hps
        have hul : litIn q2.length u := hli u (hum hu0).1
        have hts := trits_setLit hqt2 u
        have hls := setLit_len q2 u
        rcases lit_cases hul with ⟨m, hm, e⟩ | ⟨m, hm, e⟩
        · have hse : setLit q2 u = q2.set m 1 := by rw [e]; exact setLit_pos q2 m
          rw [hse] at hps hts hls
          have hg := getD_some hm
          have w3 : IntKind.i64.wrap (u - 1) = (m : Int) := by rw [wrap_id (by omega) (by omega)]; omega
          have hset := map_setI (q := q2) (m := m) (v := 1)
          generalize q2.set m 1 = q3 at *
          generalize q2.getD m 0 = z0 at hg
          simp [hx1, hL, enRow, hd, hjl, decide_eq_false hjl, hu0, hue, show 0 < u by omega, show ¬ u < 0 by omega, show ¬ u ≤ 0 by omega, show 0 ≤ u by omega, w3, hg, hset, w2]
          exact round_of hI2 hS2 hμ2 (k + 1, q3, true) ⟨by simp; omega, by simp; omega, hts, hps⟩ (by simp; omega) ⟨[0, 1], by simp⟩
        · have hse : setLit q2 u = q2.set m (-1) := by rw [e]; exact setLit_neg q2 m
          rw [hse] at hps hts hls
          have hg := getD_some hm
          have w3 : IntKind.i64.wrap (-u) = (m : Int) + 1 := by rw [wrap_id (by omega) (by omega)]; omega
          have w4 : IntKind.i64.wrap (m : Int) = (m : Int) := wrap_id (by omega) (by omega)
          have hset := map_setI (q := q2) (m := m) (v := -1)
          generalize q2.set m (-1) = q3 at *
          generalize q2.getD m 0 = z0 at hg
          simp [hx1, hL, enRow, hd, hjl, decide_eq_false hjl, hu0, hue, show ¬ 0 < u by omega, show u < 0 by omega, show u ≤ 0 by omega, show ¬ 0 ≤ u by omega, w3, w4, hg, hset, w2]
          exact round_of hI2 hS2 hμ2 (k + 1, q3, true) ⟨by simp; omega, by simp; omega, hts, hps⟩ (by simp; omega) ⟨[0, 1], by simp⟩
    · have hk' : k = cls.length := by omega
      subst hk'
      rw [List.drop_length, passL] at hps
      rw [← hps] at hpr
      obtain ⟨f1, f2, f3, f4, f5⟩ := hpf q2 ch2 hps.symm
      simp [hlt]
      refine round_of hI hS hμ (q2, ch2) ⟨hq2, hqt2, fun h => ?_, fun h => ?_⟩ ?_ ⟨[0, 1], by simp⟩
      · subst h; exact hpr.symm
      · subst h; exact hpr
      · cases ch2 with
        | true => have := f4 rfl rfl; simp; omega
        | false => simp; omega
end Go.Proofs.Ytoppcdccplgalaa
