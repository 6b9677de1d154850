/-
  Contract of the reference's TileStep; OutPin.
  Conditions: those typed in each theorem.
-/
import Derived.Test.YtfgdcjpclngeaaaTile3
import Derived.RegionTactic
import Derived.ChangeAlike
namespace Go.Proofs.Ytfgdcjpclngeaaa
open Go.RowKit

set_option maxHeartbeats 4000000 in
theorem sStep_any (a b c d t k n : Int) (w : World) :
    Calls Try.prog 10 #[devV a b c d, .int .i64 t, .int .i64 k, .int .i64 n] w fun e w' => e = .returned (.int .i64 (stepAll a b c d t k n)) ∧ Below w.heap.size w w' := by
  cases ht : tileB a b c d t with
  | false =>
    have HF : Hid (stepAll a b c d t k n = -1) := Lib.hid (by unfold stepAll stepB; rw [ht]; rfl)
    have ht' := tkAll_neg ht
    clear ht
    go_enter Try.func10, Try.ntmps10
    go_wp2_with fail
    refine (sTk_any _ _ _ _ _ _).mono ?_
    rintro e w1 ⟨rfl, hb1⟩
    rw [ht']
    go_wp2_with fail
    go_ret
    exact ⟨ret_int HF.out.symm, (below1 _ _).trans (hb1.mono (by simp))⟩
  | true =>
    have ht0 := ht
    have hkt := tkAll_pos ht
    unfold tileB at ht
    have htt := ht
    rw [Bool.and_eq_true] at htt
    obtain ⟨⟨ha, hb, hc⟩, hd⟩ := devOk_iff.1 htt.1
    have hrt := rng_iff.1 htt.2
    clear hd htt ht
    cases hk : rng k 0 3 with
    | false =>
      have HF : Hid (stepAll a b c d t k n = -1) := Lib.hid (by unfold stepAll stepB; rw [ht0, hk]; rfl)
      clear ht0
      go_enter Try.func10, Try.ntmps10
      go_wp2_with fail
      refine (sTk_any _ _ _ _ _ _).mono ?_
      rintro e w1 ⟨rfl, hb1⟩
      generalize tkAll a b c d t = kt at *
      obtain ⟨hk1, hk2⟩ := hkt
      go_wp2_with (go_at_call 23; refine (lin_any _ _ _ _).mono ?_; rintro e w' ⟨rfl, rfl⟩)
      go_ret
      exact ⟨ret_int HF.out.symm, (below1 _ _).trans (hb1.mono (by simp))⟩
    | true =>
      cases hn : rng n 0 6 with
      | false =>
        have HF : Hid (stepAll a b c d t k n = -1) := Lib.hid (by unfold stepAll stepB; rw [ht0, hk, hn]; rfl)
        clear ht0
        go_enter Try.func10, Try.ntmps10
        go_wp2_with fail
        refine (sTk_any _ _ _ _ _ _).mono ?_
        rintro e w1 ⟨rfl, hb1⟩
        generalize tkAll a b c d t = kt at *
        obtain ⟨hk1, hk2⟩ := hkt
        go_wp2_with (go_at_call 23; refine (lin_any _ _ _ _).mono ?_; rintro e w' ⟨rfl, rfl⟩)
        go_ret
        exact ⟨ret_int HF.out.symm, (below1 _ _).trans (hb1.mono (by simp))⟩
      | true =>
        have HF : Hid (stepAll a b c d t k n = stepE a b t k n) := Lib.hid (by unfold stepAll stepB; rw [ht0, hk, hn]; rfl)
        clear ht0
        have hrk := rng_iff.1 hk
        have hrn := rng_iff.1 hn
        have hdt := tile_div ha hrt
        obtain ⟨ha1, ha2⟩ := ha
        obtain ⟨hb1', hb2'⟩ := hb
        obtain ⟨ht1, ht2⟩ := hrt
        obtain ⟨hn1, hn2⟩ := hrn
        obtain ⟨hq1, hq2, hq3, hq4⟩ := hdt
        have hq : t.tdiv a = t / a := Int.tdiv_eq_ediv_of_nonneg ht1
        have hw : wrap64 (t / a) = t / a := by unfold wrap64; omega
        have hq5 : t / a ≤ 5 := by omega
        have hq6 : t % a ≤ 5 := by omega
        have hm0 : k = 0 ∨ k = 1 ∨ k = 2 ∨ k = 3 := by omega
        clear hrk
        generalize hE : stepE a b t k n = E at *
        have HE := Lib.hid hE
        clear hE
        rcases hm0 with rfl | rfl | rfl | rfl
        all_goals go_enter Try.func10, Try.ntmps10
        all_goals go_wp2_with fail
        all_goals refine (sTk_any _ _ _ _ _ _).mono ?_
        all_goals rintro e w1 ⟨rfl, hb1⟩
        all_goals obtain ⟨hcell, hfroz⟩ := bcell hb1
        all_goals generalize tkAll a b c d t = kt at *
        all_goals obtain ⟨hk1, hk2⟩ := hkt
        all_goals go_wp2_with (go_at_call 23; refine (lin_any _ _ _ _).mono ?_; rintro e w' ⟨rfl, rfl⟩)
        all_goals have k0 : w1.cell? ⟨w.heap.size, 0, none⟩ = some (.int .i64 a) := by rw [hcell _ _ (by simp)]; simp
        all_goals have k1 : w1.cell? ⟨w.heap.size, 1, none⟩ = some (.int .i64 b) := by rw [hcell _ _ (by simp)]; simp
        all_goals have hz1 : w.heap.size < w1.heap.size := by have := hb1.size; simp at this; omega
        all_goals have hz2 : w.heap.size ≠ w1.heap.size := by omega
        all_goals have haz : a ≠ 0 := by omega
        all_goals have HB1 : Hid (Below w.heap.size w w1) := Lib.hid ((below1 _ _).trans (hb1.mono (by simp)))
        all_goals clear hcell hfroz hb1
        all_goals go_region
        all_goals have hbn : Below w1.heap.size w1 (w1.alloc (.cells #[.int .i64 1, .int .i64 0, .int .i64 (-1), .int .i64 0] 3)).drew := ((Below.refl _ _).alloc (Nat.le_refl _) _).drew
        all_goals have k2 : (w1.alloc (.cells #[.int .i64 1, .int .i64 0, .int .i64 (-1), .int .i64 0] 3)).drew.cell? ⟨w.heap.size, 0, none⟩ = some (.int .i64 a) := (hbn.cell (p := ⟨w.heap.size, 0, none⟩) hz1).trans k0
        all_goals have k3 : (w1.alloc (.cells #[.int .i64 1, .int .i64 0, .int .i64 (-1), .int .i64 0] 3)).drew.cell? ⟨w.heap.size, 1, none⟩ = some (.int .i64 b) := (hbn.cell (p := ⟨w.heap.size, 1, none⟩) hz1).trans k1
        all_goals have hz3 : w.heap.size < (w1.alloc (.cells #[.int .i64 1, .int .i64 0, .int .i64 (-1), .int .i64 0] 3)).drew.heap.size := by simp; omega
        all_goals have HB2 : Hid (Below w.heap.size w (w1.alloc (.cells #[.int .i64 1, .int .i64 0, .int .i64 (-1), .int .i64 0] 3)).drew) := Lib.hid (HB1.out.alloc (by omega) _).drew
        all_goals clear hbn k0 k1 hz1 hz2 HB1
        all_goals generalize (w1.alloc (.cells #[.int .i64 1, .int .i64 0, .int .i64 (-1), .int .i64 0] 3)).drew = w2 at *
        all_goals have hz4 : w.heap.size ≠ w2.heap.size := by omega
        all_goals go_wp2_with fail
        all_goals go_region
        all_goals go_wp2_with (go_at_call 23; refine (lin_any _ _ _ _).mono ?_; rintro e w' ⟨rfl, rfl⟩)
        all_goals go_ret
        all_goals refine ⟨ret_int ?_, (HB2.out.alloc (by omega) _).drew⟩
        all_goals rw [HF.out, ← HE.out]
        all_goals first
          | (rename_i h1 h2; exact (step_yes h1 h2 (by first | (simp [dxs]; done) | (simp [dxs]; omega)) (by first | (simp [dys]; done) | (simp [dys]; omega)) ha1 ha2 hb1' hb2').symm)
          | (rename_i h1; exact (step_no1 h1 (by first | (simp [dxs]; done) | (simp [dxs]; omega))).symm)
          | (rename_i h1; exact (step_no2 h1 (by first | (simp [dys]; done) | (simp [dys]; omega))).symm)

end Go.Proofs.Ytfgdcjpclngeaaa
