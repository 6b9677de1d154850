/-
  Contracts of the functions on tiles and routing node numbers of a device.
  Conditions: those typed in each theorem.
-/
import Derived.Test.YtfgdcjpclngeaaaTile
namespace Go.Proofs.Ytfgdcjpclngeaaa
open Go.RowKit

/-- A division and a remainder of a tile's number stay in the tile's row and column. -/
theorem tile_div {a b t : Int} (ha : 3 ≤ a ∧ a ≤ 6) (ht : 0 ≤ t ∧ t ≤ a * b - 1) : 0 ≤ t % a ∧ t % a < a ∧ 0 ≤ t / a ∧ t / a < b := by
  refine ⟨Int.emod_nonneg _ (by omega), Int.emod_lt_of_pos _ (by omega), Int.ediv_nonneg (by omega) (by omega), Int.ediv_lt_of_lt_mul (by omega) ?_⟩
  rw [Int.mul_comm]; omega

theorem below_drewN {B : Nat} {a w : World} (h : Below B a w) (n : Nat) : Below B a (w.drewN n) := ⟨h.os, h.tape, h.output, h.size, h.block⟩

theorem itk_any (a b c d t : Int) (ha : 3 ≤ a ∧ a ≤ 6) (hb : 3 ≤ b ∧ b ≤ 6) (ht : 0 ≤ t ∧ t ≤ a * b - 1) (w : World) :
    Calls Try.prog 29 #[devV a b c d, .int .i64 t] w fun e w' => e = .returned (.int .i64 (tkind a b d t)) ∧ Below w.heap.size w w' := by
  have hab := area_of ha hb
  have hdv := tile_div ha ht
  go_enter Try.func29, Try.ntmps29
  go_wp2
  go_quiet (fail)
  go_wp2
  all_goals go_ret
  all_goals refine ⟨ret_int (by simp_all [tkind]), ?_⟩
  all_goals exact below_drewN (below1 _ _) _

theorem sTk_any (a b c d t : Int) (w : World) :
    Calls Try.prog 19 #[devV a b c d, .int .i64 t] w fun e w' => e = .returned (.int .i64 (tkAll a b c d t)) ∧ Below w.heap.size w w' := by
  cases h : devOk a b c d with
  | false =>
    have hf : tkAll a b c d t = -1 := by unfold tkAll; rw [h]; rfl
    have HF := Lib.hid hf
    clear hf
    go_enter Try.func19, Try.ntmps19
    go_wp2_with fail
    refine (sdev_any _ _ _ _ _).mono ?_
    rintro e w1 ⟨rfl, hb1⟩
    rw [h]
    go_wp2_with fail
    go_ret
    exact ⟨ret_int HF.out.symm, (below1 _ _).trans (hb1.mono (by simp))⟩
  | true =>
    have hdd := devOk_iff.1 h
    obtain ⟨⟨ha, hb, hc⟩, hd⟩ := hdd
    have hab := area_of ha hb
    clear hd hc
    by_cases h0 : t < 0
    · have hf : tkAll a b c d t = -1 := by unfold tkAll; rw [h, if_neg (by simp [rng]; omega)]
      have HF := Lib.hid hf
      clear hf
      go_enter Try.func19, Try.ntmps19
      go_wp2_with fail
      refine (sdev_any _ _ _ _ _).mono ?_
      rintro e w1 ⟨rfl, hb1⟩
      rw [h]
      clear h
      obtain ⟨hcell, hfroz⟩ := bcell hb1
      go_wp2_with fail
      go_ret
      exact ⟨ret_int HF.out.symm, (below1 _ _).trans (hb1.mono (by simp))⟩
    have h0' : 0 ≤ t := by omega
    clear h0
    by_cases h1 : a * b ≤ t
    · have hf : tkAll a b c d t = -1 := by unfold tkAll; rw [h, if_neg (by simp [rng]; omega)]
      have HF := Lib.hid hf
      clear hf
      go_enter Try.func19, Try.ntmps19
      go_wp2_with fail
      refine (sdev_any _ _ _ _ _).mono ?_
      rintro e w1 ⟨rfl, hb1⟩
      rw [h]
      clear h
      obtain ⟨hcell, hfroz⟩ := bcell hb1
      go_wp2_with fail
      go_ret
      exact ⟨ret_int HF.out.symm, (below1 _ _).trans (hb1.mono (by simp))⟩
    have h1' : t < a * b := by omega
    clear h1
    have hf : tkAll a b c d t = tkind a b d t := by unfold tkAll; rw [h, if_pos (by simp [rng]; omega)]
    have HF := Lib.hid hf
    clear hf
    have hdv := tile_div ha (⟨h0', by omega⟩ : 0 ≤ t ∧ t ≤ a * b - 1)
    go_enter Try.func19, Try.ntmps19
    go_wp2_with fail
    refine (sdev_any _ _ _ _ _).mono ?_
    rintro e w1 ⟨rfl, hb1⟩
    rw [h]
    clear h
    obtain ⟨hcell, hfroz⟩ := bcell hb1
    go_wp2_with fail
    all_goals go_ret
    all_goals refine ⟨ret_int ?_, (below1 _ _).trans (hb1.mono (by simp))⟩
    all_goals rw [HF.out]
    all_goals simp_all [tkind]

end Go.Proofs.Ytfgdcjpclngeaaa
