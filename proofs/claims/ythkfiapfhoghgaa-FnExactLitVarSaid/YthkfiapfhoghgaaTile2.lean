/-
  Contracts of the functions on tiles and routing node numbers of a device.
  Conditions: those typed in each theorem.
-/
import Derived.Test.YthkfiapfhoghgaaTile
namespace Go.Proofs.Ythkfiapfhoghgaa
open Go.RowKit

/-- A division and a remainder of a tile's number stay in the tile's row and column. -/
theorem tile_div {a b t : Int} (ha : 3 ≤ a ∧ a ≤ 6) (ht : 0 ≤ t ∧ t ≤ a * b - 1) : 0 ≤ t % a ∧ t % a < a ∧ 0 ≤ t / a ∧ t / a < b := by
  refine ⟨Int.emod_nonneg _ (by omega), Int.emod_lt_of_pos _ (by omega), Int.ediv_nonneg (by omega) (by omega), Int.ediv_lt_of_lt_mul (by omega) ?_⟩
  rw [Int.mul_comm]; omega

theorem below_drewN {B : Nat} {a w : World} (h : Below B a w) (n : Nat) : Below B a (w.drewN n) := ⟨h.os, h.tape, h.output, h.size, h.block⟩

theorem iroute_any (a b c d : Int) (ha : 3 ≤ a ∧ a ≤ 6) (hb : 3 ≤ b ∧ b ≤ 6) (hc : 1 ≤ c ∧ c ≤ 4) (w : World) :
    Calls Try.prog 29 #[devV a b c d] w fun e w' => e = .returned (.int .i64 (a * b * perOf c)) ∧ Below w.heap.size w w' := by
  have hab := area_of ha hb
  have hp : 11 ≤ perOf c ∧ perOf c ≤ 23 := by unfold perOf; omega
  have hm1 : 9 * 11 ≤ a * b * perOf c := Int.mul_le_mul hab.1 hp.1 (by omega) (by omega)
  have hm2 : a * b * perOf c ≤ 36 * 23 := Int.mul_le_mul hab.2 hp.2 (by omega) (by omega)
  have e1 : IntKind.i64.wrap (a * b) = a * b := IntWalk.i64_in _ (by omega)
  have e2 : IntKind.i64.wrap (a * b * perOf c) = a * b * perOf c := IntWalk.i64_in _ (by omega)
  have E1 := Lib.hid e1
  have E2 := Lib.hid e2
  clear e1 e2
  go_enter Try.func29, Try.ntmps29
  go_wp2
  go_region_held3 (fun w' => w'.cell? ⟨w.heap.size, 0, none⟩ = some (.int .i64 a) ∧ w'.cell? ⟨w.heap.size, 1, none⟩ = some (.int .i64 b) ∧ w'.cell? ⟨w.heap.size, 2, none⟩ = some (.int .i64 c) ∧ w'.cell? ⟨w.heap.size, 3, none⟩ = some (.int .i64 d) ∧ Below w.heap.size w w' ∧ w.heap.size < w'.heap.size)
    ((refine ⟨?_, ?_, ?_, ?_, ?_, ?_⟩ <;> first | (simp; done) | exact ((Below.refl _ _).alloc (Nat.le_refl _) _).drew | (rw [hbp.cell (by simp)]; simp; done) | exact ((Below.refl _ _).alloc (Nat.le_refl _) _).drew.trans (hbp.mono (by simp)) | (have := hbp.size; simp at this; omega)))
    ((go_at_call 32; refine (iper_any a b c d hc _).mono ?_; rintro e w' ⟨rfl, hbp⟩))
  go_wp2
  go_ret
  rename_i hh
  exact ⟨ret_int (by simp [E1.out, E2.out]), hh.2.2.2.2.1⟩

theorem iRoute_any (a b c d : Int) (w : World) :
    Calls Try.prog 23 #[devV a b c d] w fun e w' => e = .returned (.int .i64 (routeAll a b c d)) ∧ Below w.heap.size w w' := by
  cases h : devOk a b c d with
  | false =>
    have HF : Hid (routeAll a b c d = 0) := by show routeAll a b c d = 0; unfold routeAll; rw [h]; rfl
    go_enter Try.func23, Try.ntmps23
    go_wp2_with (go_at_call 12; refine (idev_any _ _ _ _ _).mono ?_; rintro e w' ⟨rfl, hb1⟩)
    go_ret
    exact ⟨ret_int HF.out.symm, (below1 _ _).trans (hb1.mono (by simp))⟩
  | true =>
    have HF : Hid (routeAll a b c d = a * b * perOf c) := by show routeAll a b c d = _; unfold routeAll; rw [h]; rfl
    obtain ⟨⟨ha, hb, hc⟩, hd⟩ := devOk_iff.1 h
    go_enter Try.func23, Try.ntmps23
    go_wp2_with (first | (go_at_call 12; refine (idev_any _ _ _ _ _).mono ?_; rintro e w1 ⟨rfl, hb1⟩; obtain ⟨hcell, hfroz⟩ := bcell hb1) | (go_at_call 29; refine (iroute_any _ _ _ _ ha hb hc _).mono ?_; rintro e w2 ⟨rfl, hb2⟩))
    go_ret
    have hz := hb1.size
    simp only [World.size_alloc] at hz
    exact ⟨ret_int HF.out.symm, ((below1 _ _).trans (hb1.mono (by simp))).trans (hb2.mono (by omega))⟩

theorem sRoute_any (a b c d : Int) (w : World) :
    Calls Try.prog 22 #[devV a b c d] w fun e w' => e = .returned (.int .i64 (routeAll a b c d)) ∧ Below w.heap.size w w' := by
  cases h : devOk a b c d with
  | false =>
    have HF : Hid (routeAll a b c d = 0) := by show routeAll a b c d = 0; unfold routeAll; rw [h]; rfl
    go_enter Try.func22, Try.ntmps22
    go_wp2_with (go_at_call 10; refine (sdev_any _ _ _ _ _).mono ?_; rintro e w' ⟨rfl, hb1⟩)
    go_ret
    exact ⟨ret_int HF.out.symm, (below1 _ _).trans (hb1.mono (by simp))⟩
  | true =>
    have HF : Hid (routeAll a b c d = a * b * perOf c) := by show routeAll a b c d = _; unfold routeAll; rw [h]; rfl
    obtain ⟨⟨ha, hb, hc⟩, hd⟩ := devOk_iff.1 h
    have hab := area_of ha hb
    have hp : 11 ≤ perOf c ∧ perOf c ≤ 23 := by unfold perOf; omega
    have hm1 : 9 * 11 ≤ a * b * perOf c := Int.mul_le_mul hab.1 hp.1 (by omega) (by omega)
    have hm2 : a * b * perOf c ≤ 36 * 23 := Int.mul_le_mul hab.2 hp.2 (by omega) (by omega)
    have e1 : IntKind.i64.wrap (a * b) = a * b := IntWalk.i64_in _ (by omega)
    have e2 : IntKind.i64.wrap (a * b * perOf c) = a * b * perOf c := IntWalk.i64_in _ (by omega)
    have E1 := Lib.hid e1
    have E2 := Lib.hid e2
    clear e1 e2
    go_enter Try.func22, Try.ntmps22
    go_wp2_with (go_at_call 10; refine (sdev_any _ _ _ _ _).mono ?_; rintro e w1 ⟨rfl, hb1⟩; obtain ⟨hcell, hfroz⟩ := bcell hb1)
    have hz := hb1.size
    simp only [World.size_alloc] at hz
    go_region_held3 (fun w' => w'.cell? ⟨w.heap.size, 0, none⟩ = some (.int .i64 a) ∧ w'.cell? ⟨w.heap.size, 1, none⟩ = some (.int .i64 b) ∧ w'.cell? ⟨w.heap.size, 2, none⟩ = some (.int .i64 c) ∧ w'.cell? ⟨w.heap.size, 3, none⟩ = some (.int .i64 d) ∧ Below w.heap.size w w' ∧ w.heap.size < w'.heap.size)
      ((refine ⟨?_, ?_, ?_, ?_, ?_, ?_⟩ <;> first | (simp [hcell]; done) | exact ((below1 _ _).trans (hb1.mono (by simp))).drew | (rw [hbp.cell (by simp; omega)]; simp [hcell]; done) | exact ((below1 _ _).trans (hb1.mono (by simp))).drew.trans (hbp.mono (by simp; omega)) | (simp; omega) | (have := hbp.size; simp at this; omega)))
      ((go_at_call 28; refine (sper_any a b c d hc _).mono ?_; rintro e w' ⟨rfl, hbp⟩))
    go_wp2
    go_ret
    rename_i hh
    exact ⟨ret_int (by rw [HF.out]; simp [E1.out, E2.out]), hh.2.2.2.2.1⟩

theorem itk_any (a b c d t : Int) (ha : 3 ≤ a ∧ a ≤ 6) (hb : 3 ≤ b ∧ b ≤ 6) (ht : 0 ≤ t ∧ t ≤ a * b - 1) (w : World) :
    Calls Try.prog 31 #[devV a b c d, .int .i64 t] w fun e w' => e = .returned (.int .i64 (tkind a b d t)) ∧ Below w.heap.size w w' := by
  have hab := area_of ha hb
  have hdv := tile_div ha ht
  go_enter Try.func31, Try.ntmps31
  go_wp2
  go_quiet (fail)
  go_wp2
  all_goals go_ret
  all_goals refine ⟨ret_int (by simp_all [tkind]), ?_⟩
  all_goals exact below_drewN (below1 _ _) _

theorem iTk_any (a b c d t : Int) (w : World) :
    Calls Try.prog 25 #[devV a b c d, .int .i64 t] w fun e w' => e = .returned (.int .i64 (tkAll a b c d t)) ∧ Below w.heap.size w w' := by
  cases h : devOk a b c d && rng t 0 (a * b - 1) with
  | false =>
    have hf : tkAll a b c d t = -1 := by unfold tkAll; rw [h]; rfl
    have HF := Lib.hid hf
    clear hf
    go_enter Try.func25, Try.ntmps25
    go_wp2_with fail
    refine (tok_any _ _ _ _ _ _).mono ?_
    rintro e w1 ⟨rfl, hb1⟩
    rw [h]
    go_wp2_with fail
    go_ret
    exact ⟨ret_int HF.out.symm, (below1 _ _).trans (hb1.mono (by simp))⟩
  | true =>
    have hf : tkAll a b c d t = tkind a b d t := by unfold tkAll; rw [h]; rfl
    have HF := Lib.hid hf
    clear hf
    have h' := h
    rw [Bool.and_eq_true] at h'
    obtain ⟨⟨ha, hb, hc⟩, hd⟩ := devOk_iff.1 h'.1
    have ht := rng_iff.1 h'.2
    clear h'
    go_enter Try.func25, Try.ntmps25
    go_wp2_with fail
    refine (tok_any _ _ _ _ _ _).mono ?_
    rintro e w1 ⟨rfl, hb1⟩
    rw [h]
    clear h
    obtain ⟨hcell, hfroz⟩ := bcell hb1
    have hz := hb1.size
    simp only [World.size_alloc] at hz
    go_wp2_with (go_at_call 31; refine (itk_any _ _ _ _ _ ha hb ht _).mono ?_; rintro e w2 ⟨rfl, hb2⟩)
    go_ret
    exact ⟨ret_int HF.out.symm, ((below1 _ _).trans (hb1.mono (by simp))).trans (hb2.mono (by omega))⟩

theorem sTk_any (a b c d t : Int) (w : World) :
    Calls Try.prog 24 #[devV a b c d, .int .i64 t] w fun e w' => e = .returned (.int .i64 (tkAll a b c d t)) ∧ Below w.heap.size w w' := by
  cases h : devOk a b c d with
  | false =>
    have hf : tkAll a b c d t = -1 := by unfold tkAll; rw [h]; rfl
    have HF := Lib.hid hf
    clear hf
    go_enter Try.func24, Try.ntmps24
    go_wp2_with fail
    refine (sdev_any _ _ _ _ _).mono ?_
    rintro e w1 ⟨rfl, hb1⟩
    rw [h]
    go_wp2_with fail
    go_ret
    exact ⟨ret_int HF.out.symm, (below1 _ _).trans (hb1.mono (by simp))⟩
  | true =>
    have hdd := devOk_iff.1 h
    obtain ⟨⟨ha, hb, hc⟩, hd⟩ := hdd
    have hab := area_of ha hb
    clear hd hc
    by_cases h0 : t < 0
    · have hf : tkAll a b c d t = -1 := by unfold tkAll; rw [h, if_neg (by simp [rng]; omega)]
      have HF := Lib.hid hf
      clear hf
      go_enter Try.func24, Try.ntmps24
      go_wp2_with fail
      refine (sdev_any _ _ _ _ _).mono ?_
      rintro e w1 ⟨rfl, hb1⟩
      rw [h]
      clear h
      obtain ⟨hcell, hfroz⟩ := bcell hb1
      go_wp2_with fail
      go_ret
      exact ⟨ret_int HF.out.symm, (below1 _ _).trans (hb1.mono (by simp))⟩
    have h0' : 0 ≤ t := by omega
    clear h0
    by_cases h1 : a * b ≤ t
    · have hf : tkAll a b c d t = -1 := by unfold tkAll; rw [h, if_neg (by simp [rng]; omega)]
      have HF := Lib.hid hf
      clear hf
      go_enter Try.func24, Try.ntmps24
      go_wp2_with fail
      refine (sdev_any _ _ _ _ _).mono ?_
      rintro e w1 ⟨rfl, hb1⟩
      rw [h]
      clear h
      obtain ⟨hcell, hfroz⟩ := bcell hb1
      go_wp2_with fail
      go_ret
      exact ⟨ret_int HF.out.symm, (below1 _ _).trans (hb1.mono (by simp))⟩
    have h1' : t < a * b := by omega
    clear h1
    have hf : tkAll a b c d t = tkind a b d t := by unfold tkAll; rw [h, if_pos (by simp [rng]; omega)]
    have HF := Lib.hid hf
    clear hf
    have hdv := tile_div ha (⟨h0', by omega⟩ : 0 ≤ t ∧ t ≤ a * b - 1)
    go_enter Try.func24, Try.ntmps24
    go_wp2_with fail
    refine (sdev_any _ _ _ _ _).mono ?_
    rintro e w1 ⟨rfl, hb1⟩
    rw [h]
    clear h
    obtain ⟨hcell, hfroz⟩ := bcell hb1
    go_wp2_with fail
    all_goals go_ret
    all_goals refine ⟨ret_int ?_, (below1 _ _).trans (hb1.mono (by simp))⟩
    all_goals rw [HF.out]
    all_goals simp_all [tkind]

end Go.Proofs.Ythkfiapfhoghgaa
