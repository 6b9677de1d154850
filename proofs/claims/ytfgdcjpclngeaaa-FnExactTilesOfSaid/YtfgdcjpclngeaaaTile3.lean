/-
  Contracts of TileDistance, TileStep, OutPin.
  Conditions: those typed in each theorem.
-/
import Derived.Test.YtfgdcjpclngeaaaTile2
namespace Go.Proofs.Ytfgdcjpclngeaaa
open Go.RowKit

theorem quiet_eq {P : Program} {f : FuncId} {args : Array Value} {w : World} {n : Nat} {v : Value}
    (h : Calls P f args (w.drewN n) fun e w' => e = .returned v ∧ w.drewN n = w') : Calls P f args (w.drewN n) fun e w' => e = .returned v ∧ ∃ m, w' = w.drewN m :=
  h.mono fun _ _ ⟨he, hm⟩ => ⟨he, n, hm.symm⟩
theorem quiet_add {P : Program} {f : FuncId} {args : Array Value} {w : World} {a n : Nat} {v : Value}
    (h : Calls P f args (w.drewN (a + n)) fun e w' => e = .returned v ∧ w.drewN (a + n) = w') : Calls P f args (w.drewN (a + n)) fun e w' => e = .returned v ∧ ∃ m, w' = w.drewN (a + m) :=
  h.mono fun _ _ ⟨he, hm⟩ => ⟨he, n, hm.symm⟩
def absW (n : Int) : Int := if n < 0 then wrap64 (-n) else n
def distE (a t u : Int) : Int := wrap64 (absW (t % a - u % a) + absW (wrap64 (wrap64 (t.tdiv a) - wrap64 (u.tdiv a))))
def tileB (a b c d t : Int) : Bool := devOk a b c d && rng t 0 (a * b - 1)
def distAll (a b c d t u : Int) : Int := if (tileB a b c d t && tileB a b c d u) = true then distE a t u else -1
theorem tkAll_neg {a b c d t : Int} (h : tileB a b c d t = false) : tkAll a b c d t = -1 := by unfold tkAll; unfold tileB at h; rw [h]; rfl
theorem tkAll_pos {a b c d t : Int} (h : tileB a b c d t = true) : 0 ≤ tkAll a b c d t ∧ tkAll a b c d t ≤ 2 := by
  unfold tkAll
  unfold tileB at h
  rw [h, if_pos rfl]
  unfold tkind
  split
  · omega
  · split <;> omega

theorem iabs_any (n : Int) (w : World) : Calls Try.prog 22 #[.int .i64 n] w fun e w' => e = .returned (.int .i64 (absW n)) ∧ w = w' := by
  go_enter Try.func22, Try.ntmps22
  go_wp2
  all_goals go_ret
  all_goals exact ⟨ret_int (by simp_all [absW]; try omega), rfl⟩

theorem sabs_any (n : Int) (w : World) : Calls Try.prog 20 #[.int .i64 n] w fun e w' => e = .returned (.int .i64 (absW n)) ∧ w = w' := by
  go_enter Try.func20, Try.ntmps20
  go_wp2
  all_goals go_ret
  all_goals exact ⟨ret_int (by simp_all [absW]; try omega), rfl⟩

theorem iDist_any (a b c d t u : Int) (w : World) :
    Calls Try.prog 9 #[devV a b c d, .int .i64 t, .int .i64 u] w fun e w' => e = .returned (.int .i64 (distAll a b c d t u)) ∧ Below w.heap.size w w' := by
  cases ht : tileB a b c d t with
  | false =>
    have HF : Hid (distAll a b c d t u = -1) := Lib.hid (by unfold distAll; rw [ht]; rfl)
    go_enter Try.func9, Try.ntmps9
    go_wp2_with fail
    refine (tok_any _ _ _ _ _ _).mono ?_
    rintro e w1 ⟨rfl, hb1⟩
    change tileB a b c d t = false at ht
    unfold tileB at ht
    rw [ht]
    go_wp2_with fail
    go_ret
    exact ⟨ret_int HF.out.symm, (below1 _ _).trans (hb1.mono (by simp))⟩
  | true =>
    have ht0 := ht
    unfold tileB at ht
    have htt := ht
    rw [Bool.and_eq_true] at htt
    obtain ⟨⟨ha, hb, hc⟩, hd⟩ := devOk_iff.1 htt.1
    have hrt := rng_iff.1 htt.2
    have hdt := tile_div ha hrt
    clear hd htt
    cases hu : tileB a b c d u with
    | false =>
      have HF : Hid (distAll a b c d t u = -1) := Lib.hid (by unfold distAll; rw [ht0, hu]; rfl)
      unfold tileB at hu
      clear ht0
      go_enter Try.func9, Try.ntmps9
      go_wp2_with fail
      refine (tok_any _ _ _ _ _ _).mono ?_
      rintro e w1 ⟨rfl, hb1⟩
      obtain ⟨hcell, hfroz⟩ := bcell hb1
      rw [ht]
      go_wp2_with fail
      refine (tok_any _ _ _ _ _ _).mono ?_
      rintro e w2 ⟨rfl, hb2⟩
      rw [hu]
      go_wp2_with fail
      go_ret
      exact ⟨ret_int HF.out.symm, (below1 _ _).trans ((hb1.trans (hb2.mono hb1.size)).mono (by simp))⟩
    | true =>
      have HF : Hid (distAll a b c d t u = distE a t u) := Lib.hid (by unfold distAll; rw [ht0, hu]; rfl)
      unfold tileB at hu
      have huu := hu
      rw [Bool.and_eq_true] at huu
      have hru := rng_iff.1 huu.2
      have hdu := tile_div ha hru
      clear ht0 huu
      obtain ⟨ha1, ha2⟩ := ha
      obtain ⟨hb1', hb2'⟩ := hb
      obtain ⟨ht1, ht2⟩ := hrt
      obtain ⟨hu1, hu2⟩ := hru
      obtain ⟨hq1, hq2, hq3, hq4⟩ := hdt
      obtain ⟨hp1, hp2, hp3, hp4⟩ := hdu
      have haz : a ≠ 0 := by omega
      have E1 : Hid (a = a) := Lib.hid rfl
      go_enter Try.func9, Try.ntmps9
      go_wp2_with fail
      refine (tok_any _ _ _ _ _ _).mono ?_
      rintro e w1 ⟨rfl, hb1⟩
      obtain ⟨hcell, hfroz⟩ := bcell hb1
      rw [ht]
      go_wp2_with fail
      refine (tok_any _ _ _ _ _ _).mono ?_
      rintro e w2 ⟨rfl, hb2⟩
      rw [hu]
      clear hcell hfroz ht hu
      have hb12 := hb1.trans (hb2.mono hb1.size)
      obtain ⟨hcell, hfroz⟩ := bcell hb12
      go_wp2_with fail
      go_quiet (((go_at_call 22; first | exact quiet_add (iabs_any _ _) | exact quiet_eq (iabs_any _ _))))
      go_wp2
      go_ret
      exact ⟨ret_int HF.out.symm, (below1 _ _).trans ((below_drewN hb12 _).mono (by simp))⟩

theorem sDist_any (a b c d t u : Int) (w : World) :
    Calls Try.prog 7 #[devV a b c d, .int .i64 t, .int .i64 u] w fun e w' => e = .returned (.int .i64 (distAll a b c d t u)) ∧ Below w.heap.size w w' := by
  cases ht : tileB a b c d t with
  | false =>
    have HF : Hid (distAll a b c d t u = -1) := Lib.hid (by unfold distAll; rw [ht]; rfl)
    have ht' := tkAll_neg ht
    clear ht
    go_enter Try.func7, Try.ntmps7
    go_wp2_with fail
    refine (sTk_any _ _ _ _ _ _).mono ?_
    rintro e w1 ⟨rfl, hb1⟩
    rw [ht']
    go_wp2_with fail
    go_ret
    exact ⟨ret_int HF.out.symm, (below1 _ _).trans (hb1.mono (by simp))⟩
  | true =>
    have ht0 := ht
    have hkt := tkAll_pos ht
    unfold tileB at ht
    have htt := ht
    rw [Bool.and_eq_true] at htt
    obtain ⟨⟨ha, hb, hc⟩, hd⟩ := devOk_iff.1 htt.1
    have hrt := rng_iff.1 htt.2
    have hdt := tile_div ha hrt
    clear hd htt ht
    cases hu : tileB a b c d u with
    | false =>
      have HF : Hid (distAll a b c d t u = -1) := Lib.hid (by unfold distAll; rw [ht0, hu]; rfl)
      have hu' := tkAll_neg hu
      clear ht0 hu
      go_enter Try.func7, Try.ntmps7
      go_wp2_with fail
      refine (sTk_any _ _ _ _ _ _).mono ?_
      rintro e w1 ⟨rfl, hb1⟩
      obtain ⟨hcell, hfroz⟩ := bcell hb1
      generalize tkAll a b c d t = kt at *
      obtain ⟨hk1, hk2⟩ := hkt
      go_wp2_with fail
      refine (sTk_any _ _ _ _ _ _).mono ?_
      rintro e w2 ⟨rfl, hb2⟩
      rw [hu']
      go_wp2_with fail
      go_ret
      exact ⟨ret_int HF.out.symm, (below1 _ _).trans ((hb1.trans (hb2.mono hb1.size)).mono (by simp))⟩
    | true =>
      have HF : Hid (distAll a b c d t u = distE a t u) := Lib.hid (by unfold distAll; rw [ht0, hu]; rfl)
      have hku := tkAll_pos hu
      unfold tileB at hu
      have huu := hu
      rw [Bool.and_eq_true] at huu
      have hru := rng_iff.1 huu.2
      have hdu := tile_div ha hru
      clear ht0 huu hu
      obtain ⟨ha1, ha2⟩ := ha
      obtain ⟨hb1', hb2'⟩ := hb
      obtain ⟨ht1, ht2⟩ := hrt
      obtain ⟨hu1, hu2⟩ := hru
      obtain ⟨hq1, hq2, hq3, hq4⟩ := hdt
      obtain ⟨hp1, hp2, hp3, hp4⟩ := hdu
      have haz : a ≠ 0 := by omega
      go_enter Try.func7, Try.ntmps7
      go_wp2_with fail
      refine (sTk_any _ _ _ _ _ _).mono ?_
      rintro e w1 ⟨rfl, hb1⟩
      obtain ⟨hcell, hfroz⟩ := bcell hb1
      generalize tkAll a b c d t = kt at *
      obtain ⟨hk1, hk2⟩ := hkt
      go_wp2_with fail
      refine (sTk_any _ _ _ _ _ _).mono ?_
      rintro e w2 ⟨rfl, hb2⟩
      generalize tkAll a b c d u = ku at *
      obtain ⟨hk3, hk4⟩ := hku
      clear hcell hfroz
      have hb12 := hb1.trans (hb2.mono hb1.size)
      obtain ⟨hcell, hfroz⟩ := bcell hb12
      go_wp2_with fail
      go_quiet (((go_at_call 20; first | exact quiet_add (sabs_any _ _) | exact quiet_eq (sabs_any _ _))))
      go_wp2
      go_ret
      exact ⟨ret_int HF.out.symm, (below1 _ _).trans ((below_drewN hb12 _).mono (by simp))⟩

def dxs (k : Int) : Int := if k = 0 then 1 else if k = 2 then -1 else 0
def dys (k : Int) : Int := if k = 1 then 1 else if k = 3 then -1 else 0
def stepB (a b c d t k n : Int) : Bool := tileB a b c d t && rng k 0 3 && rng n 0 6
def stepE (a b t k n : Int) : Int := if (rng (t % a + dxs k * n) 0 (a - 1) && rng (t / a + dys k * n) 0 (b - 1)) = true then (t / a + dys k * n) * a + (t % a + dxs k * n) else -1
def stepAll (a b c d t k n : Int) : Int := if stepB a b c d t k n = true then stepE a b t k n else -1

theorem step_yes {a b t k n X Y : Int} (h1 : rng X 0 (a - 1) = true) (h2 : (!rng Y 0 (b - 1)) = false) (hX : X = t % a + dxs k * n) (hY : Y = t / a + dys k * n)
    (ha1 : 3 ≤ a) (ha2 : a ≤ 6) (hb1 : 3 ≤ b) (hb2 : b ≤ 6) : stepE a b t k n = wrap64 (wrap64 (Y * a) + X) := by
  have h2' : rng Y 0 (b - 1) = true := by simpa using h2
  have e1 := rng_iff.1 h1
  have e2 := rng_iff.1 h2'
  unfold stepE
  rw [← hX, ← hY, h1, h2', Bool.and_self, if_pos rfl]
  have hm1 : 0 ≤ Y * a := Int.mul_nonneg e2.1 (by omega)
  have hm2 : Y * a ≤ 5 * 6 := Int.mul_le_mul (by omega) (by omega) (by omega) (by omega)
  generalize Y * a = M at *
  unfold wrap64
  omega
theorem step_no1 {a b t k n X : Int} (h0 : ¬rng X 0 (a - 1) = true) (hX : X = t % a + dxs k * n) : stepE a b t k n = -1 := by
  have h1 : rng X 0 (a - 1) = false := by simpa using h0
  unfold stepE
  rw [← hX, h1, Bool.false_and]
  rfl
theorem step_no2 {a b t k n Y : Int} (h1 : (!rng Y 0 (b - 1)) = true) (hY : Y = t / a + dys k * n) : stepE a b t k n = -1 := by
  have h1' : rng Y 0 (b - 1) = false := by simpa using h1
  unfold stepE
  rw [← hY, h1', Bool.and_false]
  rfl

theorem iTs_any (a b c d t k n : Int) (ha : 3 ≤ a ∧ a ≤ 6) (hb : 3 ≤ b ∧ b ≤ 6) (ht : 0 ≤ t ∧ t ≤ a * b - 1) (hk : 0 ≤ k ∧ k ≤ 3) (hn : 0 ≤ n ∧ n ≤ 6) (w : World) :
    Calls Try.prog 25 #[devV a b c d, .int .i64 t, .int .i64 k, .int .i64 n] w fun e w' => e = .returned (.int .i64 (stepE a b t k n)) ∧ Below w.heap.size w w' := by
  have hdt := tile_div ha ht
  have hq : t.tdiv a = t / a := Int.tdiv_eq_ediv_of_nonneg ht.1
  have hw : wrap64 (t / a) = t / a := by unfold wrap64; omega
  have HF : Hid (stepE a b t k n = stepE a b t k n) := Lib.hid rfl
  have hm0 : ∀ k : Int, 0 ≤ k ∧ k ≤ 3 → k = 0 ∨ k = 1 ∨ k = 2 ∨ k = 3 := fun k h => by omega
  generalize hE : stepE a b t k n = E at *
  have HE := Lib.hid hE
  clear hE HF
  obtain ⟨ha1, ha2⟩ := ha
  obtain ⟨hb1, hb2⟩ := hb
  obtain ⟨ht1, ht2⟩ := ht
  obtain ⟨hn1, hn2⟩ := hn
  obtain ⟨hq1, hq2, hq3, hq4⟩ := hdt
  have hq5 : t / a ≤ 5 := by omega
  have hq6 : t % a ≤ 5 := by omega
  rcases hm0 k hk with rfl | rfl | rfl | rfl
  all_goals go_enter Try.func25, Try.ntmps25
  all_goals go_wp2_with fail
  all_goals go_quiet (fail)
  all_goals go_wp2_with (go_at_call 24; refine (inr_any _ _ _ _).mono ?_; rintro e w' ⟨rfl, rfl⟩)
  all_goals go_ret
  all_goals refine ⟨ret_int ?_, below_drewN (below1 _ _) _⟩
  all_goals rw [← HE.out]
  all_goals first
    | (rename_i h1 h2; exact (step_yes h1 h2 (by first | (simp [dxs]; done) | (simp [dxs]; omega)) (by first | (simp [dys]; done) | (simp [dys]; omega)) ha1 ha2 hb1 hb2).symm)
    | (rename_i h1; exact (step_no1 h1 (by first | (simp [dxs]; done) | (simp [dxs]; omega))).symm)
    | (rename_i h1; exact (step_no2 h1 (by first | (simp [dys]; done) | (simp [dys]; omega))).symm)

theorem iStep_any (a b c d t k n : Int) (w : World) :
    Calls Try.prog 11 #[devV a b c d, .int .i64 t, .int .i64 k, .int .i64 n] w fun e w' => e = .returned (.int .i64 (stepAll a b c d t k n)) ∧ Below w.heap.size w w' := by
  cases ht : tileB a b c d t with
  | false =>
    have HF : Hid (stepAll a b c d t k n = -1) := Lib.hid (by unfold stepAll stepB; rw [ht]; rfl)
    change tileB a b c d t = false at ht
    unfold tileB at ht
    go_enter Try.func11, Try.ntmps11
    go_wp2_with fail
    refine (tok_any _ _ _ _ _ _).mono ?_
    rintro e w1 ⟨rfl, hb1⟩
    rw [ht]
    go_wp2_with fail
    go_ret
    exact ⟨ret_int HF.out.symm, (below1 _ _).trans (hb1.mono (by simp))⟩
  | true =>
    have ht0 := ht
    unfold tileB at ht
    have htt := ht
    rw [Bool.and_eq_true] at htt
    obtain ⟨⟨ha, hb, hc⟩, hd⟩ := devOk_iff.1 htt.1
    have hrt := rng_iff.1 htt.2
    clear hd htt
    cases hk : rng k 0 3 with
    | false =>
      have HF : Hid (stepAll a b c d t k n = -1) := Lib.hid (by unfold stepAll stepB; rw [ht0, hk]; rfl)
      clear ht0
      go_enter Try.func11, Try.ntmps11
      go_wp2_with fail
      refine (tok_any _ _ _ _ _ _).mono ?_
      rintro e w1 ⟨rfl, hb1⟩
      rw [ht]
      clear ht
      go_wp2_with (go_at_call 24; refine (inr_any _ _ _ _).mono ?_; rintro e w' ⟨rfl, rfl⟩)
      go_ret
      exact ⟨ret_int HF.out.symm, (below1 _ _).trans (hb1.mono (by simp))⟩
    | true =>
      cases hn : rng n 0 6 with
      | false =>
        have HF : Hid (stepAll a b c d t k n = -1) := Lib.hid (by unfold stepAll stepB; rw [ht0, hk, hn]; rfl)
        clear ht0
        go_enter Try.func11, Try.ntmps11
        go_wp2_with fail
        refine (tok_any _ _ _ _ _ _).mono ?_
        rintro e w1 ⟨rfl, hb1⟩
        rw [ht]
        clear ht
        go_wp2_with (go_at_call 24; refine (inr_any _ _ _ _).mono ?_; rintro e w' ⟨rfl, rfl⟩)
        go_ret
        exact ⟨ret_int HF.out.symm, (below1 _ _).trans (hb1.mono (by simp))⟩
      | true =>
        have HF : Hid (stepAll a b c d t k n = stepE a b t k n) := Lib.hid (by unfold stepAll stepB; rw [ht0, hk, hn]; rfl)
        clear ht0
        have hrk := rng_iff.1 hk
        have hrn := rng_iff.1 hn
        go_enter Try.func11, Try.ntmps11
        go_wp2_with fail
        refine (tok_any _ _ _ _ _ _).mono ?_
        rintro e w1 ⟨rfl, hb1⟩
        obtain ⟨hcell, hfroz⟩ := bcell hb1
        rw [ht]
        clear ht
        go_wp2_with (first | (go_at_call 24; refine (inr_any _ _ _ _).mono ?_; rintro e w' ⟨rfl, rfl⟩) | (go_at_call 25; refine (iTs_any _ _ _ _ _ _ _ ha hb hrt hrk hrn _).mono ?_; rintro e w2 ⟨rfl, hb2⟩))
        go_ret
        exact ⟨ret_int HF.out.symm, (below1 _ _).trans ((hb1.trans (hb2.mono hb1.size)).mono (by simp))⟩

end Go.Proofs.Ytfgdcjpclngeaaa
