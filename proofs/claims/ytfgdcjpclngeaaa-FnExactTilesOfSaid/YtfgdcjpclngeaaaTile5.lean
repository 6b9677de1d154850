/-
  Contracts of OutPin.
  Conditions: those typed in each theorem.
-/
import Derived.Test.YtfgdcjpclngeaaaTile4
namespace Go.Proofs.Ytfgdcjpclngeaaa
open Go.RowKit

def pinAll (a b c d t p : Int) : Int := if rng p 0 (outPinsOf (tkAll a b c d t) - 1) = true then t * perOf c + 5 + p else -1
theorem tkAll_eq {a b c d t : Int} (h : tileB a b c d t = true) : tkAll a b c d t = tkind a b d t := by
  unfold tkAll
  unfold tileB at h
  rw [h, if_pos rfl]
theorem outs_bound {k : Int} (h : 0 ≤ k ∧ k ≤ 2) : 1 ≤ outPinsOf k ∧ outPinsOf k ≤ 2 := by
  unfold outPinsOf
  split
  · omega
  · split <;> omega
theorem mul_bound {t c : Int} (ht : 0 ≤ t ∧ t ≤ 35) (hc : 1 ≤ c ∧ c ≤ 4) : 0 ≤ t * perOf c ∧ t * perOf c ≤ 35 * 23 := by
  have hp : 11 ≤ perOf c ∧ perOf c ≤ 23 := by unfold perOf; omega
  exact ⟨Int.mul_nonneg ht.1 (by omega), Int.mul_le_mul ht.2 hp.2 (by omega) (by omega)⟩

theorem iPin_any (a b c d t p : Int) (w : World) :
    Calls Try.prog 13 #[devV a b c d, .int .i64 t, .int .i64 p] w fun e w' => e = .returned (.int .i64 (pinAll a b c d t p)) ∧ Below w.heap.size w w' := by
  cases ht : tileB a b c d t with
  | false =>
    have HF : Hid (pinAll a b c d t p = -1) := Lib.hid (by
      unfold pinAll
      rw [tkAll_neg ht, if_neg]
      simp [outPinsOf, rng]
      omega)
    unfold tileB at ht
    go_enter Try.func13, Try.ntmps13
    go_wp2_with fail
    refine (tok_any _ _ _ _ _ _).mono ?_
    rintro e w1 ⟨rfl, hb1⟩
    rw [ht]
    go_wp2_with fail
    go_ret
    exact ⟨ret_int HF.out.symm, (below1 _ _).trans (hb1.mono (by simp))⟩
  | true =>
    have htk := tkAll_eq ht
    have hkt := tkAll_pos ht
    rw [htk] at hkt
    have hob := outs_bound hkt
    have HF : Hid (pinAll a b c d t p = if rng p 0 (outPinsOf (tkind a b d t) - 1) = true then t * perOf c + 5 + p else -1) := Lib.hid (by unfold pinAll; rw [htk])
    clear htk hkt
    unfold tileB at ht
    have htt := ht
    rw [Bool.and_eq_true] at htt
    obtain ⟨⟨ha, hb, hc⟩, hd⟩ := devOk_iff.1 htt.1
    have hrt := rng_iff.1 htt.2
    have hab := area_of ha hb
    have HM := Lib.hid (mul_bound (t := t) (c := c) ⟨hrt.1, by omega⟩ hc)
    have HQ : Hid (∀ w, Calls Try.prog 29 #[devV a b c d, .int .i64 t] w fun e w' => e = .returned (.int .i64 (tkind a b d t)) ∧ Below w.heap.size w w') := Lib.hid fun w => itk_any a b c d t ha hb hrt w
    clear hd htt hab hb ha hrt
    generalize tkind a b d t = K at *
    obtain ⟨ho1, ho2⟩ := hob
    go_enter Try.func13, Try.ntmps13
    go_wp2_with fail
    refine (tok_any _ _ _ _ _ _).mono ?_
    rintro e w1 ⟨rfl, hb1⟩
    rw [ht]
    clear ht
    obtain ⟨hcell, hfroz⟩ := bcell hb1
    go_wp2_with fail
    refine (HQ.out _).mono ?_
    rintro e w2 ⟨rfl, hb2⟩
    have HO : Hid (outPinsOf K = outPinsOf K) := Lib.hid rfl
    go_wp2_with (go_at_call 28; refine (iout_any _ _).mono ?_; rintro e w' ⟨rfl, rfl⟩)
    generalize outPinsOf K = O at *
    refine (inr_any _ _ _ _).mono ?_
    rintro e w' ⟨rfl, rfl⟩
    have hb12 := hb1.trans (hb2.mono hb1.size)
    clear hcell hfroz
    obtain ⟨hcell, hfroz⟩ := bcell hb12
    have k0 : w2.cell? ⟨w.heap.size, 0, none⟩ = some (.int .i64 a) := by rw [hcell _ _ (by simp)]; simp
    have k1 : w2.cell? ⟨w.heap.size, 1, none⟩ = some (.int .i64 b) := by rw [hcell _ _ (by simp)]; simp
    have k2 : w2.cell? ⟨w.heap.size, 2, none⟩ = some (.int .i64 c) := by rw [hcell _ _ (by simp)]; simp
    have k3 : w2.cell? ⟨w.heap.size, 3, none⟩ = some (.int .i64 d) := by rw [hcell _ _ (by simp)]; simp
    have hz1 : w.heap.size < w2.heap.size := by have := hb12.size; simp at this; omega
    have HB : Hid (Below w.heap.size w w2) := Lib.hid ((below1 _ _).trans (hb12.mono (by simp)))
    clear hcell hfroz hb1 hb2 hb12
    cases hp : rng p 0 (O - 1) with
    | false =>
      rw [hp] at HF
      go_wp2_with fail
      go_ret
      exact ⟨ret_int HF.out.symm, HB.out⟩
    | true =>
      rw [hp] at HF
      have HP := Lib.hid (rng_iff.1 hp)
      clear hp
      go_wp2_with fail
      refine (iper_any a b c d hc _).mono ?_
      rintro e w3 ⟨rfl, hb3⟩
      go_wp2_with fail
      go_ret
      refine ⟨ret_int ?_, HB.out.trans (hb3.mono (by omega))⟩
      rw [HF.out, if_pos trivial]
      have hm := HM.out
      have hpp := HP.out
      generalize t * perOf c = M at *
      unfold wrap64
      omega

theorem sPin_any (a b c d t p : Int) (w : World) :
    Calls Try.prog 12 #[devV a b c d, .int .i64 t, .int .i64 p] w fun e w' => e = .returned (.int .i64 (pinAll a b c d t p)) ∧ Below w.heap.size w w' := by
  by_cases hp0 : p < 0
  · have HF : Hid (pinAll a b c d t p = -1) := Lib.hid (by
      unfold pinAll
      rw [if_neg]
      simp [rng]
      omega)
    go_enter Try.func12, Try.ntmps12
    go_wp2_with fail
    go_ret
    exact ⟨ret_int HF.out.symm, below1 _ _⟩
  · have hp1 : 0 ≤ p := by omega
    clear hp0
    cases ht : tileB a b c d t with
    | false =>
      have hk := tkAll_neg ht
      have HF : Hid (pinAll a b c d t p = -1) := Lib.hid (by
        unfold pinAll
        rw [hk, if_neg]
        simp [outPinsOf, rng]
        omega)
      have ho : outPinsOf (-1) = 0 := rfl
      clear ht
      go_enter Try.func12, Try.ntmps12
      go_wp2_with fail
      refine (sTk_any _ _ _ _ _ _).mono ?_
      rintro e w1 ⟨rfl, hb1⟩
      rw [hk]
      go_wp2_with fail
      refine (sout_any _ _).mono ?_
      rintro e w' ⟨rfl, rfl⟩
      rw [ho]
      go_wp2_with fail
      go_ret
      exact ⟨ret_int HF.out.symm, (below1 _ _).trans (hb1.mono (by simp))⟩
    | true =>
      have hob := outs_bound (tkAll_pos ht)
      unfold tileB at ht
      rw [Bool.and_eq_true] at ht
      obtain ⟨⟨ha, hb, hc⟩, hd⟩ := devOk_iff.1 ht.1
      have hrt := rng_iff.1 ht.2
      have hab := area_of ha hb
      have HM := Lib.hid (mul_bound (t := t) (c := c) ⟨hrt.1, by omega⟩ hc)
      have HF : Hid (pinAll a b c d t p = if p < outPinsOf (tkAll a b c d t) then t * perOf c + 5 + p else -1) := Lib.hid (by
        unfold pinAll
        split
        · rename_i h
          have := rng_iff.1 h
          rw [if_pos (by omega)]
        · rename_i h
          rw [if_neg]
          intro h2
          exact h (rng_iff.2 ⟨hp1, by omega⟩))
      clear ht hd hab ha hb hrt
      go_enter Try.func12, Try.ntmps12
      go_wp2_with fail
      refine (sTk_any _ _ _ _ _ _).mono ?_
      rintro e w1 ⟨rfl, hb1⟩
      generalize tkAll a b c d t = K at *
      go_wp2_with fail
      refine (sout_any _ _).mono ?_
      rintro e w' ⟨rfl, rfl⟩
      generalize outPinsOf K = O at *
      obtain ⟨hcell, hfroz⟩ := bcell hb1
      by_cases hpo : p < O
      · have hno : ¬ O ≤ p := by omega
        have HP := Lib.hid hpo
        go_wp2_with fail
        refine (sper_any a b c d hc _).mono ?_
        rintro e w3 ⟨rfl, hb3⟩
        go_wp2_with fail
        go_ret
        refine ⟨ret_int ?_, ((below1 _ _).trans (hb1.mono (by simp))).trans (hb3.mono (by have := hb1.size; simp at this; omega))⟩
        rw [HF.out, if_pos hpo]
        have hm := HM.out
        generalize t * perOf c = M at *
        unfold wrap64
        omega
      · have hno : O ≤ p := by omega
        have HP := Lib.hid hpo
        clear hpo
        go_wp2_with fail
        go_ret
        exact ⟨ret_int (by rw [HF.out, if_neg (by have := HP.out; omega)]), (below1 _ _).trans (hb1.mono (by simp))⟩

end Go.Proofs.Ytfgdcjpclngeaaa
