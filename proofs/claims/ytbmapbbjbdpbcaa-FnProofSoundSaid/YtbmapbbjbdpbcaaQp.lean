/-
  How many visits the search makes. Plain lemmas, about no function of the program.
  Conditions: those typed in each theorem.
-/
import Derived.Test.YtbmapbbjbdpbcaaQo
namespace Go.Proofs.Ytbmapbbjbdpbcaa
set_option linter.unusedVariables false
theorem zeros_set {q : List Int} {z : Nat} {x : Int} (hz : z < q.length) (h0 : q.getD z 0 = 0) (hx : x ≠ 0) : zerosL (q.set z x) + 1 = zerosL q := by
  unfold zerosL
  refine count_set_lt hz ?_ hx
  rw [List.getD_eq_getElem?_getD, List.getElem?_eq_getElem hz] at h0
  exact h0
/-- A search over few open variables ends within its visits. -/
theorem srch_ends {cls : List RowD} {v : Nat} (hc : clausesIn v cls) : ∀ (k left : Nat) (p dec : List Int) (pf : List RowD), p.length = v → trits p → zerosL p + 1 ≤ k → 2 ^ (zerosL p + 1) - 1 ≤ left →
    (srch cls k left p dec pf).code ≠ 3 ∧ left ≤ (srch cls k left p dec pf).left + (2 ^ (zerosL p + 1) - 1)
  | 0, left, p, dec, pf, hp, ht, hk, hl => by omega
  | k + 1, left, p, dec, pf, hp, ht, hk, hl => by
    have ih := srch_ends hc k
    have hpos : 1 ≤ 2 ^ zerosL p := Nat.one_le_two_pow
    have hpow : 2 ^ (zerosL p + 1) = 2 * 2 ^ zerosL p := by rw [Nat.pow_succ]; omega
    unfold srch
    rw [if_neg (by omega)]
    cases hq : propL cls p with
    | none => simp only; exact ⟨by simp, by omega⟩
    | some q =>
      simp only
      obtain ⟨f1, f2, f3⟩ := propL_facts (by rw [hp]; exact hc) ht hq
      generalize hR : srchB (srch cls k) (left - 1) dec pf q = R at *
      by_cases hz : zeroAt q = q.length
      · have := srchB_full hR hz
        subst this
        exact ⟨by simp, by simp only; omega⟩
      obtain ⟨z1, z2⟩ := zero_of hz
      have s1 := zeros_set (x := -1) z1 z2 (by omega)
      have s2 := zeros_set (x := 1) z1 z2 (by omega)
      have hzq : 2 ^ zerosL q ≤ 2 ^ zerosL p := Nat.pow_le_pow_right (by omega) f3
      have e1 : zerosL (q.set (zeroAt q) (-1)) + 1 = zerosL q := s1
      obtain ⟨a, b⟩ := srchB_two hR hz
      obtain ⟨j1, j2⟩ := ih (left - 1) (q.set (zeroAt q) (-1)) (dec ++ [-((zeroAt q : Int) + 1)]) pf (by simp; omega) (trits_set f2 _ (by omega)) (by omega) (by rw [s1]; omega)
      rw [s1] at j2
      by_cases h1 : (srch cls k (left - 1) (q.set (zeroAt q) (-1)) (dec ++ [-((zeroAt q : Int) + 1)]) pf).code = 2
      · have b2 := b h1 _ rfl
        obtain ⟨i1, i2⟩ := ih (srch cls k (left - 1) (q.set (zeroAt q) (-1)) (dec ++ [-((zeroAt q : Int) + 1)]) pf).left (q.set (zeroAt q) 1) (dec ++ [(zeroAt q : Int) + 1]) (srch cls k (left - 1) (q.set (zeroAt q) (-1)) (dec ++ [-((zeroAt q : Int) + 1)]) pf).pf (by simp; omega) (trits_set f2 _ (by omega)) (by omega) (by rw [s2]; omega)
        rw [s2] at i2
        by_cases h2 : (srch cls k (srch cls k (left - 1) (q.set (zeroAt q) (-1)) (dec ++ [-((zeroAt q : Int) + 1)]) pf).left (q.set (zeroAt q) 1) (dec ++ [(zeroAt q : Int) + 1]) (srch cls k (left - 1) (q.set (zeroAt q) (-1)) (dec ++ [-((zeroAt q : Int) + 1)]) pf).pf).code = 2
        · rw [b2.2 h2]
          exact ⟨by simp, by simp only; omega⟩
        · rw [b2.1 h2]
          exact ⟨i1, by omega⟩
      · rw [a h1]
        exact ⟨j1, by omega⟩
end Go.Proofs.Ytbmapbbjbdpbcaa
