/-
  What Solve gives for small formulas. Plain lemmas, about no function of the program.
  Conditions: those typed in each theorem.
-/
import Derived.Test.YtbmapbbjbdpbcaaQr
namespace Go.Proofs.Ytbmapbbjbdpbcaa
set_option linter.unusedVariables false
set_option linter.unusedSimpArgs false
/-- The search finds the least model, or a refutation that is accepted and stands or falls with its last clause. -/
theorem solveL_says {v : Nat} {cls : List RowD} (hv : v ≤ 6) (hok : cnfOkL v cls = true) (hn : cls.length ≤ 1000) :
    (∃ a, solveL v cls 600 = (1, a, []) ∧ a.length = v ∧ cnfTrueL v cls a = true ∧ ∀ b, cnfTrueL v cls b = true → least a b) ∨
    (∃ pf, solveL v cls 600 = (2, [], pf) ∧ (∀ b, cnfTrueL v cls b = false) ∧ checkL v cls pf = true ∧ 0 < pf.length ∧ pf.length ≤ 600 ∧ checkL v cls (pf.take (pf.length - 1)) = false) := by
  have hc := cnfOk_clauses hok
  have htr := trits_rep v
  have hz : zerosL (List.replicate v (0 : Int)) = v := by unfold zerosL; simp
  have hpow : 2 ^ (v + 1) ≤ 2 ^ 7 := Nat.pow_le_pow_right (by omega) (by omega)
  have h600 : (600 : Int).toNat = 600 := rfl
  have e1 := srch_ends hc 600 600 (List.replicate v 0) [] [] (by simp) htr (by rw [hz]; omega) (by rw [hz]; omega)
  have e2 := srch_facts hc 600 600 (List.replicate v 0) [] [] (by simp) htr
  have e3 := srch_model hc 600 600 (List.replicate v 0) [] [] (by simp) htr
  have e4 := fun (b : List Bool) (hb : b.length = v) (hs : cls.all (clauseTrueL b) = true) => srch_least hc hb hs 600 600 (List.replicate v 0) [] [] (by simp) htr (agrees_zero v b)
  have e5 := srch_refutes (by omega) hc 600 600 (List.replicate v 0) [] [] (by simp) htr (fun q q1 _ _ _ => ⟨by simpa using q1.symm, fun m h => by
    exfalso; apply h
    rw [List.getD_eq_getElem?_getD, List.getElem?_replicate]
    split <;> rfl⟩) (by simp) (by rw [hz]; simp) (by simpa using hc)
  have hS : solveL v cls 600 = (fun r : SRes => if r.code = 1 then (1, ones r.model, []) else if r.code = 2 then (2, [], r.pf) else (3, [], [])) (srch cls 600 600 (List.replicate v 0) [] []) := by
    unfold solveL
    rw [if_pos ⟨hok, by decide⟩]
    simp only [h600, Int.toNat_natCast]
  rw [hS]
  generalize srch cls 600 600 (List.replicate v 0) [] [] = r at *
  have tr : ∀ b, cnfTrueL v cls b = true → b.length = v ∧ cls.all (clauseTrueL b) = true := fun b h => by
    unfold cnfTrueL at h
    simp only [Bool.and_eq_true, decide_eq_true_eq] at h
    exact ⟨by omega, h.2⟩
  by_cases h1 : r.code = 1
  · left
    obtain ⟨m1, m2, m3⟩ := e3 h1
    obtain ⟨q1, q2⟩ := e2.2.2.2 h1
    refine ⟨ones r.model, by simp [h1], by rw [ones_len]; exact q1, ?_, fun b hb => ?_⟩
    · unfold cnfTrueL
      rw [hok, ones_len, q1, model_true (by rw [q1]; exact hc) q2 m2 m3]
      simp
    · obtain ⟨b1, b2⟩ := tr b hb
      exact (e4 b b1 b2).2 h1
  · right
    have h2 : r.code = 2 := by
      rcases e2.2.1 with h | h | h
      · exact absurd h h1
      · exact h
      · exact absurd h e1.1
    obtain ⟨new, n1, n2, n3⟩ := e5 h2
    obtain ⟨f1, f2, f3⟩ := e2.2.2.1 h2
    simp only [List.length_nil, Nat.zero_add] at f1
    have hpf : r.pf = new ++ [[]] := by rw [n1]; simp [negs]
    have hln : r.pf.length = new.length + 1 := by rw [hpf]; simp
    refine ⟨r.pf, by simp [h1, h2], fun b => ?_, ?_, f2, by omega, ?_⟩
    · cases hb : cnfTrueL v cls b with
      | false => rfl
      | true =>
        obtain ⟨b1, b2⟩ := tr b hb
        exact absurd h2 (e4 b b1 b2).1
    · unfold checkL
      rw [hok, rng_iff.2 (by omega), decide_eq_true (by omega), hpf]
      have : chkGo v cls (new ++ [negs []]) = true := by simpa using n3
      rw [show (new ++ [([] : List Int)]) = new ++ [negs []] from rfl, this]
      simp [negs]
    · have ht : r.pf.take (r.pf.length - 1) = new := by rw [hln, hpf]; simp
      rw [ht]
      unfold checkL
      cases hnw : new.length with
      | zero =>
        have : new = [] := List.eq_nil_of_length_eq_zero hnw
        subst this
        simp [rng]
      | succ n =>
        have hne : (new.getD (new.length - 1) []).length ≠ 0 := by
          have hlt : new.length - 1 < new.length := by omega
          rw [List.getD_eq_getElem?_getD, List.getElem?_eq_getElem hlt]
          intro h
          exact n2 _ (List.getElem_mem hlt) (List.eq_nil_of_length_eq_zero h)
        rw [hnw] at hne
        rw [decide_eq_false hne]
        simp
end Go.Proofs.Ytbmapbbjbdpbcaa
