/-
  LutNodes and LutNetOk, by abstract walks.
  Conditions: those typed in each theorem.
-/
import Derived.Test.YtklhofpjjbfckaaVy
namespace Go.Proofs.Ytklhofpjjbfckaa
open Go.RowKit Go.ChangeShapes Go.WideShapes
set_option linter.unusedVariables false
set_option linter.unusedSimpArgs false
theorem nodesL_pos {x : NetD} (h : nodesL x ≠ 0) : 0 ≤ x.1 ∧ x.1 ≤ 20 ∧ x.2.1.length ≤ 12 ∧ x.2.2.1.length ≤ 400 ∧ x.2.2.2.length ≤ 16 ∧ nodesL x = 1 + x.1 + x.2.1.length + x.2.2.1.length := by
  unfold nodesL at h ⊢
  split
  · rename_i hc
    have := rng_iff.1 hc.1
    exact ⟨this.1, this.2, hc.2.1, hc.2.2.1, hc.2.2.2, rfl⟩
  · rename_i hc; rw [if_neg hc] at h; exact absurd rfl h
end Go.Proofs.Ytklhofpjjbfckaa
