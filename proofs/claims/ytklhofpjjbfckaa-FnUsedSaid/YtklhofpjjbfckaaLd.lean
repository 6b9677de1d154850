/-
  Use of nodes is told from above. Plain lemmas.
  Conditions: those typed in each theorem.
-/
import Derived.Test.YtklhofpjjbfckaaNr
namespace Go.Proofs.Ytklhofpjjbfckaa
open Go.RowKit Go.ChangeShapes Go.WideShapes
set_option linter.unusedVariables false
set_option linter.unusedSimpArgs false
theorem usM_low {x : GrD} {cs : List RowD} (hm : mapOkB x cs = true) {v j : Nat} (hj : grN x ≤ v + 1 + j) : ∀ d, j + d ≤ cs.length → getB (usM x cs (j + d)) v = getB (usM x cs j) v
  | 0, _ => rfl
  | d + 1, h => by
    have ih := usM_low hm hj d (by omega)
    obtain ⟨hok, hl, hcs⟩ := mapOk_of hm
    have hN := grN_eq x
    rw [← ih]
    show getB (usM x cs (j + d + 1)) v = _
    conv => lhs; unfold usM
    split
    · obtain ⟨c, hc⟩ : ∃ c, cs[cs.length - 1 - (j + d)]? = some c := ⟨_, List.getElem?_eq_getElem (by omega)⟩
      rw [hc]
      refine ctM_only (fun y hy e => ?_) _ (Nat.le_refl _)
      have := cut_below hm hc y hy
      omega
    · rfl
theorem usedL_at {x : GrD} {cs : List RowD} (hm : mapOkB x cs = true) {i j : Nat} (hi : i < cs.length) (hj : j = cs.length - 1 - i) : getB (usedL x cs) i = getB (usM x cs j) (firstG x + i) := by
  obtain ⟨hok, hl, hcs⟩ := mapOk_of hm
  have hN := grN_eq x
  have h := usM_low hm (v := firstG x + i) (j := j) (by omega) (cs.length - j) (by omega)
  rw [show j + (cs.length - j) = cs.length by omega] at h
  rw [← h]
  unfold usedL getB
  rw [List.getElem?_drop]
end Go.Proofs.Ytklhofpjjbfckaa
