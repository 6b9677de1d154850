/-
  The closed facts of the row of FnLutDepth, in parts.
  Conditions: none.
-/
import Derived.Test.YtklhofpjjbfckaaBase
namespace Go.Proofs.Ytklhofpjjbfckaa
set_option linter.unusedVariables false
set_option linter.unusedSimpArgs false
set_option maxRecDepth 100000
theorem FnLutDepth_fact0 : (Rows.fnLutDepthRow.inPlace == Try.pinned.checked.prog.inPlace 12) = true := by kernel_rfl
theorem FnLutDepth_fact1 : (Rows.fnLutDepthRow.unfollowed == Try.pinned.checked.prog.unfollowed 12) = true := by kernel_rfl
theorem FnLutDepth_fact2 : (Rows.fnLutDepthRow.recurses == Try.pinned.checked.prog.recurses 12) = true := by kernel_rfl
theorem FnLutDepth_fact3 : (Rows.fnLutDepthRow.named == Try.pinned.checked.prog.varsNamed 12) = true := by kernel_rfl
theorem FnLutDepth_fact4 : (laidOutB Try.pinned.checked.prog) = true := by kernel_rfl
theorem FnLutDepth_closed : joinedFacts Try.pinned.checked.prog 12 Try.f12 Rows.fnLutDepthSpec Rows.fnLutDepthRow = true := by
  unfold joinedFacts
  rw [FnLutDepth_fact0, FnLutDepth_fact1, FnLutDepth_fact2, FnLutDepth_fact3, FnLutDepth_fact4]
  kernel_rfl
end Go.Proofs.Ytklhofpjjbfckaa
