/-
  The closed facts of the row of FnExactDepthMapping, in parts.
  Conditions: none.
-/
import Derived.Test.YtklhofpjjbfckaaBase
namespace Go.Proofs.Ytklhofpjjbfckaa
set_option linter.unusedVariables false
set_option linter.unusedSimpArgs false
set_option maxRecDepth 100000
theorem FnExactDepthMapping_fact0 : (Rows.fnExactDepthMappingRow.inPlace == Try.pinned.checked.prog.inPlace 4) = true := by kernel_rfl
theorem FnExactDepthMapping_fact1 : (Rows.fnExactDepthMappingRow.unfollowed == Try.pinned.checked.prog.unfollowed 4) = true := by kernel_rfl
theorem FnExactDepthMapping_fact2 : (Rows.fnExactDepthMappingRow.recurses == Try.pinned.checked.prog.recurses 4) = true := by kernel_rfl
theorem FnExactDepthMapping_fact3 : (Rows.fnExactDepthMappingRow.named == Try.pinned.checked.prog.varsNamed 4) = true := by kernel_rfl
theorem FnExactDepthMapping_fact4 : (laidOutB Try.pinned.checked.prog) = true := by kernel_rfl
theorem FnExactDepthMapping_closed : joinedFacts Try.pinned.checked.prog 4 Try.f4 Rows.fnExactDepthMappingSpec Rows.fnExactDepthMappingRow = true := by
  unfold joinedFacts
  rw [FnExactDepthMapping_fact0, FnExactDepthMapping_fact1, FnExactDepthMapping_fact2, FnExactDepthMapping_fact3, FnExactDepthMapping_fact4]
  kernel_rfl
end Go.Proofs.Ytklhofpjjbfckaa
