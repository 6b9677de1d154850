/-
  The closed facts of the row of FnLabelsRise, in parts.
  Conditions: none.
-/
import Derived.Test.YtklhofpjjbfckaaBase
namespace Go.Proofs.Ytklhofpjjbfckaa
set_option linter.unusedVariables false
set_option linter.unusedSimpArgs false
set_option maxRecDepth 100000
theorem FnLabelsRise_fact0 : (Rows.fnLabelsRiseRow.inPlace == Try.pinned.checked.prog.inPlace 6) = true := by kernel_rfl
theorem FnLabelsRise_fact1 : (Rows.fnLabelsRiseRow.unfollowed == Try.pinned.checked.prog.unfollowed 6) = true := by kernel_rfl
theorem FnLabelsRise_fact2 : (Rows.fnLabelsRiseRow.recurses == Try.pinned.checked.prog.recurses 6) = true := by kernel_rfl
theorem FnLabelsRise_fact3 : (Rows.fnLabelsRiseRow.named == Try.pinned.checked.prog.varsNamed 6) = true := by kernel_rfl
theorem FnLabelsRise_fact4 : (laidOutB Try.pinned.checked.prog) = true := by kernel_rfl
theorem FnLabelsRise_closed : joinedFacts Try.pinned.checked.prog 6 Try.f6 Rows.fnLabelsRiseSpec Rows.fnLabelsRiseRow = true := by
  unfold joinedFacts
  rw [FnLabelsRise_fact0, FnLabelsRise_fact1, FnLabelsRise_fact2, FnLabelsRise_fact3, FnLabelsRise_fact4]
  kernel_rfl
end Go.Proofs.Ytklhofpjjbfckaa
