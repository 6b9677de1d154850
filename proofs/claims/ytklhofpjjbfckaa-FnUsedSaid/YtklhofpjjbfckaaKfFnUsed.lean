/-
  The closed facts of the row of FnUsed, in parts.
  Conditions: none.
-/
import Derived.Test.YtklhofpjjbfckaaBase
namespace Go.Proofs.Ytklhofpjjbfckaa
set_option linter.unusedVariables false
set_option linter.unusedSimpArgs false
set_option maxRecDepth 100000
theorem FnUsed_fact0 : (Rows.fnUsedRow.inPlace == Try.pinned.checked.prog.inPlace 7) = true := by kernel_rfl
theorem FnUsed_fact1 : (Rows.fnUsedRow.unfollowed == Try.pinned.checked.prog.unfollowed 7) = true := by kernel_rfl
theorem FnUsed_fact2 : (Rows.fnUsedRow.recurses == Try.pinned.checked.prog.recurses 7) = true := by kernel_rfl
theorem FnUsed_fact3 : (Rows.fnUsedRow.named == Try.pinned.checked.prog.varsNamed 7) = true := by kernel_rfl
theorem FnUsed_fact4 : (laidOutB Try.pinned.checked.prog) = true := by kernel_rfl
theorem FnUsed_closed : joinedFacts Try.pinned.checked.prog 7 Try.f7 Rows.fnUsedSpec Rows.fnUsedRow = true := by
  unfold joinedFacts
  rw [FnUsed_fact0, FnUsed_fact1, FnUsed_fact2, FnUsed_fact3, FnUsed_fact4]
  kernel_rfl
end Go.Proofs.Ytklhofpjjbfckaa