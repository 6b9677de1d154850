/-
  The closed facts of the row of FnExactToLuts, in parts.
  Conditions: none.
-/
import Derived.Test.YtklhofpjjbfckaaBase
namespace Go.Proofs.Ytklhofpjjbfckaa
set_option linter.unusedVariables false
set_option linter.unusedSimpArgs false
set_option maxRecDepth 100000
theorem FnExactToLuts_fact0 : (Rows.fnExactToLutsRow.inPlace == Try.pinned.checked.prog.inPlace 10) = true := by kernel_rfl
theorem FnExactToLuts_fact1 : (Rows.fnExactToLutsRow.unfollowed == Try.pinned.checked.prog.unfollowed 10) = true := by kernel_rfl
theorem FnExactToLuts_fact2 : (Rows.fnExactToLutsRow.recurses == Try.pinned.checked.prog.recurses 10) = true := by kernel_rfl
theorem FnExactToLuts_fact3 : (Rows.fnExactToLutsRow.named == Try.pinned.checked.prog.varsNamed 10) = true := by kernel_rfl
theorem FnExactToLuts_fact4 : (laidOutB Try.pinned.checked.prog) = true := by kernel_rfl
theorem FnExactToLuts_closed : joinedFacts Try.pinned.checked.prog 10 Try.f10 Rows.fnExactToLutsSpec Rows.fnExactToLutsRow = true := by
  unfold joinedFacts
  rw [FnExactToLuts_fact0, FnExactToLuts_fact1, FnExactToLuts_fact2, FnExactToLuts_fact3, FnExactToLuts_fact4]
  kernel_rfl
end Go.Proofs.Ytklhofpjjbfckaa