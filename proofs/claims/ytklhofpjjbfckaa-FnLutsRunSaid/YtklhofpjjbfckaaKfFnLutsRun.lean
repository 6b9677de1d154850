/-
  The closed facts of the row of FnLutsRun, in parts.
  Conditions: none.
-/
import Derived.Test.YtklhofpjjbfckaaBase
namespace Go.Proofs.Ytklhofpjjbfckaa
set_option linter.unusedVariables false
set_option linter.unusedSimpArgs false
set_option maxRecDepth 100000
theorem FnLutsRun_fact0 : (Rows.fnLutsRunRow.inPlace == Try.pinned.checked.prog.inPlace 13) = true := by kernel_rfl
theorem FnLutsRun_fact1 : (Rows.fnLutsRunRow.unfollowed == Try.pinned.checked.prog.unfollowed 13) = true := by kernel_rfl
theorem FnLutsRun_fact2 : (Rows.fnLutsRunRow.recurses == Try.pinned.checked.prog.recurses 13) = true := by kernel_rfl
theorem FnLutsRun_fact3 : (Rows.fnLutsRunRow.named == Try.pinned.checked.prog.varsNamed 13) = true := by kernel_rfl
theorem FnLutsRun_fact4 : (laidOutB Try.pinned.checked.prog) = true := by kernel_rfl
theorem FnLutsRun_closed : joinedFacts Try.pinned.checked.prog 13 Try.f13 Rows.fnLutsRunSpec Rows.fnLutsRunRow = true := by
  unfold joinedFacts
  rw [FnLutsRun_fact0, FnLutsRun_fact1, FnLutsRun_fact2, FnLutsRun_fact3, FnLutsRun_fact4]
  kernel_rfl
end Go.Proofs.Ytklhofpjjbfckaa
