/-
  The closed facts of the row of FnExactForwardLinks, in parts.
  Conditions: none.
-/
import Derived.Test.YtklhofpjjbfckaaBase
namespace Go.Proofs.Ytklhofpjjbfckaa
set_option linter.unusedVariables false
set_option linter.unusedSimpArgs false
set_option maxRecDepth 100000
theorem FnExactForwardLinks_fact0 : (Rows.fnExactForwardLinksRow.inPlace == Try.pinned.checked.prog.inPlace 5) = true := by kernel_rfl
theorem FnExactForwardLinks_fact1 : (Rows.fnExactForwardLinksRow.unfollowed == Try.pinned.checked.prog.unfollowed 5) = true := by kernel_rfl
theorem FnExactForwardLinks_fact2 : (Rows.fnExactForwardLinksRow.recurses == Try.pinned.checked.prog.recurses 5) = true := by kernel_rfl
theorem FnExactForwardLinks_fact3 : (Rows.fnExactForwardLinksRow.named == Try.pinned.checked.prog.varsNamed 5) = true := by kernel_rfl
theorem FnExactForwardLinks_fact4 : (laidOutB Try.pinned.checked.prog) = true := by kernel_rfl
theorem FnExactForwardLinks_closed : joinedFacts Try.pinned.checked.prog 5 Try.f5 Rows.fnExactForwardLinksSpec Rows.fnExactForwardLinksRow = true := by
  unfold joinedFacts
  rw [FnExactForwardLinks_fact0, FnExactForwardLinks_fact1, FnExactForwardLinks_fact2, FnExactForwardLinks_fact3, FnExactForwardLinks_fact4]
  kernel_rfl
end Go.Proofs.Ytklhofpjjbfckaa