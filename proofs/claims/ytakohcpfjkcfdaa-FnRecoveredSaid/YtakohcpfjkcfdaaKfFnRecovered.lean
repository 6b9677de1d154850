/-
  The closed facts of the row of FnRecovered, in parts.
  Conditions: none.
-/
import Derived.Test.YtakohcpfjkcfdaaBase
namespace Go.Proofs.Ytakohcpfjkcfdaa
set_option linter.unusedVariables false
set_option linter.unusedSimpArgs false
set_option maxRecDepth 100000
theorem FnRecovered_fact0:(Rows.fnRecoveredRow.inPlace==Try.pinned.checked.prog.inPlace 4)=true:=by kernel_rfl
theorem FnRecovered_fact1:(Rows.fnRecoveredRow.unfollowed==Try.pinned.checked.prog.unfollowed 4)=true:=by kernel_rfl
theorem FnRecovered_fact2:(Rows.fnRecoveredRow.recurses==Try.pinned.checked.prog.recurses 4)=true:=by kernel_rfl
theorem FnRecovered_fact3:(Rows.fnRecoveredRow.named==Try.pinned.checked.prog.varsNamed 4)=true:=by kernel_rfl
theorem FnRecovered_fact4:(laidOutB Try.pinned.checked.prog)=true:=by kernel_rfl
theorem FnRecovered_closed:joinedFacts Try.pinned.checked.prog 4 Try.f4 Rows.fnRecoveredSpec Rows.fnRecoveredRow=true:=by
 unfold joinedFacts
 rw[FnRecovered_fact0,FnRecovered_fact1,FnRecovered_fact2,FnRecovered_fact3,FnRecovered_fact4]
 kernel_rfl
end Go.Proofs.Ytakohcpfjkcfdaa
