/-
  The closed facts of the row of FnExactMapNet, in parts.
  Conditions: none.
-/
import Derived.Test.YtklhofpjjbfckaaBase
namespace Go.Proofs.Ytklhofpjjbfckaa
set_option linter.unusedVariables false
set_option linter.unusedSimpArgs false
set_option maxRecDepth 100000
theorem FnExactMapNet_fact0:(Rows.fnExactMapNetRow.inPlace==Try.pinned.checked.prog.inPlace 14)=true:=by kernel_rfl
theorem FnExactMapNet_fact1:(Rows.fnExactMapNetRow.unfollowed==Try.pinned.checked.prog.unfollowed 14)=true:=by kernel_rfl
theorem FnExactMapNet_fact2:(Rows.fnExactMapNetRow.recurses==Try.pinned.checked.prog.recurses 14)=true:=by kernel_rfl
theorem FnExactMapNet_fact3:(Rows.fnExactMapNetRow.named==Try.pinned.checked.prog.varsNamed 14)=true:=by kernel_rfl
theorem FnExactMapNet_fact4:(laidOutB Try.pinned.checked.prog)=true:=by kernel_rfl
theorem FnExactMapNet_closed:joinedFacts Try.pinned.checked.prog 14 Try.f14 Rows.fnExactMapNetSpec Rows.fnExactMapNetRow=true:=by
 unfold joinedFacts
 rw[FnExactMapNet_fact0,FnExactMapNet_fact1,FnExactMapNet_fact2,FnExactMapNet_fact3,FnExactMapNet_fact4]
 kernel_rfl
end Go.Proofs.Ytklhofpjjbfckaa
