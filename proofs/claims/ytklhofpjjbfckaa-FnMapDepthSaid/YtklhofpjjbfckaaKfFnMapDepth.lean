/-
  The closed facts of the row of FnMapDepth, in parts.
  Conditions: none.
-/
import Derived.Test.YtklhofpjjbfckaaBase
namespace Go.Proofs.Ytklhofpjjbfckaa
set_option linter.unusedVariables false
set_option linter.unusedSimpArgs false
set_option maxRecDepth 100000
theorem FnMapDepth_fact0:(Rows.fnMapDepthRow.inPlace==Try.pinned.checked.prog.inPlace 9)=true:=by kernel_rfl
theorem FnMapDepth_fact1:(Rows.fnMapDepthRow.unfollowed==Try.pinned.checked.prog.unfollowed 9)=true:=by kernel_rfl
theorem FnMapDepth_fact2:(Rows.fnMapDepthRow.recurses==Try.pinned.checked.prog.recurses 9)=true:=by kernel_rfl
theorem FnMapDepth_fact3:(Rows.fnMapDepthRow.named==Try.pinned.checked.prog.varsNamed 9)=true:=by kernel_rfl
theorem FnMapDepth_fact4:(laidOutB Try.pinned.checked.prog)=true:=by kernel_rfl
theorem FnMapDepth_closed:joinedFacts Try.pinned.checked.prog 9 Try.f9 Rows.fnMapDepthSpec Rows.fnMapDepthRow=true:=by
 unfold joinedFacts
 rw[FnMapDepth_fact0,FnMapDepth_fact1,FnMapDepth_fact2,FnMapDepth_fact3,FnMapDepth_fact4]
 kernel_rfl
end Go.Proofs.Ytklhofpjjbfckaa
