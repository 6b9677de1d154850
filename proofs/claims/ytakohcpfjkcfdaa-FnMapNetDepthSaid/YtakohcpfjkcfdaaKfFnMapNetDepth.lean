/-
  The closed facts of the row of FnMapNetDepth, in parts.
  Conditions: none.
-/
import Derived.Test.YtakohcpfjkcfdaaBase
namespace Go.Proofs.Ytakohcpfjkcfdaa
set_option linter.unusedVariables false
set_option linter.unusedSimpArgs false
set_option maxRecDepth 100000
theorem FnMapNetDepth_fact0:(Rows.fnMapNetDepthRow.inPlace==Try.pinned.checked.prog.inPlace 5)=true:=by kernel_rfl
theorem FnMapNetDepth_fact1:(Rows.fnMapNetDepthRow.unfollowed==Try.pinned.checked.prog.unfollowed 5)=true:=by kernel_rfl
theorem FnMapNetDepth_fact2:(Rows.fnMapNetDepthRow.recurses==Try.pinned.checked.prog.recurses 5)=true:=by kernel_rfl
theorem FnMapNetDepth_fact3:(Rows.fnMapNetDepthRow.named==Try.pinned.checked.prog.varsNamed 5)=true:=by kernel_rfl
theorem FnMapNetDepth_fact4:(laidOutB Try.pinned.checked.prog)=true:=by kernel_rfl
theorem FnMapNetDepth_closed:joinedFacts Try.pinned.checked.prog 5 Try.f5 Rows.fnMapNetDepthSpec Rows.fnMapNetDepthRow=true:=by
 unfold joinedFacts
 rw[FnMapNetDepth_fact0,FnMapNetDepth_fact1,FnMapNetDepth_fact2,FnMapNetDepth_fact3,FnMapNetDepth_fact4]
 kernel_rfl
end Go.Proofs.Ytakohcpfjkcfdaa
