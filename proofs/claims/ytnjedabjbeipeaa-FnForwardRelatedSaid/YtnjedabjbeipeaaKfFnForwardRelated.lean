/-
  The closed facts of the row of FnForwardRelated, in parts.
  Conditions: none.
-/
import Derived.Test.YtnjedabjbeipeaaBase
namespace Go.Proofs.Ytnjedabjbeipeaa
set_option linter.unusedVariables false
set_option linter.unusedSimpArgs false
set_option maxRecDepth 100000
theorem FnForwardRelated_fact0:(Rows.fnForwardRelatedRow.inPlace==Try.pinned.checked.prog.inPlace 3)=true:=by kernel_rfl
theorem FnForwardRelated_fact1:(Rows.fnForwardRelatedRow.unfollowed==Try.pinned.checked.prog.unfollowed 3)=true:=by kernel_rfl
theorem FnForwardRelated_fact2:(Rows.fnForwardRelatedRow.recurses==Try.pinned.checked.prog.recurses 3)=true:=by kernel_rfl
theorem FnForwardRelated_fact3:(Rows.fnForwardRelatedRow.named==Try.pinned.checked.prog.varsNamed 3)=true:=by kernel_rfl
theorem FnForwardRelated_fact4:(laidOutB Try.pinned.checked.prog)=true:=by kernel_rfl
theorem FnForwardRelated_closed:joinedFacts Try.pinned.checked.prog 3 Try.f3 Rows.fnForwardRelatedSpec Rows.fnForwardRelatedRow=true:=by
 unfold joinedFacts
 rw[FnForwardRelated_fact0,FnForwardRelated_fact1,FnForwardRelated_fact2,FnForwardRelated_fact3,FnForwardRelated_fact4]
 kernel_rfl
end Go.Proofs.Ytnjedabjbeipeaa
