/-
  The closed facts of the row of FnExactRecoverArea, in parts.
  Conditions: none.
-/
import Derived.Test.YtklhofpjjbfckaaBase
namespace Go.Proofs.Ytklhofpjjbfckaa
set_option linter.unusedVariables false
set_option linter.unusedSimpArgs false
set_option maxRecDepth 100000
theorem FnExactRecoverArea_fact0:(Rows.fnExactRecoverAreaRow.inPlace==Try.pinned.checked.prog.inPlace 11)=true:=by kernel_rfl
theorem FnExactRecoverArea_fact1:(Rows.fnExactRecoverAreaRow.unfollowed==Try.pinned.checked.prog.unfollowed 11)=true:=by kernel_rfl
theorem FnExactRecoverArea_fact2:(Rows.fnExactRecoverAreaRow.recurses==Try.pinned.checked.prog.recurses 11)=true:=by kernel_rfl
theorem FnExactRecoverArea_fact3:(Rows.fnExactRecoverAreaRow.named==Try.pinned.checked.prog.varsNamed 11)=true:=by kernel_rfl
theorem FnExactRecoverArea_fact4:(laidOutB Try.pinned.checked.prog)=true:=by kernel_rfl
theorem FnExactRecoverArea_closed:joinedFacts Try.pinned.checked.prog 11 Try.f11 Rows.fnExactRecoverAreaSpec Rows.fnExactRecoverAreaRow=true:=by
 unfold joinedFacts
 rw[FnExactRecoverArea_fact0,FnExactRecoverArea_fact1,FnExactRecoverArea_fact2,FnExactRecoverArea_fact3,FnExactRecoverArea_fact4]
 kernel_rfl
end Go.Proofs.Ytklhofpjjbfckaa
