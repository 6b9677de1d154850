/-
  The closed facts of the row of FnNoShallower, in parts.
  Conditions: none.
-/
import Derived.Test.YtakohcpfjkcfdaaBase
namespace Go.Proofs.Ytakohcpfjkcfdaa
set_option linter.unusedVariables false
set_option linter.unusedSimpArgs false
set_option maxRecDepth 100000
theorem FnNoShallower_fact0:(Rows.fnNoShallowerRow.inPlace==Try.pinned.checked.prog.inPlace 3)=true:=by kernel_rfl
theorem FnNoShallower_fact1:(Rows.fnNoShallowerRow.unfollowed==Try.pinned.checked.prog.unfollowed 3)=true:=by kernel_rfl
theorem FnNoShallower_fact2:(Rows.fnNoShallowerRow.recurses==Try.pinned.checked.prog.recurses 3)=true:=by kernel_rfl
theorem FnNoShallower_fact3:(Rows.fnNoShallowerRow.named==Try.pinned.checked.prog.varsNamed 3)=true:=by kernel_rfl
theorem FnNoShallower_fact4:(laidOutB Try.pinned.checked.prog)=true:=by kernel_rfl
theorem FnNoShallower_closed:joinedFacts Try.pinned.checked.prog 3 Try.f3 Rows.fnNoShallowerSpec Rows.fnNoShallowerRow=true:=by
 unfold joinedFacts
 rw[FnNoShallower_fact0,FnNoShallower_fact1,FnNoShallower_fact2,FnNoShallower_fact3,FnNoShallower_fact4]
 kernel_rfl
end Go.Proofs.Ytakohcpfjkcfdaa
