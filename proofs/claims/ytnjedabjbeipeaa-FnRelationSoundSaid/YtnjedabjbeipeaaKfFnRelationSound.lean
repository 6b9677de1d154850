/-
  The closed facts of the row of FnRelationSound, in parts.
  Conditions: none.
-/
import Derived.Test.YtnjedabjbeipeaaBase
namespace Go.Proofs.Ytnjedabjbeipeaa
set_option linter.unusedVariables false
set_option linter.unusedSimpArgs false
set_option maxRecDepth 100000
theorem FnRelationSound_fact0:(Rows.fnRelationSoundRow.inPlace==Try.pinned.checked.prog.inPlace 4)=true:=by kernel_rfl
theorem FnRelationSound_fact1:(Rows.fnRelationSoundRow.unfollowed==Try.pinned.checked.prog.unfollowed 4)=true:=by kernel_rfl
theorem FnRelationSound_fact2:(Rows.fnRelationSoundRow.recurses==Try.pinned.checked.prog.recurses 4)=true:=by kernel_rfl
theorem FnRelationSound_fact3:(Rows.fnRelationSoundRow.named==Try.pinned.checked.prog.varsNamed 4)=true:=by kernel_rfl
theorem FnRelationSound_fact4:(laidOutB Try.pinned.checked.prog)=true:=by kernel_rfl
theorem FnRelationSound_closed:joinedFacts Try.pinned.checked.prog 4 Try.f4 Rows.fnRelationSoundSpec Rows.fnRelationSoundRow=true:=by
 unfold joinedFacts
 rw[FnRelationSound_fact0,FnRelationSound_fact1,FnRelationSound_fact2,FnRelationSound_fact3,FnRelationSound_fact4]
 kernel_rfl
end Go.Proofs.Ytnjedabjbeipeaa
