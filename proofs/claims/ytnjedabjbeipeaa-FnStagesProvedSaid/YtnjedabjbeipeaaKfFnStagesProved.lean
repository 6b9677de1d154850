/-
  The closed facts of the row of FnStagesProved, in parts.
  Conditions: none.
-/
import Derived.Test.YtnjedabjbeipeaaBase
namespace Go.Proofs.Ytnjedabjbeipeaa
set_option linter.unusedSimpArgs false
set_option linter.unusedVariables false
set_option maxRecDepth 100000
theorem J8:(Rows.fnStagesProvedRow.inPlace==Try.pinned.checked.prog.inPlace 5)=true:=by kernel_rfl
theorem JL:(Rows.fnStagesProvedRow.unfollowed==Try.pinned.checked.prog.unfollowed 5)=true:=by kernel_rfl
theorem JZ:(Rows.fnStagesProvedRow.recurses==Try.pinned.checked.prog.recurses 5)=true:=by kernel_rfl
theorem J7:(Rows.fnStagesProvedRow.named==Try.pinned.checked.prog.varsNamed 5)=true:=by kernel_rfl
theorem J9:(laidOutB Try.pinned.checked.prog)=true:=by kernel_rfl
theorem Ju:joinedFacts Try.pinned.checked.prog 5 Try.f5 Rows.fnStagesProvedSpec Rows.fnStagesProvedRow=true:=by
 unfold joinedFacts;rw[J8,JL,JZ,J7,J9]
 kernel_rfl
end Go.Proofs.Ytnjedabjbeipeaa
