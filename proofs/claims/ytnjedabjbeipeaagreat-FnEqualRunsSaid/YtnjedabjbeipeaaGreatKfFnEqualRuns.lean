/-
  The closed facts of the row of FnEqualRuns, in parts.
  Conditions: none.
-/
import Derived.Test.YtnjedabjbeipeaaGreatBase
namespace Go.Proofs.YtnjedabjbeipeaaGreat
set_option linter.unusedSimpArgs false
set_option linter.unusedVariables false
set_option maxRecDepth 100000
theorem MU:(Rows.fnEqualRunsRow.inPlace==Tryz.pinned.checked.prog.inPlace 3)=true:=by kernel_rfl
theorem MF:(Rows.fnEqualRunsRow.unfollowed==Tryz.pinned.checked.prog.unfollowed 3)=true:=by kernel_rfl
theorem M3:(Rows.fnEqualRunsRow.recurses==Tryz.pinned.checked.prog.recurses 3)=true:=by kernel_rfl
theorem MC:(Rows.fnEqualRunsRow.named==Tryz.pinned.checked.prog.varsNamed 3)=true:=by kernel_rfl
theorem Mc:(laidOutB Tryz.pinned.checked.prog)=true:=by kernel_rfl
theorem LZ:joinedFacts Tryz.pinned.checked.prog 3 Tryz.f3 Rows.fnEqualRunsSpec Rows.fnEqualRunsRow=true:=by
 unfold joinedFacts;rw[MU,MF,M3,MC,Mc]
 kernel_rfl
end Go.Proofs.YtnjedabjbeipeaaGreat
