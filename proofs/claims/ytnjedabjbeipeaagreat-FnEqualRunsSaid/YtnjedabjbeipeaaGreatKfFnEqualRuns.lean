/-
  The closed facts of the row of FnEqualRuns, in parts.
  Conditions: none.
-/
import Derived.Test.YtnjedabjbeipeaaGreatBase
namespace Go.Proofs.YtnjedabjbeipeaaGreat
set_option linter.unusedSimpArgs false
set_option linter.unusedVariables false
set_option maxRecDepth 100000
theorem Mg:(Rows.fnEqualRunsRow.inPlace==Tryz.pinned.checked.prog.inPlace 3)=true:=by kernel_rfl
theorem Mx:(Rows.fnEqualRunsRow.unfollowed==Tryz.pinned.checked.prog.unfollowed 3)=true:=by kernel_rfl
theorem LW:(Rows.fnEqualRunsRow.recurses==Tryz.pinned.checked.prog.recurses 3)=true:=by kernel_rfl
theorem Mv:(Rows.fnEqualRunsRow.named==Tryz.pinned.checked.prog.varsNamed 3)=true:=by kernel_rfl
theorem MB:(laidOutB Tryz.pinned.checked.prog)=true:=by kernel_rfl
theorem Lx:joinedFacts Tryz.pinned.checked.prog 3 Tryz.f3 Rows.fnEqualRunsSpec Rows.fnEqualRunsRow=true:=by
 unfold joinedFacts;rw[Mg,Mx,LW,Mv,MB]
 kernel_rfl
end Go.Proofs.YtnjedabjbeipeaaGreat
