/-
  The closed facts of the row of FnEqualRuns, in parts.
  Conditions: none.
-/
import Derived.Test.YtnjedabjbeipeaaGreatBase
namespace Go.Proofs.YtnjedabjbeipeaaGreat
set_option linter.unusedSimpArgs false
set_option linter.unusedVariables false
set_option maxRecDepth 100000
theorem M0:(Rows.fnEqualRunsRow.inPlace==Tryz.pinned.checked.prog.inPlace 3)=true:=by kernel_rfl
theorem L7:(Rows.fnEqualRunsRow.unfollowed==Tryz.pinned.checked.prog.unfollowed 3)=true:=by kernel_rfl
theorem ML:(Rows.fnEqualRunsRow.recurses==Tryz.pinned.checked.prog.recurses 3)=true:=by kernel_rfl
theorem Mw:(Rows.fnEqualRunsRow.named==Tryz.pinned.checked.prog.varsNamed 3)=true:=by kernel_rfl
theorem M5:(laidOutB Tryz.pinned.checked.prog)=true:=by kernel_rfl
theorem L5:joinedFacts Tryz.pinned.checked.prog 3 Tryz.f3 Rows.fnEqualRunsSpec Rows.fnEqualRunsRow=true:=by
 unfold joinedFacts;rw[M0,L7,ML,Mw,M5]
 kernel_rfl
end Go.Proofs.YtnjedabjbeipeaaGreat
