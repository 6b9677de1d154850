/-
  Tables and sequential elements, by abstract walks.
  Conditions: those typed in each theorem.
-/
import Derived.Test.YtmengbppepeddaaWa
import Derived.Test.YtmengbppepeddaaBit
namespace Go.Proofs.Ytmengbppepeddaa
open Go.RowKit Go.ChangeShapes Go.WideShapes
set_option linter.unusedVariables false
set_option linter.unusedSimpArgs false
end Go.Proofs.Ytmengbppepeddaa
