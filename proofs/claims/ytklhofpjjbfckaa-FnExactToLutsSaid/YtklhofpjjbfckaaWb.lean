/-
  Tables and sequential elements, by abstract walks.
  Conditions: those typed in each theorem.
-/
import Derived.Test.YtklhofpjjbfckaaWa
import Derived.Test.YtklhofpjjbfckaaBit
namespace Go.Proofs.Ytklhofpjjbfckaa
open Go.RowKit Go.ChangeShapes Go.WideShapes
set_option linter.unusedVariables false
set_option linter.unusedSimpArgs false
end Go.Proofs.Ytklhofpjjbfckaa
