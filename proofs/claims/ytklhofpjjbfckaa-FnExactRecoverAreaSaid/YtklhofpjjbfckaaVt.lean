/-
  Contracts of the laws' helpers over look-up tables, by abstract walks. Written by mk_vt.py from those over sequential elements.
  Conditions: those typed in each theorem.
-/
import Derived.Test.YtklhofpjjbfckaaV6
namespace Go.Proofs.Ytklhofpjjbfckaa
open Go.RowKit Go.ChangeShapes Go.WideShapes
set_option linter.unusedVariables false
set_option linter.unusedSimpArgs false
end Go.Proofs.Ytklhofpjjbfckaa
