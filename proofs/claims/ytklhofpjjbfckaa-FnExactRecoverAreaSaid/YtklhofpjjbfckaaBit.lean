/-
  Numbers and their bits. Plain lemmas, about no function of the program.
  Conditions: those typed in each theorem.
-/
import Derived.Test.YtklhofpjjbfckaaV5
import Derived.IntWalk
namespace Go.Proofs.Ytklhofpjjbfckaa
open Go.RowKit Go.ChangeShapes Go.WideShapes
set_option linter.unusedVariables false
theorem quo2 {a:Int} (h0:0≤a) (h1:a≤9223372036854775807):IntKind.i64.wrap (a.tdiv 2)=a / 2:=by
 rw[Int.tdiv_eq_ediv_of_nonneg h0,wrap_id (by omega) (by omega)]
end Go.Proofs.Ytklhofpjjbfckaa
