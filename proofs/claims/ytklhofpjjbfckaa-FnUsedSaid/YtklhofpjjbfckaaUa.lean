/-
  Forward retiming as plain data: an AND node of two flip-flops becomes a flip-flop; the links to the result. Plain lemmas, about no function of the program.
  Conditions: those typed in each theorem.
-/
import Derived.Test.YtklhofpjjbfckaaRa
import Derived.Test.YtklhofpjjbfckaaRc
import Derived.Test.YtklhofpjjbfckaaNl
namespace Go.Proofs.Ytklhofpjjbfckaa
set_option linter.unusedVariables false
set_option linter.unusedSimpArgs false

def mapSeq (pl : List Int) (s : SeqD) : SeqD := (s.1, s.2.1, s.2.2.map (mapV pl))
/-- The net while it is built: no inputs of its sequential elements yet. -/
def zeroSeq (s : SeqD) : SeqD := (s.1, s.2.1, s.2.2.map fun _ => 0)
end Go.Proofs.Ytklhofpjjbfckaa
