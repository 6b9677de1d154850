/-
  No cell of these rows narrows 'for every input' (looked for: loops, veiled, ifaces, maps, wideKeys, modest, calm, conditions, laid).
  DERIVED. THE GIVEN ROWS OF THIS SEAT. 7 by the template 'for every input the law returns true; each argument reads behind the call as it read before'; 0 by the template 'total and deterministic' (their statements: YtmengbppepeddaaTotals.lean).
  GIVEN WITH THE SEED: the statements are not yours to turn. If you find one false, say at which input.
  Laid BY PROGRAM, IN A SANDBOX (cutbox-rows.mjs): the forced cells as the released guide's own fill.sh prints them over the translation 8ab761296ce78e94… (all of the seat's roots in one cut). By AI agents, Wed Nov 11 2026. No macro, syntax, notation, axiom, sorry.
-/
import Derived.Test.YtmengbppepeddaaChecked
import GoSem.Claim
import GoSem.ClaimJoined
import GoSem.ClaimMapViews
import Derived.JoinedTies
import Derived.KernelRfl
namespace Go.Proofs.Ytmengbppepeddaa
/- THE CELL 'sum', in the pinned program and in every row, IS THE sha256 OF THE DUMP (.gsa) THAT YtmengbppepeddaaProg.lean LOADS. Nothing in Lean hashes anything: it is a label: what it is worth is what the hold of that sum in a sandbox is worth. -/
noncomputable def Try.pinned : Pinned := { name := "ytmengbppepeddaa", sum := "8ab761296ce78e949359db63a7254de71d566457459c818dc0980ec44115d042", checked := Try.checked }
namespace Rows
def none {H : Type} : Left H := { results := [], args := [] }

/-- 'laws.FnExactLutNodes': WHATEVER THE INPUT: true; the input reads as it did. -/
def fnExactLutNodesSpec : ChangeSpec := { name := "fnExactLutNodes", fn := fun _ => fun
  | [d] => { results := [.lit (.bool true)], args := [d] }
  | _ => none }
def fnExactLutNodesRow : OpenClaim := { program := "ytmengbppepeddaa", sum := "8ab761296ce78e949359db63a7254de71d566457459c818dc0980ec44115d042", func := "loop.example/g03311/laws.FnExactLutNodes", spec := "fnExactLutNodes", apart := false }
def FnExactLutNodesSaid : Prop := fnExactLutNodesRow.holds Try.pinned (OpenSpec.ofChange fnExactLutNodesSpec)

/-- ITS FALSE NEIGHBOUR: 'it returns false'. Refute it at one input. -/
def fnExactLutNodesWrong : ChangeSpec := { name := "fnExactLutNodes", fn := fun _ => fun
  | [d] => { results := [.lit (.bool false)], args := [d] }
  | _ => none }
def FnExactLutNodesWrongFalsely : Prop := fnExactLutNodesRow.holds Try.pinned (OpenSpec.ofChange fnExactLutNodesWrong)

/-- 'laws.FnExactLutNetOk': WHATEVER THE INPUT: true; the input reads as it did. -/
def fnExactLutNetOkSpec : ChangeSpec := { name := "fnExactLutNetOk", fn := fun _ => fun
  | [d] => { results := [.lit (.bool true)], args := [d] }
  | _ => none }
def fnExactLutNetOkRow : OpenClaim := { program := "ytmengbppepeddaa", sum := "8ab761296ce78e949359db63a7254de71d566457459c818dc0980ec44115d042", func := "loop.example/g03311/laws.FnExactLutNetOk", spec := "fnExactLutNetOk", apart := false }
def FnExactLutNetOkSaid : Prop := fnExactLutNetOkRow.holds Try.pinned (OpenSpec.ofChange fnExactLutNetOkSpec)

/-- ITS FALSE NEIGHBOUR: 'it returns false'. Refute it at one input. -/
def fnExactLutNetOkWrong : ChangeSpec := { name := "fnExactLutNetOk", fn := fun _ => fun
  | [d] => { results := [.lit (.bool false)], args := [d] }
  | _ => none }
def FnExactLutNetOkWrongFalsely : Prop := fnExactLutNetOkRow.holds Try.pinned (OpenSpec.ofChange fnExactLutNetOkWrong)

/-- 'laws.FnExactLutDepth': WHATEVER THE INPUT: true; the input reads as it did. -/
def fnExactLutDepthSpec : ChangeSpec := { name := "fnExactLutDepth", fn := fun _ => fun
  | [d] => { results := [.lit (.bool true)], args := [d] }
  | _ => none }
def fnExactLutDepthRow : OpenClaim := { program := "ytmengbppepeddaa", sum := "8ab761296ce78e949359db63a7254de71d566457459c818dc0980ec44115d042", func := "loop.example/g03311/laws.FnExactLutDepth", spec := "fnExactLutDepth", apart := false }
def FnExactLutDepthSaid : Prop := fnExactLutDepthRow.holds Try.pinned (OpenSpec.ofChange fnExactLutDepthSpec)

/-- ITS FALSE NEIGHBOUR: 'it returns false'. Refute it at one input. -/
def fnExactLutDepthWrong : ChangeSpec := { name := "fnExactLutDepth", fn := fun _ => fun
  | [d] => { results := [.lit (.bool false)], args := [d] }
  | _ => none }
def FnExactLutDepthWrongFalsely : Prop := fnExactLutDepthRow.holds Try.pinned (OpenSpec.ofChange fnExactLutDepthWrong)

/-- 'laws.FnExactLutStateOk': WHATEVER THE INPUT: true; the input reads as it did. -/
def fnExactLutStateOkSpec : ChangeSpec := { name := "fnExactLutStateOk", fn := fun _ => fun
  | [d1, d2] => { results := [.lit (.bool true)], args := [d1, d2] }
  | _ => none }
def fnExactLutStateOkRow : OpenClaim := { program := "ytmengbppepeddaa", sum := "8ab761296ce78e949359db63a7254de71d566457459c818dc0980ec44115d042", func := "loop.example/g03311/laws.FnExactLutStateOk", spec := "fnExactLutStateOk", apart := false }
def FnExactLutStateOkSaid : Prop := fnExactLutStateOkRow.holds Try.pinned (OpenSpec.ofChange fnExactLutStateOkSpec)

/-- ITS FALSE NEIGHBOUR: 'it returns false'. Refute it at one input. -/
def fnExactLutStateOkWrong : ChangeSpec := { name := "fnExactLutStateOk", fn := fun _ => fun
  | [d1, d2] => { results := [.lit (.bool false)], args := [d1, d2] }
  | _ => none }
def FnExactLutStateOkWrongFalsely : Prop := fnExactLutStateOkRow.holds Try.pinned (OpenSpec.ofChange fnExactLutStateOkWrong)

/-- 'laws.FnExactLutValues': WHATEVER THE INPUT: true; the input reads as it did. -/
def fnExactLutValuesSpec : ChangeSpec := { name := "fnExactLutValues", fn := fun _ => fun
  | [d1, d2, d3] => { results := [.lit (.bool true)], args := [d1, d2, d3] }
  | _ => none }
def fnExactLutValuesRow : OpenClaim := { program := "ytmengbppepeddaa", sum := "8ab761296ce78e949359db63a7254de71d566457459c818dc0980ec44115d042", func := "loop.example/g03311/laws.FnExactLutValues", spec := "fnExactLutValues", apart := false }
def FnExactLutValuesSaid : Prop := fnExactLutValuesRow.holds Try.pinned (OpenSpec.ofChange fnExactLutValuesSpec)

/-- ITS FALSE NEIGHBOUR: 'it returns false'. Refute it at one input. -/
def fnExactLutValuesWrong : ChangeSpec := { name := "fnExactLutValues", fn := fun _ => fun
  | [d1, d2, d3] => { results := [.lit (.bool false)], args := [d1, d2, d3] }
  | _ => none }
def FnExactLutValuesWrongFalsely : Prop := fnExactLutValuesRow.holds Try.pinned (OpenSpec.ofChange fnExactLutValuesWrong)

/-- 'laws.FnExactLutStep': WHATEVER THE INPUT: true; the input reads as it did. -/
def fnExactLutStepSpec : ChangeSpec := { name := "fnExactLutStep", fn := fun _ => fun
  | [d1, d2, d3] => { results := [.lit (.bool true)], args := [d1, d2, d3] }
  | _ => none }
def fnExactLutStepRow : OpenClaim := { program := "ytmengbppepeddaa", sum := "8ab761296ce78e949359db63a7254de71d566457459c818dc0980ec44115d042", func := "loop.example/g03311/laws.FnExactLutStep", spec := "fnExactLutStep", apart := false }
def FnExactLutStepSaid : Prop := fnExactLutStepRow.holds Try.pinned (OpenSpec.ofChange fnExactLutStepSpec)

/-- ITS FALSE NEIGHBOUR: 'it returns false'. Refute it at one input. -/
def fnExactLutStepWrong : ChangeSpec := { name := "fnExactLutStep", fn := fun _ => fun
  | [d1, d2, d3] => { results := [.lit (.bool false)], args := [d1, d2, d3] }
  | _ => none }
def FnExactLutStepWrongFalsely : Prop := fnExactLutStepRow.holds Try.pinned (OpenSpec.ofChange fnExactLutStepWrong)

/-- 'laws.FnExactLutRun': WHATEVER THE INPUT: true; the input reads as it did. -/
def fnExactLutRunSpec : ChangeSpec := { name := "fnExactLutRun", fn := fun _ => fun
  | [d1, d2] => { results := [.lit (.bool true)], args := [d1, d2] }
  | _ => none }
def fnExactLutRunRow : OpenClaim := { program := "ytmengbppepeddaa", sum := "8ab761296ce78e949359db63a7254de71d566457459c818dc0980ec44115d042", func := "loop.example/g03311/laws.FnExactLutRun", spec := "fnExactLutRun", apart := false }
def FnExactLutRunSaid : Prop := fnExactLutRunRow.holds Try.pinned (OpenSpec.ofChange fnExactLutRunSpec)

/-- ITS FALSE NEIGHBOUR: 'it returns false'. Refute it at one input. -/
def fnExactLutRunWrong : ChangeSpec := { name := "fnExactLutRun", fn := fun _ => fun
  | [d1, d2] => { results := [.lit (.bool false)], args := [d1, d2] }
  | _ => none }
def FnExactLutRunWrongFalsely : Prop := fnExactLutRunRow.holds Try.pinned (OpenSpec.ofChange fnExactLutRunWrong)

/- THE SECOND FORM. 'bulk': how many values and letters a reading holds, each counted each time it is reached (what is shared counts as often as it is met; a slice's spare places count too). A statement '..UptoSaid' is the law's where the arguments, and the package variables that the reading takes, are together of bulk at most 1048576: NARROWER than '..Said'. Prove '..Said' where nothing that the law and all that it calls make is longer than what came in: it says more and counts as full. Else prove '..UptoSaid'. A law counts once. -/
mutual
def uptoBulk {H : Type} : DataW H → Nat
  | .lit (.string bytes) => bytes.length + 1
  | .lit _ => 1
  | .nil => 1
  | .ptr d => uptoBulk d + 1
  | .slice elems spare => uptoBulkAll elems + uptoBulkAll spare + 1
  | .agg parts => uptoBulkAll parts + 1
  | .iface _ d => uptoBulk d + 1
  | .map entries => uptoBulkEntries entries + 1
  | .held _ => 1
def uptoBulkAll {H : Type} : List (DataW H) → Nat
  | [] => 0
  | d :: r => uptoBulk d + uptoBulkAll r
def uptoBulkEntries {H : Type} : List (Lit × DataW H) → Nat
  | [] => 0
  | x :: r => uptoBulkEntry x + uptoBulkEntries r
def uptoBulkEntry {H : Type} : Lit × DataW H → Nat
  | (.string bytes, d) => bytes.length + uptoBulk d + 1
  | (_, d) => uptoBulk d + 1
 end
def uptoSmall : (H : Type) → List (DataW H) → Bool := fun _ ds => decide (uptoBulkAll ds ≤ 1048576)
def OpenSpec.upto (s : _root_.Go.ChangeSpec) : _root_.Go.OpenSpec := { _root_.Go.OpenSpec.ofChange s with cond := some uptoSmall }

/-- 'laws.FnExactLutNodes', WHERE WHAT IT READS IS OF BULK AT MOST 1048576: true; the input reads as it did. -/
def fnExactLutNodesUptoRow : OpenClaim := { program := "ytmengbppepeddaa", sum := "8ab761296ce78e949359db63a7254de71d566457459c818dc0980ec44115d042", func := "loop.example/g03311/laws.FnExactLutNodes", spec := "fnExactLutNodes", apart := false, narrowed := true }
def FnExactLutNodesUptoSaid : Prop := fnExactLutNodesUptoRow.holds Try.pinned (OpenSpec.upto fnExactLutNodesSpec)

/-- 'laws.FnExactLutNetOk', WHERE WHAT IT READS IS OF BULK AT MOST 1048576: true; the input reads as it did. -/
def fnExactLutNetOkUptoRow : OpenClaim := { program := "ytmengbppepeddaa", sum := "8ab761296ce78e949359db63a7254de71d566457459c818dc0980ec44115d042", func := "loop.example/g03311/laws.FnExactLutNetOk", spec := "fnExactLutNetOk", apart := false, narrowed := true }
def FnExactLutNetOkUptoSaid : Prop := fnExactLutNetOkUptoRow.holds Try.pinned (OpenSpec.upto fnExactLutNetOkSpec)

/-- 'laws.FnExactLutDepth', WHERE WHAT IT READS IS OF BULK AT MOST 1048576: true; the input reads as it did. -/
def fnExactLutDepthUptoRow : OpenClaim := { program := "ytmengbppepeddaa", sum := "8ab761296ce78e949359db63a7254de71d566457459c818dc0980ec44115d042", func := "loop.example/g03311/laws.FnExactLutDepth", spec := "fnExactLutDepth", apart := false, narrowed := true }
def FnExactLutDepthUptoSaid : Prop := fnExactLutDepthUptoRow.holds Try.pinned (OpenSpec.upto fnExactLutDepthSpec)

/-- 'laws.FnExactLutStateOk', WHERE WHAT IT READS IS OF BULK AT MOST 1048576: true; the input reads as it did. -/
def fnExactLutStateOkUptoRow : OpenClaim := { program := "ytmengbppepeddaa", sum := "8ab761296ce78e949359db63a7254de71d566457459c818dc0980ec44115d042", func := "loop.example/g03311/laws.FnExactLutStateOk", spec := "fnExactLutStateOk", apart := false, narrowed := true }
def FnExactLutStateOkUptoSaid : Prop := fnExactLutStateOkUptoRow.holds Try.pinned (OpenSpec.upto fnExactLutStateOkSpec)

/-- 'laws.FnExactLutValues', WHERE WHAT IT READS IS OF BULK AT MOST 1048576: true; the input reads as it did. -/
def fnExactLutValuesUptoRow : OpenClaim := { program := "ytmengbppepeddaa", sum := "8ab761296ce78e949359db63a7254de71d566457459c818dc0980ec44115d042", func := "loop.example/g03311/laws.FnExactLutValues", spec := "fnExactLutValues", apart := false, narrowed := true }
def FnExactLutValuesUptoSaid : Prop := fnExactLutValuesUptoRow.holds Try.pinned (OpenSpec.upto fnExactLutValuesSpec)

/-- 'laws.FnExactLutStep', WHERE WHAT IT READS IS OF BULK AT MOST 1048576: true; the input reads as it did. -/
def fnExactLutStepUptoRow : OpenClaim := { program := "ytmengbppepeddaa", sum := "8ab761296ce78e949359db63a7254de71d566457459c818dc0980ec44115d042", func := "loop.example/g03311/laws.FnExactLutStep", spec := "fnExactLutStep", apart := false, narrowed := true }
def FnExactLutStepUptoSaid : Prop := fnExactLutStepUptoRow.holds Try.pinned (OpenSpec.upto fnExactLutStepSpec)

/-- 'laws.FnExactLutRun', WHERE WHAT IT READS IS OF BULK AT MOST 1048576: true; the input reads as it did. -/
def fnExactLutRunUptoRow : OpenClaim := { program := "ytmengbppepeddaa", sum := "8ab761296ce78e949359db63a7254de71d566457459c818dc0980ec44115d042", func := "loop.example/g03311/laws.FnExactLutRun", spec := "fnExactLutRun", apart := false, narrowed := true }
def FnExactLutRunUptoSaid : Prop := fnExactLutRunUptoRow.holds Try.pinned (OpenSpec.upto fnExactLutRunSpec)

end Rows
end Go.Proofs.Ytmengbppepeddaa
