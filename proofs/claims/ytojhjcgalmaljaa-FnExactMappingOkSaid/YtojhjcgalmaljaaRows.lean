/-
  No cell of these rows narrows 'for every input' (looked for: loops, veiled, ifaces, maps, wideKeys, modest, calm, conditions, laid).
  DERIVED. THE GIVEN ROWS OF THIS SEAT. 8 by the template 'for every input the law returns true; each argument reads behind the call as it read before'; 0 by the template 'total and deterministic' (their statements: YtojhjcgalmaljaaTotals.lean).
  GIVEN WITH THE SEED: the statements are not yours to turn. If you find one false, say at which input.
  Laid BY PROGRAM, IN A SANDBOX (cutbox-rows.mjs): the forced cells as the released guide's own fill.sh prints them over the translation d04924c58d68dafb… (all of the seat's roots in one cut). By AI agents, Wed Nov 11 2026. No macro, syntax, notation, axiom, sorry.
-/
import Derived.Test.YtojhjcgalmaljaaChecked
import GoSem.Claim
import GoSem.ClaimJoined
import GoSem.ClaimMapViews
import Derived.JoinedTies
import Derived.KernelRfl
namespace Go.Proofs.Ytojhjcgalmaljaa
/- THE CELL 'sum', in the pinned program and in every row, IS THE sha256 OF THE DUMP (.gsa) THAT YtojhjcgalmaljaaProg.lean LOADS. Nothing in Lean hashes anything: it is a label: what it is worth is what the hold of that sum in a sandbox is worth. -/
noncomputable def Try.pinned : Pinned := { name := "ytojhjcgalmaljaa", sum := "d04924c58d68dafb52d7edf1003c7b8c10e320d12ef58fca524323cfe6938ccb", checked := Try.checked }
namespace Rows
def none {H : Type} : Left H := { results := [], args := [] }

/-- 'laws.FnExactMappingOk': WHATEVER THE INPUT: true; the input reads as it did. -/
def fnExactMappingOkSpec : ChangeSpec := { name := "fnExactMappingOk", fn := fun _ => fun
  | [d1, d2] => { results := [.lit (.bool true)], args := [d1, d2] }
  | _ => none }
def fnExactMappingOkRow : OpenClaim := { program := "ytojhjcgalmaljaa", sum := "d04924c58d68dafb52d7edf1003c7b8c10e320d12ef58fca524323cfe6938ccb", func := "loop.example/g03311/laws.FnExactMappingOk", spec := "fnExactMappingOk", recurses := true, apart := false }
def FnExactMappingOkSaid : Prop := fnExactMappingOkRow.holds Try.pinned (OpenSpec.ofChange fnExactMappingOkSpec)

/-- ITS FALSE NEIGHBOUR: 'it returns false'. Refute it at one input. -/
def fnExactMappingOkWrong : ChangeSpec := { name := "fnExactMappingOk", fn := fun _ => fun
  | [d1, d2] => { results := [.lit (.bool false)], args := [d1, d2] }
  | _ => none }
def FnExactMappingOkWrongFalsely : Prop := fnExactMappingOkRow.holds Try.pinned (OpenSpec.ofChange fnExactMappingOkWrong)

/-- 'laws.FnExactMapDepth': WHATEVER THE INPUT: true; the input reads as it did. -/
def fnExactMapDepthSpec : ChangeSpec := { name := "fnExactMapDepth", fn := fun _ => fun
  | [d1, d2] => { results := [.lit (.bool true)], args := [d1, d2] }
  | _ => none }
def fnExactMapDepthRow : OpenClaim := { program := "ytojhjcgalmaljaa", sum := "d04924c58d68dafb52d7edf1003c7b8c10e320d12ef58fca524323cfe6938ccb", func := "loop.example/g03311/laws.FnExactMapDepth", spec := "fnExactMapDepth", recurses := true, apart := false }
def FnExactMapDepthSaid : Prop := fnExactMapDepthRow.holds Try.pinned (OpenSpec.ofChange fnExactMapDepthSpec)

/-- ITS FALSE NEIGHBOUR: 'it returns false'. Refute it at one input. -/
def fnExactMapDepthWrong : ChangeSpec := { name := "fnExactMapDepth", fn := fun _ => fun
  | [d1, d2] => { results := [.lit (.bool false)], args := [d1, d2] }
  | _ => none }
def FnExactMapDepthWrongFalsely : Prop := fnExactMapDepthRow.holds Try.pinned (OpenSpec.ofChange fnExactMapDepthWrong)

/-- 'laws.FnExactMapCount': WHATEVER THE INPUT: true; the input reads as it did. -/
def fnExactMapCountSpec : ChangeSpec := { name := "fnExactMapCount", fn := fun _ => fun
  | [d1, d2] => { results := [.lit (.bool true)], args := [d1, d2] }
  | _ => none }
def fnExactMapCountRow : OpenClaim := { program := "ytojhjcgalmaljaa", sum := "d04924c58d68dafb52d7edf1003c7b8c10e320d12ef58fca524323cfe6938ccb", func := "loop.example/g03311/laws.FnExactMapCount", spec := "fnExactMapCount", recurses := true, apart := false }
def FnExactMapCountSaid : Prop := fnExactMapCountRow.holds Try.pinned (OpenSpec.ofChange fnExactMapCountSpec)

/-- ITS FALSE NEIGHBOUR: 'it returns false'. Refute it at one input. -/
def fnExactMapCountWrong : ChangeSpec := { name := "fnExactMapCount", fn := fun _ => fun
  | [d1, d2] => { results := [.lit (.bool false)], args := [d1, d2] }
  | _ => none }
def FnExactMapCountWrongFalsely : Prop := fnExactMapCountRow.holds Try.pinned (OpenSpec.ofChange fnExactMapCountWrong)

/-- 'laws.FnExactMapEdges': WHATEVER THE INPUT: true; the input reads as it did. -/
def fnExactMapEdgesSpec : ChangeSpec := { name := "fnExactMapEdges", fn := fun _ => fun
  | [d1, d2] => { results := [.lit (.bool true)], args := [d1, d2] }
  | _ => none }
def fnExactMapEdgesRow : OpenClaim := { program := "ytojhjcgalmaljaa", sum := "d04924c58d68dafb52d7edf1003c7b8c10e320d12ef58fca524323cfe6938ccb", func := "loop.example/g03311/laws.FnExactMapEdges", spec := "fnExactMapEdges", recurses := true, apart := false }
def FnExactMapEdgesSaid : Prop := fnExactMapEdgesRow.holds Try.pinned (OpenSpec.ofChange fnExactMapEdgesSpec)

/-- ITS FALSE NEIGHBOUR: 'it returns false'. Refute it at one input. -/
def fnExactMapEdgesWrong : ChangeSpec := { name := "fnExactMapEdges", fn := fun _ => fun
  | [d1, d2] => { results := [.lit (.bool false)], args := [d1, d2] }
  | _ => none }
def FnExactMapEdgesWrongFalsely : Prop := fnExactMapEdgesRow.holds Try.pinned (OpenSpec.ofChange fnExactMapEdgesWrong)

/-- 'laws.FnExactMapLevels': WHATEVER THE INPUT: true; the input reads as it did. -/
def fnExactMapLevelsSpec : ChangeSpec := { name := "fnExactMapLevels", fn := fun _ => fun
  | [d1, d2] => { results := [.lit (.bool true)], args := [d1, d2] }
  | _ => none }
def fnExactMapLevelsRow : OpenClaim := { program := "ytojhjcgalmaljaa", sum := "d04924c58d68dafb52d7edf1003c7b8c10e320d12ef58fca524323cfe6938ccb", func := "loop.example/g03311/laws.FnExactMapLevels", spec := "fnExactMapLevels", recurses := true, apart := false }
def FnExactMapLevelsSaid : Prop := fnExactMapLevelsRow.holds Try.pinned (OpenSpec.ofChange fnExactMapLevelsSpec)

/-- ITS FALSE NEIGHBOUR: 'it returns false'. Refute it at one input. -/
def fnExactMapLevelsWrong : ChangeSpec := { name := "fnExactMapLevels", fn := fun _ => fun
  | [d1, d2] => { results := [.lit (.bool false)], args := [d1, d2] }
  | _ => none }
def FnExactMapLevelsWrongFalsely : Prop := fnExactMapLevelsRow.holds Try.pinned (OpenSpec.ofChange fnExactMapLevelsWrong)

/-- 'laws.FnExactBetterMapping': WHATEVER THE INPUT: true; the input reads as it did. -/
def fnExactBetterMappingSpec : ChangeSpec := { name := "fnExactBetterMapping", fn := fun _ => fun
  | [d1, d2, d3] => { results := [.lit (.bool true)], args := [d1, d2, d3] }
  | _ => none }
def fnExactBetterMappingRow : OpenClaim := { program := "ytojhjcgalmaljaa", sum := "d04924c58d68dafb52d7edf1003c7b8c10e320d12ef58fca524323cfe6938ccb", func := "loop.example/g03311/laws.FnExactBetterMapping", spec := "fnExactBetterMapping", recurses := true, apart := false }
def FnExactBetterMappingSaid : Prop := fnExactBetterMappingRow.holds Try.pinned (OpenSpec.ofChange fnExactBetterMappingSpec)

/-- ITS FALSE NEIGHBOUR: 'it returns false'. Refute it at one input. -/
def fnExactBetterMappingWrong : ChangeSpec := { name := "fnExactBetterMapping", fn := fun _ => fun
  | [d1, d2, d3] => { results := [.lit (.bool false)], args := [d1, d2, d3] }
  | _ => none }
def FnExactBetterMappingWrongFalsely : Prop := fnExactBetterMappingRow.holds Try.pinned (OpenSpec.ofChange fnExactBetterMappingWrong)

/-- 'laws.FnExactMapUsed': WHATEVER THE INPUT: true; the input reads as it did. -/
def fnExactMapUsedSpec : ChangeSpec := { name := "fnExactMapUsed", fn := fun _ => fun
  | [d1, d2] => { results := [.lit (.bool true)], args := [d1, d2] }
  | _ => none }
def fnExactMapUsedRow : OpenClaim := { program := "ytojhjcgalmaljaa", sum := "d04924c58d68dafb52d7edf1003c7b8c10e320d12ef58fca524323cfe6938ccb", func := "loop.example/g03311/laws.FnExactMapUsed", spec := "fnExactMapUsed", recurses := true, apart := false }
def FnExactMapUsedSaid : Prop := fnExactMapUsedRow.holds Try.pinned (OpenSpec.ofChange fnExactMapUsedSpec)

/-- ITS FALSE NEIGHBOUR: 'it returns false'. Refute it at one input. -/
def fnExactMapUsedWrong : ChangeSpec := { name := "fnExactMapUsed", fn := fun _ => fun
  | [d1, d2] => { results := [.lit (.bool false)], args := [d1, d2] }
  | _ => none }
def FnExactMapUsedWrongFalsely : Prop := fnExactMapUsedRow.holds Try.pinned (OpenSpec.ofChange fnExactMapUsedWrong)

/-- 'laws.FnUsed': WHATEVER THE INPUT: true; the input reads as it did. -/
def fnUsedSpec : ChangeSpec := { name := "fnUsed", fn := fun _ => fun
  | [d] => { results := [.lit (.bool true)], args := [d] }
  | _ => none }
def fnUsedRow : OpenClaim := { program := "ytojhjcgalmaljaa", sum := "d04924c58d68dafb52d7edf1003c7b8c10e320d12ef58fca524323cfe6938ccb", func := "loop.example/g03311/laws.FnUsed", spec := "fnUsed", recurses := true, apart := false }
def FnUsedSaid : Prop := fnUsedRow.holds Try.pinned (OpenSpec.ofChange fnUsedSpec)

/-- ITS FALSE NEIGHBOUR: 'it returns false'. Refute it at one input. -/
def fnUsedWrong : ChangeSpec := { name := "fnUsed", fn := fun _ => fun
  | [d] => { results := [.lit (.bool false)], args := [d] }
  | _ => none }
def FnUsedWrongFalsely : Prop := fnUsedRow.holds Try.pinned (OpenSpec.ofChange fnUsedWrong)

/- THE SECOND FORM. 'bulk': how many values and letters a reading holds, each counted each time it is reached (what is shared counts as often as it is met; a slice's spare places count too). A statement '..UptoSaid' is the law's where the arguments, and the package variables that the reading takes, are together of bulk at most 1048576: NARROWER than '..Said'. Prove '..Said' where nothing that the law and all that it calls make is longer than what came in: it says more and counts as full. Else prove '..UptoSaid'. A law counts once. -/
mutual
def uptoBulk {H : Type} : DataW H → Nat
  | .lit (.string bytes) => bytes.length + 1
  | .lit _ => 1
  | .nil => 1
  | .ptr d => uptoBulk d + 1
  | .slice elems spare => uptoBulkAll elems + uptoBulkAll spare + 1
  | .agg parts => uptoBulkAll parts + 1
  | .iface _ d => uptoBulk d + 1
  | .map entries => uptoBulkEntries entries + 1
  | .held _ => 1
def uptoBulkAll {H : Type} : List (DataW H) → Nat
  | [] => 0
  | d :: r => uptoBulk d + uptoBulkAll r
def uptoBulkEntries {H : Type} : List (Lit × DataW H) → Nat
  | [] => 0
  | x :: r => uptoBulkEntry x + uptoBulkEntries r
def uptoBulkEntry {H : Type} : Lit × DataW H → Nat
  | (.string bytes, d) => bytes.length + uptoBulk d + 1
  | (_, d) => uptoBulk d + 1
 end
def uptoSmall : (H : Type) → List (DataW H) → Bool := fun _ ds => decide (uptoBulkAll ds ≤ 1048576)
def OpenSpec.upto (s : _root_.Go.ChangeSpec) : _root_.Go.OpenSpec := { _root_.Go.OpenSpec.ofChange s with cond := some uptoSmall }

/-- 'laws.FnExactMappingOk', WHERE WHAT IT READS IS OF BULK AT MOST 1048576: true; the input reads as it did. -/
def fnExactMappingOkUptoRow : OpenClaim := { program := "ytojhjcgalmaljaa", sum := "d04924c58d68dafb52d7edf1003c7b8c10e320d12ef58fca524323cfe6938ccb", func := "loop.example/g03311/laws.FnExactMappingOk", spec := "fnExactMappingOk", recurses := true, apart := false, narrowed := true }
def FnExactMappingOkUptoSaid : Prop := fnExactMappingOkUptoRow.holds Try.pinned (OpenSpec.upto fnExactMappingOkSpec)

/-- 'laws.FnExactMapDepth', WHERE WHAT IT READS IS OF BULK AT MOST 1048576: true; the input reads as it did. -/
def fnExactMapDepthUptoRow : OpenClaim := { program := "ytojhjcgalmaljaa", sum := "d04924c58d68dafb52d7edf1003c7b8c10e320d12ef58fca524323cfe6938ccb", func := "loop.example/g03311/laws.FnExactMapDepth", spec := "fnExactMapDepth", recurses := true, apart := false, narrowed := true }
def FnExactMapDepthUptoSaid : Prop := fnExactMapDepthUptoRow.holds Try.pinned (OpenSpec.upto fnExactMapDepthSpec)

/-- 'laws.FnExactMapCount', WHERE WHAT IT READS IS OF BULK AT MOST 1048576: true; the input reads as it did. -/
def fnExactMapCountUptoRow : OpenClaim := { program := "ytojhjcgalmaljaa", sum := "d04924c58d68dafb52d7edf1003c7b8c10e320d12ef58fca524323cfe6938ccb", func := "loop.example/g03311/laws.FnExactMapCount", spec := "fnExactMapCount", recurses := true, apart := false, narrowed := true }
def FnExactMapCountUptoSaid : Prop := fnExactMapCountUptoRow.holds Try.pinned (OpenSpec.upto fnExactMapCountSpec)

/-- 'laws.FnExactMapEdges', WHERE WHAT IT READS IS OF BULK AT MOST 1048576: true; the input reads as it did. -/
def fnExactMapEdgesUptoRow : OpenClaim := { program := "ytojhjcgalmaljaa", sum := "d04924c58d68dafb52d7edf1003c7b8c10e320d12ef58fca524323cfe6938ccb", func := "loop.example/g03311/laws.FnExactMapEdges", spec := "fnExactMapEdges", recurses := true, apart := false, narrowed := true }
def FnExactMapEdgesUptoSaid : Prop := fnExactMapEdgesUptoRow.holds Try.pinned (OpenSpec.upto fnExactMapEdgesSpec)

/-- 'laws.FnExactMapLevels', WHERE WHAT IT READS IS OF BULK AT MOST 1048576: true; the input reads as it did. -/
def fnExactMapLevelsUptoRow : OpenClaim := { program := "ytojhjcgalmaljaa", sum := "d04924c58d68dafb52d7edf1003c7b8c10e320d12ef58fca524323cfe6938ccb", func := "loop.example/g03311/laws.FnExactMapLevels", spec := "fnExactMapLevels", recurses := true, apart := false, narrowed := true }
def FnExactMapLevelsUptoSaid : Prop := fnExactMapLevelsUptoRow.holds Try.pinned (OpenSpec.upto fnExactMapLevelsSpec)

/-- 'laws.FnExactBetterMapping', WHERE WHAT IT READS IS OF BULK AT MOST 1048576: true; the input reads as it did. -/
def fnExactBetterMappingUptoRow : OpenClaim := { program := "ytojhjcgalmaljaa", sum := "d04924c58d68dafb52d7edf1003c7b8c10e320d12ef58fca524323cfe6938ccb", func := "loop.example/g03311/laws.FnExactBetterMapping", spec := "fnExactBetterMapping", recurses := true, apart := false, narrowed := true }
def FnExactBetterMappingUptoSaid : Prop := fnExactBetterMappingUptoRow.holds Try.pinned (OpenSpec.upto fnExactBetterMappingSpec)

/-- 'laws.FnExactMapUsed', WHERE WHAT IT READS IS OF BULK AT MOST 1048576: true; the input reads as it did. -/
def fnExactMapUsedUptoRow : OpenClaim := { program := "ytojhjcgalmaljaa", sum := "d04924c58d68dafb52d7edf1003c7b8c10e320d12ef58fca524323cfe6938ccb", func := "loop.example/g03311/laws.FnExactMapUsed", spec := "fnExactMapUsed", recurses := true, apart := false, narrowed := true }
def FnExactMapUsedUptoSaid : Prop := fnExactMapUsedUptoRow.holds Try.pinned (OpenSpec.upto fnExactMapUsedSpec)

/-- 'laws.FnUsed', WHERE WHAT IT READS IS OF BULK AT MOST 1048576: true; the input reads as it did. -/
def fnUsedUptoRow : OpenClaim := { program := "ytojhjcgalmaljaa", sum := "d04924c58d68dafb52d7edf1003c7b8c10e320d12ef58fca524323cfe6938ccb", func := "loop.example/g03311/laws.FnUsed", spec := "fnUsed", recurses := true, apart := false, narrowed := true }
def FnUsedUptoSaid : Prop := fnUsedUptoRow.holds Try.pinned (OpenSpec.upto fnUsedSpec)

end Rows
end Go.Proofs.Ytojhjcgalmaljaa
