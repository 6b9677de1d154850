/-
  No cell of these rows narrows 'for every input' (looked for: loops, veiled, ifaces, maps, wideKeys, modest, calm, conditions, laid).
  DERIVED. THE GIVEN ROWS OF THIS SEAT. 4 by the template 'for every input the law returns true; each argument reads behind the call as it read before'; 0 by the template 'total and deterministic' (their statements: YtfgdcjpclngeaaaTotals.lean).
  GIVEN WITH THE SEED: the statements are not yours to turn. If you find one false, say at which input.
  Laid BY PROGRAM, IN A SANDBOX (cutbox-rows.mjs): the forced cells as the released guide's own fill.sh prints them over the translation 5c4d98857ef8d42a… (all of the seat's roots in one cut). By AI agents, Wed Nov 11 2026. No macro, syntax, notation, axiom, sorry.
-/
import Derived.Test.YtfgdcjpclngeaaaChecked
import GoSem.Claim
import GoSem.ClaimJoined
import GoSem.ClaimMapViews
import Derived.JoinedTies
import Derived.KernelRfl
namespace Go.Proofs.Ytfgdcjpclngeaaa
/- THE CELL 'sum', in the pinned program and in every row, IS THE sha256 OF THE DUMP (.gsa) THAT YtfgdcjpclngeaaaProg.lean LOADS. Nothing in Lean hashes anything: it is a label: what it is worth is what the hold of that sum in a sandbox is worth. -/
noncomputable def Try.pinned : Pinned := { name := "ytfgdcjpclngeaaa", sum := "5c4d98857ef8d42a580ce2191ab13347846702aa8ebfb3f481cdd033058ba6db", checked := Try.checked }
namespace Rows
def none {H : Type} : Left H := { results := [], args := [] }

/-- 'laws.FnExactTileDistance': WHATEVER THE INPUT: true; the input reads as it did. -/
def fnExactTileDistanceSpec : ChangeSpec := { name := "fnExactTileDistance", fn := fun _ => fun
  | [d1, d2, d3] => { results := [.lit (.bool true)], args := [d1, d2, d3] }
  | _ => none }
def fnExactTileDistanceRow : OpenClaim := { program := "ytfgdcjpclngeaaa", sum := "5c4d98857ef8d42a580ce2191ab13347846702aa8ebfb3f481cdd033058ba6db", func := "loop.example/g03311/laws.FnExactTileDistance", spec := "fnExactTileDistance", apart := false }
def FnExactTileDistanceSaid : Prop := fnExactTileDistanceRow.holds Try.pinned (OpenSpec.ofChange fnExactTileDistanceSpec)

/-- ITS FALSE NEIGHBOUR: 'it returns false'. Refute it at one input. -/
def fnExactTileDistanceWrong : ChangeSpec := { name := "fnExactTileDistance", fn := fun _ => fun
  | [d1, d2, d3] => { results := [.lit (.bool false)], args := [d1, d2, d3] }
  | _ => none }
def FnExactTileDistanceWrongFalsely : Prop := fnExactTileDistanceRow.holds Try.pinned (OpenSpec.ofChange fnExactTileDistanceWrong)

/-- 'laws.FnExactTileStep': WHATEVER THE INPUT: true; the input reads as it did. -/
def fnExactTileStepSpec : ChangeSpec := { name := "fnExactTileStep", fn := fun _ => fun
  | [d1, d2, d3, d4] => { results := [.lit (.bool true)], args := [d1, d2, d3, d4] }
  | _ => none }
def fnExactTileStepRow : OpenClaim := { program := "ytfgdcjpclngeaaa", sum := "5c4d98857ef8d42a580ce2191ab13347846702aa8ebfb3f481cdd033058ba6db", func := "loop.example/g03311/laws.FnExactTileStep", spec := "fnExactTileStep", apart := false }
def FnExactTileStepSaid : Prop := fnExactTileStepRow.holds Try.pinned (OpenSpec.ofChange fnExactTileStepSpec)

/-- ITS FALSE NEIGHBOUR: 'it returns false'. Refute it at one input. -/
def fnExactTileStepWrong : ChangeSpec := { name := "fnExactTileStep", fn := fun _ => fun
  | [d1, d2, d3, d4] => { results := [.lit (.bool false)], args := [d1, d2, d3, d4] }
  | _ => none }
def FnExactTileStepWrongFalsely : Prop := fnExactTileStepRow.holds Try.pinned (OpenSpec.ofChange fnExactTileStepWrong)

/-- 'laws.FnExactOutPin': WHATEVER THE INPUT: true; the input reads as it did. -/
def fnExactOutPinSpec : ChangeSpec := { name := "fnExactOutPin", fn := fun _ => fun
  | [d1, d2, d3] => { results := [.lit (.bool true)], args := [d1, d2, d3] }
  | _ => none }
def fnExactOutPinRow : OpenClaim := { program := "ytfgdcjpclngeaaa", sum := "5c4d98857ef8d42a580ce2191ab13347846702aa8ebfb3f481cdd033058ba6db", func := "loop.example/g03311/laws.FnExactOutPin", spec := "fnExactOutPin", apart := false }
def FnExactOutPinSaid : Prop := fnExactOutPinRow.holds Try.pinned (OpenSpec.ofChange fnExactOutPinSpec)

/-- ITS FALSE NEIGHBOUR: 'it returns false'. Refute it at one input. -/
def fnExactOutPinWrong : ChangeSpec := { name := "fnExactOutPin", fn := fun _ => fun
  | [d1, d2, d3] => { results := [.lit (.bool false)], args := [d1, d2, d3] }
  | _ => none }
def FnExactOutPinWrongFalsely : Prop := fnExactOutPinRow.holds Try.pinned (OpenSpec.ofChange fnExactOutPinWrong)

/-- 'laws.FnExactTilesOf': WHATEVER THE INPUT: true; the input reads as it did. -/
def fnExactTilesOfSpec : ChangeSpec := { name := "fnExactTilesOf", fn := fun _ => fun
  | [d1, d2] => { results := [.lit (.bool true)], args := [d1, d2] }
  | _ => none }
def fnExactTilesOfRow : OpenClaim := { program := "ytfgdcjpclngeaaa", sum := "5c4d98857ef8d42a580ce2191ab13347846702aa8ebfb3f481cdd033058ba6db", func := "loop.example/g03311/laws.FnExactTilesOf", spec := "fnExactTilesOf", apart := false }
def FnExactTilesOfSaid : Prop := fnExactTilesOfRow.holds Try.pinned (OpenSpec.ofChange fnExactTilesOfSpec)

/-- ITS FALSE NEIGHBOUR: 'it returns false'. Refute it at one input. -/
def fnExactTilesOfWrong : ChangeSpec := { name := "fnExactTilesOf", fn := fun _ => fun
  | [d1, d2] => { results := [.lit (.bool false)], args := [d1, d2] }
  | _ => none }
def FnExactTilesOfWrongFalsely : Prop := fnExactTilesOfRow.holds Try.pinned (OpenSpec.ofChange fnExactTilesOfWrong)

/- THE SECOND FORM. 'bulk': how many values and letters a reading holds, each counted each time it is reached (what is shared counts as often as it is met; a slice's spare places count too). A statement '..UptoSaid' is the law's where the arguments, and the package variables that the reading takes, are together of bulk at most 1048576: NARROWER than '..Said'. Prove '..Said' where nothing that the law and all that it calls make is longer than what came in: it says more and counts as full. Else prove '..UptoSaid'. A law counts once. -/
mutual
def uptoBulk {H : Type} : DataW H → Nat
  | .lit (.string bytes) => bytes.length + 1
  | .lit _ => 1
  | .nil => 1
  | .ptr d => uptoBulk d + 1
  | .slice elems spare => uptoBulkAll elems + uptoBulkAll spare + 1
  | .agg parts => uptoBulkAll parts + 1
  | .iface _ d => uptoBulk d + 1
  | .map entries => uptoBulkEntries entries + 1
  | .held _ => 1
def uptoBulkAll {H : Type} : List (DataW H) → Nat
  | [] => 0
  | d :: r => uptoBulk d + uptoBulkAll r
def uptoBulkEntries {H : Type} : List (Lit × DataW H) → Nat
  | [] => 0
  | x :: r => uptoBulkEntry x + uptoBulkEntries r
def uptoBulkEntry {H : Type} : Lit × DataW H → Nat
  | (.string bytes, d) => bytes.length + uptoBulk d + 1
  | (_, d) => uptoBulk d + 1
 end
def uptoSmall : (H : Type) → List (DataW H) → Bool := fun _ ds => decide (uptoBulkAll ds ≤ 1048576)
def OpenSpec.upto (s : _root_.Go.ChangeSpec) : _root_.Go.OpenSpec := { _root_.Go.OpenSpec.ofChange s with cond := some uptoSmall }

/-- 'laws.FnExactTileDistance', WHERE WHAT IT READS IS OF BULK AT MOST 1048576: true; the input reads as it did. -/
def fnExactTileDistanceUptoRow : OpenClaim := { program := "ytfgdcjpclngeaaa", sum := "5c4d98857ef8d42a580ce2191ab13347846702aa8ebfb3f481cdd033058ba6db", func := "loop.example/g03311/laws.FnExactTileDistance", spec := "fnExactTileDistance", apart := false, narrowed := true }
def FnExactTileDistanceUptoSaid : Prop := fnExactTileDistanceUptoRow.holds Try.pinned (OpenSpec.upto fnExactTileDistanceSpec)

/-- 'laws.FnExactTileStep', WHERE WHAT IT READS IS OF BULK AT MOST 1048576: true; the input reads as it did. -/
def fnExactTileStepUptoRow : OpenClaim := { program := "ytfgdcjpclngeaaa", sum := "5c4d98857ef8d42a580ce2191ab13347846702aa8ebfb3f481cdd033058ba6db", func := "loop.example/g03311/laws.FnExactTileStep", spec := "fnExactTileStep", apart := false, narrowed := true }
def FnExactTileStepUptoSaid : Prop := fnExactTileStepUptoRow.holds Try.pinned (OpenSpec.upto fnExactTileStepSpec)

/-- 'laws.FnExactOutPin', WHERE WHAT IT READS IS OF BULK AT MOST 1048576: true; the input reads as it did. -/
def fnExactOutPinUptoRow : OpenClaim := { program := "ytfgdcjpclngeaaa", sum := "5c4d98857ef8d42a580ce2191ab13347846702aa8ebfb3f481cdd033058ba6db", func := "loop.example/g03311/laws.FnExactOutPin", spec := "fnExactOutPin", apart := false, narrowed := true }
def FnExactOutPinUptoSaid : Prop := fnExactOutPinUptoRow.holds Try.pinned (OpenSpec.upto fnExactOutPinSpec)

/-- 'laws.FnExactTilesOf', WHERE WHAT IT READS IS OF BULK AT MOST 1048576: true; the input reads as it did. -/
def fnExactTilesOfUptoRow : OpenClaim := { program := "ytfgdcjpclngeaaa", sum := "5c4d98857ef8d42a580ce2191ab13347846702aa8ebfb3f481cdd033058ba6db", func := "loop.example/g03311/laws.FnExactTilesOf", spec := "fnExactTilesOf", apart := false, narrowed := true }
def FnExactTilesOfUptoSaid : Prop := fnExactTilesOfUptoRow.holds Try.pinned (OpenSpec.upto fnExactTilesOfSpec)

end Rows
end Go.Proofs.Ytfgdcjpclngeaaa
