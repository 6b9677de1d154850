/-
  No cell of these rows narrows 'for every input' (looked for: loops, veiled, ifaces, maps, wideKeys, modest, calm, conditions, laid).
  DERIVED. THE GIVEN ROWS OF THIS SEAT. 7 by the template 'for every input the law returns true; each argument reads behind the call as it read before'; 0 by the template 'total and deterministic' (their statements: YthkfiapfhoghgaaTotals.lean).
  GIVEN WITH THE SEED: the statements are not yours to turn. If you find one false, say at which input.
  Laid BY PROGRAM, IN A SANDBOX (cutbox-rows.mjs): the forced cells as the released guide's own fill.sh prints them over the translation a7f05253580bf607… (all of the seat's roots in one cut). By AI agents, Wed Nov 11 2026. No macro, syntax, notation, axiom, sorry.
-/
import Derived.Test.YthkfiapfhoghgaaChecked
import GoSem.Claim
import GoSem.ClaimJoined
import GoSem.ClaimMapViews
import Derived.JoinedTies
import Derived.KernelRfl
namespace Go.Proofs.Ythkfiapfhoghgaa
/- THE CELL 'sum', in the pinned program and in every row, IS THE sha256 OF THE DUMP (.gsa) THAT YthkfiapfhoghgaaProg.lean LOADS. Nothing in Lean hashes anything: it is a label: what it is worth is what the hold of that sum in a sandbox is worth. -/
noncomputable def Try.pinned : Pinned := { name := "ythkfiapfhoghgaa", sum := "a7f05253580bf60762b8ca6a0cd65645a190b7c003f2895d5bcdbd3a93c0ddf5", checked := Try.checked }
namespace Rows
def none {H : Type} : Left H := { results := [], args := [] }

/-- 'laws.FnExactDeviceOk': WHATEVER THE INPUT: true; the input reads as it did. -/
def fnExactDeviceOkSpec : ChangeSpec := { name := "fnExactDeviceOk", fn := fun _ => fun
  | [d] => { results := [.lit (.bool true)], args := [d] }
  | _ => none }
def fnExactDeviceOkRow : OpenClaim := { program := "ythkfiapfhoghgaa", sum := "a7f05253580bf60762b8ca6a0cd65645a190b7c003f2895d5bcdbd3a93c0ddf5", func := "loop.example/g03311/laws.FnExactDeviceOk", spec := "fnExactDeviceOk", apart := false }
def FnExactDeviceOkSaid : Prop := fnExactDeviceOkRow.holds Try.pinned (OpenSpec.ofChange fnExactDeviceOkSpec)

/-- ITS FALSE NEIGHBOUR: 'it returns false'. Refute it at one input. -/
def fnExactDeviceOkWrong : ChangeSpec := { name := "fnExactDeviceOk", fn := fun _ => fun
  | [d] => { results := [.lit (.bool false)], args := [d] }
  | _ => none }
def FnExactDeviceOkWrongFalsely : Prop := fnExactDeviceOkRow.holds Try.pinned (OpenSpec.ofChange fnExactDeviceOkWrong)

/-- 'laws.FnExactSampleDevice': WHATEVER THE INPUT: true; the input reads as it did. -/
def fnExactSampleDeviceSpec : ChangeSpec := { name := "fnExactSampleDevice", fn := fun _ => fun
  | [] => { results := [.lit (.bool true)], args := [] }
  | _ => none }
def fnExactSampleDeviceRow : OpenClaim := { program := "ythkfiapfhoghgaa", sum := "a7f05253580bf60762b8ca6a0cd65645a190b7c003f2895d5bcdbd3a93c0ddf5", func := "loop.example/g03311/laws.FnExactSampleDevice", spec := "fnExactSampleDevice", apart := false }
def FnExactSampleDeviceSaid : Prop := fnExactSampleDeviceRow.holds Try.pinned (OpenSpec.ofChange fnExactSampleDeviceSpec)

/-- ITS FALSE NEIGHBOUR: 'it returns false'. Refute it at one input. -/
def fnExactSampleDeviceWrong : ChangeSpec := { name := "fnExactSampleDevice", fn := fun _ => fun
  | [] => { results := [.lit (.bool false)], args := [] }
  | _ => none }
def FnExactSampleDeviceWrongFalsely : Prop := fnExactSampleDeviceRow.holds Try.pinned (OpenSpec.ofChange fnExactSampleDeviceWrong)

/-- 'laws.FnExactOutPins': WHATEVER THE INPUT: true; the input reads as it did. -/
def fnExactOutPinsSpec : ChangeSpec := { name := "fnExactOutPins", fn := fun _ => fun
  | [d] => { results := [.lit (.bool true)], args := [d] }
  | _ => none }
def fnExactOutPinsRow : OpenClaim := { program := "ythkfiapfhoghgaa", sum := "a7f05253580bf60762b8ca6a0cd65645a190b7c003f2895d5bcdbd3a93c0ddf5", func := "loop.example/g03311/laws.FnExactOutPins", spec := "fnExactOutPins", apart := false }
def FnExactOutPinsSaid : Prop := fnExactOutPinsRow.holds Try.pinned (OpenSpec.ofChange fnExactOutPinsSpec)

/-- ITS FALSE NEIGHBOUR: 'it returns false'. Refute it at one input. -/
def fnExactOutPinsWrong : ChangeSpec := { name := "fnExactOutPins", fn := fun _ => fun
  | [d] => { results := [.lit (.bool false)], args := [d] }
  | _ => none }
def FnExactOutPinsWrongFalsely : Prop := fnExactOutPinsRow.holds Try.pinned (OpenSpec.ofChange fnExactOutPinsWrong)

/-- 'laws.FnExactLitVar': WHATEVER THE INPUT: true; the input reads as it did. -/
def fnExactLitVarSpec : ChangeSpec := { name := "fnExactLitVar", fn := fun _ => fun
  | [d] => { results := [.lit (.bool true)], args := [d] }
  | _ => none }
def fnExactLitVarRow : OpenClaim := { program := "ythkfiapfhoghgaa", sum := "a7f05253580bf60762b8ca6a0cd65645a190b7c003f2895d5bcdbd3a93c0ddf5", func := "loop.example/g03311/laws.FnExactLitVar", spec := "fnExactLitVar", apart := false }
def FnExactLitVarSaid : Prop := fnExactLitVarRow.holds Try.pinned (OpenSpec.ofChange fnExactLitVarSpec)

/-- ITS FALSE NEIGHBOUR: 'it returns false'. Refute it at one input. -/
def fnExactLitVarWrong : ChangeSpec := { name := "fnExactLitVar", fn := fun _ => fun
  | [d] => { results := [.lit (.bool false)], args := [d] }
  | _ => none }
def FnExactLitVarWrongFalsely : Prop := fnExactLitVarRow.holds Try.pinned (OpenSpec.ofChange fnExactLitVarWrong)

/-- 'laws.FnExactInPins': WHATEVER THE INPUT: true; the input reads as it did. -/
def fnExactInPinsSpec : ChangeSpec := { name := "fnExactInPins", fn := fun _ => fun
  | [d] => { results := [.lit (.bool true)], args := [d] }
  | _ => none }
def fnExactInPinsRow : OpenClaim := { program := "ythkfiapfhoghgaa", sum := "a7f05253580bf60762b8ca6a0cd65645a190b7c003f2895d5bcdbd3a93c0ddf5", func := "loop.example/g03311/laws.FnExactInPins", spec := "fnExactInPins", apart := false }
def FnExactInPinsSaid : Prop := fnExactInPinsRow.holds Try.pinned (OpenSpec.ofChange fnExactInPinsSpec)

/-- ITS FALSE NEIGHBOUR: 'it returns false'. Refute it at one input. -/
def fnExactInPinsWrong : ChangeSpec := { name := "fnExactInPins", fn := fun _ => fun
  | [d] => { results := [.lit (.bool false)], args := [d] }
  | _ => none }
def FnExactInPinsWrongFalsely : Prop := fnExactInPinsRow.holds Try.pinned (OpenSpec.ofChange fnExactInPinsWrong)

/-- 'laws.FnExactRouteNodes': WHATEVER THE INPUT: true; the input reads as it did. -/
def fnExactRouteNodesSpec : ChangeSpec := { name := "fnExactRouteNodes", fn := fun _ => fun
  | [d] => { results := [.lit (.bool true)], args := [d] }
  | _ => none }
def fnExactRouteNodesRow : OpenClaim := { program := "ythkfiapfhoghgaa", sum := "a7f05253580bf60762b8ca6a0cd65645a190b7c003f2895d5bcdbd3a93c0ddf5", func := "loop.example/g03311/laws.FnExactRouteNodes", spec := "fnExactRouteNodes", apart := false }
def FnExactRouteNodesSaid : Prop := fnExactRouteNodesRow.holds Try.pinned (OpenSpec.ofChange fnExactRouteNodesSpec)

/-- ITS FALSE NEIGHBOUR: 'it returns false'. Refute it at one input. -/
def fnExactRouteNodesWrong : ChangeSpec := { name := "fnExactRouteNodes", fn := fun _ => fun
  | [d] => { results := [.lit (.bool false)], args := [d] }
  | _ => none }
def FnExactRouteNodesWrongFalsely : Prop := fnExactRouteNodesRow.holds Try.pinned (OpenSpec.ofChange fnExactRouteNodesWrong)

/-- 'laws.FnExactTileKind': WHATEVER THE INPUT: true; the input reads as it did. -/
def fnExactTileKindSpec : ChangeSpec := { name := "fnExactTileKind", fn := fun _ => fun
  | [d1, d2] => { results := [.lit (.bool true)], args := [d1, d2] }
  | _ => none }
def fnExactTileKindRow : OpenClaim := { program := "ythkfiapfhoghgaa", sum := "a7f05253580bf60762b8ca6a0cd65645a190b7c003f2895d5bcdbd3a93c0ddf5", func := "loop.example/g03311/laws.FnExactTileKind", spec := "fnExactTileKind", apart := false }
def FnExactTileKindSaid : Prop := fnExactTileKindRow.holds Try.pinned (OpenSpec.ofChange fnExactTileKindSpec)

/-- ITS FALSE NEIGHBOUR: 'it returns false'. Refute it at one input. -/
def fnExactTileKindWrong : ChangeSpec := { name := "fnExactTileKind", fn := fun _ => fun
  | [d1, d2] => { results := [.lit (.bool false)], args := [d1, d2] }
  | _ => none }
def FnExactTileKindWrongFalsely : Prop := fnExactTileKindRow.holds Try.pinned (OpenSpec.ofChange fnExactTileKindWrong)

/- THE SECOND FORM. 'bulk': how many values and letters a reading holds, each counted each time it is reached (what is shared counts as often as it is met; a slice's spare places count too). A statement '..UptoSaid' is the law's where the arguments, and the package variables that the reading takes, are together of bulk at most 1048576: NARROWER than '..Said'. Prove '..Said' where nothing that the law and all that it calls make is longer than what came in: it says more and counts as full. Else prove '..UptoSaid'. A law counts once. -/
mutual
def uptoBulk {H : Type} : DataW H → Nat
  | .lit (.string bytes) => bytes.length + 1
  | .lit _ => 1
  | .nil => 1
  | .ptr d => uptoBulk d + 1
  | .slice elems spare => uptoBulkAll elems + uptoBulkAll spare + 1
  | .agg parts => uptoBulkAll parts + 1
  | .iface _ d => uptoBulk d + 1
  | .map entries => uptoBulkEntries entries + 1
  | .held _ => 1
def uptoBulkAll {H : Type} : List (DataW H) → Nat
  | [] => 0
  | d :: r => uptoBulk d + uptoBulkAll r
def uptoBulkEntries {H : Type} : List (Lit × DataW H) → Nat
  | [] => 0
  | x :: r => uptoBulkEntry x + uptoBulkEntries r
def uptoBulkEntry {H : Type} : Lit × DataW H → Nat
  | (.string bytes, d) => bytes.length + uptoBulk d + 1
  | (_, d) => uptoBulk d + 1
 end
def uptoSmall : (H : Type) → List (DataW H) → Bool := fun _ ds => decide (uptoBulkAll ds ≤ 1048576)
def OpenSpec.upto (s : _root_.Go.ChangeSpec) : _root_.Go.OpenSpec := { _root_.Go.OpenSpec.ofChange s with cond := some uptoSmall }

/-- 'laws.FnExactDeviceOk', WHERE WHAT IT READS IS OF BULK AT MOST 1048576: true; the input reads as it did. -/
def fnExactDeviceOkUptoRow : OpenClaim := { program := "ythkfiapfhoghgaa", sum := "a7f05253580bf60762b8ca6a0cd65645a190b7c003f2895d5bcdbd3a93c0ddf5", func := "loop.example/g03311/laws.FnExactDeviceOk", spec := "fnExactDeviceOk", apart := false, narrowed := true }
def FnExactDeviceOkUptoSaid : Prop := fnExactDeviceOkUptoRow.holds Try.pinned (OpenSpec.upto fnExactDeviceOkSpec)

/-- 'laws.FnExactSampleDevice', WHERE WHAT IT READS IS OF BULK AT MOST 1048576: true; the input reads as it did. -/
def fnExactSampleDeviceUptoRow : OpenClaim := { program := "ythkfiapfhoghgaa", sum := "a7f05253580bf60762b8ca6a0cd65645a190b7c003f2895d5bcdbd3a93c0ddf5", func := "loop.example/g03311/laws.FnExactSampleDevice", spec := "fnExactSampleDevice", apart := false, narrowed := true }
def FnExactSampleDeviceUptoSaid : Prop := fnExactSampleDeviceUptoRow.holds Try.pinned (OpenSpec.upto fnExactSampleDeviceSpec)

/-- 'laws.FnExactOutPins', WHERE WHAT IT READS IS OF BULK AT MOST 1048576: true; the input reads as it did. -/
def fnExactOutPinsUptoRow : OpenClaim := { program := "ythkfiapfhoghgaa", sum := "a7f05253580bf60762b8ca6a0cd65645a190b7c003f2895d5bcdbd3a93c0ddf5", func := "loop.example/g03311/laws.FnExactOutPins", spec := "fnExactOutPins", apart := false, narrowed := true }
def FnExactOutPinsUptoSaid : Prop := fnExactOutPinsUptoRow.holds Try.pinned (OpenSpec.upto fnExactOutPinsSpec)

/-- 'laws.FnExactLitVar', WHERE WHAT IT READS IS OF BULK AT MOST 1048576: true; the input reads as it did. -/
def fnExactLitVarUptoRow : OpenClaim := { program := "ythkfiapfhoghgaa", sum := "a7f05253580bf60762b8ca6a0cd65645a190b7c003f2895d5bcdbd3a93c0ddf5", func := "loop.example/g03311/laws.FnExactLitVar", spec := "fnExactLitVar", apart := false, narrowed := true }
def FnExactLitVarUptoSaid : Prop := fnExactLitVarUptoRow.holds Try.pinned (OpenSpec.upto fnExactLitVarSpec)

/-- 'laws.FnExactInPins', WHERE WHAT IT READS IS OF BULK AT MOST 1048576: true; the input reads as it did. -/
def fnExactInPinsUptoRow : OpenClaim := { program := "ythkfiapfhoghgaa", sum := "a7f05253580bf60762b8ca6a0cd65645a190b7c003f2895d5bcdbd3a93c0ddf5", func := "loop.example/g03311/laws.FnExactInPins", spec := "fnExactInPins", apart := false, narrowed := true }
def FnExactInPinsUptoSaid : Prop := fnExactInPinsUptoRow.holds Try.pinned (OpenSpec.upto fnExactInPinsSpec)

/-- 'laws.FnExactRouteNodes', WHERE WHAT IT READS IS OF BULK AT MOST 1048576: true; the input reads as it did. -/
def fnExactRouteNodesUptoRow : OpenClaim := { program := "ythkfiapfhoghgaa", sum := "a7f05253580bf60762b8ca6a0cd65645a190b7c003f2895d5bcdbd3a93c0ddf5", func := "loop.example/g03311/laws.FnExactRouteNodes", spec := "fnExactRouteNodes", apart := false, narrowed := true }
def FnExactRouteNodesUptoSaid : Prop := fnExactRouteNodesUptoRow.holds Try.pinned (OpenSpec.upto fnExactRouteNodesSpec)

/-- 'laws.FnExactTileKind', WHERE WHAT IT READS IS OF BULK AT MOST 1048576: true; the input reads as it did. -/
def fnExactTileKindUptoRow : OpenClaim := { program := "ythkfiapfhoghgaa", sum := "a7f05253580bf60762b8ca6a0cd65645a190b7c003f2895d5bcdbd3a93c0ddf5", func := "loop.example/g03311/laws.FnExactTileKind", spec := "fnExactTileKind", apart := false, narrowed := true }
def FnExactTileKindUptoSaid : Prop := fnExactTileKindUptoRow.holds Try.pinned (OpenSpec.upto fnExactTileKindSpec)

end Rows
end Go.Proofs.Ythkfiapfhoghgaa
