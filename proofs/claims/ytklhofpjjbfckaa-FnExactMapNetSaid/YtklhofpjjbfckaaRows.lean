/-
  No cell of these rows narrows 'for every input' (looked for: loops, veiled, ifaces, maps, wideKeys, modest, calm, conditions, laid).
  DERIVED. THE GIVEN ROWS OF THIS SEAT. 12 by the template 'for every input the law returns true; each argument reads behind the call as it read before'; 0 by the template 'total and deterministic' (their statements: YtklhofpjjbfckaaTotals.lean).
  GIVEN WITH THE SEED: the statements are not yours to turn. If you find one false, say at which input.
  Laid BY PROGRAM, IN A SANDBOX (cutbox-rows.mjs): the forced cells as the released guide's own fill.sh prints them over the translation 396f6c1aaa973e7f… (all of the seat's roots in one cut). By AI agents, Wed Nov 11 2026. No macro, syntax, notation, axiom, sorry.
-/
import Derived.Test.YtklhofpjjbfckaaChecked
import GoSem.Claim
import GoSem.ClaimJoined
import GoSem.ClaimMapViews
import Derived.JoinedTies
import Derived.KernelRfl
namespace Go.Proofs.Ytklhofpjjbfckaa
/- THE CELL 'sum', in the pinned program and in every row, IS THE sha256 OF THE DUMP (.gsa) THAT YtklhofpjjbfckaaProg.lean LOADS. Nothing in Lean hashes anything: it is a label: what it is worth is what the hold of that sum in a sandbox is worth. -/
noncomputable def Try.pinned : Pinned := { name := "ytklhofpjjbfckaa", sum := "396f6c1aaa973e7f5689ad5f3821f4c225202a51721a1a4d0479dc92638cc964", checked := Try.checked }
namespace Rows
def none {H : Type} : Left H := { results := [], args := [] }

/-- 'laws.FnForwardRelated': WHATEVER THE INPUT: true; the input reads as it did. -/
def fnForwardRelatedSpec : ChangeSpec := { name := "fnForwardRelated", fn := fun _ => fun
  | [d] => { results := [.lit (.bool true)], args := [d] }
  | _ => none }
def fnForwardRelatedRow : OpenClaim := { program := "ytklhofpjjbfckaa", sum := "396f6c1aaa973e7f5689ad5f3821f4c225202a51721a1a4d0479dc92638cc964", func := "loop.example/g03311/laws.FnForwardRelated", spec := "fnForwardRelated", unfollowed := true, recurses := true, plainKeys := false, apart := false }
def FnForwardRelatedSaid : Prop := fnForwardRelatedRow.holds Try.pinned (OpenSpec.ofChange fnForwardRelatedSpec)

/-- ITS FALSE NEIGHBOUR: 'it returns false'. Refute it at one input. -/
def fnForwardRelatedWrong : ChangeSpec := { name := "fnForwardRelated", fn := fun _ => fun
  | [d] => { results := [.lit (.bool false)], args := [d] }
  | _ => none }
def FnForwardRelatedWrongFalsely : Prop := fnForwardRelatedRow.holds Try.pinned (OpenSpec.ofChange fnForwardRelatedWrong)

/-- 'laws.FnExactDepthMapping': WHATEVER THE INPUT: true; the input reads as it did. -/
def fnExactDepthMappingSpec : ChangeSpec := { name := "fnExactDepthMapping", fn := fun _ => fun
  | [d] => { results := [.lit (.bool true)], args := [d] }
  | _ => none }
def fnExactDepthMappingRow : OpenClaim := { program := "ytklhofpjjbfckaa", sum := "396f6c1aaa973e7f5689ad5f3821f4c225202a51721a1a4d0479dc92638cc964", func := "loop.example/g03311/laws.FnExactDepthMapping", spec := "fnExactDepthMapping", unfollowed := true, recurses := true, plainKeys := false, apart := false }
def FnExactDepthMappingSaid : Prop := fnExactDepthMappingRow.holds Try.pinned (OpenSpec.ofChange fnExactDepthMappingSpec)

/-- ITS FALSE NEIGHBOUR: 'it returns false'. Refute it at one input. -/
def fnExactDepthMappingWrong : ChangeSpec := { name := "fnExactDepthMapping", fn := fun _ => fun
  | [d] => { results := [.lit (.bool false)], args := [d] }
  | _ => none }
def FnExactDepthMappingWrongFalsely : Prop := fnExactDepthMappingRow.holds Try.pinned (OpenSpec.ofChange fnExactDepthMappingWrong)

/-- 'laws.FnExactForwardLinks': WHATEVER THE INPUT: true; the input reads as it did. -/
def fnExactForwardLinksSpec : ChangeSpec := { name := "fnExactForwardLinks", fn := fun _ => fun
  | [d1, d2] => { results := [.lit (.bool true)], args := [d1, d2] }
  | _ => none }
def fnExactForwardLinksRow : OpenClaim := { program := "ytklhofpjjbfckaa", sum := "396f6c1aaa973e7f5689ad5f3821f4c225202a51721a1a4d0479dc92638cc964", func := "loop.example/g03311/laws.FnExactForwardLinks", spec := "fnExactForwardLinks", unfollowed := true, recurses := true, plainKeys := false, apart := false }
def FnExactForwardLinksSaid : Prop := fnExactForwardLinksRow.holds Try.pinned (OpenSpec.ofChange fnExactForwardLinksSpec)

/-- ITS FALSE NEIGHBOUR: 'it returns false'. Refute it at one input. -/
def fnExactForwardLinksWrong : ChangeSpec := { name := "fnExactForwardLinks", fn := fun _ => fun
  | [d1, d2] => { results := [.lit (.bool false)], args := [d1, d2] }
  | _ => none }
def FnExactForwardLinksWrongFalsely : Prop := fnExactForwardLinksRow.holds Try.pinned (OpenSpec.ofChange fnExactForwardLinksWrong)

/-- 'laws.FnLabelsRise': WHATEVER THE INPUT: true; the input reads as it did. -/
def fnLabelsRiseSpec : ChangeSpec := { name := "fnLabelsRise", fn := fun _ => fun
  | [d] => { results := [.lit (.bool true)], args := [d] }
  | _ => none }
def fnLabelsRiseRow : OpenClaim := { program := "ytklhofpjjbfckaa", sum := "396f6c1aaa973e7f5689ad5f3821f4c225202a51721a1a4d0479dc92638cc964", func := "loop.example/g03311/laws.FnLabelsRise", spec := "fnLabelsRise", unfollowed := true, recurses := true, plainKeys := false, apart := false }
def FnLabelsRiseSaid : Prop := fnLabelsRiseRow.holds Try.pinned (OpenSpec.ofChange fnLabelsRiseSpec)

/-- ITS FALSE NEIGHBOUR: 'it returns false'. Refute it at one input. -/
def fnLabelsRiseWrong : ChangeSpec := { name := "fnLabelsRise", fn := fun _ => fun
  | [d] => { results := [.lit (.bool false)], args := [d] }
  | _ => none }
def FnLabelsRiseWrongFalsely : Prop := fnLabelsRiseRow.holds Try.pinned (OpenSpec.ofChange fnLabelsRiseWrong)

/-- 'laws.FnUsed': WHATEVER THE INPUT: true; the input reads as it did. -/
def fnUsedSpec : ChangeSpec := { name := "fnUsed", fn := fun _ => fun
  | [d] => { results := [.lit (.bool true)], args := [d] }
  | _ => none }
def fnUsedRow : OpenClaim := { program := "ytklhofpjjbfckaa", sum := "396f6c1aaa973e7f5689ad5f3821f4c225202a51721a1a4d0479dc92638cc964", func := "loop.example/g03311/laws.FnUsed", spec := "fnUsed", recurses := true, plainKeys := false, apart := false }
def FnUsedSaid : Prop := fnUsedRow.holds Try.pinned (OpenSpec.ofChange fnUsedSpec)

/-- ITS FALSE NEIGHBOUR: 'it returns false'. Refute it at one input. -/
def fnUsedWrong : ChangeSpec := { name := "fnUsed", fn := fun _ => fun
  | [d] => { results := [.lit (.bool false)], args := [d] }
  | _ => none }
def FnUsedWrongFalsely : Prop := fnUsedRow.holds Try.pinned (OpenSpec.ofChange fnUsedWrong)

/-- 'laws.FnRelationSound': WHATEVER THE INPUT: true; the input reads as it did. -/
def fnRelationSoundSpec : ChangeSpec := { name := "fnRelationSound", fn := fun _ => fun
  | [d] => { results := [.lit (.bool true)], args := [d] }
  | _ => none }
def fnRelationSoundRow : OpenClaim := { program := "ytklhofpjjbfckaa", sum := "396f6c1aaa973e7f5689ad5f3821f4c225202a51721a1a4d0479dc92638cc964", func := "loop.example/g03311/laws.FnRelationSound", spec := "fnRelationSound", plainKeys := false, apart := false }
def FnRelationSoundSaid : Prop := fnRelationSoundRow.holds Try.pinned (OpenSpec.ofChange fnRelationSoundSpec)

/-- ITS FALSE NEIGHBOUR: 'it returns false'. Refute it at one input. -/
def fnRelationSoundWrong : ChangeSpec := { name := "fnRelationSound", fn := fun _ => fun
  | [d] => { results := [.lit (.bool false)], args := [d] }
  | _ => none }
def FnRelationSoundWrongFalsely : Prop := fnRelationSoundRow.holds Try.pinned (OpenSpec.ofChange fnRelationSoundWrong)

/-- 'laws.FnMapDepth': WHATEVER THE INPUT: true; the input reads as it did. -/
def fnMapDepthSpec : ChangeSpec := { name := "fnMapDepth", fn := fun _ => fun
  | [d] => { results := [.lit (.bool true)], args := [d] }
  | _ => none }
def fnMapDepthRow : OpenClaim := { program := "ytklhofpjjbfckaa", sum := "396f6c1aaa973e7f5689ad5f3821f4c225202a51721a1a4d0479dc92638cc964", func := "loop.example/g03311/laws.FnMapDepth", spec := "fnMapDepth", unfollowed := true, recurses := true, plainKeys := false, apart := false }
def FnMapDepthSaid : Prop := fnMapDepthRow.holds Try.pinned (OpenSpec.ofChange fnMapDepthSpec)

/-- ITS FALSE NEIGHBOUR: 'it returns false'. Refute it at one input. -/
def fnMapDepthWrong : ChangeSpec := { name := "fnMapDepth", fn := fun _ => fun
  | [d] => { results := [.lit (.bool false)], args := [d] }
  | _ => none }
def FnMapDepthWrongFalsely : Prop := fnMapDepthRow.holds Try.pinned (OpenSpec.ofChange fnMapDepthWrong)

/-- 'laws.FnExactToLuts': WHATEVER THE INPUT: true; the input reads as it did. -/
def fnExactToLutsSpec : ChangeSpec := { name := "fnExactToLuts", fn := fun _ => fun
  | [d1, d2] => { results := [.lit (.bool true)], args := [d1, d2] }
  | _ => none }
def fnExactToLutsRow : OpenClaim := { program := "ytklhofpjjbfckaa", sum := "396f6c1aaa973e7f5689ad5f3821f4c225202a51721a1a4d0479dc92638cc964", func := "loop.example/g03311/laws.FnExactToLuts", spec := "fnExactToLuts", unfollowed := true, recurses := true, plainKeys := false, apart := false }
def FnExactToLutsSaid : Prop := fnExactToLutsRow.holds Try.pinned (OpenSpec.ofChange fnExactToLutsSpec)

/-- ITS FALSE NEIGHBOUR: 'it returns false'. Refute it at one input. -/
def fnExactToLutsWrong : ChangeSpec := { name := "fnExactToLuts", fn := fun _ => fun
  | [d1, d2] => { results := [.lit (.bool false)], args := [d1, d2] }
  | _ => none }
def FnExactToLutsWrongFalsely : Prop := fnExactToLutsRow.holds Try.pinned (OpenSpec.ofChange fnExactToLutsWrong)

/-- 'laws.FnExactRecoverArea': WHATEVER THE INPUT: true; the input reads as it did. -/
def fnExactRecoverAreaSpec : ChangeSpec := { name := "fnExactRecoverArea", fn := fun _ => fun
  | [d1, d2] => { results := [.lit (.bool true)], args := [d1, d2] }
  | _ => none }
def fnExactRecoverAreaRow : OpenClaim := { program := "ytklhofpjjbfckaa", sum := "396f6c1aaa973e7f5689ad5f3821f4c225202a51721a1a4d0479dc92638cc964", func := "loop.example/g03311/laws.FnExactRecoverArea", spec := "fnExactRecoverArea", recurses := true, plainKeys := false, apart := false }
def FnExactRecoverAreaSaid : Prop := fnExactRecoverAreaRow.holds Try.pinned (OpenSpec.ofChange fnExactRecoverAreaSpec)

/-- ITS FALSE NEIGHBOUR: 'it returns false'. Refute it at one input. -/
def fnExactRecoverAreaWrong : ChangeSpec := { name := "fnExactRecoverArea", fn := fun _ => fun
  | [d1, d2] => { results := [.lit (.bool false)], args := [d1, d2] }
  | _ => none }
def FnExactRecoverAreaWrongFalsely : Prop := fnExactRecoverAreaRow.holds Try.pinned (OpenSpec.ofChange fnExactRecoverAreaWrong)

/-- 'laws.FnLutDepth': WHATEVER THE INPUT: true; the input reads as it did. -/
def fnLutDepthSpec : ChangeSpec := { name := "fnLutDepth", fn := fun _ => fun
  | [d] => { results := [.lit (.bool true)], args := [d] }
  | _ => none }
def fnLutDepthRow : OpenClaim := { program := "ytklhofpjjbfckaa", sum := "396f6c1aaa973e7f5689ad5f3821f4c225202a51721a1a4d0479dc92638cc964", func := "loop.example/g03311/laws.FnLutDepth", spec := "fnLutDepth", unfollowed := true, recurses := true, plainKeys := false, apart := false }
def FnLutDepthSaid : Prop := fnLutDepthRow.holds Try.pinned (OpenSpec.ofChange fnLutDepthSpec)

/-- ITS FALSE NEIGHBOUR: 'it returns false'. Refute it at one input. -/
def fnLutDepthWrong : ChangeSpec := { name := "fnLutDepth", fn := fun _ => fun
  | [d] => { results := [.lit (.bool false)], args := [d] }
  | _ => none }
def FnLutDepthWrongFalsely : Prop := fnLutDepthRow.holds Try.pinned (OpenSpec.ofChange fnLutDepthWrong)

/-- 'laws.FnLutsRun': WHATEVER THE INPUT: true; the input reads as it did. -/
def fnLutsRunSpec : ChangeSpec := { name := "fnLutsRun", fn := fun _ => fun
  | [d] => { results := [.lit (.bool true)], args := [d] }
  | _ => none }
def fnLutsRunRow : OpenClaim := { program := "ytklhofpjjbfckaa", sum := "396f6c1aaa973e7f5689ad5f3821f4c225202a51721a1a4d0479dc92638cc964", func := "loop.example/g03311/laws.FnLutsRun", spec := "fnLutsRun", unfollowed := true, recurses := true, plainKeys := false, apart := false }
def FnLutsRunSaid : Prop := fnLutsRunRow.holds Try.pinned (OpenSpec.ofChange fnLutsRunSpec)

/-- ITS FALSE NEIGHBOUR: 'it returns false'. Refute it at one input. -/
def fnLutsRunWrong : ChangeSpec := { name := "fnLutsRun", fn := fun _ => fun
  | [d] => { results := [.lit (.bool false)], args := [d] }
  | _ => none }
def FnLutsRunWrongFalsely : Prop := fnLutsRunRow.holds Try.pinned (OpenSpec.ofChange fnLutsRunWrong)

/-- 'laws.FnExactMapNet': WHATEVER THE INPUT: true; the input reads as it did. -/
def fnExactMapNetSpec : ChangeSpec := { name := "fnExactMapNet", fn := fun _ => fun
  | [d] => { results := [.lit (.bool true)], args := [d] }
  | _ => none }
def fnExactMapNetRow : OpenClaim := { program := "ytklhofpjjbfckaa", sum := "396f6c1aaa973e7f5689ad5f3821f4c225202a51721a1a4d0479dc92638cc964", func := "loop.example/g03311/laws.FnExactMapNet", spec := "fnExactMapNet", unfollowed := true, recurses := true, plainKeys := false, apart := false }
def FnExactMapNetSaid : Prop := fnExactMapNetRow.holds Try.pinned (OpenSpec.ofChange fnExactMapNetSpec)

/-- ITS FALSE NEIGHBOUR: 'it returns false'. Refute it at one input. -/
def fnExactMapNetWrong : ChangeSpec := { name := "fnExactMapNet", fn := fun _ => fun
  | [d] => { results := [.lit (.bool false)], args := [d] }
  | _ => none }
def FnExactMapNetWrongFalsely : Prop := fnExactMapNetRow.holds Try.pinned (OpenSpec.ofChange fnExactMapNetWrong)

/- THE SECOND FORM. 'bulk': how many values and letters a reading holds, each counted each time it is reached (what is shared counts as often as it is met; a slice's spare places count too). A statement '..UptoSaid' is the law's where the arguments, and the package variables that the reading takes, are together of bulk at most 1048576: NARROWER than '..Said'. Prove '..Said' where nothing that the law and all that it calls make is longer than what came in: it says more and counts as full. Else prove '..UptoSaid'. A law counts once. -/
mutual
def uptoBulk {H : Type} : DataW H → Nat
  | .lit (.string bytes) => bytes.length + 1
  | .lit _ => 1
  | .nil => 1
  | .ptr d => uptoBulk d + 1
  | .slice elems spare => uptoBulkAll elems + uptoBulkAll spare + 1
  | .agg parts => uptoBulkAll parts + 1
  | .iface _ d => uptoBulk d + 1
  | .map entries => uptoBulkEntries entries + 1
  | .held _ => 1
def uptoBulkAll {H : Type} : List (DataW H) → Nat
  | [] => 0
  | d :: r => uptoBulk d + uptoBulkAll r
def uptoBulkEntries {H : Type} : List (Lit × DataW H) → Nat
  | [] => 0
  | x :: r => uptoBulkEntry x + uptoBulkEntries r
def uptoBulkEntry {H : Type} : Lit × DataW H → Nat
  | (.string bytes, d) => bytes.length + uptoBulk d + 1
  | (_, d) => uptoBulk d + 1
 end
def uptoSmall : (H : Type) → List (DataW H) → Bool := fun _ ds => decide (uptoBulkAll ds ≤ 1048576)
def OpenSpec.upto (s : _root_.Go.ChangeSpec) : _root_.Go.OpenSpec := { _root_.Go.OpenSpec.ofChange s with cond := some uptoSmall }

/-- 'laws.FnForwardRelated', WHERE WHAT IT READS IS OF BULK AT MOST 1048576: true; the input reads as it did. -/
def fnForwardRelatedUptoRow : OpenClaim := { program := "ytklhofpjjbfckaa", sum := "396f6c1aaa973e7f5689ad5f3821f4c225202a51721a1a4d0479dc92638cc964", func := "loop.example/g03311/laws.FnForwardRelated", spec := "fnForwardRelated", unfollowed := true, recurses := true, plainKeys := false, apart := false, narrowed := true }
def FnForwardRelatedUptoSaid : Prop := fnForwardRelatedUptoRow.holds Try.pinned (OpenSpec.upto fnForwardRelatedSpec)

/-- 'laws.FnExactDepthMapping', WHERE WHAT IT READS IS OF BULK AT MOST 1048576: true; the input reads as it did. -/
def fnExactDepthMappingUptoRow : OpenClaim := { program := "ytklhofpjjbfckaa", sum := "396f6c1aaa973e7f5689ad5f3821f4c225202a51721a1a4d0479dc92638cc964", func := "loop.example/g03311/laws.FnExactDepthMapping", spec := "fnExactDepthMapping", unfollowed := true, recurses := true, plainKeys := false, apart := false, narrowed := true }
def FnExactDepthMappingUptoSaid : Prop := fnExactDepthMappingUptoRow.holds Try.pinned (OpenSpec.upto fnExactDepthMappingSpec)

/-- 'laws.FnExactForwardLinks', WHERE WHAT IT READS IS OF BULK AT MOST 1048576: true; the input reads as it did. -/
def fnExactForwardLinksUptoRow : OpenClaim := { program := "ytklhofpjjbfckaa", sum := "396f6c1aaa973e7f5689ad5f3821f4c225202a51721a1a4d0479dc92638cc964", func := "loop.example/g03311/laws.FnExactForwardLinks", spec := "fnExactForwardLinks", unfollowed := true, recurses := true, plainKeys := false, apart := false, narrowed := true }
def FnExactForwardLinksUptoSaid : Prop := fnExactForwardLinksUptoRow.holds Try.pinned (OpenSpec.upto fnExactForwardLinksSpec)

/-- 'laws.FnLabelsRise', WHERE WHAT IT READS IS OF BULK AT MOST 1048576: true; the input reads as it did. -/
def fnLabelsRiseUptoRow : OpenClaim := { program := "ytklhofpjjbfckaa", sum := "396f6c1aaa973e7f5689ad5f3821f4c225202a51721a1a4d0479dc92638cc964", func := "loop.example/g03311/laws.FnLabelsRise", spec := "fnLabelsRise", unfollowed := true, recurses := true, plainKeys := false, apart := false, narrowed := true }
def FnLabelsRiseUptoSaid : Prop := fnLabelsRiseUptoRow.holds Try.pinned (OpenSpec.upto fnLabelsRiseSpec)

/-- 'laws.FnUsed', WHERE WHAT IT READS IS OF BULK AT MOST 1048576: true; the input reads as it did. -/
def fnUsedUptoRow : OpenClaim := { program := "ytklhofpjjbfckaa", sum := "396f6c1aaa973e7f5689ad5f3821f4c225202a51721a1a4d0479dc92638cc964", func := "loop.example/g03311/laws.FnUsed", spec := "fnUsed", recurses := true, plainKeys := false, apart := false, narrowed := true }
def FnUsedUptoSaid : Prop := fnUsedUptoRow.holds Try.pinned (OpenSpec.upto fnUsedSpec)

/-- 'laws.FnRelationSound', WHERE WHAT IT READS IS OF BULK AT MOST 1048576: true; the input reads as it did. -/
def fnRelationSoundUptoRow : OpenClaim := { program := "ytklhofpjjbfckaa", sum := "396f6c1aaa973e7f5689ad5f3821f4c225202a51721a1a4d0479dc92638cc964", func := "loop.example/g03311/laws.FnRelationSound", spec := "fnRelationSound", plainKeys := false, apart := false, narrowed := true }
def FnRelationSoundUptoSaid : Prop := fnRelationSoundUptoRow.holds Try.pinned (OpenSpec.upto fnRelationSoundSpec)

/-- 'laws.FnMapDepth', WHERE WHAT IT READS IS OF BULK AT MOST 1048576: true; the input reads as it did. -/
def fnMapDepthUptoRow : OpenClaim := { program := "ytklhofpjjbfckaa", sum := "396f6c1aaa973e7f5689ad5f3821f4c225202a51721a1a4d0479dc92638cc964", func := "loop.example/g03311/laws.FnMapDepth", spec := "fnMapDepth", unfollowed := true, recurses := true, plainKeys := false, apart := false, narrowed := true }
def FnMapDepthUptoSaid : Prop := fnMapDepthUptoRow.holds Try.pinned (OpenSpec.upto fnMapDepthSpec)

/-- 'laws.FnExactToLuts', WHERE WHAT IT READS IS OF BULK AT MOST 1048576: true; the input reads as it did. -/
def fnExactToLutsUptoRow : OpenClaim := { program := "ytklhofpjjbfckaa", sum := "396f6c1aaa973e7f5689ad5f3821f4c225202a51721a1a4d0479dc92638cc964", func := "loop.example/g03311/laws.FnExactToLuts", spec := "fnExactToLuts", unfollowed := true, recurses := true, plainKeys := false, apart := false, narrowed := true }
def FnExactToLutsUptoSaid : Prop := fnExactToLutsUptoRow.holds Try.pinned (OpenSpec.upto fnExactToLutsSpec)

/-- 'laws.FnExactRecoverArea', WHERE WHAT IT READS IS OF BULK AT MOST 1048576: true; the input reads as it did. -/
def fnExactRecoverAreaUptoRow : OpenClaim := { program := "ytklhofpjjbfckaa", sum := "396f6c1aaa973e7f5689ad5f3821f4c225202a51721a1a4d0479dc92638cc964", func := "loop.example/g03311/laws.FnExactRecoverArea", spec := "fnExactRecoverArea", recurses := true, plainKeys := false, apart := false, narrowed := true }
def FnExactRecoverAreaUptoSaid : Prop := fnExactRecoverAreaUptoRow.holds Try.pinned (OpenSpec.upto fnExactRecoverAreaSpec)

/-- 'laws.FnLutDepth', WHERE WHAT IT READS IS OF BULK AT MOST 1048576: true; the input reads as it did. -/
def fnLutDepthUptoRow : OpenClaim := { program := "ytklhofpjjbfckaa", sum := "396f6c1aaa973e7f5689ad5f3821f4c225202a51721a1a4d0479dc92638cc964", func := "loop.example/g03311/laws.FnLutDepth", spec := "fnLutDepth", unfollowed := true, recurses := true, plainKeys := false, apart := false, narrowed := true }
def FnLutDepthUptoSaid : Prop := fnLutDepthUptoRow.holds Try.pinned (OpenSpec.upto fnLutDepthSpec)

/-- 'laws.FnLutsRun', WHERE WHAT IT READS IS OF BULK AT MOST 1048576: true; the input reads as it did. -/
def fnLutsRunUptoRow : OpenClaim := { program := "ytklhofpjjbfckaa", sum := "396f6c1aaa973e7f5689ad5f3821f4c225202a51721a1a4d0479dc92638cc964", func := "loop.example/g03311/laws.FnLutsRun", spec := "fnLutsRun", unfollowed := true, recurses := true, plainKeys := false, apart := false, narrowed := true }
def FnLutsRunUptoSaid : Prop := fnLutsRunUptoRow.holds Try.pinned (OpenSpec.upto fnLutsRunSpec)

/-- 'laws.FnExactMapNet', WHERE WHAT IT READS IS OF BULK AT MOST 1048576: true; the input reads as it did. -/
def fnExactMapNetUptoRow : OpenClaim := { program := "ytklhofpjjbfckaa", sum := "396f6c1aaa973e7f5689ad5f3821f4c225202a51721a1a4d0479dc92638cc964", func := "loop.example/g03311/laws.FnExactMapNet", spec := "fnExactMapNet", unfollowed := true, recurses := true, plainKeys := false, apart := false, narrowed := true }
def FnExactMapNetUptoSaid : Prop := fnExactMapNetUptoRow.holds Try.pinned (OpenSpec.upto fnExactMapNetSpec)

end Rows
end Go.Proofs.Ytklhofpjjbfckaa
