/-
  No cell of these rows narrows 'for every input' (looked for: loops, veiled, ifaces, maps, wideKeys, modest, calm, conditions, laid).
  DERIVED. THE GIVEN ROWS OF THIS SEAT. 10 by the template 'for every input the law returns true; each argument reads behind the call as it read before'; 0 by the template 'total and deterministic' (their statements: YtoppcdccplgalaaTotals.lean).
  GIVEN WITH THE SEED: the statements are not yours to turn. If you find one false, say at which input.
  Laid BY PROGRAM, IN A SANDBOX (cutbox-rows.mjs): the forced cells as the released guide's own fill.sh prints them over the translation 008f977f59942185… (all of the seat's roots in one cut). By AI agents, Wed Nov 11 2026. No macro, syntax, notation, axiom, sorry.
-/
import Derived.Test.YtoppcdccplgalaaChecked
import GoSem.Claim
import GoSem.ClaimJoined
import GoSem.ClaimMapViews
import Derived.JoinedTies
import Derived.KernelRfl
namespace Go.Proofs.Ytoppcdccplgalaa
/- THE CELL 'sum', in the pinned program and in every row, IS THE sha256 OF THE DUMP (.gsa) THAT YtoppcdccplgalaaProg.lean LOADS. Nothing in Lean hashes anything: it is a label: what it is worth is what the hold of that sum in a sandbox is worth. -/
noncomputable def Try.pinned : Pinned := { name := "ytoppcdccplgalaa", sum := "008f977f5994218585ca4564e24bae36580e1ba52ccb0747b2a043ce0fa941f8", checked := Try.checked }
namespace Rows
def none {H : Type} : Left H := { results := [], args := [] }

/-- 'laws.FnExactPruneLinks': WHATEVER THE INPUT: true; the input reads as it did. -/
def fnExactPruneLinksSpec : ChangeSpec := { name := "fnExactPruneLinks", fn := fun _ => fun
  | [d] => { results := [.lit (.bool true)], args := [d] }
  | _ => none }
def fnExactPruneLinksRow : OpenClaim := { program := "ytoppcdccplgalaa", sum := "008f977f5994218585ca4564e24bae36580e1ba52ccb0747b2a043ce0fa941f8", func := "loop.example/g03311/laws.FnExactPruneLinks", spec := "fnExactPruneLinks", unfollowed := true, recurses := true, apart := false }
def FnExactPruneLinksSaid : Prop := fnExactPruneLinksRow.holds Try.pinned (OpenSpec.ofChange fnExactPruneLinksSpec)

/-- ITS FALSE NEIGHBOUR: 'it returns false'. Refute it at one input. -/
def fnExactPruneLinksWrong : ChangeSpec := { name := "fnExactPruneLinks", fn := fun _ => fun
  | [d] => { results := [.lit (.bool false)], args := [d] }
  | _ => none }
def FnExactPruneLinksWrongFalsely : Prop := fnExactPruneLinksRow.holds Try.pinned (OpenSpec.ofChange fnExactPruneLinksWrong)

/-- 'laws.FnExactNetCnf': WHATEVER THE INPUT: true; the input reads as it did. -/
def fnExactNetCnfSpec : ChangeSpec := { name := "fnExactNetCnf", fn := fun _ => fun
  | [d1, d2] => { results := [.lit (.bool true)], args := [d1, d2] }
  | _ => none }
def fnExactNetCnfRow : OpenClaim := { program := "ytoppcdccplgalaa", sum := "008f977f5994218585ca4564e24bae36580e1ba52ccb0747b2a043ce0fa941f8", func := "loop.example/g03311/laws.FnExactNetCnf", spec := "fnExactNetCnf", recurses := true, apart := false }
def FnExactNetCnfSaid : Prop := fnExactNetCnfRow.holds Try.pinned (OpenSpec.ofChange fnExactNetCnfSpec)

/-- ITS FALSE NEIGHBOUR: 'it returns false'. Refute it at one input. -/
def fnExactNetCnfWrong : ChangeSpec := { name := "fnExactNetCnf", fn := fun _ => fun
  | [d1, d2] => { results := [.lit (.bool false)], args := [d1, d2] }
  | _ => none }
def FnExactNetCnfWrongFalsely : Prop := fnExactNetCnfRow.holds Try.pinned (OpenSpec.ofChange fnExactNetCnfWrong)

/-- 'laws.FnForwardRelated': WHATEVER THE INPUT: true; the input reads as it did. -/
def fnForwardRelatedSpec : ChangeSpec := { name := "fnForwardRelated", fn := fun _ => fun
  | [d] => { results := [.lit (.bool true)], args := [d] }
  | _ => none }
def fnForwardRelatedRow : OpenClaim := { program := "ytoppcdccplgalaa", sum := "008f977f5994218585ca4564e24bae36580e1ba52ccb0747b2a043ce0fa941f8", func := "loop.example/g03311/laws.FnForwardRelated", spec := "fnForwardRelated", unfollowed := true, recurses := true, apart := false }
def FnForwardRelatedSaid : Prop := fnForwardRelatedRow.holds Try.pinned (OpenSpec.ofChange fnForwardRelatedSpec)

/-- ITS FALSE NEIGHBOUR: 'it returns false'. Refute it at one input. -/
def fnForwardRelatedWrong : ChangeSpec := { name := "fnForwardRelated", fn := fun _ => fun
  | [d] => { results := [.lit (.bool false)], args := [d] }
  | _ => none }
def FnForwardRelatedWrongFalsely : Prop := fnForwardRelatedRow.holds Try.pinned (OpenSpec.ofChange fnForwardRelatedWrong)

/-- 'laws.FnExactMiter': WHATEVER THE INPUT: true; the input reads as it did. -/
def fnExactMiterSpec : ChangeSpec := { name := "fnExactMiter", fn := fun _ => fun
  | [d1, d2] => { results := [.lit (.bool true)], args := [d1, d2] }
  | _ => none }
def fnExactMiterRow : OpenClaim := { program := "ytoppcdccplgalaa", sum := "008f977f5994218585ca4564e24bae36580e1ba52ccb0747b2a043ce0fa941f8", func := "loop.example/g03311/laws.FnExactMiter", spec := "fnExactMiter", apart := false }
def FnExactMiterSaid : Prop := fnExactMiterRow.holds Try.pinned (OpenSpec.ofChange fnExactMiterSpec)

/-- ITS FALSE NEIGHBOUR: 'it returns false'. Refute it at one input. -/
def fnExactMiterWrong : ChangeSpec := { name := "fnExactMiter", fn := fun _ => fun
  | [d1, d2] => { results := [.lit (.bool false)], args := [d1, d2] }
  | _ => none }
def FnExactMiterWrongFalsely : Prop := fnExactMiterRow.holds Try.pinned (OpenSpec.ofChange fnExactMiterWrong)

/-- 'laws.FnExactSolveLit': WHATEVER THE INPUT: true; the input reads as it did. -/
def fnExactSolveLitSpec : ChangeSpec := { name := "fnExactSolveLit", fn := fun _ => fun
  | [d1, d2, d3] => { results := [.lit (.bool true)], args := [d1, d2, d3] }
  | _ => none }
def fnExactSolveLitRow : OpenClaim := { program := "ytoppcdccplgalaa", sum := "008f977f5994218585ca4564e24bae36580e1ba52ccb0747b2a043ce0fa941f8", func := "loop.example/g03311/laws.FnExactSolveLit", spec := "fnExactSolveLit", recurses := true, apart := false }
def FnExactSolveLitSaid : Prop := fnExactSolveLitRow.holds Try.pinned (OpenSpec.ofChange fnExactSolveLitSpec)

/-- ITS FALSE NEIGHBOUR: 'it returns false'. Refute it at one input. -/
def fnExactSolveLitWrong : ChangeSpec := { name := "fnExactSolveLit", fn := fun _ => fun
  | [d1, d2, d3] => { results := [.lit (.bool false)], args := [d1, d2, d3] }
  | _ => none }
def FnExactSolveLitWrongFalsely : Prop := fnExactSolveLitRow.holds Try.pinned (OpenSpec.ofChange fnExactSolveLitWrong)

/-- 'laws.FnExactForwardLinks': WHATEVER THE INPUT: true; the input reads as it did. -/
def fnExactForwardLinksSpec : ChangeSpec := { name := "fnExactForwardLinks", fn := fun _ => fun
  | [d1, d2] => { results := [.lit (.bool true)], args := [d1, d2] }
  | _ => none }
def fnExactForwardLinksRow : OpenClaim := { program := "ytoppcdccplgalaa", sum := "008f977f5994218585ca4564e24bae36580e1ba52ccb0747b2a043ce0fa941f8", func := "loop.example/g03311/laws.FnExactForwardLinks", spec := "fnExactForwardLinks", unfollowed := true, recurses := true, apart := false }
def FnExactForwardLinksSaid : Prop := fnExactForwardLinksRow.holds Try.pinned (OpenSpec.ofChange fnExactForwardLinksSpec)

/-- ITS FALSE NEIGHBOUR: 'it returns false'. Refute it at one input. -/
def fnExactForwardLinksWrong : ChangeSpec := { name := "fnExactForwardLinks", fn := fun _ => fun
  | [d1, d2] => { results := [.lit (.bool false)], args := [d1, d2] }
  | _ => none }
def FnExactForwardLinksWrongFalsely : Prop := fnExactForwardLinksRow.holds Try.pinned (OpenSpec.ofChange fnExactForwardLinksWrong)

/-- 'laws.FnRelationSound': WHATEVER THE INPUT: true; the input reads as it did. -/
def fnRelationSoundSpec : ChangeSpec := { name := "fnRelationSound", fn := fun _ => fun
  | [d] => { results := [.lit (.bool true)], args := [d] }
  | _ => none }
def fnRelationSoundRow : OpenClaim := { program := "ytoppcdccplgalaa", sum := "008f977f5994218585ca4564e24bae36580e1ba52ccb0747b2a043ce0fa941f8", func := "loop.example/g03311/laws.FnRelationSound", spec := "fnRelationSound", apart := false }
def FnRelationSoundSaid : Prop := fnRelationSoundRow.holds Try.pinned (OpenSpec.ofChange fnRelationSoundSpec)

/-- ITS FALSE NEIGHBOUR: 'it returns false'. Refute it at one input. -/
def fnRelationSoundWrong : ChangeSpec := { name := "fnRelationSound", fn := fun _ => fun
  | [d] => { results := [.lit (.bool false)], args := [d] }
  | _ => none }
def FnRelationSoundWrongFalsely : Prop := fnRelationSoundRow.holds Try.pinned (OpenSpec.ofChange fnRelationSoundWrong)

/-- 'laws.FnExactEqualProof': WHATEVER THE INPUT: true; the input reads as it did. -/
def fnExactEqualProofSpec : ChangeSpec := { name := "fnExactEqualProof", fn := fun _ => fun
  | [d1, d2, d3] => { results := [.lit (.bool true)], args := [d1, d2, d3] }
  | _ => none }
def fnExactEqualProofRow : OpenClaim := { program := "ytoppcdccplgalaa", sum := "008f977f5994218585ca4564e24bae36580e1ba52ccb0747b2a043ce0fa941f8", func := "loop.example/g03311/laws.FnExactEqualProof", spec := "fnExactEqualProof", recurses := true, apart := false }
def FnExactEqualProofSaid : Prop := fnExactEqualProofRow.holds Try.pinned (OpenSpec.ofChange fnExactEqualProofSpec)

/-- ITS FALSE NEIGHBOUR: 'it returns false'. Refute it at one input. -/
def fnExactEqualProofWrong : ChangeSpec := { name := "fnExactEqualProof", fn := fun _ => fun
  | [d1, d2, d3] => { results := [.lit (.bool false)], args := [d1, d2, d3] }
  | _ => none }
def FnExactEqualProofWrongFalsely : Prop := fnExactEqualProofRow.holds Try.pinned (OpenSpec.ofChange fnExactEqualProofWrong)

/-- 'laws.FnStagesProved': WHATEVER THE INPUT: true; the input reads as it did. -/
def fnStagesProvedSpec : ChangeSpec := { name := "fnStagesProved", fn := fun _ => fun
  | [d] => { results := [.lit (.bool true)], args := [d] }
  | _ => none }
def fnStagesProvedRow : OpenClaim := { program := "ytoppcdccplgalaa", sum := "008f977f5994218585ca4564e24bae36580e1ba52ccb0747b2a043ce0fa941f8", func := "loop.example/g03311/laws.FnStagesProved", spec := "fnStagesProved", unfollowed := true, recurses := true, apart := false }
def FnStagesProvedSaid : Prop := fnStagesProvedRow.holds Try.pinned (OpenSpec.ofChange fnStagesProvedSpec)

/-- ITS FALSE NEIGHBOUR: 'it returns false'. Refute it at one input. -/
def fnStagesProvedWrong : ChangeSpec := { name := "fnStagesProved", fn := fun _ => fun
  | [d] => { results := [.lit (.bool false)], args := [d] }
  | _ => none }
def FnStagesProvedWrongFalsely : Prop := fnStagesProvedRow.holds Try.pinned (OpenSpec.ofChange fnStagesProvedWrong)

/-- 'laws.FnExactCombEqual': WHATEVER THE INPUT: true; the input reads as it did. -/
def fnExactCombEqualSpec : ChangeSpec := { name := "fnExactCombEqual", fn := fun _ => fun
  | [d1, d2, d3] => { results := [.lit (.bool true)], args := [d1, d2, d3] }
  | _ => none }
def fnExactCombEqualRow : OpenClaim := { program := "ytoppcdccplgalaa", sum := "008f977f5994218585ca4564e24bae36580e1ba52ccb0747b2a043ce0fa941f8", func := "loop.example/g03311/laws.FnExactCombEqual", spec := "fnExactCombEqual", recurses := true, apart := false }
def FnExactCombEqualSaid : Prop := fnExactCombEqualRow.holds Try.pinned (OpenSpec.ofChange fnExactCombEqualSpec)

/-- ITS FALSE NEIGHBOUR: 'it returns false'. Refute it at one input. -/
def fnExactCombEqualWrong : ChangeSpec := { name := "fnExactCombEqual", fn := fun _ => fun
  | [d1, d2, d3] => { results := [.lit (.bool false)], args := [d1, d2, d3] }
  | _ => none }
def FnExactCombEqualWrongFalsely : Prop := fnExactCombEqualRow.holds Try.pinned (OpenSpec.ofChange fnExactCombEqualWrong)

/- THE SECOND FORM. 'bulk': how many values and letters a reading holds, each counted each time it is reached (what is shared counts as often as it is met; a slice's spare places count too). A statement '..UptoSaid' is the law's where the arguments, and the package variables that the reading takes, are together of bulk at most 1048576: NARROWER than '..Said'. Prove '..Said' where nothing that the law and all that it calls make is longer than what came in: it says more and counts as full. Else prove '..UptoSaid'. A law counts once. -/
mutual
def uptoBulk {H : Type} : DataW H → Nat
  | .lit (.string bytes) => bytes.length + 1
  | .lit _ => 1
  | .nil => 1
  | .ptr d => uptoBulk d + 1
  | .slice elems spare => uptoBulkAll elems + uptoBulkAll spare + 1
  | .agg parts => uptoBulkAll parts + 1
  | .iface _ d => uptoBulk d + 1
  | .map entries => uptoBulkEntries entries + 1
  | .held _ => 1
def uptoBulkAll {H : Type} : List (DataW H) → Nat
  | [] => 0
  | d :: r => uptoBulk d + uptoBulkAll r
def uptoBulkEntries {H : Type} : List (Lit × DataW H) → Nat
  | [] => 0
  | x :: r => uptoBulkEntry x + uptoBulkEntries r
def uptoBulkEntry {H : Type} : Lit × DataW H → Nat
  | (.string bytes, d) => bytes.length + uptoBulk d + 1
  | (_, d) => uptoBulk d + 1
 end
def uptoSmall : (H : Type) → List (DataW H) → Bool := fun _ ds => decide (uptoBulkAll ds ≤ 1048576)
def OpenSpec.upto (s : _root_.Go.ChangeSpec) : _root_.Go.OpenSpec := { _root_.Go.OpenSpec.ofChange s with cond := some uptoSmall }

/-- 'laws.FnExactPruneLinks', WHERE WHAT IT READS IS OF BULK AT MOST 1048576: true; the input reads as it did. -/
def fnExactPruneLinksUptoRow : OpenClaim := { program := "ytoppcdccplgalaa", sum := "008f977f5994218585ca4564e24bae36580e1ba52ccb0747b2a043ce0fa941f8", func := "loop.example/g03311/laws.FnExactPruneLinks", spec := "fnExactPruneLinks", unfollowed := true, recurses := true, apart := false, narrowed := true }
def FnExactPruneLinksUptoSaid : Prop := fnExactPruneLinksUptoRow.holds Try.pinned (OpenSpec.upto fnExactPruneLinksSpec)

/-- 'laws.FnExactNetCnf', WHERE WHAT IT READS IS OF BULK AT MOST 1048576: true; the input reads as it did. -/
def fnExactNetCnfUptoRow : OpenClaim := { program := "ytoppcdccplgalaa", sum := "008f977f5994218585ca4564e24bae36580e1ba52ccb0747b2a043ce0fa941f8", func := "loop.example/g03311/laws.FnExactNetCnf", spec := "fnExactNetCnf", recurses := true, apart := false, narrowed := true }
def FnExactNetCnfUptoSaid : Prop := fnExactNetCnfUptoRow.holds Try.pinned (OpenSpec.upto fnExactNetCnfSpec)

/-- 'laws.FnForwardRelated', WHERE WHAT IT READS IS OF BULK AT MOST 1048576: true; the input reads as it did. -/
def fnForwardRelatedUptoRow : OpenClaim := { program := "ytoppcdccplgalaa", sum := "008f977f5994218585ca4564e24bae36580e1ba52ccb0747b2a043ce0fa941f8", func := "loop.example/g03311/laws.FnForwardRelated", spec := "fnForwardRelated", unfollowed := true, recurses := true, apart := false, narrowed := true }
def FnForwardRelatedUptoSaid : Prop := fnForwardRelatedUptoRow.holds Try.pinned (OpenSpec.upto fnForwardRelatedSpec)

/-- 'laws.FnExactMiter', WHERE WHAT IT READS IS OF BULK AT MOST 1048576: true; the input reads as it did. -/
def fnExactMiterUptoRow : OpenClaim := { program := "ytoppcdccplgalaa", sum := "008f977f5994218585ca4564e24bae36580e1ba52ccb0747b2a043ce0fa941f8", func := "loop.example/g03311/laws.FnExactMiter", spec := "fnExactMiter", apart := false, narrowed := true }
def FnExactMiterUptoSaid : Prop := fnExactMiterUptoRow.holds Try.pinned (OpenSpec.upto fnExactMiterSpec)

/-- 'laws.FnExactSolveLit', WHERE WHAT IT READS IS OF BULK AT MOST 1048576: true; the input reads as it did. -/
def fnExactSolveLitUptoRow : OpenClaim := { program := "ytoppcdccplgalaa", sum := "008f977f5994218585ca4564e24bae36580e1ba52ccb0747b2a043ce0fa941f8", func := "loop.example/g03311/laws.FnExactSolveLit", spec := "fnExactSolveLit", recurses := true, apart := false, narrowed := true }
def FnExactSolveLitUptoSaid : Prop := fnExactSolveLitUptoRow.holds Try.pinned (OpenSpec.upto fnExactSolveLitSpec)

/-- 'laws.FnExactForwardLinks', WHERE WHAT IT READS IS OF BULK AT MOST 1048576: true; the input reads as it did. -/
def fnExactForwardLinksUptoRow : OpenClaim := { program := "ytoppcdccplgalaa", sum := "008f977f5994218585ca4564e24bae36580e1ba52ccb0747b2a043ce0fa941f8", func := "loop.example/g03311/laws.FnExactForwardLinks", spec := "fnExactForwardLinks", unfollowed := true, recurses := true, apart := false, narrowed := true }
def FnExactForwardLinksUptoSaid : Prop := fnExactForwardLinksUptoRow.holds Try.pinned (OpenSpec.upto fnExactForwardLinksSpec)

/-- 'laws.FnRelationSound', WHERE WHAT IT READS IS OF BULK AT MOST 1048576: true; the input reads as it did. -/
def fnRelationSoundUptoRow : OpenClaim := { program := "ytoppcdccplgalaa", sum := "008f977f5994218585ca4564e24bae36580e1ba52ccb0747b2a043ce0fa941f8", func := "loop.example/g03311/laws.FnRelationSound", spec := "fnRelationSound", apart := false, narrowed := true }
def FnRelationSoundUptoSaid : Prop := fnRelationSoundUptoRow.holds Try.pinned (OpenSpec.upto fnRelationSoundSpec)

/-- 'laws.FnExactEqualProof', WHERE WHAT IT READS IS OF BULK AT MOST 1048576: true; the input reads as it did. -/
def fnExactEqualProofUptoRow : OpenClaim := { program := "ytoppcdccplgalaa", sum := "008f977f5994218585ca4564e24bae36580e1ba52ccb0747b2a043ce0fa941f8", func := "loop.example/g03311/laws.FnExactEqualProof", spec := "fnExactEqualProof", recurses := true, apart := false, narrowed := true }
def FnExactEqualProofUptoSaid : Prop := fnExactEqualProofUptoRow.holds Try.pinned (OpenSpec.upto fnExactEqualProofSpec)

/-- 'laws.FnStagesProved', WHERE WHAT IT READS IS OF BULK AT MOST 1048576: true; the input reads as it did. -/
def fnStagesProvedUptoRow : OpenClaim := { program := "ytoppcdccplgalaa", sum := "008f977f5994218585ca4564e24bae36580e1ba52ccb0747b2a043ce0fa941f8", func := "loop.example/g03311/laws.FnStagesProved", spec := "fnStagesProved", unfollowed := true, recurses := true, apart := false, narrowed := true }
def FnStagesProvedUptoSaid : Prop := fnStagesProvedUptoRow.holds Try.pinned (OpenSpec.upto fnStagesProvedSpec)

/-- 'laws.FnExactCombEqual', WHERE WHAT IT READS IS OF BULK AT MOST 1048576: true; the input reads as it did. -/
def fnExactCombEqualUptoRow : OpenClaim := { program := "ytoppcdccplgalaa", sum := "008f977f5994218585ca4564e24bae36580e1ba52ccb0747b2a043ce0fa941f8", func := "loop.example/g03311/laws.FnExactCombEqual", spec := "fnExactCombEqual", recurses := true, apart := false, narrowed := true }
def FnExactCombEqualUptoSaid : Prop := fnExactCombEqualUptoRow.holds Try.pinned (OpenSpec.upto fnExactCombEqualSpec)

end Rows
end Go.Proofs.Ytoppcdccplgalaa
