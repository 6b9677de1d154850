/-
  No cell of these rows narrows 'for every input' (looked for: loops, veiled, ifaces, maps, wideKeys, modest, calm, conditions, laid).
  DERIVED. THE GIVEN ROWS OF THIS SEAT. 8 by the template 'for every input the law returns true; each argument reads behind the call as it read before'; 0 by the template 'total and deterministic' (their statements: YtdliejnmpdodhaaTotals.lean).
  GIVEN WITH THE SEED: the statements are not yours to turn. If you find one false, say at which input.
  Laid BY PROGRAM, IN A SANDBOX (cutbox-rows.mjs): the forced cells as the released guide's own fill.sh prints them over the translation c9dffe6419c65372… (all of the seat's roots in one cut). By AI agents, Wed Nov 11 2026. No macro, syntax, notation, axiom, sorry.
-/
import Derived.Test.YtdliejnmpdodhaaChecked
import GoSem.Claim
import GoSem.ClaimJoined
import GoSem.ClaimMapViews
import Derived.JoinedTies
import Derived.KernelRfl
namespace Go.Proofs.Ytdliejnmpdodhaa
/- THE CELL 'sum', in the pinned program and in every row, IS THE sha256 OF THE DUMP (.gsa) THAT YtdliejnmpdodhaaProg.lean LOADS. Nothing in Lean hashes anything: it is a label: what it is worth is what the hold of that sum in a sandbox is worth. -/
noncomputable def Try.pinned : Pinned := { name := "ytdliejnmpdodhaa", sum := "c9dffe6419c65372c0e2390c6d9ea506ec39d03dd0eb2ddd38a81b5f919696c8", checked := Try.checked }
namespace Rows
def none {H : Type} : Left H := { results := [], args := [] }

/-- 'laws.FnExactLinksOk': WHATEVER THE INPUT: true; the input reads as it did. -/
def fnExactLinksOkSpec : ChangeSpec := { name := "fnExactLinksOk", fn := fun _ => fun
  | [d1, d2, d3] => { results := [.lit (.bool true)], args := [d1, d2, d3] }
  | _ => none }
def fnExactLinksOkRow : OpenClaim := { program := "ytdliejnmpdodhaa", sum := "c9dffe6419c65372c0e2390c6d9ea506ec39d03dd0eb2ddd38a81b5f919696c8", func := "loop.example/g03311/laws.FnExactLinksOk", spec := "fnExactLinksOk", apart := false }
def FnExactLinksOkSaid : Prop := fnExactLinksOkRow.holds Try.pinned (OpenSpec.ofChange fnExactLinksOkSpec)

/-- ITS FALSE NEIGHBOUR: 'it returns false'. Refute it at one input. -/
def fnExactLinksOkWrong : ChangeSpec := { name := "fnExactLinksOk", fn := fun _ => fun
  | [d1, d2, d3] => { results := [.lit (.bool false)], args := [d1, d2, d3] }
  | _ => none }
def FnExactLinksOkWrongFalsely : Prop := fnExactLinksOkRow.holds Try.pinned (OpenSpec.ofChange fnExactLinksOkWrong)

/-- 'laws.FnExactRootValues': WHATEVER THE INPUT: true; the input reads as it did. -/
def fnExactRootValuesSpec : ChangeSpec := { name := "fnExactRootValues", fn := fun _ => fun
  | [d1, d2] => { results := [.lit (.bool true)], args := [d1, d2] }
  | _ => none }
def fnExactRootValuesRow : OpenClaim := { program := "ytdliejnmpdodhaa", sum := "c9dffe6419c65372c0e2390c6d9ea506ec39d03dd0eb2ddd38a81b5f919696c8", func := "loop.example/g03311/laws.FnExactRootValues", spec := "fnExactRootValues", apart := false }
def FnExactRootValuesSaid : Prop := fnExactRootValuesRow.holds Try.pinned (OpenSpec.ofChange fnExactRootValuesSpec)

/-- ITS FALSE NEIGHBOUR: 'it returns false'. Refute it at one input. -/
def fnExactRootValuesWrong : ChangeSpec := { name := "fnExactRootValues", fn := fun _ => fun
  | [d1, d2] => { results := [.lit (.bool false)], args := [d1, d2] }
  | _ => none }
def FnExactRootValuesWrongFalsely : Prop := fnExactRootValuesRow.holds Try.pinned (OpenSpec.ofChange fnExactRootValuesWrong)

/-- 'laws.FnExactPruneLinks': WHATEVER THE INPUT: true; the input reads as it did. -/
def fnExactPruneLinksSpec : ChangeSpec := { name := "fnExactPruneLinks", fn := fun _ => fun
  | [d] => { results := [.lit (.bool true)], args := [d] }
  | _ => none }
def fnExactPruneLinksRow : OpenClaim := { program := "ytdliejnmpdodhaa", sum := "c9dffe6419c65372c0e2390c6d9ea506ec39d03dd0eb2ddd38a81b5f919696c8", func := "loop.example/g03311/laws.FnExactPruneLinks", spec := "fnExactPruneLinks", unfollowed := true, recurses := true, apart := false }
def FnExactPruneLinksSaid : Prop := fnExactPruneLinksRow.holds Try.pinned (OpenSpec.ofChange fnExactPruneLinksSpec)

/-- ITS FALSE NEIGHBOUR: 'it returns false'. Refute it at one input. -/
def fnExactPruneLinksWrong : ChangeSpec := { name := "fnExactPruneLinks", fn := fun _ => fun
  | [d] => { results := [.lit (.bool false)], args := [d] }
  | _ => none }
def FnExactPruneLinksWrongFalsely : Prop := fnExactPruneLinksRow.holds Try.pinned (OpenSpec.ofChange fnExactPruneLinksWrong)

/-- 'laws.FnForwardRelated': WHATEVER THE INPUT: true; the input reads as it did. -/
def fnForwardRelatedSpec : ChangeSpec := { name := "fnForwardRelated", fn := fun _ => fun
  | [d] => { results := [.lit (.bool true)], args := [d] }
  | _ => none }
def fnForwardRelatedRow : OpenClaim := { program := "ytdliejnmpdodhaa", sum := "c9dffe6419c65372c0e2390c6d9ea506ec39d03dd0eb2ddd38a81b5f919696c8", func := "loop.example/g03311/laws.FnForwardRelated", spec := "fnForwardRelated", unfollowed := true, recurses := true, apart := false }
def FnForwardRelatedSaid : Prop := fnForwardRelatedRow.holds Try.pinned (OpenSpec.ofChange fnForwardRelatedSpec)

/-- ITS FALSE NEIGHBOUR: 'it returns false'. Refute it at one input. -/
def fnForwardRelatedWrong : ChangeSpec := { name := "fnForwardRelated", fn := fun _ => fun
  | [d] => { results := [.lit (.bool false)], args := [d] }
  | _ => none }
def FnForwardRelatedWrongFalsely : Prop := fnForwardRelatedRow.holds Try.pinned (OpenSpec.ofChange fnForwardRelatedWrong)

/-- 'laws.FnExactLinkState': WHATEVER THE INPUT: true; the input reads as it did. -/
def fnExactLinkStateSpec : ChangeSpec := { name := "fnExactLinkState", fn := fun _ => fun
  | [d1, d2, d3, d4] => { results := [.lit (.bool true)], args := [d1, d2, d3, d4] }
  | _ => none }
def fnExactLinkStateRow : OpenClaim := { program := "ytdliejnmpdodhaa", sum := "c9dffe6419c65372c0e2390c6d9ea506ec39d03dd0eb2ddd38a81b5f919696c8", func := "loop.example/g03311/laws.FnExactLinkState", spec := "fnExactLinkState", apart := false }
def FnExactLinkStateSaid : Prop := fnExactLinkStateRow.holds Try.pinned (OpenSpec.ofChange fnExactLinkStateSpec)

/-- ITS FALSE NEIGHBOUR: 'it returns false'. Refute it at one input. -/
def fnExactLinkStateWrong : ChangeSpec := { name := "fnExactLinkState", fn := fun _ => fun
  | [d1, d2, d3, d4] => { results := [.lit (.bool false)], args := [d1, d2, d3, d4] }
  | _ => none }
def FnExactLinkStateWrongFalsely : Prop := fnExactLinkStateRow.holds Try.pinned (OpenSpec.ofChange fnExactLinkStateWrong)

/-- 'laws.FnExactRelationHolds': WHATEVER THE INPUT: true; the input reads as it did. -/
def fnExactRelationHoldsSpec : ChangeSpec := { name := "fnExactRelationHolds", fn := fun _ => fun
  | [d1, d2, d3] => { results := [.lit (.bool true)], args := [d1, d2, d3] }
  | _ => none }
def fnExactRelationHoldsRow : OpenClaim := { program := "ytdliejnmpdodhaa", sum := "c9dffe6419c65372c0e2390c6d9ea506ec39d03dd0eb2ddd38a81b5f919696c8", func := "loop.example/g03311/laws.FnExactRelationHolds", spec := "fnExactRelationHolds", apart := false }
def FnExactRelationHoldsSaid : Prop := fnExactRelationHoldsRow.holds Try.pinned (OpenSpec.ofChange fnExactRelationHoldsSpec)

/-- ITS FALSE NEIGHBOUR: 'it returns false'. Refute it at one input. -/
def fnExactRelationHoldsWrong : ChangeSpec := { name := "fnExactRelationHolds", fn := fun _ => fun
  | [d1, d2, d3] => { results := [.lit (.bool false)], args := [d1, d2, d3] }
  | _ => none }
def FnExactRelationHoldsWrongFalsely : Prop := fnExactRelationHoldsRow.holds Try.pinned (OpenSpec.ofChange fnExactRelationHoldsWrong)

/-- 'laws.FnExactForwardLinks': WHATEVER THE INPUT: true; the input reads as it did. -/
def fnExactForwardLinksSpec : ChangeSpec := { name := "fnExactForwardLinks", fn := fun _ => fun
  | [d1, d2] => { results := [.lit (.bool true)], args := [d1, d2] }
  | _ => none }
def fnExactForwardLinksRow : OpenClaim := { program := "ytdliejnmpdodhaa", sum := "c9dffe6419c65372c0e2390c6d9ea506ec39d03dd0eb2ddd38a81b5f919696c8", func := "loop.example/g03311/laws.FnExactForwardLinks", spec := "fnExactForwardLinks", unfollowed := true, recurses := true, apart := false }
def FnExactForwardLinksSaid : Prop := fnExactForwardLinksRow.holds Try.pinned (OpenSpec.ofChange fnExactForwardLinksSpec)

/-- ITS FALSE NEIGHBOUR: 'it returns false'. Refute it at one input. -/
def fnExactForwardLinksWrong : ChangeSpec := { name := "fnExactForwardLinks", fn := fun _ => fun
  | [d1, d2] => { results := [.lit (.bool false)], args := [d1, d2] }
  | _ => none }
def FnExactForwardLinksWrongFalsely : Prop := fnExactForwardLinksRow.holds Try.pinned (OpenSpec.ofChange fnExactForwardLinksWrong)

/-- 'laws.FnRelationSound': WHATEVER THE INPUT: true; the input reads as it did. -/
def fnRelationSoundSpec : ChangeSpec := { name := "fnRelationSound", fn := fun _ => fun
  | [d] => { results := [.lit (.bool true)], args := [d] }
  | _ => none }
def fnRelationSoundRow : OpenClaim := { program := "ytdliejnmpdodhaa", sum := "c9dffe6419c65372c0e2390c6d9ea506ec39d03dd0eb2ddd38a81b5f919696c8", func := "loop.example/g03311/laws.FnRelationSound", spec := "fnRelationSound", apart := false }
def FnRelationSoundSaid : Prop := fnRelationSoundRow.holds Try.pinned (OpenSpec.ofChange fnRelationSoundSpec)

/-- ITS FALSE NEIGHBOUR: 'it returns false'. Refute it at one input. -/
def fnRelationSoundWrong : ChangeSpec := { name := "fnRelationSound", fn := fun _ => fun
  | [d] => { results := [.lit (.bool false)], args := [d] }
  | _ => none }
def FnRelationSoundWrongFalsely : Prop := fnRelationSoundRow.holds Try.pinned (OpenSpec.ofChange fnRelationSoundWrong)

/- THE SECOND FORM. 'bulk': how many values and letters a reading holds, each counted each time it is reached (what is shared counts as often as it is met; a slice's spare places count too). A statement '..UptoSaid' is the law's where the arguments, and the package variables that the reading takes, are together of bulk at most 1048576: NARROWER than '..Said'. Prove '..Said' where nothing that the law and all that it calls make is longer than what came in: it says more and counts as full. Else prove '..UptoSaid'. A law counts once. -/
mutual
def uptoBulk {H : Type} : DataW H → Nat
  | .lit (.string bytes) => bytes.length + 1
  | .lit _ => 1
  | .nil => 1
  | .ptr d => uptoBulk d + 1
  | .slice elems spare => uptoBulkAll elems + uptoBulkAll spare + 1
  | .agg parts => uptoBulkAll parts + 1
  | .iface _ d => uptoBulk d + 1
  | .map entries => uptoBulkEntries entries + 1
  | .held _ => 1
def uptoBulkAll {H : Type} : List (DataW H) → Nat
  | [] => 0
  | d :: r => uptoBulk d + uptoBulkAll r
def uptoBulkEntries {H : Type} : List (Lit × DataW H) → Nat
  | [] => 0
  | x :: r => uptoBulkEntry x + uptoBulkEntries r
def uptoBulkEntry {H : Type} : Lit × DataW H → Nat
  | (.string bytes, d) => bytes.length + uptoBulk d + 1
  | (_, d) => uptoBulk d + 1
 end
def uptoSmall : (H : Type) → List (DataW H) → Bool := fun _ ds => decide (uptoBulkAll ds ≤ 1048576)
def OpenSpec.upto (s : _root_.Go.ChangeSpec) : _root_.Go.OpenSpec := { _root_.Go.OpenSpec.ofChange s with cond := some uptoSmall }

/-- 'laws.FnExactLinksOk', WHERE WHAT IT READS IS OF BULK AT MOST 1048576: true; the input reads as it did. -/
def fnExactLinksOkUptoRow : OpenClaim := { program := "ytdliejnmpdodhaa", sum := "c9dffe6419c65372c0e2390c6d9ea506ec39d03dd0eb2ddd38a81b5f919696c8", func := "loop.example/g03311/laws.FnExactLinksOk", spec := "fnExactLinksOk", apart := false, narrowed := true }
def FnExactLinksOkUptoSaid : Prop := fnExactLinksOkUptoRow.holds Try.pinned (OpenSpec.upto fnExactLinksOkSpec)

/-- 'laws.FnExactRootValues', WHERE WHAT IT READS IS OF BULK AT MOST 1048576: true; the input reads as it did. -/
def fnExactRootValuesUptoRow : OpenClaim := { program := "ytdliejnmpdodhaa", sum := "c9dffe6419c65372c0e2390c6d9ea506ec39d03dd0eb2ddd38a81b5f919696c8", func := "loop.example/g03311/laws.FnExactRootValues", spec := "fnExactRootValues", apart := false, narrowed := true }
def FnExactRootValuesUptoSaid : Prop := fnExactRootValuesUptoRow.holds Try.pinned (OpenSpec.upto fnExactRootValuesSpec)

/-- 'laws.FnExactPruneLinks', WHERE WHAT IT READS IS OF BULK AT MOST 1048576: true; the input reads as it did. -/
def fnExactPruneLinksUptoRow : OpenClaim := { program := "ytdliejnmpdodhaa", sum := "c9dffe6419c65372c0e2390c6d9ea506ec39d03dd0eb2ddd38a81b5f919696c8", func := "loop.example/g03311/laws.FnExactPruneLinks", spec := "fnExactPruneLinks", unfollowed := true, recurses := true, apart := false, narrowed := true }
def FnExactPruneLinksUptoSaid : Prop := fnExactPruneLinksUptoRow.holds Try.pinned (OpenSpec.upto fnExactPruneLinksSpec)

/-- 'laws.FnForwardRelated', WHERE WHAT IT READS IS OF BULK AT MOST 1048576: true; the input reads as it did. -/
def fnForwardRelatedUptoRow : OpenClaim := { program := "ytdliejnmpdodhaa", sum := "c9dffe6419c65372c0e2390c6d9ea506ec39d03dd0eb2ddd38a81b5f919696c8", func := "loop.example/g03311/laws.FnForwardRelated", spec := "fnForwardRelated", unfollowed := true, recurses := true, apart := false, narrowed := true }
def FnForwardRelatedUptoSaid : Prop := fnForwardRelatedUptoRow.holds Try.pinned (OpenSpec.upto fnForwardRelatedSpec)

/-- 'laws.FnExactLinkState', WHERE WHAT IT READS IS OF BULK AT MOST 1048576: true; the input reads as it did. -/
def fnExactLinkStateUptoRow : OpenClaim := { program := "ytdliejnmpdodhaa", sum := "c9dffe6419c65372c0e2390c6d9ea506ec39d03dd0eb2ddd38a81b5f919696c8", func := "loop.example/g03311/laws.FnExactLinkState", spec := "fnExactLinkState", apart := false, narrowed := true }
def FnExactLinkStateUptoSaid : Prop := fnExactLinkStateUptoRow.holds Try.pinned (OpenSpec.upto fnExactLinkStateSpec)

/-- 'laws.FnExactRelationHolds', WHERE WHAT IT READS IS OF BULK AT MOST 1048576: true; the input reads as it did. -/
def fnExactRelationHoldsUptoRow : OpenClaim := { program := "ytdliejnmpdodhaa", sum := "c9dffe6419c65372c0e2390c6d9ea506ec39d03dd0eb2ddd38a81b5f919696c8", func := "loop.example/g03311/laws.FnExactRelationHolds", spec := "fnExactRelationHolds", apart := false, narrowed := true }
def FnExactRelationHoldsUptoSaid : Prop := fnExactRelationHoldsUptoRow.holds Try.pinned (OpenSpec.upto fnExactRelationHoldsSpec)

/-- 'laws.FnExactForwardLinks', WHERE WHAT IT READS IS OF BULK AT MOST 1048576: true; the input reads as it did. -/
def fnExactForwardLinksUptoRow : OpenClaim := { program := "ytdliejnmpdodhaa", sum := "c9dffe6419c65372c0e2390c6d9ea506ec39d03dd0eb2ddd38a81b5f919696c8", func := "loop.example/g03311/laws.FnExactForwardLinks", spec := "fnExactForwardLinks", unfollowed := true, recurses := true, apart := false, narrowed := true }
def FnExactForwardLinksUptoSaid : Prop := fnExactForwardLinksUptoRow.holds Try.pinned (OpenSpec.upto fnExactForwardLinksSpec)

/-- 'laws.FnRelationSound', WHERE WHAT IT READS IS OF BULK AT MOST 1048576: true; the input reads as it did. -/
def fnRelationSoundUptoRow : OpenClaim := { program := "ytdliejnmpdodhaa", sum := "c9dffe6419c65372c0e2390c6d9ea506ec39d03dd0eb2ddd38a81b5f919696c8", func := "loop.example/g03311/laws.FnRelationSound", spec := "fnRelationSound", apart := false, narrowed := true }
def FnRelationSoundUptoSaid : Prop := fnRelationSoundUptoRow.holds Try.pinned (OpenSpec.upto fnRelationSoundSpec)

end Rows
end Go.Proofs.Ytdliejnmpdodhaa
