/-
  No cell of these rows narrows 'for every input' (looked for: loops, veiled, ifaces, maps, wideKeys, modest, calm, conditions, laid).
  DERIVED. THE GIVEN ROWS OF THIS SEAT. 3 by the template 'for every input the law returns true; each argument reads behind the call as it read before'; 0 by the template 'total and deterministic' (their statements: YtnjedabjbeipeaaTotals.lean).
  GIVEN WITH THE SEED: the statements are not yours to turn. If you find one false, say at which input.
  Laid BY PROGRAM, IN A SANDBOX (cutbox-rows.mjs): the forced cells as the released guide's own fill.sh prints them over the translation d7bea22b058466cc… (all of the seat's roots in one cut). By AI agents, Wed Nov 11 2026. No macro, syntax, notation, axiom, sorry.
-/
import Derived.Test.YtnjedabjbeipeaaChecked
import GoSem.Claim
import GoSem.ClaimJoined
import GoSem.ClaimMapViews
import Derived.JoinedTies
import Derived.KernelRfl
namespace Go.Proofs.Ytnjedabjbeipeaa
/- THE CELL 'sum', in the pinned program and in every row, IS THE sha256 OF THE DUMP (.gsa) THAT YtnjedabjbeipeaaProg.lean LOADS. Nothing in Lean hashes anything: it is a label: what it is worth is what the hold of that sum in a sandbox is worth. -/
noncomputable def Try.pinned : Pinned := { name := "ytnjedabjbeipeaa", sum := "d7bea22b058466cc336460a037058945f17ef6aea2e9bee4739e74e328abed5f", checked := Try.checked }
namespace Rows
def none {H : Type} : Left H := { results := [], args := [] }

/-- 'laws.FnForwardRelated': WHATEVER THE INPUT: true; the input reads as it did. -/
def fnForwardRelatedSpec : ChangeSpec := { name := "fnForwardRelated", fn := fun _ => fun
  | [d] => { results := [.lit (.bool true)], args := [d] }
  | _ => none }
def fnForwardRelatedRow : OpenClaim := { program := "ytnjedabjbeipeaa", sum := "d7bea22b058466cc336460a037058945f17ef6aea2e9bee4739e74e328abed5f", func := "loop.example/g03311/laws.FnForwardRelated", spec := "fnForwardRelated", unfollowed := true, recurses := true, apart := false }
def FnForwardRelatedSaid : Prop := fnForwardRelatedRow.holds Try.pinned (OpenSpec.ofChange fnForwardRelatedSpec)

/-- ITS FALSE NEIGHBOUR: 'it returns false'. Refute it at one input. -/
def fnForwardRelatedWrong : ChangeSpec := { name := "fnForwardRelated", fn := fun _ => fun
  | [d] => { results := [.lit (.bool false)], args := [d] }
  | _ => none }
def FnForwardRelatedWrongFalsely : Prop := fnForwardRelatedRow.holds Try.pinned (OpenSpec.ofChange fnForwardRelatedWrong)

/-- 'laws.FnRelationSound': WHATEVER THE INPUT: true; the input reads as it did. -/
def fnRelationSoundSpec : ChangeSpec := { name := "fnRelationSound", fn := fun _ => fun
  | [d] => { results := [.lit (.bool true)], args := [d] }
  | _ => none }
def fnRelationSoundRow : OpenClaim := { program := "ytnjedabjbeipeaa", sum := "d7bea22b058466cc336460a037058945f17ef6aea2e9bee4739e74e328abed5f", func := "loop.example/g03311/laws.FnRelationSound", spec := "fnRelationSound", apart := false }
def FnRelationSoundSaid : Prop := fnRelationSoundRow.holds Try.pinned (OpenSpec.ofChange fnRelationSoundSpec)

/-- ITS FALSE NEIGHBOUR: 'it returns false'. Refute it at one input. -/
def fnRelationSoundWrong : ChangeSpec := { name := "fnRelationSound", fn := fun _ => fun
  | [d] => { results := [.lit (.bool false)], args := [d] }
  | _ => none }
def FnRelationSoundWrongFalsely : Prop := fnRelationSoundRow.holds Try.pinned (OpenSpec.ofChange fnRelationSoundWrong)

/-- 'laws.FnStagesProved': WHATEVER THE INPUT: true; the input reads as it did. -/
def fnStagesProvedSpec : ChangeSpec := { name := "fnStagesProved", fn := fun _ => fun
  | [d] => { results := [.lit (.bool true)], args := [d] }
  | _ => none }
def fnStagesProvedRow : OpenClaim := { program := "ytnjedabjbeipeaa", sum := "d7bea22b058466cc336460a037058945f17ef6aea2e9bee4739e74e328abed5f", func := "loop.example/g03311/laws.FnStagesProved", spec := "fnStagesProved", unfollowed := true, recurses := true, apart := false }
def FnStagesProvedSaid : Prop := fnStagesProvedRow.holds Try.pinned (OpenSpec.ofChange fnStagesProvedSpec)

/-- ITS FALSE NEIGHBOUR: 'it returns false'. Refute it at one input. -/
def fnStagesProvedWrong : ChangeSpec := { name := "fnStagesProved", fn := fun _ => fun
  | [d] => { results := [.lit (.bool false)], args := [d] }
  | _ => none }
def FnStagesProvedWrongFalsely : Prop := fnStagesProvedRow.holds Try.pinned (OpenSpec.ofChange fnStagesProvedWrong)

/- THE SECOND FORM. 'bulk': how many values and letters a reading holds, each counted each time it is reached (what is shared counts as often as it is met; a slice's spare places count too). A statement '..UptoSaid' is the law's where the arguments, and the package variables that the reading takes, are together of bulk at most 1048576: NARROWER than '..Said'. Prove '..Said' where nothing that the law and all that it calls make is longer than what came in: it says more and counts as full. Else prove '..UptoSaid'. A law counts once. -/
mutual
def uptoBulk {H : Type} : DataW H → Nat
  | .lit (.string bytes) => bytes.length + 1
  | .lit _ => 1
  | .nil => 1
  | .ptr d => uptoBulk d + 1
  | .slice elems spare => uptoBulkAll elems + uptoBulkAll spare + 1
  | .agg parts => uptoBulkAll parts + 1
  | .iface _ d => uptoBulk d + 1
  | .map entries => uptoBulkEntries entries + 1
  | .held _ => 1
def uptoBulkAll {H : Type} : List (DataW H) → Nat
  | [] => 0
  | d :: r => uptoBulk d + uptoBulkAll r
def uptoBulkEntries {H : Type} : List (Lit × DataW H) → Nat
  | [] => 0
  | x :: r => uptoBulkEntry x + uptoBulkEntries r
def uptoBulkEntry {H : Type} : Lit × DataW H → Nat
  | (.string bytes, d) => bytes.length + uptoBulk d + 1
  | (_, d) => uptoBulk d + 1
 end
def uptoSmall : (H : Type) → List (DataW H) → Bool := fun _ ds => decide (uptoBulkAll ds ≤ 1048576)
def OpenSpec.upto (s : _root_.Go.ChangeSpec) : _root_.Go.OpenSpec := { _root_.Go.OpenSpec.ofChange s with cond := some uptoSmall }

/-- 'laws.FnForwardRelated', WHERE WHAT IT READS IS OF BULK AT MOST 1048576: true; the input reads as it did. -/
def fnForwardRelatedUptoRow : OpenClaim := { program := "ytnjedabjbeipeaa", sum := "d7bea22b058466cc336460a037058945f17ef6aea2e9bee4739e74e328abed5f", func := "loop.example/g03311/laws.FnForwardRelated", spec := "fnForwardRelated", unfollowed := true, recurses := true, apart := false, narrowed := true }
def FnForwardRelatedUptoSaid : Prop := fnForwardRelatedUptoRow.holds Try.pinned (OpenSpec.upto fnForwardRelatedSpec)

/-- 'laws.FnRelationSound', WHERE WHAT IT READS IS OF BULK AT MOST 1048576: true; the input reads as it did. -/
def fnRelationSoundUptoRow : OpenClaim := { program := "ytnjedabjbeipeaa", sum := "d7bea22b058466cc336460a037058945f17ef6aea2e9bee4739e74e328abed5f", func := "loop.example/g03311/laws.FnRelationSound", spec := "fnRelationSound", apart := false, narrowed := true }
def FnRelationSoundUptoSaid : Prop := fnRelationSoundUptoRow.holds Try.pinned (OpenSpec.upto fnRelationSoundSpec)

/-- 'laws.FnStagesProved', WHERE WHAT IT READS IS OF BULK AT MOST 1048576: true; the input reads as it did. -/
def fnStagesProvedUptoRow : OpenClaim := { program := "ytnjedabjbeipeaa", sum := "d7bea22b058466cc336460a037058945f17ef6aea2e9bee4739e74e328abed5f", func := "loop.example/g03311/laws.FnStagesProved", spec := "fnStagesProved", unfollowed := true, recurses := true, apart := false, narrowed := true }
def FnStagesProvedUptoSaid : Prop := fnStagesProvedUptoRow.holds Try.pinned (OpenSpec.upto fnStagesProvedSpec)

end Rows
end Go.Proofs.Ytnjedabjbeipeaa
