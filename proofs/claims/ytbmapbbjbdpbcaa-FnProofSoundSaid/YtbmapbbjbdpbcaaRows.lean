/-
  No cell of these rows narrows 'for every input' (looked for: loops, veiled, ifaces, maps, wideKeys, modest, calm, conditions, laid).
  DERIVED. THE GIVEN ROWS OF THIS SEAT. 11 by the template 'for every input the law returns true; each argument reads behind the call as it read before'; 0 by the template 'total and deterministic' (their statements: YtbmapbbjbdpbcaaTotals.lean).
  GIVEN WITH THE SEED: the statements are not yours to turn. If you find one false, say at which input.
  Laid BY PROGRAM, IN A SANDBOX (cutbox-rows.mjs): the forced cells as the released guide's own fill.sh prints them over the translation 6a105c7bb0863457… (all of the seat's roots in one cut). By AI agents, Wed Nov 11 2026. No macro, syntax, notation, axiom, sorry.
-/
import Derived.Test.YtbmapbbjbdpbcaaChecked
import GoSem.Claim
import GoSem.ClaimJoined
import GoSem.ClaimMapViews
import Derived.JoinedTies
import Derived.KernelRfl
namespace Go.Proofs.Ytbmapbbjbdpbcaa
/- THE CELL 'sum', in the pinned program and in every row, IS THE sha256 OF THE DUMP (.gsa) THAT YtbmapbbjbdpbcaaProg.lean LOADS. Nothing in Lean hashes anything: it is a label: what it is worth is what the hold of that sum in a sandbox is worth. -/
noncomputable def Try.pinned : Pinned := { name := "ytbmapbbjbdpbcaa", sum := "6a105c7bb086345731a8fa1510488517c1398394b1e68273a016527698b8cb41", checked := Try.checked }
namespace Rows
def none {H : Type} : Left H := { results := [], args := [] }

/-- 'laws.FnExactClauseTrue': WHATEVER THE INPUT: true; the input reads as it did. -/
def fnExactClauseTrueSpec : ChangeSpec := { name := "fnExactClauseTrue", fn := fun _ => fun
  | [d1, d2] => { results := [.lit (.bool true)], args := [d1, d2] }
  | _ => none }
def fnExactClauseTrueRow : OpenClaim := { program := "ytbmapbbjbdpbcaa", sum := "6a105c7bb086345731a8fa1510488517c1398394b1e68273a016527698b8cb41", func := "loop.example/g03311/laws.FnExactClauseTrue", spec := "fnExactClauseTrue", apart := false }
def FnExactClauseTrueSaid : Prop := fnExactClauseTrueRow.holds Try.pinned (OpenSpec.ofChange fnExactClauseTrueSpec)

/-- ITS FALSE NEIGHBOUR: 'it returns false'. Refute it at one input. -/
def fnExactClauseTrueWrong : ChangeSpec := { name := "fnExactClauseTrue", fn := fun _ => fun
  | [d1, d2] => { results := [.lit (.bool false)], args := [d1, d2] }
  | _ => none }
def FnExactClauseTrueWrongFalsely : Prop := fnExactClauseTrueRow.holds Try.pinned (OpenSpec.ofChange fnExactClauseTrueWrong)

/-- 'laws.FnExactNodeAssignment': WHATEVER THE INPUT: true; the input reads as it did. -/
def fnExactNodeAssignmentSpec : ChangeSpec := { name := "fnExactNodeAssignment", fn := fun _ => fun
  | [d] => { results := [.lit (.bool true)], args := [d] }
  | _ => none }
def fnExactNodeAssignmentRow : OpenClaim := { program := "ytbmapbbjbdpbcaa", sum := "6a105c7bb086345731a8fa1510488517c1398394b1e68273a016527698b8cb41", func := "loop.example/g03311/laws.FnExactNodeAssignment", spec := "fnExactNodeAssignment", apart := false }
def FnExactNodeAssignmentSaid : Prop := fnExactNodeAssignmentRow.holds Try.pinned (OpenSpec.ofChange fnExactNodeAssignmentSpec)

/-- ITS FALSE NEIGHBOUR: 'it returns false'. Refute it at one input. -/
def fnExactNodeAssignmentWrong : ChangeSpec := { name := "fnExactNodeAssignment", fn := fun _ => fun
  | [d] => { results := [.lit (.bool false)], args := [d] }
  | _ => none }
def FnExactNodeAssignmentWrongFalsely : Prop := fnExactNodeAssignmentRow.holds Try.pinned (OpenSpec.ofChange fnExactNodeAssignmentWrong)

/-- 'laws.FnClauseParts': WHATEVER THE INPUT: true; the input reads as it did. -/
def fnClausePartsSpec : ChangeSpec := { name := "fnClauseParts", fn := fun _ => fun
  | [d] => { results := [.lit (.bool true)], args := [d] }
  | _ => none }
def fnClausePartsRow : OpenClaim := { program := "ytbmapbbjbdpbcaa", sum := "6a105c7bb086345731a8fa1510488517c1398394b1e68273a016527698b8cb41", func := "loop.example/g03311/laws.FnClauseParts", spec := "fnClauseParts", apart := false }
def FnClausePartsSaid : Prop := fnClausePartsRow.holds Try.pinned (OpenSpec.ofChange fnClausePartsSpec)

/-- ITS FALSE NEIGHBOUR: 'it returns false'. Refute it at one input. -/
def fnClausePartsWrong : ChangeSpec := { name := "fnClauseParts", fn := fun _ => fun
  | [d] => { results := [.lit (.bool false)], args := [d] }
  | _ => none }
def FnClausePartsWrongFalsely : Prop := fnClausePartsRow.holds Try.pinned (OpenSpec.ofChange fnClausePartsWrong)

/-- 'laws.FnExactCnfOk': WHATEVER THE INPUT: true; the input reads as it did. -/
def fnExactCnfOkSpec : ChangeSpec := { name := "fnExactCnfOk", fn := fun _ => fun
  | [d] => { results := [.lit (.bool true)], args := [d] }
  | _ => none }
def fnExactCnfOkRow : OpenClaim := { program := "ytbmapbbjbdpbcaa", sum := "6a105c7bb086345731a8fa1510488517c1398394b1e68273a016527698b8cb41", func := "loop.example/g03311/laws.FnExactCnfOk", spec := "fnExactCnfOk", apart := false }
def FnExactCnfOkSaid : Prop := fnExactCnfOkRow.holds Try.pinned (OpenSpec.ofChange fnExactCnfOkSpec)

/-- ITS FALSE NEIGHBOUR: 'it returns false'. Refute it at one input. -/
def fnExactCnfOkWrong : ChangeSpec := { name := "fnExactCnfOk", fn := fun _ => fun
  | [d] => { results := [.lit (.bool false)], args := [d] }
  | _ => none }
def FnExactCnfOkWrongFalsely : Prop := fnExactCnfOkRow.holds Try.pinned (OpenSpec.ofChange fnExactCnfOkWrong)

/-- 'laws.FnExactCnfTrue': WHATEVER THE INPUT: true; the input reads as it did. -/
def fnExactCnfTrueSpec : ChangeSpec := { name := "fnExactCnfTrue", fn := fun _ => fun
  | [d1, d2] => { results := [.lit (.bool true)], args := [d1, d2] }
  | _ => none }
def fnExactCnfTrueRow : OpenClaim := { program := "ytbmapbbjbdpbcaa", sum := "6a105c7bb086345731a8fa1510488517c1398394b1e68273a016527698b8cb41", func := "loop.example/g03311/laws.FnExactCnfTrue", spec := "fnExactCnfTrue", apart := false }
def FnExactCnfTrueSaid : Prop := fnExactCnfTrueRow.holds Try.pinned (OpenSpec.ofChange fnExactCnfTrueSpec)

/-- ITS FALSE NEIGHBOUR: 'it returns false'. Refute it at one input. -/
def fnExactCnfTrueWrong : ChangeSpec := { name := "fnExactCnfTrue", fn := fun _ => fun
  | [d1, d2] => { results := [.lit (.bool false)], args := [d1, d2] }
  | _ => none }
def FnExactCnfTrueWrongFalsely : Prop := fnExactCnfTrueRow.holds Try.pinned (OpenSpec.ofChange fnExactCnfTrueWrong)

/-- 'laws.FnExactIsConsequence': WHATEVER THE INPUT: true; the input reads as it did. -/
def fnExactIsConsequenceSpec : ChangeSpec := { name := "fnExactIsConsequence", fn := fun _ => fun
  | [d1, d2] => { results := [.lit (.bool true)], args := [d1, d2] }
  | _ => none }
def fnExactIsConsequenceRow : OpenClaim := { program := "ytbmapbbjbdpbcaa", sum := "6a105c7bb086345731a8fa1510488517c1398394b1e68273a016527698b8cb41", func := "loop.example/g03311/laws.FnExactIsConsequence", spec := "fnExactIsConsequence", apart := false }
def FnExactIsConsequenceSaid : Prop := fnExactIsConsequenceRow.holds Try.pinned (OpenSpec.ofChange fnExactIsConsequenceSpec)

/-- ITS FALSE NEIGHBOUR: 'it returns false'. Refute it at one input. -/
def fnExactIsConsequenceWrong : ChangeSpec := { name := "fnExactIsConsequence", fn := fun _ => fun
  | [d1, d2] => { results := [.lit (.bool false)], args := [d1, d2] }
  | _ => none }
def FnExactIsConsequenceWrongFalsely : Prop := fnExactIsConsequenceRow.holds Try.pinned (OpenSpec.ofChange fnExactIsConsequenceWrong)

/-- 'laws.FnExactPropagate': WHATEVER THE INPUT: true; the input reads as it did. -/
def fnExactPropagateSpec : ChangeSpec := { name := "fnExactPropagate", fn := fun _ => fun
  | [d1, d2] => { results := [.lit (.bool true)], args := [d1, d2] }
  | _ => none }
def fnExactPropagateRow : OpenClaim := { program := "ytbmapbbjbdpbcaa", sum := "6a105c7bb086345731a8fa1510488517c1398394b1e68273a016527698b8cb41", func := "loop.example/g03311/laws.FnExactPropagate", spec := "fnExactPropagate", apart := false }
def FnExactPropagateSaid : Prop := fnExactPropagateRow.holds Try.pinned (OpenSpec.ofChange fnExactPropagateSpec)

/-- ITS FALSE NEIGHBOUR: 'it returns false'. Refute it at one input. -/
def fnExactPropagateWrong : ChangeSpec := { name := "fnExactPropagate", fn := fun _ => fun
  | [d1, d2] => { results := [.lit (.bool false)], args := [d1, d2] }
  | _ => none }
def FnExactPropagateWrongFalsely : Prop := fnExactPropagateRow.holds Try.pinned (OpenSpec.ofChange fnExactPropagateWrong)

/-- 'laws.FnExactCheckProof': WHATEVER THE INPUT: true; the input reads as it did. -/
def fnExactCheckProofSpec : ChangeSpec := { name := "fnExactCheckProof", fn := fun _ => fun
  | [d1, d2] => { results := [.lit (.bool true)], args := [d1, d2] }
  | _ => none }
def fnExactCheckProofRow : OpenClaim := { program := "ytbmapbbjbdpbcaa", sum := "6a105c7bb086345731a8fa1510488517c1398394b1e68273a016527698b8cb41", func := "loop.example/g03311/laws.FnExactCheckProof", spec := "fnExactCheckProof", apart := false }
def FnExactCheckProofSaid : Prop := fnExactCheckProofRow.holds Try.pinned (OpenSpec.ofChange fnExactCheckProofSpec)

/-- ITS FALSE NEIGHBOUR: 'it returns false'. Refute it at one input. -/
def fnExactCheckProofWrong : ChangeSpec := { name := "fnExactCheckProof", fn := fun _ => fun
  | [d1, d2] => { results := [.lit (.bool false)], args := [d1, d2] }
  | _ => none }
def FnExactCheckProofWrongFalsely : Prop := fnExactCheckProofRow.holds Try.pinned (OpenSpec.ofChange fnExactCheckProofWrong)

/-- 'laws.FnSolved': WHATEVER THE INPUT: true; the input reads as it did. -/
def fnSolvedSpec : ChangeSpec := { name := "fnSolved", fn := fun _ => fun
  | [d] => { results := [.lit (.bool true)], args := [d] }
  | _ => none }
def fnSolvedRow : OpenClaim := { program := "ytbmapbbjbdpbcaa", sum := "6a105c7bb086345731a8fa1510488517c1398394b1e68273a016527698b8cb41", func := "loop.example/g03311/laws.FnSolved", spec := "fnSolved", recurses := true, apart := false }
def FnSolvedSaid : Prop := fnSolvedRow.holds Try.pinned (OpenSpec.ofChange fnSolvedSpec)

/-- ITS FALSE NEIGHBOUR: 'it returns false'. Refute it at one input. -/
def fnSolvedWrong : ChangeSpec := { name := "fnSolved", fn := fun _ => fun
  | [d] => { results := [.lit (.bool false)], args := [d] }
  | _ => none }
def FnSolvedWrongFalsely : Prop := fnSolvedRow.holds Try.pinned (OpenSpec.ofChange fnSolvedWrong)

/-- 'laws.FnProofSound': WHATEVER THE INPUT: true; the input reads as it did. -/
def fnProofSoundSpec : ChangeSpec := { name := "fnProofSound", fn := fun _ => fun
  | [d] => { results := [.lit (.bool true)], args := [d] }
  | _ => none }
def fnProofSoundRow : OpenClaim := { program := "ytbmapbbjbdpbcaa", sum := "6a105c7bb086345731a8fa1510488517c1398394b1e68273a016527698b8cb41", func := "loop.example/g03311/laws.FnProofSound", spec := "fnProofSound", recurses := true, apart := false }
def FnProofSoundSaid : Prop := fnProofSoundRow.holds Try.pinned (OpenSpec.ofChange fnProofSoundSpec)

/-- ITS FALSE NEIGHBOUR: 'it returns false'. Refute it at one input. -/
def fnProofSoundWrong : ChangeSpec := { name := "fnProofSound", fn := fun _ => fun
  | [d] => { results := [.lit (.bool false)], args := [d] }
  | _ => none }
def FnProofSoundWrongFalsely : Prop := fnProofSoundRow.holds Try.pinned (OpenSpec.ofChange fnProofSoundWrong)

/-- 'laws.FnExactSolve': WHATEVER THE INPUT: true; the input reads as it did. -/
def fnExactSolveSpec : ChangeSpec := { name := "fnExactSolve", fn := fun _ => fun
  | [d1, d2] => { results := [.lit (.bool true)], args := [d1, d2] }
  | _ => none }
def fnExactSolveRow : OpenClaim := { program := "ytbmapbbjbdpbcaa", sum := "6a105c7bb086345731a8fa1510488517c1398394b1e68273a016527698b8cb41", func := "loop.example/g03311/laws.FnExactSolve", spec := "fnExactSolve", recurses := true, apart := false }
def FnExactSolveSaid : Prop := fnExactSolveRow.holds Try.pinned (OpenSpec.ofChange fnExactSolveSpec)

/-- ITS FALSE NEIGHBOUR: 'it returns false'. Refute it at one input. -/
def fnExactSolveWrong : ChangeSpec := { name := "fnExactSolve", fn := fun _ => fun
  | [d1, d2] => { results := [.lit (.bool false)], args := [d1, d2] }
  | _ => none }
def FnExactSolveWrongFalsely : Prop := fnExactSolveRow.holds Try.pinned (OpenSpec.ofChange fnExactSolveWrong)

/- THE SECOND FORM. 'bulk': how many values and letters a reading holds, each counted each time it is reached (what is shared counts as often as it is met; a slice's spare places count too). A statement '..UptoSaid' is the law's where the arguments, and the package variables that the reading takes, are together of bulk at most 1048576: NARROWER than '..Said'. Prove '..Said' where nothing that the law and all that it calls make is longer than what came in: it says more and counts as full. Else prove '..UptoSaid'. A law counts once. -/
mutual
def uptoBulk {H : Type} : DataW H → Nat
  | .lit (.string bytes) => bytes.length + 1
  | .lit _ => 1
  | .nil => 1
  | .ptr d => uptoBulk d + 1
  | .slice elems spare => uptoBulkAll elems + uptoBulkAll spare + 1
  | .agg parts => uptoBulkAll parts + 1
  | .iface _ d => uptoBulk d + 1
  | .map entries => uptoBulkEntries entries + 1
  | .held _ => 1
def uptoBulkAll {H : Type} : List (DataW H) → Nat
  | [] => 0
  | d :: r => uptoBulk d + uptoBulkAll r
def uptoBulkEntries {H : Type} : List (Lit × DataW H) → Nat
  | [] => 0
  | x :: r => uptoBulkEntry x + uptoBulkEntries r
def uptoBulkEntry {H : Type} : Lit × DataW H → Nat
  | (.string bytes, d) => bytes.length + uptoBulk d + 1
  | (_, d) => uptoBulk d + 1
 end
def uptoSmall : (H : Type) → List (DataW H) → Bool := fun _ ds => decide (uptoBulkAll ds ≤ 1048576)
def OpenSpec.upto (s : _root_.Go.ChangeSpec) : _root_.Go.OpenSpec := { _root_.Go.OpenSpec.ofChange s with cond := some uptoSmall }

/-- 'laws.FnExactClauseTrue', WHERE WHAT IT READS IS OF BULK AT MOST 1048576: true; the input reads as it did. -/
def fnExactClauseTrueUptoRow : OpenClaim := { program := "ytbmapbbjbdpbcaa", sum := "6a105c7bb086345731a8fa1510488517c1398394b1e68273a016527698b8cb41", func := "loop.example/g03311/laws.FnExactClauseTrue", spec := "fnExactClauseTrue", apart := false, narrowed := true }
def FnExactClauseTrueUptoSaid : Prop := fnExactClauseTrueUptoRow.holds Try.pinned (OpenSpec.upto fnExactClauseTrueSpec)

/-- 'laws.FnExactNodeAssignment', WHERE WHAT IT READS IS OF BULK AT MOST 1048576: true; the input reads as it did. -/
def fnExactNodeAssignmentUptoRow : OpenClaim := { program := "ytbmapbbjbdpbcaa", sum := "6a105c7bb086345731a8fa1510488517c1398394b1e68273a016527698b8cb41", func := "loop.example/g03311/laws.FnExactNodeAssignment", spec := "fnExactNodeAssignment", apart := false, narrowed := true }
def FnExactNodeAssignmentUptoSaid : Prop := fnExactNodeAssignmentUptoRow.holds Try.pinned (OpenSpec.upto fnExactNodeAssignmentSpec)

/-- 'laws.FnClauseParts', WHERE WHAT IT READS IS OF BULK AT MOST 1048576: true; the input reads as it did. -/
def fnClausePartsUptoRow : OpenClaim := { program := "ytbmapbbjbdpbcaa", sum := "6a105c7bb086345731a8fa1510488517c1398394b1e68273a016527698b8cb41", func := "loop.example/g03311/laws.FnClauseParts", spec := "fnClauseParts", apart := false, narrowed := true }
def FnClausePartsUptoSaid : Prop := fnClausePartsUptoRow.holds Try.pinned (OpenSpec.upto fnClausePartsSpec)

/-- 'laws.FnExactCnfOk', WHERE WHAT IT READS IS OF BULK AT MOST 1048576: true; the input reads as it did. -/
def fnExactCnfOkUptoRow : OpenClaim := { program := "ytbmapbbjbdpbcaa", sum := "6a105c7bb086345731a8fa1510488517c1398394b1e68273a016527698b8cb41", func := "loop.example/g03311/laws.FnExactCnfOk", spec := "fnExactCnfOk", apart := false, narrowed := true }
def FnExactCnfOkUptoSaid : Prop := fnExactCnfOkUptoRow.holds Try.pinned (OpenSpec.upto fnExactCnfOkSpec)

/-- 'laws.FnExactCnfTrue', WHERE WHAT IT READS IS OF BULK AT MOST 1048576: true; the input reads as it did. -/
def fnExactCnfTrueUptoRow : OpenClaim := { program := "ytbmapbbjbdpbcaa", sum := "6a105c7bb086345731a8fa1510488517c1398394b1e68273a016527698b8cb41", func := "loop.example/g03311/laws.FnExactCnfTrue", spec := "fnExactCnfTrue", apart := false, narrowed := true }
def FnExactCnfTrueUptoSaid : Prop := fnExactCnfTrueUptoRow.holds Try.pinned (OpenSpec.upto fnExactCnfTrueSpec)

/-- 'laws.FnExactIsConsequence', WHERE WHAT IT READS IS OF BULK AT MOST 1048576: true; the input reads as it did. -/
def fnExactIsConsequenceUptoRow : OpenClaim := { program := "ytbmapbbjbdpbcaa", sum := "6a105c7bb086345731a8fa1510488517c1398394b1e68273a016527698b8cb41", func := "loop.example/g03311/laws.FnExactIsConsequence", spec := "fnExactIsConsequence", apart := false, narrowed := true }
def FnExactIsConsequenceUptoSaid : Prop := fnExactIsConsequenceUptoRow.holds Try.pinned (OpenSpec.upto fnExactIsConsequenceSpec)

/-- 'laws.FnExactPropagate', WHERE WHAT IT READS IS OF BULK AT MOST 1048576: true; the input reads as it did. -/
def fnExactPropagateUptoRow : OpenClaim := { program := "ytbmapbbjbdpbcaa", sum := "6a105c7bb086345731a8fa1510488517c1398394b1e68273a016527698b8cb41", func := "loop.example/g03311/laws.FnExactPropagate", spec := "fnExactPropagate", apart := false, narrowed := true }
def FnExactPropagateUptoSaid : Prop := fnExactPropagateUptoRow.holds Try.pinned (OpenSpec.upto fnExactPropagateSpec)

/-- 'laws.FnExactCheckProof', WHERE WHAT IT READS IS OF BULK AT MOST 1048576: true; the input reads as it did. -/
def fnExactCheckProofUptoRow : OpenClaim := { program := "ytbmapbbjbdpbcaa", sum := "6a105c7bb086345731a8fa1510488517c1398394b1e68273a016527698b8cb41", func := "loop.example/g03311/laws.FnExactCheckProof", spec := "fnExactCheckProof", apart := false, narrowed := true }
def FnExactCheckProofUptoSaid : Prop := fnExactCheckProofUptoRow.holds Try.pinned (OpenSpec.upto fnExactCheckProofSpec)

/-- 'laws.FnSolved', WHERE WHAT IT READS IS OF BULK AT MOST 1048576: true; the input reads as it did. -/
def fnSolvedUptoRow : OpenClaim := { program := "ytbmapbbjbdpbcaa", sum := "6a105c7bb086345731a8fa1510488517c1398394b1e68273a016527698b8cb41", func := "loop.example/g03311/laws.FnSolved", spec := "fnSolved", recurses := true, apart := false, narrowed := true }
def FnSolvedUptoSaid : Prop := fnSolvedUptoRow.holds Try.pinned (OpenSpec.upto fnSolvedSpec)

/-- 'laws.FnProofSound', WHERE WHAT IT READS IS OF BULK AT MOST 1048576: true; the input reads as it did. -/
def fnProofSoundUptoRow : OpenClaim := { program := "ytbmapbbjbdpbcaa", sum := "6a105c7bb086345731a8fa1510488517c1398394b1e68273a016527698b8cb41", func := "loop.example/g03311/laws.FnProofSound", spec := "fnProofSound", recurses := true, apart := false, narrowed := true }
def FnProofSoundUptoSaid : Prop := fnProofSoundUptoRow.holds Try.pinned (OpenSpec.upto fnProofSoundSpec)

/-- 'laws.FnExactSolve', WHERE WHAT IT READS IS OF BULK AT MOST 1048576: true; the input reads as it did. -/
def fnExactSolveUptoRow : OpenClaim := { program := "ytbmapbbjbdpbcaa", sum := "6a105c7bb086345731a8fa1510488517c1398394b1e68273a016527698b8cb41", func := "loop.example/g03311/laws.FnExactSolve", spec := "fnExactSolve", recurses := true, apart := false, narrowed := true }
def FnExactSolveUptoSaid : Prop := fnExactSolveUptoRow.holds Try.pinned (OpenSpec.upto fnExactSolveSpec)

end Rows
end Go.Proofs.Ytbmapbbjbdpbcaa
