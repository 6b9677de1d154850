/-
  No cell of these rows narrows 'for every input' (looked for: loops, veiled, ifaces, maps, wideKeys, modest, calm, conditions, laid).
  DERIVED. THE GIVEN ROWS OF THIS SEAT. 3 by the template 'for every input the law returns true; each argument reads behind the call as it read before'; 0 by the template 'total and deterministic' (their statements: YtakohcpfjkcfdaaTotals.lean).
  GIVEN WITH THE SEED: the statements are not yours to turn. If you find one false, say at which input.
  Laid BY PROGRAM, IN A SANDBOX (cutbox-rows.mjs): the forced cells as the released guide's own fill.sh prints them over the translation 6cc8e5ac0b8d79e0… (all of the seat's roots in one cut). By AI agents, Wed Nov 11 2026. No macro, syntax, notation, axiom, sorry.
-/
import Derived.Test.YtakohcpfjkcfdaaChecked
import GoSem.Claim
import GoSem.ClaimJoined
import GoSem.ClaimMapViews
import Derived.JoinedTies
import Derived.KernelRfl
namespace Go.Proofs.Ytakohcpfjkcfdaa
/- THE CELL 'sum', in the pinned program and in every row, IS THE sha256 OF THE DUMP (.gsa) THAT YtakohcpfjkcfdaaProg.lean LOADS. Nothing in Lean hashes anything: it is a label: what it is worth is what the hold of that sum in a sandbox is worth. -/
noncomputable def Try.pinned : Pinned := { name := "ytakohcpfjkcfdaa", sum := "6cc8e5ac0b8d79e0d442a5a0db49c6dfbaa6f7b8acd4f93c2743bf122dbc610f", checked := Try.checked }
namespace Rows
def none {H : Type} : Left H := { results := [], args := [] }

/-- 'laws.FnNoShallower': WHATEVER THE INPUT: true; the input reads as it did. -/
def fnNoShallowerSpec : ChangeSpec := { name := "fnNoShallower", fn := fun _ => fun
  | [d] => { results := [.lit (.bool true)], args := [d] }
  | _ => none }
def fnNoShallowerRow : OpenClaim := { program := "ytakohcpfjkcfdaa", sum := "6cc8e5ac0b8d79e0d442a5a0db49c6dfbaa6f7b8acd4f93c2743bf122dbc610f", func := "loop.example/g03311/laws.FnNoShallower", spec := "fnNoShallower", unfollowed := true, recurses := true, plainKeys := false, apart := false }
def FnNoShallowerSaid : Prop := fnNoShallowerRow.holds Try.pinned (OpenSpec.ofChange fnNoShallowerSpec)

/-- ITS FALSE NEIGHBOUR: 'it returns false'. Refute it at one input. -/
def fnNoShallowerWrong : ChangeSpec := { name := "fnNoShallower", fn := fun _ => fun
  | [d] => { results := [.lit (.bool false)], args := [d] }
  | _ => none }
def FnNoShallowerWrongFalsely : Prop := fnNoShallowerRow.holds Try.pinned (OpenSpec.ofChange fnNoShallowerWrong)

/-- 'laws.FnRecovered': WHATEVER THE INPUT: true; the input reads as it did. -/
def fnRecoveredSpec : ChangeSpec := { name := "fnRecovered", fn := fun _ => fun
  | [d] => { results := [.lit (.bool true)], args := [d] }
  | _ => none }
def fnRecoveredRow : OpenClaim := { program := "ytakohcpfjkcfdaa", sum := "6cc8e5ac0b8d79e0d442a5a0db49c6dfbaa6f7b8acd4f93c2743bf122dbc610f", func := "loop.example/g03311/laws.FnRecovered", spec := "fnRecovered", recurses := true, plainKeys := false, apart := false }
def FnRecoveredSaid : Prop := fnRecoveredRow.holds Try.pinned (OpenSpec.ofChange fnRecoveredSpec)

/-- ITS FALSE NEIGHBOUR: 'it returns false'. Refute it at one input. -/
def fnRecoveredWrong : ChangeSpec := { name := "fnRecovered", fn := fun _ => fun
  | [d] => { results := [.lit (.bool false)], args := [d] }
  | _ => none }
def FnRecoveredWrongFalsely : Prop := fnRecoveredRow.holds Try.pinned (OpenSpec.ofChange fnRecoveredWrong)

/-- 'laws.FnMapNetDepth': WHATEVER THE INPUT: true; the input reads as it did. -/
def fnMapNetDepthSpec : ChangeSpec := { name := "fnMapNetDepth", fn := fun _ => fun
  | [d] => { results := [.lit (.bool true)], args := [d] }
  | _ => none }
def fnMapNetDepthRow : OpenClaim := { program := "ytakohcpfjkcfdaa", sum := "6cc8e5ac0b8d79e0d442a5a0db49c6dfbaa6f7b8acd4f93c2743bf122dbc610f", func := "loop.example/g03311/laws.FnMapNetDepth", spec := "fnMapNetDepth", unfollowed := true, recurses := true, plainKeys := false, apart := false }
def FnMapNetDepthSaid : Prop := fnMapNetDepthRow.holds Try.pinned (OpenSpec.ofChange fnMapNetDepthSpec)

/-- ITS FALSE NEIGHBOUR: 'it returns false'. Refute it at one input. -/
def fnMapNetDepthWrong : ChangeSpec := { name := "fnMapNetDepth", fn := fun _ => fun
  | [d] => { results := [.lit (.bool false)], args := [d] }
  | _ => none }
def FnMapNetDepthWrongFalsely : Prop := fnMapNetDepthRow.holds Try.pinned (OpenSpec.ofChange fnMapNetDepthWrong)

/- THE SECOND FORM. 'bulk': how many values and letters a reading holds, each counted each time it is reached (what is shared counts as often as it is met; a slice's spare places count too). A statement '..UptoSaid' is the law's where the arguments, and the package variables that the reading takes, are together of bulk at most 1048576: NARROWER than '..Said'. Prove '..Said' where nothing that the law and all that it calls make is longer than what came in: it says more and counts as full. Else prove '..UptoSaid'. A law counts once. -/
mutual
def uptoBulk {H : Type} : DataW H → Nat
  | .lit (.string bytes) => bytes.length + 1
  | .lit _ => 1
  | .nil => 1
  | .ptr d => uptoBulk d + 1
  | .slice elems spare => uptoBulkAll elems + uptoBulkAll spare + 1
  | .agg parts => uptoBulkAll parts + 1
  | .iface _ d => uptoBulk d + 1
  | .map entries => uptoBulkEntries entries + 1
  | .held _ => 1
def uptoBulkAll {H : Type} : List (DataW H) → Nat
  | [] => 0
  | d :: r => uptoBulk d + uptoBulkAll r
def uptoBulkEntries {H : Type} : List (Lit × DataW H) → Nat
  | [] => 0
  | x :: r => uptoBulkEntry x + uptoBulkEntries r
def uptoBulkEntry {H : Type} : Lit × DataW H → Nat
  | (.string bytes, d) => bytes.length + uptoBulk d + 1
  | (_, d) => uptoBulk d + 1
 end
def uptoSmall : (H : Type) → List (DataW H) → Bool := fun _ ds => decide (uptoBulkAll ds ≤ 1048576)
def OpenSpec.upto (s : _root_.Go.ChangeSpec) : _root_.Go.OpenSpec := { _root_.Go.OpenSpec.ofChange s with cond := some uptoSmall }

/-- 'laws.FnNoShallower', WHERE WHAT IT READS IS OF BULK AT MOST 1048576: true; the input reads as it did. -/
def fnNoShallowerUptoRow : OpenClaim := { program := "ytakohcpfjkcfdaa", sum := "6cc8e5ac0b8d79e0d442a5a0db49c6dfbaa6f7b8acd4f93c2743bf122dbc610f", func := "loop.example/g03311/laws.FnNoShallower", spec := "fnNoShallower", unfollowed := true, recurses := true, plainKeys := false, apart := false, narrowed := true }
def FnNoShallowerUptoSaid : Prop := fnNoShallowerUptoRow.holds Try.pinned (OpenSpec.upto fnNoShallowerSpec)

/-- 'laws.FnRecovered', WHERE WHAT IT READS IS OF BULK AT MOST 1048576: true; the input reads as it did. -/
def fnRecoveredUptoRow : OpenClaim := { program := "ytakohcpfjkcfdaa", sum := "6cc8e5ac0b8d79e0d442a5a0db49c6dfbaa6f7b8acd4f93c2743bf122dbc610f", func := "loop.example/g03311/laws.FnRecovered", spec := "fnRecovered", recurses := true, plainKeys := false, apart := false, narrowed := true }
def FnRecoveredUptoSaid : Prop := fnRecoveredUptoRow.holds Try.pinned (OpenSpec.upto fnRecoveredSpec)

/-- 'laws.FnMapNetDepth', WHERE WHAT IT READS IS OF BULK AT MOST 1048576: true; the input reads as it did. -/
def fnMapNetDepthUptoRow : OpenClaim := { program := "ytakohcpfjkcfdaa", sum := "6cc8e5ac0b8d79e0d442a5a0db49c6dfbaa6f7b8acd4f93c2743bf122dbc610f", func := "loop.example/g03311/laws.FnMapNetDepth", spec := "fnMapNetDepth", unfollowed := true, recurses := true, plainKeys := false, apart := false, narrowed := true }
def FnMapNetDepthUptoSaid : Prop := fnMapNetDepthUptoRow.holds Try.pinned (OpenSpec.upto fnMapNetDepthSpec)

end Rows
end Go.Proofs.Ytakohcpfjkcfdaa
