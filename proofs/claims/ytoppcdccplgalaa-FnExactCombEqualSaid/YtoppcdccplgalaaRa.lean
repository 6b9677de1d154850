/-
  What can be observed in a net: what its outputs reach through AND nodes and sequential elements; by a search with a list of what is left to do, and by rounds of marks. Plain lemmas, about no function of the program.
  Conditions: those typed in each theorem.
-/
import Derived.Test.YtoppcdccplgalaaNo
namespace Go.Proofs.Ytoppcdccplgalaa
set_option linter.unusedVariables false

def litN (l : Int) : Nat := l.toNat / 2
def seqAt (x : GrD) (i : Nat) : SeqD := (x.2.1[i]?).getD (0, 0, [])
/-- The number of the first sequential element. -/
def firstQ (x : GrD) : Nat := 1 + x.1.toNat
/-- The nodes that a node needs. -/
def kidsO (x : GrD) (v : Nat) : List Nat := if firstG x ≤ v then [kidA x v, kidB x v] else if firstQ x ≤ v then (seqAt x (v - firstQ x)).2.2.map litN else []
inductive Obs (x : GrD) : Nat → Prop
  | out {l : Int} (h : l ∈ x.2.2.2) : Obs x (litN l)
  | kid {v u : Nat} (hv : Obs x v) (hu : u ∈ kidsO x v) : Obs x u
theorem root_lt {x : GrD} (hok : netOkB x = true) {l : Int} (h : l ∈ grRoots x) : 0 ≤ l ∧ litN l < grN x := by
  obtain ⟨-, -, o2, -⟩ := netOk_of hok
  have := o2 l h
  unfold litN
  omega
theorem outs_root {x : GrD} {l : Int} (h : l ∈ x.2.2.2) : l ∈ grRoots x := List.mem_append_left _ h
/-! ### A search with a list of what is left to do -/
def cntO (s : List Bool) : Nat := s.count false
/-- What holds between two steps; N: the number of nodes. -/
structure InvO (x : GrD) (s : List Bool × List Nat) : Prop where
  len : s.1.length = grN x
  obs : ∀ u, getB s.1 u = true → Obs x u
  lt : ∀ u ∈ s.2, u < grN x
  seen : ∀ u ∈ s.2, getB s.1 u = true
  small : 2 * cntO s.1 + s.2.length ≤ 2 * grN x
/-! ### Rounds of marks -/
end Go.Proofs.Ytoppcdccplgalaa
