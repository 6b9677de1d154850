/-
  Adding an AND node to a net. Plain lemmas.
  Conditions: those typed in each theorem.
-/
import Derived.Test.YtoppcdccplgalaaNo
namespace Go.Proofs.Ytoppcdccplgalaa
set_option linter.unusedVariables false
def mnI (a b : Int) : Int := if b < a then b else a
def mxI (a b : Int) : Int := if a < b then b else a
def trivB (a b : Int) : Bool := decide (a = 0) || decide (b = 0) || decide (xor64 a 1 = b) || decide (a = 1) || decide (a = b) || decide (b = 1)
def trivV (a b : Int) : Int := if a = 0 ∨ b = 0 ∨ xor64 a 1 = b then 0 else if a = 1 ∨ a = b then b else a
/-- The place of a node; the length if there is none. -/
def fndL (an : List AndD) (x : AndD) : Nat := an.findIdx fun y => decide (y = x)
/-- The literal of a conjunction; fa: the number of the first AND node. -/
def addV (fa : Int) (an : List AndD) (a b : Int) : Int :=
  if trivB a b = true then trivV a b else if fndL an (mnI a b, mxI a b) < an.length then 2 * (fa + fndL an (mnI a b, mxI a b)) else if an.length < 300 then 2 * (fa + an.length) else -1
/-- Whether a node is added. -/
def addM (an : List AndD) (a b : Int) : Bool := !trivB a b && decide (¬ fndL an (mnI a b, mxI a b) < an.length) && decide (an.length < 300)
def addN (an : List AndD) (a b : Int) : List AndD := if addM an a b = true then an ++ [(mnI a b, mxI a b)] else an
theorem fnd_at {an : List AndD} {x : AndD} {i : Nat} (h : an[i]? = some x) (hpre : ∀ j : Nat, j < i → an[j]? ≠ some x) : fndL an x = i := by
  obtain ⟨hi, e⟩ := List.getElem?_eq_some_iff.1 h
  unfold fndL
  rw [List.findIdx_eq hi]
  refine ⟨by simpa using e, fun j hj => ?_⟩
  have := hpre j hj
  rw [List.getElem?_eq_getElem (by omega)] at this
  simpa using this
theorem fnd_none {an : List AndD} {x : AndD} (hpre : ∀ j : Nat, j < an.length → an[j]? ≠ some x) : fndL an x = an.length := by
  unfold fndL
  rw [List.findIdx_eq_length]
  intro y hy
  obtain ⟨j, hj, rfl⟩ := List.mem_iff_getElem.1 hy
  have := hpre j hj
  rw [List.getElem?_eq_getElem hj] at this
  simpa using this
theorem addN_len {an : List AndD} {a b : Int} : an.length ≤ (addN an a b).length ∧ (addN an a b).length ≤ an.length + 1 := by
  unfold addN; split <;> simp
end Go.Proofs.Ytoppcdccplgalaa
