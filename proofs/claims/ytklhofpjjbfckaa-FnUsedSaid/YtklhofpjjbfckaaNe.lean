/-
  From a law's arguments to data.
  Conditions: those typed in each theorem.
-/
import Derived.Test.YtklhofpjjbfckaaNt
namespace Go.Proofs.Ytklhofpjjbfckaa
open Go.RowKit Go.ChangeShapes Go.WideShapes Go.ChangeAt
set_option linter.unusedVariables false
set_option linter.unusedSimpArgs false
theorem Rd.sub {w : World} {G : Nat → Prop} {t : TypeId} {es : List (List D)} {v : Value} (h : Rd w G (.sl t es) v) : ∀ e ∈ es, ∀ d ∈ e, ∃ u, Rd w G d u := by
  intro e he d hd
  cases h with
  | nil => simp at he
  | sl _ _ b o c s u hn hcap hG hs hc hr =>
    obtain ⟨i, hi, rfl⟩ := List.mem_iff_getElem.1 he
    obtain ⟨j, hj, rfl⟩ := List.mem_iff_getElem.1 hd
    exact ⟨_, hr i _ j _ (List.getElem?_eq_getElem hi) (List.getElem?_eq_getElem hj)⟩
theorem Rds.cell {w : World} {G : Nat → Prop} {ds : List D} {vs : List Value} {f : List Nat} (h : Rds w G ds vs f) {d : D} (hd : d ∈ ds) : ∃ u, Rd w G d u := by
  obtain ⟨i, hi, rfl⟩ := List.mem_iff_getElem.1 hd
  obtain ⟨v, _, hr⟩ := h.2.2 i _ (List.getElem?_eq_getElem hi)
  exact ⟨v, hr⟩
theorem args1 {w : World} {G : Nat → Prop} {x : X} {v : Value} (h : XRd w G x v) : ∀ (i : Nat) (y : X) (u : Value), [x][i]? = some y → #[v][i]? = some u → XRd w G y u := by
  intro i y u hy hu
  match i with
  | 0 => simp at hy hu; subst hy hu; exact h
  | i + 1 => simp at hy
end Go.Proofs.Ytklhofpjjbfckaa
