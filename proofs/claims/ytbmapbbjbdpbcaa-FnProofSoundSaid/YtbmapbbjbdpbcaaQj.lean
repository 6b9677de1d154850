/-
  What propagation proves: assignments, units, passes, refutations. Plain lemmas.
  Conditions: those typed in each theorem.
-/
import Derived.Test.YtbmapbbjbdpbcaaQb
namespace Go.Proofs.Ytbmapbbjbdpbcaa
set_option linter.unusedVariables false
theorem litTrue_pos {a : List Bool} {m : Nat} {b : Bool} (h : a[m]? = some b) : litTrue a ((m : Int) + 1) = b := by
  unfold litTrue
  rw [if_pos (by omega), show ((m : Int) + 1 - 1).toNat = m by omega, h]
  cases b <;> rfl
theorem litTrue_neg {a : List Bool} {m : Nat} {b : Bool} (h : a[m]? = some b) : litTrue a (-((m : Int) + 1)) = !b := by
  unfold litTrue
  rw [if_neg (by omega), if_pos (by omega), show (- -((m : Int) + 1) - 1).toNat = m by omega, h]
  cases b <;> rfl
theorem any_at {α : Type} {p : α → Bool} {xs : List α} {k : Nat} {x : α} (hx : xs[k]? = some x) : (xs.drop k).any p = (p x || (xs.drop (k + 1)).any p) := by
  obtain ⟨hk, rfl⟩ := List.getElem?_eq_some_iff.1 hx
  rw [List.drop_eq_getElem_cons hk, List.any_cons]
theorem all_at {α : Type} {p : α → Bool} {xs : List α} {k : Nat} {x : α} (hx : xs[k]? = some x) : (xs.drop k).all p = (p x && (xs.drop (k + 1)).all p) := by
  obtain ⟨hk, rfl⟩ := List.getElem?_eq_some_iff.1 hx
  rw [List.drop_eq_getElem_cons hk, List.all_cons]
/-! ### What propagation proves -/
/-- An assignment has the values that are given. -/
def agrees (p : List Int) (a : List Bool) : Prop := ∀ m b, a[m]? = some b → p.getD m 0 = 0 ∨ p.getD m 0 = (if b = true then 1 else -1)
theorem agrees_zero (n : Nat) (a : List Bool) : agrees (List.replicate n 0) a := fun m b h => .inl (by
  rw [List.getD_eq_getElem?_getD, List.getElem?_replicate]
  split <;> rfl)
theorem val_true {p : List Int} {a : List Bool} {l : Int} (hp : agrees p a) (hl : litIn a.length l) : (valOf p l = 1 → litTrue a l = true) ∧ (valOf p l = -1 → litTrue a l = false) ∧ (valOf p l = 0 ∨ valOf p l = 1 ∨ valOf p l = -1) := by
  rcases lit_cases hl with ⟨m, hm, rfl⟩ | ⟨m, hm, rfl⟩
  · have hb : a[m]? = some a[m] := List.getElem?_eq_getElem hm
    rw [litTrue_pos hb, val_pos]
    rcases hp m _ hb with h | h <;> rw [h]
    · simp
    · cases a[m] <;> simp
  · have hb : a[m]? = some a[m] := List.getElem?_eq_getElem hm
    rw [litTrue_neg hb, val_neg]
    rcases hp m _ hb with h | h <;> rw [h]
    · simp
    · cases a[m] <;> simp
theorem agrees_set {p : List Int} {a : List Bool} {l : Int} (hp : agrees p a) (hl : litIn a.length l) (ht : litTrue a l = true) : agrees (setLit p l) a := by
  intro m' b' hb'
  have key : ∀ (m : Nat) (v : Int), (m = m' → v = if b' = true then 1 else -1) → (p.set m v).getD m' 0 = 0 ∨ (p.set m v).getD m' 0 = (if b' = true then 1 else -1) := by
    intro m v h
    rw [List.getD_eq_getElem?_getD, List.getElem?_set]
    by_cases e : m = m'
    · rw [if_pos e]
      split
      · exact .inr (h e)
      · exact .inl rfl
    · rw [if_neg e, ← List.getD_eq_getElem?_getD]
      exact hp m' b' hb'
  rcases lit_cases hl with ⟨m, hm, rfl⟩ | ⟨m, hm, rfl⟩
  · have hb : a[m]? = some a[m] := List.getElem?_eq_getElem hm
    rw [litTrue_pos hb] at ht
    rw [setLit_pos]
    refine key m 1 fun e => ?_
    subst e
    rw [hb] at hb'
    cases hb'
    rw [ht]; rfl
  · have hb : a[m]? = some a[m] := List.getElem?_eq_getElem hm
    rw [litTrue_neg hb] at ht
    rw [setLit_neg]
    refine key m (-1) fun e => ?_
    subst e
    rw [hb] at hb'
    cases hb'
    cases h : a[m] with
    | true => rw [h] at ht; cases ht
    | false => rfl
theorem unitGo_sound {p : List Int} {a : List Bool} (hp : agrees p a) : ∀ (cl : List Int) (u : Int), (∀ l ∈ cl, litIn a.length l) → (cl.any (litTrue a) = true ∨ (u ≠ 0 ∧ litTrue a u = true)) → (unitGo p cl u).2 = false ∧ ((unitGo p cl u).1 ≠ 0 → litTrue a (unitGo p cl u).1 = true)
  | [], u, _, h => by
    rcases h with h | ⟨h1, h2⟩
    · simp at h
    · exact ⟨by simpa [unitGo] using h1, fun _ => h2⟩
  | l :: ls, u, hl, h => by
    obtain ⟨v1, v2, v3⟩ := val_true hp (hl l (by simp))
    unfold unitGo
    by_cases e1 : valOf p l = 1
    · rw [if_pos e1]; exact ⟨rfl, fun h => absurd rfl h⟩
    rw [if_neg e1]
    by_cases e0 : valOf p l = 0
    · rw [if_pos e0]
      by_cases hu : u ≠ 0 ∧ u ≠ l
      · rw [if_pos hu]; exact ⟨rfl, fun h => absurd rfl h⟩
      · rw [if_neg hu]
        refine unitGo_sound hp ls l (fun x hx => hl x (by simp [hx])) ?_
        rcases h with h | ⟨h1, h2⟩
        · rw [List.any_cons, Bool.or_eq_true] at h
          rcases h with h | h
          · exact .inr ⟨(hl l (by simp)).1, h⟩
          · exact .inl h
        · have : u = l := by
            by_cases e : u = l
            · exact e
            · exact absurd ⟨h1, e⟩ hu
          rw [← this]
          exact .inr ⟨h1, h2⟩
    · rw [if_neg e0]
      refine unitGo_sound hp ls u (fun x hx => hl x (by simp [hx])) ?_
      rcases h with h | h
      · rw [List.any_cons, v2 (by omega), Bool.false_or] at h
        exact .inl h
      · exact .inr h
theorem passL_sound {a : List Bool} : ∀ (cls : List (List Int)) (p : List Int) (ch : Bool), agrees p a → clausesIn a.length cls → cls.all (clauseTrueL a) = true → ∃ p' ch', passL cls p ch = some (p', ch') ∧ agrees p' a
  | [], p, ch, hp, _, _ => ⟨p, ch, rfl, hp⟩
  | c :: cs, p, ch, hp, hc, ht => by
    rw [List.all_cons, Bool.and_eq_true] at ht
    have hin := hc c (by simp)
    obtain ⟨h1, h2⟩ := unitGo_sound hp c 0 hin (.inl ht.1)
    have hu : unitOf p c = unitGo p c 0 := rfl
    unfold passL
    rw [if_neg (by rw [hu, h1]; simp)]
    by_cases h0 : (unitOf p c).1 = 0
    · rw [if_pos h0]
      exact passL_sound cs p ch hp (fun d hd => hc d (by simp [hd])) ht.2
    · rw [if_neg h0]
      exact passL_sound cs _ true (agrees_set hp (hin _ (unitOf_mem h0).1) (h2 h0)) (fun d hd => hc d (by simp [hd])) ht.2
theorem propL_sound {cls : List (List Int)} {a : List Bool} (hc : clausesIn a.length cls) (ht : cls.all (clauseTrueL a) = true) {p : List Int} (hp : agrees p a) : ∃ p', propL cls p = some p' ∧ agrees p' a := by
  generalize hn : zerosL p = n
  induction n using Nat.strongRecOn generalizing p with
  | _ n ih =>
    subst hn
    obtain ⟨p', ch', h1, h2⟩ := passL_sound cls p false hp hc ht
    rw [propL, h1]
    simp only
    by_cases h : ch' = true ∧ zerosL p' < zerosL p
    · rw [if_pos h]
      exact ih _ h.2 h2 rfl
    · rw [if_neg h]
      exact ⟨p', rfl, h2⟩
theorem negGo_sound {a : List Bool} : ∀ (cl : List Int) (p : List Int), agrees p a → (∀ l ∈ cl, litIn a.length l) → clauseTrueL a cl = false → ∃ p', negGo cl p = some p' ∧ agrees p' a
  | [], p, hp, _, _ => ⟨p, rfl, hp⟩
  | l :: ls, p, hp, hl, ht => by
    unfold clauseTrueL at ht
    rw [List.any_cons, Bool.or_eq_false_iff] at ht
    have hli := hl l (by simp)
    unfold negGo
    rw [if_neg (fun h => by rw [(val_true hp hli).1 h] at ht; cases ht.1)]
    have hng : litTrue a (-l) = true := by
      rcases lit_cases hli with ⟨m, hm, rfl⟩ | ⟨m, hm, rfl⟩
      · have hb : a[m]? = some a[m] := List.getElem?_eq_getElem hm
        have := ht.1
        rw [litTrue_pos hb] at this
        rw [litTrue_neg hb, this]; rfl
      · have hb : a[m]? = some a[m] := List.getElem?_eq_getElem hm
        have := ht.1
        rw [litTrue_neg hb] at this
        rw [Int.neg_neg, litTrue_pos hb]
        simpa using this
    have hli2 : litIn a.length (-l) := by
      obtain ⟨h1, h2, h3⟩ := hli
      exact ⟨by omega, by omega, by omega⟩
    exact negGo_sound ls _ (agrees_set hp hli2 hng) (fun x hx => hl x (by simp [hx])) ht.2
/-- What follows by propagation is true under every assignment that satisfies. -/
theorem follows_sound {cls : List (List Int)} {a : List Bool} {cl : List Int} (hc : clausesIn a.length cls) (hl : ∀ l ∈ cl, litIn a.length l) (ht : cls.all (clauseTrueL a) = true) (hf : followsL a.length cls cl = true) : clauseTrueL a cl = true := by
  cases h : clauseTrueL a cl with
  | true => rfl
  | false =>
    obtain ⟨p, h1, h2⟩ := negGo_sound cl _ (agrees_zero a.length a) hl h
    obtain ⟨p', h3, _⟩ := propL_sound hc ht h2
    unfold followsL at hf
    rw [h1] at hf
    simp only [h3] at hf
    cases hf
end Go.Proofs.Ytbmapbbjbdpbcaa
