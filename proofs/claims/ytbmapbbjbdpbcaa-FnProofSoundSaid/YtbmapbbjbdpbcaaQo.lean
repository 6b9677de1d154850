/-
  What the search finds: a least assignment, or a refutation that is accepted. Plain lemmas, about no function of the program.
  Conditions: those typed in each theorem.
-/
import Derived.Test.YtbmapbbjbdpbcaaQn
import Derived.Test.YtbmapbbjbdpbcaaQh
namespace Go.Proofs.Ytbmapbbjbdpbcaa
set_option linter.unusedVariables false
theorem zeroAt_full : ∀ {q : List Int}, zeroAt q = q.length → ∀ m, m < q.length → q.getD m 0 ≠ 0
  | [], _, m, h => by simp at h
  | x :: xs, hz, m, h => by
    unfold zeroAt at hz
    split at hz
    · simp at hz
    · rename_i hx
      cases m with
      | zero => simpa using hx
      | succ m =>
        have := zeroAt_full (q := xs) (by simpa using hz) m (by simpa using h)
        simpa using this
theorem zeroAt_before : ∀ {q : List Int} {m : Nat}, m < zeroAt q → q.getD m 0 ≠ 0
  | [], m, h => by simp [zeroAt] at h
  | x :: xs, m, h => by
    unfold zeroAt at h
    split at h
    · omega
    · rename_i hx
      cases m with
      | zero => simpa using hx
      | succ m =>
        have := zeroAt_before (q := xs) (m := m) (by omega)
        simpa using this
theorem under_set {q : List Int} {z : Nat} {x : Int} (hz : q.getD z 0 = 0) : under q (q.set z x) := by
  refine ⟨by simp, fun m hne => ?_⟩
  have : z ≠ m := fun e => hne (by rw [← e]; exact hz)
  rw [List.getD_eq_getElem?_getD, List.getElem?_set_ne this, ← List.getD_eq_getElem?_getD]
theorem zero_of {q : List Int} (h : ¬ zeroAt q = q.length) : zeroAt q < q.length ∧ q.getD (zeroAt q) 0 = 0 := by
  have h1 := zeroAt_le q
  have h2 : zeroAt q < q.length := by omega
  refine ⟨h2, ?_⟩
  rw [List.getD_eq_getElem?_getD, zeroAt_zero h2]; rfl
/-- A model: complete, no clause false, above where the search began. -/
theorem srch_model {cls : List RowD} {v : Nat} (hc : clausesIn v cls) : ∀ (k left : Nat) (p dec : List Int) (pf : List RowD), p.length = v → trits p → (srch cls k left p dec pf).code = 1 →
    under p (srch cls k left p dec pf).model ∧ fixp cls (srch cls k left p dec pf).model ∧ zeroAt (srch cls k left p dec pf).model = (srch cls k left p dec pf).model.length
  | 0, left, p, dec, pf, hp, ht, h => by simp [srch] at h
  | k + 1, left, p, dec, pf, hp, ht, h => by
    have ih := srch_model hc k
    unfold srch at h ⊢
    by_cases h0 : left = 0
    · rw [if_pos h0] at h; cases h
    rw [if_neg h0] at h ⊢
    cases hq : propL cls p with
    | none => rw [hq] at h; cases h
    | some q =>
      rw [hq] at h
      simp only at h ⊢
      obtain ⟨f1, f2, f3⟩ := propL_facts (by rw [hp]; exact hc) ht hq
      obtain ⟨g1, g2⟩ := propL_fix (by rw [hp]; exact hc) ht hq
      generalize hR : srchB (srch cls k) (left - 1) dec pf q = R at *
      by_cases hz : zeroAt q = q.length
      · have := srchB_full hR hz
        subst this
        exact ⟨g2, g1, hz⟩
      obtain ⟨z1, z2⟩ := zero_of hz
      obtain ⟨a, b⟩ := srchB_two hR hz
      by_cases h1 : (srch cls k (left - 1) (q.set (zeroAt q) (-1)) (dec ++ [-((zeroAt q : Int) + 1)]) pf).code = 2
      · have b2 := b h1 _ rfl
        by_cases h2 : (srch cls k (srch cls k (left - 1) (q.set (zeroAt q) (-1)) (dec ++ [-((zeroAt q : Int) + 1)]) pf).left (q.set (zeroAt q) 1) (dec ++ [(zeroAt q : Int) + 1]) (srch cls k (left - 1) (q.set (zeroAt q) (-1)) (dec ++ [-((zeroAt q : Int) + 1)]) pf).pf).code = 2
        · have := b2.2 h2
          rw [this] at h; cases h
        · have e := b2.1 h2
          rw [e] at h ⊢
          obtain ⟨m1, m2, m3⟩ := ih _ _ _ _ (by simp; omega) (trits_set f2 _ (by omega)) h
          exact ⟨under_trans g2 (under_trans (under_set z2) m1), m2, m3⟩
      · have e := a h1
        rw [e] at h ⊢
        obtain ⟨m1, m2, m3⟩ := ih _ _ _ _ (by simp; omega) (trits_set f2 _ (by omega)) h
        exact ⟨under_trans g2 (under_trans (under_set z2) m1), m2, m3⟩
/-- A model satisfies. -/
theorem model_true {cls : List RowD} {q : List Int} (hc : clausesIn q.length cls) (ht : trits q) (hf : fixp cls q) (hz : zeroAt q = q.length) : cls.all (clauseTrueL (ones q)) = true := by
  rw [List.all_eq_true]
  intro c hcm
  apply Classical.byContradiction
  intro hn
  have hn2 : ∀ l ∈ c, litTrue (ones q) l = false := by
    intro l hl
    cases h : litTrue (ones q) l with
    | false => rfl
    | true => exact absurd (List.any_eq_true.2 ⟨l, hl, h⟩) (by simpa [clauseTrueL] using hn)
  refine unitGo_not (q := q) (u := 1) (by omega) c 0 (.inl rfl) (fun l hl => .inl ?_) (hf c hcm)
  have hli := hc c hcm l hl
  have hfal := hn2 l hl
  have hat : ∀ m, m < q.length → (ones q)[m]? = some (q.getD m 0 == 1) := fun m hm => by
    unfold ones
    rw [List.getElem?_map, List.getElem?_eq_getElem hm, List.getD_eq_getElem?_getD, List.getElem?_eq_getElem hm]; rfl
  rcases lit_cases hli with ⟨m, hm, rfl⟩ | ⟨m, hm, rfl⟩
  · rw [litTrue_pos (hat m hm)] at hfal
    rw [val_pos]
    have h1 := trit_at ht m
    have h2 := zeroAt_full hz m hm
    have h3 : q.getD m 0 ≠ 1 := by simpa using hfal
    omega
  · rw [litTrue_neg (hat m hm)] at hfal
    rw [val_neg]
    have h3 : q.getD m 0 = 1 := by simpa using hfal
    omega
/-- a comes first: where it parts from b, b is true. -/
def least (a b : List Bool) : Prop := ∀ i : Nat, (∀ j : Nat, j < i → a[j]? = b[j]?) → a[i]? ≠ b[i]? → b[i]? = some true
theorem ones_at {q : List Int} {m : Nat} (hm : m < q.length) : (ones q)[m]? = some (q.getD m 0 == 1) := by
  unfold ones
  rw [List.getElem?_map, List.getElem?_eq_getElem hm, List.getD_eq_getElem?_getD, List.getElem?_eq_getElem hm]; rfl
theorem agrees_ones {q : List Int} {b : List Bool} {m : Nat} (hl : b.length = q.length) (hg : agrees q b) (hm : m < q.length) (hn : q.getD m 0 ≠ 0) : (ones q)[m]? = b[m]? := by
  have hb : b[m]? = some b[m] := List.getElem?_eq_getElem (by omega)
  rw [ones_at hm, hb]
  rcases hg m _ hb with h | h
  · exact absurd h hn
  · rw [h]; cases b[m] <;> rfl
theorem agrees_put {q : List Int} {b : List Bool} {z : Nat} {x : Int} (hg : agrees q b) (hx : ∀ t, b[z]? = some t → x = if t = true then 1 else -1) : agrees (q.set z x) b := by
  intro m t ht
  rw [List.getD_eq_getElem?_getD, List.getElem?_set]
  by_cases e : z = m
  · subst e
    rw [if_pos rfl]
    split
    · exact .inr (hx t ht)
    · exact .inl rfl
  · rw [if_neg e, ← List.getD_eq_getElem?_getD]; exact hg m t ht
/-- Where an assignment satisfies, the search does not refute; and what it finds is no later. -/
theorem srch_least {cls : List RowD} {v : Nat} (hc : clausesIn v cls) {b : List Bool} (hb : b.length = v) (hs : cls.all (clauseTrueL b) = true) : ∀ (k left : Nat) (p dec : List Int) (pf : List RowD), p.length = v → trits p → agrees p b →
    (srch cls k left p dec pf).code ≠ 2 ∧ ((srch cls k left p dec pf).code = 1 → least (ones (srch cls k left p dec pf).model) b)
  | 0, left, p, dec, pf, hp, ht, hg => by simp [srch]
  | k + 1, left, p, dec, pf, hp, ht, hg => by
    have ih := srch_least hc hb hs k
    have hmo := srch_model hc k
    have hfa := srch_facts hc k
    unfold srch
    by_cases h0 : left = 0
    · rw [if_pos h0]; simp
    rw [if_neg h0]
    obtain ⟨q, hq, hgq⟩ := propL_sound (a := b) (by rw [hb]; exact hc) hs hg
    rw [hq]
    simp only
    obtain ⟨f1, f2, f3⟩ := propL_facts (by rw [hp]; exact hc) ht hq
    generalize hR : srchB (srch cls k) (left - 1) dec pf q = R at *
    by_cases hz : zeroAt q = q.length
    · have := srchB_full hR hz
      subst this
      refine ⟨by simp, fun _ i hi hne => ?_⟩
      exfalso
      apply hne
      simp only
      by_cases hil : i < q.length
      · exact agrees_ones (by omega) hgq hil (zeroAt_full hz i hil)
      · rw [List.getElem?_eq_none (by rw [ones_len]; omega), List.getElem?_eq_none (by omega)]
    obtain ⟨z1, z2⟩ := zero_of hz
    obtain ⟨a1, a2⟩ := srchB_two hR hz
    have hbz : b[zeroAt q]? = some (b[zeroAt q]'(by omega)) := List.getElem?_eq_getElem _
    have m1 := hmo (left - 1) (q.set (zeroAt q) (-1)) (dec ++ [-((zeroAt q : Int) + 1)]) pf (by simp; omega) (trits_set f2 _ (by omega))
    have i1 := ih (left - 1) (q.set (zeroAt q) (-1)) (dec ++ [-((zeroAt q : Int) + 1)]) pf (by simp; omega) (trits_set f2 _ (by omega))
    have fa1 := (hfa (left - 1) (q.set (zeroAt q) (-1)) (dec ++ [-((zeroAt q : Int) + 1)]) pf (by simp; omega) (trits_set f2 _ (by omega))).2.2.2
    cases hbv : b[zeroAt q]'(by omega) with
    | false =>
      rw [hbv] at hbz
      obtain ⟨j1, j2⟩ := i1 (agrees_put hgq fun t ht => by rw [hbz] at ht; cases ht; rfl)
      rw [a1 j1]
      exact ⟨j1, j2⟩
    | true =>
      rw [hbv] at hbz
      by_cases hc2 : (srch cls k (left - 1) (q.set (zeroAt q) (-1)) (dec ++ [-((zeroAt q : Int) + 1)]) pf).code = 2
      · obtain ⟨b1, b2⟩ := a2 hc2 _ rfl
        obtain ⟨j1, j2⟩ := ih (srch cls k (left - 1) (q.set (zeroAt q) (-1)) (dec ++ [-((zeroAt q : Int) + 1)]) pf).left (q.set (zeroAt q) 1) (dec ++ [(zeroAt q : Int) + 1]) (srch cls k (left - 1) (q.set (zeroAt q) (-1)) (dec ++ [-((zeroAt q : Int) + 1)]) pf).pf (by simp; omega) (trits_set f2 _ (by omega)) (agrees_put hgq fun t ht => by rw [hbz] at ht; cases ht; rfl)
        rw [b1 j1]
        exact ⟨j1, j2⟩
      · rw [a1 hc2]
        refine ⟨hc2, fun hc1 i hi hne => ?_⟩
        obtain ⟨n1, n2, n3⟩ := m1 hc1
        have hml := (fa1 hc1).1
        generalize (srch cls k (left - 1) (q.set (zeroAt q) (-1)) (dec ++ [-((zeroAt q : Int) + 1)]) pf).model = mo at *
        have hval : ∀ m, q.getD m 0 ≠ 0 → mo.getD m 0 = q.getD m 0 := fun m hm => by
          have hm2 := (under_set (x := -1) z2).2 m hm
          rw [n1.2 m (by rw [hm2]; exact hm), hm2]
        have hat : mo.getD (zeroAt q) 0 = -1 := by
          have : (q.set (zeroAt q) (-1)).getD (zeroAt q) 0 = -1 := by rw [List.getD_eq_getElem?_getD, List.getElem?_set]; simp [z1]
          rw [n1.2 _ (by rw [this]; omega), this]
        rcases Nat.lt_trichotomy i (zeroAt q) with h | h | h
        · exfalso
          apply hne
          rw [ones_at (by omega), hval i (zeroAt_before h), ← ones_at (by omega)]
          exact agrees_ones (by omega) hgq (by omega) (zeroAt_before h)
        · subst h; exact hbz
        · exfalso
          have := hi _ h
          rw [ones_at (by omega), hat, hbz] at this
          simp at this
end Go.Proofs.Ytbmapbbjbdpbcaa
