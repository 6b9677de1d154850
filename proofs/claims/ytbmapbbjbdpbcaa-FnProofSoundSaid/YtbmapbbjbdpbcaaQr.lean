/-
  A refutation by the search is accepted. Plain lemmas, about no function of the program.
  Conditions: those typed in each theorem.
-/
import Derived.Test.YtbmapbbjbdpbcaaQp
namespace Go.Proofs.Ytbmapbbjbdpbcaa
set_option linter.unusedVariables false
def pinned (cls : List RowD) (p dec : List Int) : Prop := ∀ q : List Int, q.length = p.length → trits q → fixp cls q → (∀ l ∈ dec, valOf q l = 1) → under p q
theorem chkGo_append {v : Int} : ∀ (xs ys all : List RowD), chkGo v all (xs ++ ys) = (chkGo v all xs && chkGo v (all ++ xs) ys)
  | [], ys, all => by simp [chkGo]
  | x :: xs, ys, all => by
    rw [List.cons_append, chkGo, chkGo, chkGo_append xs ys, List.append_assoc, List.singleton_append]; simp only [Bool.and_assoc]
theorem chk_lits {v : Nat} : ∀ {pf all : List RowD}, chkGo v all pf = true → ∀ c ∈ pf, ∀ l ∈ c, litIn v l
  | [], _, _ => by simp
  | c :: cs, all, h => by
    unfold chkGo at h
    simp only [Bool.and_eq_true] at h
    intro d hd
    rcases List.mem_cons.1 hd with rfl | hd
    · exact clauseOk_lits h.1.1
    · exact chk_lits h.2 d hd
theorem negs_mem {dec : List Int} {l : Int} : l ∈ negs dec ↔ -l ∈ dec := by
  unfold negs
  rw [List.mem_map]
  constructor
  · rintro ⟨a, ha, rfl⟩; rwa [Int.neg_neg]
  · intro h; exact ⟨-l, h, Int.neg_neg l⟩
theorem litIn_neg {v : Nat} {l : Int} (h : litIn v l) : litIn v (-l) := ⟨by have := h.1; omega, by have := h.2; omega, by have := h.2; omega⟩
theorem negs_ok {v : Nat} {dec : List Int} (hd : ∀ l ∈ dec, litIn v l) (hl : dec.length ≤ 400) : clauseOkL v (negs dec) = true := by
  unfold clauseOkL
  rw [decide_eq_true (by simpa [negs] using hl), Bool.true_and, List.all_eq_true]
  intro l hm
  have := litIn_neg (hd _ (negs_mem.1 hm))
  rw [Int.neg_neg] at this
  exact litOk_iff.2 this
theorem val_litneg {q : List Int} {v : Nat} {l : Int} (hl : litIn v l) : valOf q (-l) = -valOf q l := by
  rcases lit_cases hl with ⟨m, _, rfl⟩ | ⟨m, _, rfl⟩
  · rw [val_neg, val_pos]
  · rw [Int.neg_neg, val_pos, val_neg]; omega
theorem follows_of {v : Nat} {all : List RowD} {dec : List Int} (hc : clausesIn v all) (hd : ∀ l ∈ dec, litIn v l)
    (h : ∀ q : List Int, q.length = v → trits q → fixp all q → (∀ l ∈ dec, valOf q l = 1) → False) : followsL v all (negs dec) = true := by
  have hz := trits_rep v
  unfold followsL
  cases hn : negGo (negs dec) (List.replicate v 0) with
  | none => rfl
  | some d =>
    simp only
    have hin : ∀ l ∈ negs dec, litIn (List.replicate v (0 : Int)).length l := fun l hm => by
      have := litIn_neg (hd _ (negs_mem.1 hm))
      rw [Int.neg_neg] at this
      simpa using this
    obtain ⟨n1, n2⟩ := negGo_facts hn hz
    obtain ⟨s1, s2⟩ := negGo_says hin hn hz
    rw [List.length_replicate] at n1
    cases hp : propL all d with
    | none => rfl
    | some q =>
      exfalso
      obtain ⟨f1, f2⟩ := propL_fix (by rw [n1]; exact hc) n2 hp
      obtain ⟨g1, g2, _⟩ := propL_facts (by rw [n1]; exact hc) n2 hp
      refine h q (by omega) g2 f1 fun l hm => ?_
      have := s2 (-l) (negs_mem.2 (by rwa [Int.neg_neg]))
      rw [Int.neg_neg] at this
      rw [val_of_under f2 (by rw [n1]; exact hd l hm) (by omega), this]
theorem fixp_sub {cls all : List RowD} {q : List Int} (h : fixp all q) (hs : ∀ c ∈ cls, c ∈ all) : fixp cls q := fun c hc => h c (hs c hc)
/-- A clause whose other literals are false has its last one true under a fixpoint. -/
theorem last_true {v : Nat} {all : List RowD} {q dec : List Int} {u : Int} (hf : fixp all q) (hd : ∀ l ∈ dec, litIn v l) (hu : u ≠ 0) (h1 : ∀ l ∈ dec, valOf q l = 1) (hm : negs (dec ++ [-u]) ∈ all) : valOf q u = 1 := by
  apply Classical.byContradiction
  intro hv
  refine unitGo_not hu (negs (dec ++ [-u])) 0 (.inl rfl) (fun l hl => ?_) (hf _ hm)
  have hl2 := negs_mem.1 hl
  rcases List.mem_append.1 hl2 with h | h
  · left
    have := h1 _ h
    have h2 := val_litneg (q := q) (hd _ h)
    rw [Int.neg_neg] at h2
    omega
  · have : l = u := by have := List.mem_singleton.1 h; omega
    exact .inr ⟨this, by rw [this]; exact hv⟩
theorem srch_refutes {cls : List RowD} {v : Nat} (hv : v ≤ 400) (hc : clausesIn v cls) : ∀ (k left : Nat) (p dec : List Int) (pf : List RowD), p.length = v → trits p → pinned cls p dec → (∀ l ∈ dec, litIn v l) → dec.length + zerosL p ≤ v → clausesIn v (cls ++ pf) →
    (srch cls k left p dec pf).code = 2 → ∃ new, (srch cls k left p dec pf).pf = pf ++ new ++ [negs dec] ∧ (∀ c ∈ new, c ≠ []) ∧ chkGo v (cls ++ pf) (new ++ [negs dec]) = true
  | 0, left, p, dec, pf, hp, ht, hpin, hdl, hdz, hcp, h => by simp [srch] at h
  | k + 1, left, p, dec, pf, hp, ht, hpin, hdl, hdz, hcp, h => by
    have ih := srch_refutes hv hc k
    have hone : ∀ all : List RowD, clausesIn v all → (∀ q : List Int, q.length = v → trits q → fixp all q → (∀ l ∈ dec, valOf q l = 1) → False) → chkGo v all [negs dec] = true := fun all ha hq => by
      unfold chkGo
      rw [negs_ok hdl (by omega), Int.toNat_natCast, follows_of ha hdl hq]; rfl
    unfold srch at h ⊢
    by_cases h0 : left = 0
    · rw [if_pos h0] at h; cases h
    rw [if_neg h0] at h ⊢
    cases hq : propL cls p with
    | none =>
      refine ⟨[], by simp, by simp, ?_⟩
      refine hone _ hcp fun q q1 q2 q3 q4 => ?_
      have hfc := fixp_sub (cls := cls) q3 fun c hm => List.mem_append_left _ hm
      obtain ⟨p', e, _⟩ := propL_under hfc (by rw [hp]; exact hc) ht (hpin q (by omega) q2 hfc q4)
      rw [hq] at e; cases e
    | some q0 =>
      rw [hq] at h
      simp only at h ⊢
      obtain ⟨f1, f2, f3⟩ := propL_facts (by rw [hp]; exact hc) ht hq
      have pin0 : ∀ q : List Int, q.length = v → trits q → fixp cls q → (∀ l ∈ dec, valOf q l = 1) → under q0 q := fun q q1 q2 q3 q4 => by
        obtain ⟨p', e, hu⟩ := propL_under q3 (by rw [hp]; exact hc) ht (hpin q (by omega) q2 q3 q4)
        rw [hq] at e; cases e; exact hu
      generalize hR : srchB (srch cls k) (left - 1) dec pf q0 = R at *
      by_cases hz : zeroAt q0 = q0.length
      · have := srchB_full hR hz
        subst this
        cases h
      obtain ⟨z1, z2⟩ := zero_of hz
      have s1 := zeros_set (x := -1) z1 z2 (by omega)
      have s2 := zeros_set (x := 1) z1 z2 (by omega)
      obtain ⟨a, b⟩ := srchB_two hR hz
      by_cases h1 : (srch cls k (left - 1) (q0.set (zeroAt q0) (-1)) (dec ++ [-((zeroAt q0 : Int) + 1)]) pf).code = 2
      case neg => rw [a h1] at h; exact absurd h h1
      have b2 := b h1 _ rfl
      by_cases h2 : (srch cls k (srch cls k (left - 1) (q0.set (zeroAt q0) (-1)) (dec ++ [-((zeroAt q0 : Int) + 1)]) pf).left (q0.set (zeroAt q0) 1) (dec ++ [(zeroAt q0 : Int) + 1]) (srch cls k (left - 1) (q0.set (zeroAt q0) (-1)) (dec ++ [-((zeroAt q0 : Int) + 1)]) pf).pf).code = 2
      case neg => rw [b2.1 h2] at h; exact absurd h h2
      have hin : ∀ u : Int, litIn v u → ∀ l ∈ dec ++ [u], litIn v l := fun u hu l hl => by
        rcases List.mem_append.1 hl with h | h
        · exact hdl l h
        · rw [List.mem_singleton.1 h]; exact hu
      have l1 : litIn v (-((zeroAt q0 : Int) + 1)) := ⟨by omega, by omega, by omega⟩
      have l2 : litIn v ((zeroAt q0 : Int) + 1) := ⟨by omega, by omega, by omega⟩
      have pinS : ∀ u : Int, litIn v u → pinned cls (setLit q0 u) (dec ++ [u]) := fun u hu q q1 q2 q3 q4 => by
        rw [setLit_len] at q1
        exact setLit_under (pin0 q (by omega) q2 q3 fun l hl => q4 l (by simp [hl])) (by rw [f1, hp]; exact hu) (q4 u (by simp))
      have pA := pinS _ l1
      have pB := pinS _ l2
      rw [setLit_neg] at pA
      rw [setLit_pos] at pB
      obtain ⟨n1, e1, m1, c1⟩ := ih (left - 1) (q0.set (zeroAt q0) (-1)) (dec ++ [-((zeroAt q0 : Int) + 1)]) pf (by simp; omega) (trits_set f2 _ (by omega)) pA (hin _ l1) (by simp; omega) hcp h1
      have hcp2 : clausesIn v (cls ++ (srch cls k (left - 1) (q0.set (zeroAt q0) (-1)) (dec ++ [-((zeroAt q0 : Int) + 1)]) pf).pf) := by
        rw [e1]
        intro c hm
        rw [List.append_assoc, ← List.append_assoc cls] at hm
        rcases List.mem_append.1 hm with h | h
        · exact hcp c h
        · exact chk_lits c1 c h
      obtain ⟨n2, e2, m2, c2⟩ := ih _ (q0.set (zeroAt q0) 1) (dec ++ [(zeroAt q0 : Int) + 1]) _ (by simp; omega) (trits_set f2 _ (by omega)) pB (hin _ l2) (by simp; omega) hcp2 h2
      rw [b2.2 h2]
      simp only
      rw [e2]
      generalize (srch cls k (left - 1) (q0.set (zeroAt q0) (-1)) (dec ++ [-((zeroAt q0 : Int) + 1)]) pf).pf = pf1 at *
      subst e1
      refine ⟨n1 ++ [negs (dec ++ [-((zeroAt q0 : Int) + 1)])] ++ (n2 ++ [negs (dec ++ [(zeroAt q0 : Int) + 1])]), by simp, fun c hm => ?_, ?_⟩
      · have hne : ∀ u : Int, negs (dec ++ [u]) ≠ [] := fun u => by simp [negs]
        rcases List.mem_append.1 hm with h | h <;> rcases List.mem_append.1 h with h | h
        · exact m1 c h
        · rw [List.mem_singleton.1 h]; exact hne _
        · exact m2 c h
        · rw [List.mem_singleton.1 h]; exact hne _
      · have eA : cls ++ (pf ++ n1 ++ [negs (dec ++ [-((zeroAt q0 : Int) + 1)])]) = cls ++ pf ++ (n1 ++ [negs (dec ++ [-((zeroAt q0 : Int) + 1)])]) := by simp
        rw [eA] at c2 hcp2
        rw [List.append_assoc, chkGo_append, c1, Bool.true_and, chkGo_append, c2, Bool.true_and]
        refine hone _ (fun c hm => ?_) fun q q1 q2 q3 q4 => ?_
        · rcases List.mem_append.1 hm with h | h
          · exact hcp2 c h
          · exact chk_lits c2 c h
        · have t1 := last_true (u := (zeroAt q0 : Int) + 1) q3 hdl (by omega) q4 (by simp)
          have t2 := last_true (u := -((zeroAt q0 : Int) + 1)) q3 hdl (by omega) q4 (by rw [Int.neg_neg]; simp)
          have := val_litneg (q := q) l2
          omega
end Go.Proofs.Ytbmapbbjbdpbcaa
