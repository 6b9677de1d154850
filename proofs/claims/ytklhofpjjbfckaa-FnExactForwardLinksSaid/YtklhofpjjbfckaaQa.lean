/-
  Clauses and unit propagation as data. Plain lemmas, about no function of the program.
  Conditions: those typed in each theorem.
-/
import Derived.Test.YtklhofpjjbfckaaNt
namespace Go.Proofs.Ytklhofpjjbfckaa
set_option linter.unusedVariables false
def litOk (v l : Int) : Bool := !(l == 0) && rng l (-v) v
def clauseOkL (v : Int) (cl : List Int) : Bool := decide (cl.length ≤ 400) && cl.all (litOk v)
def cnfOkL (v : Int) (cls : List (List Int)) : Bool := rng v 0 400 && decide (cls.length ≤ 1600) && cls.all (clauseOkL v)
def litTrue (asg : List Bool) (x : Int) : Bool := if 0 < x then asg[(x - 1).toNat]? == some true else if x < 0 then asg[(-x - 1).toNat]? == some false else false
def clauseTrueL (asg : List Bool) (cl : List Int) : Bool := cl.any (litTrue asg)
def cnfTrueL (v : Int) (cls : List (List Int)) (asg : List Bool) : Bool := cnfOkL v cls && decide ((asg.length : Int) = v) && cls.all (clauseTrueL asg)
theorem clauseOk_of_cnf {v : Int} {cls : List (List Int)} (h : cnfOkL v cls = true) : 0 ≤ v ∧ v ≤ 400 := by
  unfold cnfOkL at h
  simp only [Bool.and_eq_true] at h
  exact rng_iff.1 h.1.1
def valOf (p : List Int) (l : Int) : Int := if l < 0 then -(p.getD (-l - 1).toNat 0) else p.getD (l - 1).toNat 0
def unitGo (p : List Int) : List Int → Int → Int × Bool
  | [], u => (u, u == 0)
  | l :: ls, u => if valOf p l = 1 then (0, false) else if valOf p l = 0 then (if u ≠ 0 ∧ u ≠ l then (0, false) else unitGo p ls l) else unitGo p ls u
def unitOf (p cl : List Int) : Int × Bool := unitGo p cl 0
/-- An element is given its value. -/
def setLit (p : List Int) (u : Int) : List Int := if 0 < u then p.set (u - 1).toNat 1 else if u < 0 then p.set (-u - 1).toNat (-1) else p
def passL : List (List Int) → List Int → Bool → Option (List Int × Bool)
  | [], p, ch => some (p, ch)
  | c :: cs, p, ch => if (unitOf p c).2 = true then none else if (unitOf p c).1 = 0 then passL cs p ch else passL cs (setLit p (unitOf p c).1) true
def zerosL (p : List Int) : Nat := p.count 0
def propL (cls : List (List Int)) (p : List Int) : Option (List Int) :=
  match passL cls p false with
  | none => none
  | some (p', ch) => if ch = true ∧ zerosL p' < zerosL p then propL cls p' else some p'
termination_by zerosL p
def trits (p : List Int) : Prop := ∀ x ∈ p, -1 ≤ x ∧ x ≤ 1
def litIn (n : Nat) (l : Int) : Prop := l ≠ 0 ∧ -(n : Int) ≤ l ∧ l ≤ n
def clausesIn (n : Nat) (cls : List (List Int)) : Prop := ∀ c ∈ cls, ∀ l ∈ c, litIn n l

theorem setLit_len (p : List Int) (u : Int) : (setLit p u).length = p.length := by unfold setLit; split <;> (try split) <;> simp
theorem getD_at {p : List Int} {i : Nat} (h : i < p.length) : p.getD i 0 = p[i] := by simp [List.getD, List.getElem?_eq_getElem h]
theorem trits_set {p : List Int} (h : trits p) (i : Nat) {x : Int} (hx : -1 ≤ x ∧ x ≤ 1) : trits (p.set i x) := by
  intro y hy
  rcases List.mem_or_eq_of_mem_set hy with h1 | h1
  · exact h y h1
  · rw [h1]; exact hx
theorem trits_setLit {p : List Int} (h : trits p) (u : Int) : trits (setLit p u) := by
  unfold setLit
  split
  · exact trits_set h _ (by omega)
  · split
    · exact trits_set h _ (by omega)
    · exact h
theorem unitGo_mem {p : List Int} : ∀ {cl : List Int} {u0 u : Int} {c : Bool}, unitGo p cl u0 = (u, c) → u = 0 ∨ u = u0 ∨ (u ∈ cl ∧ valOf p u = 0)
  | [], u0, u, c, h => by
    simp only [unitGo, Prod.mk.injEq] at h
    exact .inr (.inl h.1.symm)
  | l :: ls, u0, u, c, h => by
    unfold unitGo at h
    split at h
    · simp only [Prod.mk.injEq] at h; exact .inl h.1.symm
    · split at h
      · rename_i h0
        split at h
        · simp only [Prod.mk.injEq] at h; exact .inl h.1.symm
        · rcases unitGo_mem h with h1 | h1 | h1
          · exact .inl h1
          · subst h1; exact .inr (.inr ⟨by simp, h0⟩)
          · exact .inr (.inr ⟨by simp [h1.1], h1.2⟩)
      · rcases unitGo_mem h with h1 | h1 | h1
        · exact .inl h1
        · exact .inr (.inl h1)
        · exact .inr (.inr ⟨by simp [h1.1], h1.2⟩)
theorem unitOf_mem {p cl : List Int} (h : (unitOf p cl).1 ≠ 0) : (unitOf p cl).1 ∈ cl ∧ valOf p (unitOf p cl).1 = 0 := by
  rcases unitGo_mem (p := p) (cl := cl) (u0 := 0) (u := (unitOf p cl).1) (c := (unitOf p cl).2) rfl with h1 | h1 | h1
  · exact absurd h1 h
  · exact absurd h1 h
  · exact h1
theorem count_set_lt {p : List Int} {i : Nat} (h : i < p.length) (h0 : p[i] = 0) {x : Int} (hx : x ≠ 0) : (p.set i x).count 0 + 1 = p.count 0 := by
  have e : p = p.take i ++ p[i] :: p.drop (i + 1) := by rw [List.getElem_cons_drop, List.take_append_drop]
  have e2 : p.set i x = p.take i ++ x :: p.drop (i + 1) := by rw [List.set_eq_take_append_cons_drop, if_pos h]
  rw [e2]
  conv => rhs; rw [e]
  rw [List.count_append, List.count_append, List.count_cons, List.count_cons, h0]
  have : (x == (0 : Int)) = false := beq_eq_false_iff_ne.2 hx
  simp [this]
  omega
theorem zeros_setLit {p : List Int} {u : Int} (hu : litIn p.length u) (h0 : valOf p u = 0) : zerosL (setLit p u) + 1 = zerosL p := by
  obtain ⟨hne, hlo, hhi⟩ := hu
  unfold zerosL setLit
  unfold valOf at h0
  by_cases hp : 0 < u
  · rw [if_pos hp]
    rw [if_neg (by omega)] at h0
    have hi : (u - 1).toNat < p.length := by omega
    rw [getD_at hi] at h0
    exact count_set_lt hi h0 (by omega)
  · rw [if_neg hp, if_pos (by omega)]
    rw [if_pos (by omega)] at h0
    have hi : (-u - 1).toNat < p.length := by omega
    rw [getD_at hi] at h0
    exact count_set_lt hi (by omega) (by omega)
/-- What a pass leaves. -/
theorem passL_facts : ∀ {cls : List (List Int)} {p p' : List Int} {ch ch' : Bool}, clausesIn p.length cls → trits p → passL cls p ch = some (p', ch') →
    p'.length = p.length ∧ trits p' ∧ zerosL p' ≤ zerosL p ∧ (ch' = true → ch = false → zerosL p' < zerosL p) ∧ (ch = true → ch' = true)
  | [], p, p', ch, ch', _, ht, h => by
    simp only [passL, Option.some.injEq, Prod.mk.injEq] at h
    obtain ⟨rfl, rfl⟩ := h
    exact ⟨rfl, ht, Nat.le_refl _, (fun h1 h2 => by rw [h1] at h2; cases h2), id⟩
  | c :: cs, p, p', ch, ch', hc, ht, h => by
    unfold passL at h
    split at h
    · cases h
    · split at h
      · exact passL_facts (fun d hd => hc d (by simp [hd])) ht h
      · rename_i hu
        obtain ⟨hm, hv⟩ := unitOf_mem hu
        have hz := zeros_setLit (hc c (by simp) _ hm) hv
        obtain ⟨h1, h2, h3, h4, h5⟩ := passL_facts (by rw [setLit_len]; exact fun d hd => hc d (by simp [hd])) (trits_setLit ht _) h
        rw [setLit_len] at h1
        exact ⟨h1, h2, by omega, fun _ _ => by omega, fun _ => h5 rfl⟩
/-- Propagation, unrolled once. -/
theorem propL_step {cls : List (List Int)} {p : List Int} (hc : clausesIn p.length cls) (ht : trits p) :
    propL cls p = match passL cls p false with
      | none => none
      | some (p', true) => propL cls p'
      | some (p', false) => some p' := by
  rw [propL]
  cases h : passL cls p false with
  | none => rfl
  | some r =>
    obtain ⟨p', ch⟩ := r
    cases ch with
    | false => simp
    | true =>
      obtain ⟨_, _, _, h4, _⟩ := passL_facts hc ht h
      simp [h4 rfl rfl]
theorem propL_facts {cls : List (List Int)} {p p' : List Int} (hc : clausesIn p.length cls) (ht : trits p) (h : propL cls p = some p') : p'.length = p.length ∧ trits p' ∧ zerosL p' ≤ zerosL p := by
  generalize hn : zerosL p = n
  induction n using Nat.strongRecOn generalizing p with
  | _ n ih =>
    subst hn
    rw [propL_step hc ht] at h
    cases hp : passL cls p false with
    | none => rw [hp] at h; cases h
    | some r =>
      obtain ⟨q, ch⟩ := r
      rw [hp] at h
      obtain ⟨h1, h2, h3, h4, _⟩ := passL_facts hc ht hp
      cases ch with
      | false =>
        simp only [Option.some.injEq] at h
        subst h
        exact ⟨h1, h2, h3⟩
      | true =>
        obtain ⟨a, b, c⟩ := ih _ (h4 rfl rfl) (by rw [h1]; exact hc) h2 h rfl
        exact ⟨a.trans h1, b, by omega⟩

theorem litOk_iff {n : Nat} {l : Int} : litOk n l = true ↔ litIn n l := by
  unfold litOk litIn
  simp only [Bool.and_eq_true, Bool.not_eq_true', beq_eq_false_iff_ne, rng_iff]
theorem clauseOk_lits {n : Nat} {cl : List Int} (h : clauseOkL n cl = true) : ∀ l ∈ cl, litIn n l := by
  unfold clauseOkL at h
  rw [Bool.and_eq_true, List.all_eq_true] at h
  exact fun l hl => litOk_iff.1 (h.2 l hl)
theorem cnfOk_clauses {n : Nat} {cls : List (List Int)} (h : cnfOkL n cls = true) : clausesIn n cls := by
  unfold cnfOkL at h
  rw [Bool.and_eq_true, List.all_eq_true] at h
  exact fun c hc => clauseOk_lits (h.2 c hc)
theorem setLit_pos (q : List Int) (m : Nat) : setLit q ((m : Int) + 1) = q.set m 1 := by
  unfold setLit
  rw [if_pos (by omega)]
  congr 1
  omega
theorem setLit_neg (q : List Int) (m : Nat) : setLit q (-((m : Int) + 1)) = q.set m (-1) := by
  unfold setLit
  rw [if_neg (by omega), if_pos (by omega)]
  congr 1
  omega
theorem passL_at {cls : List (List Int)} {k : Nat} {x : List Int} (hx : cls[k]? = some x) (q : List Int) (b : Bool) :
    passL (cls.drop k) q b = if (unitOf q x).2 = true then none else if (unitOf q x).1 = 0 then passL (cls.drop (k + 1)) q b else passL (cls.drop (k + 1)) (setLit q (unitOf q x).1) true := by
  obtain ⟨hk, rfl⟩ := List.getElem?_eq_some_iff.1 hx
  rw [List.drop_eq_getElem_cons hk, passL]

def negGo : List Int → List Int → Option (List Int)
  | [], p => some p
  | l :: ls, p => if valOf p l = 1 then none else negGo ls (setLit p (-l))
def followsL (v : Nat) (cls : List (List Int)) (cl : List Int) : Bool :=
  match negGo cl (List.replicate v 0) with
  | none => true
  | some p => !(propL cls p).isSome
def consL (v : Int) (cls : List (List Int)) (cl : List Int) : Bool := cnfOkL v cls && clauseOkL v cl && followsL v.toNat cls cl
def propagateL (v : Int) (cls : List (List Int)) (p : List Int) : Option (List Int) :=
  if cnfOkL v cls = true ∧ (p.length : Int) = v ∧ p.all (fun x => rng x (-1) 1) = true then propL cls p else none
theorem negGo_facts : ∀ {cl p q : List Int}, negGo cl p = some q → trits p → q.length = p.length ∧ trits q
  | [], p, q, h, ht => by
    simp only [negGo, Option.some.injEq] at h
    subst h
    exact ⟨rfl, ht⟩
  | l :: ls, p, q, h, ht => by
    unfold negGo at h
    split at h
    · cases h
    · obtain ⟨h1, h2⟩ := negGo_facts h (trits_setLit ht _)
      exact ⟨h1.trans (setLit_len _ _), h2⟩
theorem trits_rep (n : Nat) : trits (List.replicate n 0) := fun x hx => by rw [(List.mem_replicate.1 hx).2]; omega
theorem negGo_at {cl : List Int} {k : Nat} {x : Int} (hx : cl[k]? = some x) (p : List Int) : negGo (cl.drop k) p = if valOf p x = 1 then none else negGo (cl.drop (k + 1)) (setLit p (-x)) := by
  obtain ⟨hk, rfl⟩ := List.getElem?_eq_some_iff.1 hx
  rw [List.drop_eq_getElem_cons hk, negGo]
theorem setLit_n1 (q : List Int) (m : Nat) : setLit q (-((m : Int) + 1)) = q.set m (-1) := setLit_neg q m
theorem setLit_n2 (q : List Int) (m : Nat) : setLit q (- -((m : Int) + 1)) = q.set m 1 := by
  rw [Int.neg_neg]
  exact setLit_pos q m
end Go.Proofs.Ytklhofpjjbfckaa
