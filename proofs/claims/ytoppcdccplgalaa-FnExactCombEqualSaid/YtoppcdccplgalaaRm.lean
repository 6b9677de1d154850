/-
  The net that compares two nets. Plain lemmas.
  Conditions: those typed in each theorem.
-/
import Derived.Test.YtoppcdccplgalaaRj
namespace Go.Proofs.Ytoppcdccplgalaa
set_option linter.unusedVariables false
/-- An import of all of a net's AND nodes. -/
def impA (x : GrD) (an0 : List AndD) (i : Nat) : List Int × List AndD × Bool := impR x (firstG x) (-1) 0 (leafL (firstG x)) an0 i
theorem impA_ok {x : GrD} (hok : netOkB x = true) {an0 : List AndD} (h1 : an0.length ≤ 300) (h2 : ansOk (firstG x) an0) {i : Nat} (hi : i ≤ x.2.2.1.length) : ImpOk (firstG x) (firstG x + i) (impA x an0 i) ∧ an0.length ≤ (impA x an0 i).2.1.length := by
  obtain ⟨⟨n1, n2, n3, n4, n5, n6⟩, -, -, -⟩ := netOk_of hok
  obtain ⟨hF, hgl, hNi, hno⟩ := ok_sizes hok
  exact impR_ok hok (by omega) (by omega) ⟨fun _ => leafL_len, Nat.le_of_eq leafL_len, leafL_in (by simp only; omega), h1, h2⟩ i hi
theorem impA_step {x : GrD} {an0 : List AndD} {i : Nat} {to : List Int} {an : List AndD} (h : impA x an0 i = (to, an, true)) :
    impA x an0 (i + 1) = if addV (firstG x) an (mapV to (andAt x (firstG x + i)).1) (mapV to (andAt x (firstG x + i)).2) < 0 then (to, an, false)
      else (to ++ [addV (firstG x) an (mapV to (andAt x (firstG x + i)).1) (mapV to (andAt x (firstG x + i)).2)], addN an (mapV to (andAt x (firstG x + i)).1) (mapV to (andAt x (firstG x + i)).2), true) := by
  unfold impA at h ⊢
  rw [impR, h]
  simp only [Bool.true_eq_false, if_false]
  rw [if_neg (by omega)]
theorem impA_false {x : GrD} {an0 : List AndD} {i : Nat} (h : (impA x an0 i).2.2 = false) : ∀ d, (impA x an0 (i + d)).2.2 = false
  | 0 => h
  | d + 1 => by
    have ih := impA_false h d
    unfold impA at ih ⊢
    rw [← Nat.add_assoc, impR, if_pos ih]
    exact ih
/-- The comparison of the roots, one by one. -/
def mitGo (fa : Int) (ra rb : List Int) (an0 : List AndD) : Nat → Int × List AndD × Bool
  | 0 => (0, an0, true)
  | i + 1 =>
    if (mitGo fa ra rb an0 i).2.2 = false then mitGo fa ra rb an0 i
    else if (xorR fa (mitGo fa ra rb an0 i).2.1 (ra.getD i 0) (rb.getD i 0)).1 < 0 then (0, [], false)
    else if orV fa (xorR fa (mitGo fa ra rb an0 i).2.1 (ra.getD i 0) (rb.getD i 0)).2 (mitGo fa ra rb an0 i).1 (xorR fa (mitGo fa ra rb an0 i).2.1 (ra.getD i 0) (rb.getD i 0)).1 < 0 then (0, [], false)
    else (orV fa (xorR fa (mitGo fa ra rb an0 i).2.1 (ra.getD i 0) (rb.getD i 0)).2 (mitGo fa ra rb an0 i).1 (xorR fa (mitGo fa ra rb an0 i).2.1 (ra.getD i 0) (rb.getD i 0)).1,
      addN (xorR fa (mitGo fa ra rb an0 i).2.1 (ra.getD i 0) (rb.getD i 0)).2 (flip (mitGo fa ra rb an0 i).1) (flip (xorR fa (mitGo fa ra rb an0 i).2.1 (ra.getD i 0) (rb.getD i 0)).1), true)
theorem mitGo_step {fa : Int} {ra rb : List Int} {an0 : List AndD} {i : Nat} {s : Int} {an : List AndD} (h : mitGo fa ra rb an0 i = (s, an, true)) :
    mitGo fa ra rb an0 (i + 1) = if (xorR fa an (ra.getD i 0) (rb.getD i 0)).1 < 0 then (0, [], false)
      else if orV fa (xorR fa an (ra.getD i 0) (rb.getD i 0)).2 s (xorR fa an (ra.getD i 0) (rb.getD i 0)).1 < 0 then (0, [], false)
      else (orV fa (xorR fa an (ra.getD i 0) (rb.getD i 0)).2 s (xorR fa an (ra.getD i 0) (rb.getD i 0)).1, addN (xorR fa an (ra.getD i 0) (rb.getD i 0)).2 (flip s) (flip (xorR fa an (ra.getD i 0) (rb.getD i 0)).1), true) := by
  rw [mitGo, h]
  simp only [Bool.true_eq_false, if_false]
theorem mitGo_false {fa : Int} {ra rb : List Int} {an0 : List AndD} {i : Nat} (h : (mitGo fa ra rb an0 i).2.2 = false) : ∀ d, (mitGo fa ra rb an0 (i + d)).2.2 = false
  | 0 => h
  | d + 1 => by
    have ih := mitGo_false h d
    rw [← Nat.add_assoc, mitGo, if_pos ih]
    exact ih
def compB (a b : GrD) : Bool := netOkB a && netOkB b && decide (a.1 = b.1) && decide (a.2.1.length = b.2.1.length) && decide (a.2.2.2.length = b.2.2.2.length) && decide (a.1 + (a.2.1.length : Int) ≤ 20) && (a.2.1.zip b.2.1).all fun p => decide (p.1.1 = p.2.1)
def imp1 (a : GrD) : List Int × List AndD × Bool := impA a [] a.2.2.1.length
def imp2 (a b : GrD) : List Int × List AndD × Bool := impA b (imp1 a).2.1 b.2.2.1.length
def rootsM (x : GrD) (to : List Int) : List Int := (grRoots x).map (mapV to)
def mitR (a b : GrD) : Int × List AndD × Bool := mitGo (firstG a) (rootsM a (imp1 a).1) (rootsM b (imp2 a b).1) (imp2 a b).2.1 (grRoots a).length
def mitOk (a b : GrD) : Bool := compB a b && (imp1 a).2.2 && (imp2 a b).2.2 && (mitR a b).2.2
def mitG (a b : GrD) : GrD := if mitOk a b = true then (a.1 + (a.2.1.length : Int), [], (mitR a b).2.1, [(mitR a b).1]) else (0, [], [], [])
theorem comp_of {a b : GrD} (h : compB a b = true) : netOkB a = true ∧ netOkB b = true ∧ a.1 = b.1 ∧ a.2.1.length = b.2.1.length ∧ a.2.2.2.length = b.2.2.2.length ∧ a.1 + (a.2.1.length : Int) ≤ 20 ∧ firstG b = firstG a ∧ (grRoots b).length = (grRoots a).length := by
  unfold compB at h
  simp only [Bool.and_eq_true, decide_eq_true_eq] at h
  obtain ⟨⟨⟨⟨⟨⟨h1, h2⟩, h3⟩, h4⟩, h5⟩, h6⟩, h7⟩ := h
  refine ⟨h1, h2, h3, h4, h5, h6, by unfold firstG; omega, ?_⟩
  obtain ⟨-, oa, -, -⟩ := netOk_of h1
  obtain ⟨-, ob, -, -⟩ := netOk_of h2
  have key : ∀ (xs ys : List SeqD), xs.length = ys.length → (∀ s ∈ xs, seqOkB s = true) → (∀ s ∈ ys, seqOkB s = true) → ((xs.zip ys).all fun p => decide (p.1.1 = p.2.1)) = true → ((xs.map (·.2.2)).flatten).length = ((ys.map (·.2.2)).flatten).length := by
    intro xs
    induction xs with
    | nil => intro ys hl _ _ _; cases ys with | nil => rfl | cons => simp at hl
    | cons x xs ih =>
      intro ys hl hx hy hz
      cases ys with
      | nil => simp at hl
      | cons y ys =>
        simp only [List.zip_cons_cons, List.all_cons, Bool.and_eq_true, decide_eq_true_eq] at hz
        have e := ih ys (by simpa using hl) (fun s hs => hx s (by simp [hs])) (fun s hs => hy s (by simp [hs])) hz.2
        have q1 := hx x (by simp)
        have q2 := hy y (by simp)
        have e2 : x.2.2.length = y.2.2.length := by
          unfold seqOkB at q1 q2
          have hk := hz.1
          revert q1 q2
          rw [hk]
          split
          · simp; omega
          · split
            · simp; omega
            · simp
        simp only [List.map_cons, List.flatten_cons, List.length_append, e, e2]
  have := key _ _ h4 oa ob h7
  unfold grRoots
  simp only [List.length_append]
  omega
theorem orV_rng {fa : Int} {an : List AndD} {a b : Int} (hf : 0 ≤ fa) (ha : 0 ≤ a ∧ a < 2 * (fa + an.length)) (hb : 0 ≤ b ∧ b < 2 * (fa + an.length)) : -1 ≤ orV fa an a b ∧ orV fa an a b < 2 * (fa + (addN an (flip a) (flip b)).length) := by
  have fA := flip_half ha.1
  have fB := flip_half hb.1
  have h := addV_rng (fa := fa) (an := an) (a := flip a) (b := flip b) hf (by omega) (by omega)
  have hl := addN_len (an := an) (a := flip a) (b := flip b)
  unfold orV
  split
  · omega
  · have := flip_half (v := addV fa an (flip a) (flip b)) (by omega); omega
theorem xorR_rng {fa : Int} {an : List AndD} {a b : Int} (hf : 0 ≤ fa) (h300 : an.length ≤ 300) (ha : 0 ≤ a ∧ a < 2 * (fa + an.length)) (hb : 0 ≤ b ∧ b < 2 * (fa + an.length)) :
    -1 ≤ (xorR fa an a b).1 ∧ (xorR fa an a b).1 < 2 * (fa + (xorR fa an a b).2.length) ∧ an.length ≤ (xorR fa an a b).2.length ∧ (xorR fa an a b).2.length ≤ 300 := by
  have fA := flip_half ha.1
  have fB := flip_half hb.1
  have l1 := addN_len (an := an) (a := a) (b := flip b)
  have n1 := addN_300 (a := a) (b := flip b) h300
  have r1 := addV_rng (fa := fa) (an := an) (a := a) (b := flip b) hf (by omega) (by omega)
  unfold xorR
  generalize addV fa an a (flip b) = p at *
  generalize addN an a (flip b) = an1 at *
  split
  · exact ⟨by simp, by simp only; omega, by simp only; omega, n1⟩
  · have l2 := addN_len (an := an1) (a := flip a) (b := b)
    have n2 := addN_300 (a := flip a) (b := b) n1
    have r2 := addV_rng (fa := fa) (an := an1) (a := flip a) (b := b) hf (by omega) (by omega)
    generalize addV fa an1 (flip a) b = q at *
    generalize addN an1 (flip a) b = an2 at *
    split
    · exact ⟨by simp, by simp only; omega, by simp only; omega, n2⟩
    · have l3 := addN_len (an := an2) (a := flip p) (b := flip q)
      have n3 := addN_300 (a := flip p) (b := flip q) n2
      have r3 := orV_rng (fa := fa) (an := an2) (a := p) (b := q) hf (by omega) (by omega)
      exact ⟨r3.1, r3.2, by simp only; omega, n3⟩
theorem mitGo_facts {fa : Int} {ra rb : List Int} {an0 : List AndD} (hf : 0 < fa) (h300 : an0.length ≤ 300) (hA : ∀ k ∈ ra, 0 ≤ k ∧ k < 2 * (fa + (an0.length : Int))) (hB : ∀ k ∈ rb, 0 ≤ k ∧ k < 2 * (fa + (an0.length : Int))) {n : Nat} (hn : n ≤ ra.length) (hm : n ≤ rb.length) :
    ∀ i, i ≤ n → (mitGo fa ra rb an0 i).2.2 = true → (0 ≤ (mitGo fa ra rb an0 i).1 ∧ (mitGo fa ra rb an0 i).1 < 2 * (fa + (mitGo fa ra rb an0 i).2.1.length)) ∧ an0.length ≤ (mitGo fa ra rb an0 i).2.1.length ∧ (mitGo fa ra rb an0 i).2.1.length ≤ 300
  | 0, _, _ => ⟨⟨by simp [mitGo], by simp [mitGo]; omega⟩, Nat.le_refl _, h300⟩
  | i + 1, hi, h => by
    have ih := mitGo_facts hf h300 hA hB hn hm i (by omega)
    obtain ⟨⟨s, an, b⟩, hst⟩ : ∃ q, mitGo fa ra rb an0 i = q := ⟨_, rfl⟩
    cases b with
    | false =>
      have := mitGo_false (show (mitGo fa ra rb an0 i).2.2 = false by rw [hst]) 1
      rw [this] at h; cases h
    | true =>
      rw [hst] at ih
      obtain ⟨g1, g2, g3⟩ := ih rfl
      simp only at g1 g2 g3
      have hx1 : ra.getD i 0 ∈ ra := by rw [List.getD_eq_getElem?_getD, List.getElem?_eq_getElem (by omega)]; exact List.getElem_mem _
      have hx2 : rb.getD i 0 ∈ rb := by rw [List.getD_eq_getElem?_getD, List.getElem?_eq_getElem (by omega)]; exact List.getElem_mem _
      have b1 := hA _ hx1
      have b2 := hB _ hx2
      rw [mitGo_step hst] at h ⊢
      have xr := xorR_rng (fa := fa) (an := an) (a := ra.getD i 0) (b := rb.getD i 0) (by omega) g3 (by omega) (by omega)
      generalize xorR fa an (ra.getD i 0) (rb.getD i 0) = X at *
      obtain ⟨x1, x2, x3, x4⟩ := xr
      split at h
      · simp at h
      · rename_i hx
        rw [if_neg hx]
        have ho := orV_rng (fa := fa) (an := X.2) (a := s) (b := X.1) (by omega) (by omega) (by omega)
        have l3 := addN_len (an := X.2) (a := flip s) (b := flip X.1)
        have n3 := addN_300 (a := flip s) (b := flip X.1) x4
        split at h
        · simp at h
        · rename_i hy
          rw [if_neg hy]
          exact ⟨⟨by simp only; omega, ho.2⟩, by simp only; omega, n3⟩
end Go.Proofs.Ytoppcdccplgalaa
