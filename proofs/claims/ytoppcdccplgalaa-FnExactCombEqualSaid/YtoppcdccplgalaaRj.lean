/-
  Nets built by adding AND nodes: literals, places, imports of a net into another. Plain lemmas.
  Conditions: those typed in each theorem.
-/
import Derived.Test.YtoppcdccplgalaaRg
import Derived.Test.YtoppcdccplgalaaRa
namespace Go.Proofs.Ytoppcdccplgalaa
set_option linter.unusedVariables false

/-- A literal under a list of places. -/
def mapV (pl : List Int) (l : Int) : Int := xor64 (atI pl (l / 2)) (l % 2)
theorem flip_half {v : Int} (h : 0 ≤ v) : flip v / 2 = v / 2 ∧ 0 ≤ flip v := by unfold flip; split <;> omega
theorem flip_flip {v : Int} (h : 0 ≤ v) : flip (flip v) = v := by unfold flip; split <;> split <;> omega
theorem mapV_eq {pl : List Int} {l : Int} (h0 : 0 ≤ atI pl (l / 2)) (h1 : atI pl (l / 2) ≤ 1048576) : mapV pl l = if l % 2 = 0 then atI pl (l / 2) else flip (atI pl (l / 2)) := by
  unfold mapV
  split
  · rename_i h; rw [h, xor64_zero h0 (by omega)]
  · rename_i h; rw [show l % 2 = 1 by omega, xor64_one h0 (by omega)]
theorem mapV_rng {pl : List Int} {l : Int} {n : Int} (h : 0 ≤ atI pl (l / 2) ∧ atI pl (l / 2) < 2 * n) (hn : n ≤ 1000) : 0 ≤ mapV pl l ∧ mapV pl l < 2 * n := by
  rw [mapV_eq h.1 (by omega)]
  split
  · exact h
  · have := flip_half h.1; omega
/-- Literals whose nodes have places. -/
def litsAt (n : Nat) (ls : List Int) : Prop := ∀ l ∈ ls, 0 ≤ l ∧ l < 2 * (n : Int)
/-- Places: each a literal of a node below n. -/
def plIn (n : Int) (pl : List Int) : Prop := ∀ v ∈ pl, 0 ≤ v ∧ v < 2 * n
theorem plIn_at {n : Int} {pl : List Int} (h : plIn n pl) (hn : 0 < n) (k : Int) : 0 ≤ atI pl k ∧ atI pl k < 2 * n := by
  unfold atI
  cases e : pl[k.toNat]? with
  | none => simp only [Option.getD_none]; omega
  | some v => simpa using h v (List.mem_of_getElem? e)
theorem atI_append {pl qs : List Int} {k : Int} (h0 : 0 ≤ k) (h : k < pl.length) : atI (pl ++ qs) k = atI pl k := by
  unfold atI
  rw [List.getElem?_append_left (by omega)]
theorem mapV_append {pl qs : List Int} {l : Int} (h : 0 ≤ l ∧ l < 2 * (pl.length : Int)) : mapV (pl ++ qs) l = mapV pl l := by
  unfold mapV
  rw [atI_append (by omega) (by omega)]

/-! ### What adding gives -/
theorem trivV_rng {a b n : Int} (ha : 0 ≤ a ∧ a < 2 * n) (hb : 0 ≤ b ∧ b < 2 * n) : 0 ≤ trivV a b ∧ trivV a b < 2 * n := by
  unfold trivV; split <;> (try split) <;> omega
theorem mn_rng {a b : Int} {P : Int → Prop} (ha : P a) (hb : P b) : P (mnI a b) ∧ P (mxI a b) := by
  unfold mnI mxI
  constructor <;> split <;> assumption
theorem addV_rng {fa : Int} {an : List AndD} {a b : Int} (hf : 0 ≤ fa) (ha : 0 ≤ a ∧ a < 2 * (fa + an.length)) (hb : 0 ≤ b ∧ b < 2 * (fa + an.length)) : -1 ≤ addV fa an a b ∧ addV fa an a b < 2 * (fa + (addN an a b).length) := by
  have hl := addN_len (an := an) (a := a) (b := b)
  unfold addV
  split
  · have := trivV_rng ha hb; omega
  · rename_i ht
    split
    · omega
    · rename_i hf2
      split
      · rename_i h3
        have : addM an a b = true := by unfold addM; simp [ht, hf2, h3]
        unfold addN
        rw [if_pos this]
        simp; omega
      · omega
theorem addV_neg {fa : Int} {an : List AndD} {a b : Int} (hf : 0 ≤ fa) (ha : 0 ≤ a) (hb : 0 ≤ b) : (addV fa an a b < 0 → addN an a b = an ∧ addV fa an a b = -1) := by
  intro h
  unfold addV at h ⊢
  split at h
  · rename_i ht
    exfalso
    unfold trivV at h
    split at h
    · omega
    · split at h <;> omega
  · rename_i ht
    split at h
    · omega
    · rename_i hf2
      split at h
      · omega
      · rename_i h3
        refine ⟨?_, by rw [if_neg ht, if_neg hf2, if_neg h3]⟩
        unfold addN
        rw [if_neg (by unfold addM; simp [h3])]
theorem addN_300 {an : List AndD} {a b : Int} (h : an.length ≤ 300) : (addN an a b).length ≤ 300 := by
  unfold addN
  split
  · rename_i hm
    unfold addM at hm
    simp only [Bool.and_eq_true, decide_eq_true_eq] at hm
    simp; omega
  · exact h
def orV (fa : Int) (an : List AndD) (a b : Int) : Int := if addV fa an (flip a) (flip b) < 0 then -1 else flip (addV fa an (flip a) (flip b))
/-- An exclusive disjunction: its literal, the AND nodes. -/
def xorR (fa : Int) (an : List AndD) (a b : Int) : Int × List AndD :=
  if addV fa an a (flip b) < 0 then (-1, addN an a (flip b))
  else if addV fa (addN an a (flip b)) (flip a) b < 0 then (-1, addN (addN an a (flip b)) (flip a) b)
  else (orV fa (addN (addN an a (flip b)) (flip a) b) (addV fa an a (flip b)) (addV fa (addN an a (flip b)) (flip a) b),
    addN (addN (addN an a (flip b)) (flip a) b) (flip (addV fa an a (flip b))) (flip (addV fa (addN an a (flip b)) (flip a) b)))
/-- The AND nodes that a net is built of. -/
def ansOk (fa : Int) (an : List AndD) : Prop := andsFit fa 0 an = true
theorem andFits_iff {n : Int} {x : AndD} : andFits n x = true ↔ (0 ≤ x.1 ∧ x.1 < 2 * n) ∧ 0 ≤ x.2 ∧ x.2 < 2 * n := by
  unfold andFits
  rw [Bool.and_eq_true, rng_iff, rng_iff]
  omega
theorem ansOk_add {fa : Int} {an : List AndD} {a b : Int} (h : ansOk fa an) (ha : 0 ≤ a ∧ a < 2 * (fa + an.length)) (hb : 0 ≤ b ∧ b < 2 * (fa + an.length)) : ansOk fa (addN an a b) := by
  unfold addN
  split
  · unfold ansOk at h ⊢
    have := andsFit_snoc (f := fa) (xs := an ++ [(mnI a b, mxI a b)]) (k := an.length) (x := (mnI a b, mxI a b)) (by simp)
    rw [List.take_of_length_le (by simp), List.take_left' rfl, h, Bool.true_and] at this
    rw [this, andFits_iff]
    exact mn_rng (P := fun x => 0 ≤ x ∧ x < 2 * (fa + (an.length : Int))) ha hb
  · exact h

/-! ### Importing a net's AND nodes; skip: the one that has a literal given instead -/
def impR (x : GrD) (fa skip inst : Int) (to0 : List Int) (an0 : List AndD) : Nat → List Int × List AndD × Bool
  | 0 => (to0, an0, true)
  | i + 1 =>
    if (impR x fa skip inst to0 an0 i).2.2 = false then impR x fa skip inst to0 an0 i
    else if (i : Int) = skip then ((impR x fa skip inst to0 an0 i).1 ++ [inst], (impR x fa skip inst to0 an0 i).2.1, true)
    else if addV fa (impR x fa skip inst to0 an0 i).2.1 (mapV (impR x fa skip inst to0 an0 i).1 (andAt x (firstG x + i)).1) (mapV (impR x fa skip inst to0 an0 i).1 (andAt x (firstG x + i)).2) < 0 then ((impR x fa skip inst to0 an0 i).1, (impR x fa skip inst to0 an0 i).2.1, false)
    else ((impR x fa skip inst to0 an0 i).1 ++ [addV fa (impR x fa skip inst to0 an0 i).2.1 (mapV (impR x fa skip inst to0 an0 i).1 (andAt x (firstG x + i)).1) (mapV (impR x fa skip inst to0 an0 i).1 (andAt x (firstG x + i)).2)],
      addN (impR x fa skip inst to0 an0 i).2.1 (mapV (impR x fa skip inst to0 an0 i).1 (andAt x (firstG x + i)).1) (mapV (impR x fa skip inst to0 an0 i).1 (andAt x (firstG x + i)).2), true)
/-- What holds of an import: the places, the AND nodes. -/
structure ImpOk (fa : Int) (n : Nat) (s : List Int × List AndD × Bool) : Prop where
  len : s.2.2 = true → s.1.length = n
  le : s.1.length ≤ n
  pl : plIn (fa + s.2.1.length) s.1
  an : s.2.1.length ≤ 300
  ok : ansOk fa s.2.1
theorem plIn_mono {n m : Int} {pl : List Int} (h : plIn n pl) (hm : n ≤ m) : plIn m pl := fun v hv => ⟨(h v hv).1, by have := (h v hv).2; omega⟩
theorem impR_ok {x : GrD} (hok : netOkB x = true) {fa skip inst : Int} {to0 : List Int} {an0 : List AndD} (hfa : 0 < fa ∧ fa ≤ 100) (hi : 0 ≤ inst ∧ inst < 2 * fa) (h0 : ImpOk fa (firstG x) (to0, an0, true)) :
    ∀ i, i ≤ x.2.2.1.length → ImpOk fa (firstG x + i) (impR x fa skip inst to0 an0 i) ∧ an0.length ≤ (impR x fa skip inst to0 an0 i).2.1.length
  | 0, _ => ⟨h0, Nat.le_refl _⟩
  | i + 1, hile => by
    obtain ⟨ih, ihl⟩ := impR_ok hok hfa hi h0 (skip := skip) i (by omega)
    obtain ⟨hF, hgl, hNi, hno⟩ := ok_sizes hok
    have hN := grN_eq x
    obtain ⟨-, a1, a2, a3, a4, a5, a6⟩ := and_at hok (v := firstG x + i) (by omega) (by omega)
    unfold impR
    generalize impR x fa skip inst to0 an0 i = s at *
    obtain ⟨to, an, b⟩ := s
    simp only at ih ihl ⊢
    split
    · rename_i hb
      subst hb
      exact ⟨⟨fun h => by simp at h, by have := ih.le; simp only at this ⊢; omega, ih.pl, ih.an, ih.ok⟩, ihl⟩
    · rename_i hb
      obtain rfl : b = true := by simpa using hb
      have hl := ih.len rfl
      have ha := ih.an
      simp only at hl ha
      split
      · refine ⟨⟨fun _ => by simp only [List.length_append, List.length_cons, List.length_nil]; omega, by simp only [List.length_append, List.length_cons, List.length_nil]; omega, fun v hv => ?_, ih.an, ih.ok⟩, ihl⟩
        simp only at hv ⊢
        rcases List.mem_append.1 hv with h | h
        · exact ih.pl v h
        · rw [List.mem_singleton.1 h]; omega
      · have r1 := mapV_rng (l := (andAt x (firstG x + i)).1) (plIn_at ih.pl (by simp only; omega) ((andAt x (firstG x + i)).1 / 2)) (by simp only; omega)
        have r2 := mapV_rng (l := (andAt x (firstG x + i)).2) (plIn_at ih.pl (by simp only; omega) ((andAt x (firstG x + i)).2 / 2)) (by simp only; omega)
        simp only at r1 r2
        have h3 := addV_rng (fa := fa) (by omega) r1 r2
        have h4 := ansOk_add ih.ok r1 r2
        have h5 := addN_len (an := an) (a := mapV to (andAt x (firstG x + i)).1) (b := mapV to (andAt x (firstG x + i)).2)
        have h6 := addN_300 (a := mapV to (andAt x (firstG x + i)).1) (b := mapV to (andAt x (firstG x + i)).2) ha
        simp only at h4
        generalize mapV to (andAt x (firstG x + i)).1 = a at *
        generalize mapV to (andAt x (firstG x + i)).2 = b at *
        split
        · exact ⟨⟨fun h => by simp at h, by simp only; omega, ih.pl, ih.an, ih.ok⟩, ihl⟩
        · refine ⟨⟨fun _ => by simp only [List.length_append, List.length_cons, List.length_nil]; omega, by simp only [List.length_append, List.length_cons, List.length_nil]; omega, fun v hv => ?_, h6, h4⟩, by simp only; omega⟩
          simp only at hv ⊢
          rcases List.mem_append.1 hv with h | h
          · have := ih.pl v h; simp only at this; omega
          · rw [List.mem_singleton.1 h]; omega
/-- The places of the nodes that are no AND nodes. -/
def leafL (n : Nat) : List Int := (List.range n).map fun k : Nat => 2 * (k : Int)
theorem leafL_len {n : Nat} : (leafL n).length = n := by simp [leafL]
theorem leafL_snoc {n : Nat} : leafL (n + 1) = leafL n ++ [2 * (n : Int)] := by simp [leafL, List.range_succ]
theorem leafL_in {n : Nat} {m : Int} (h : (n : Int) ≤ m) : plIn m (leafL n) := fun v hv => by
  obtain ⟨k, hk, rfl⟩ := List.mem_map.1 hv
  have := List.mem_range.1 hk
  omega
end Go.Proofs.Ytoppcdccplgalaa
