/-
  Adding to a net as the reference does. Plain lemmas.
  Conditions: those typed in each theorem.
-/
import Derived.Test.YtoppcdccplgalaaRm
namespace Go.Proofs.Ytoppcdccplgalaa
set_option linter.unusedVariables false
set_option linter.unusedSimpArgs false
theorem seqOk_rng {s : SeqD} (h : seqOkB s = true) : isI s.1 ∧ isI s.2.1 ∧ s.2.2.length ≤ 4 := by
  have hl := seqOk_len h
  unfold seqOkB at h
  unfold isI
  split at h
  · rename_i h1
    simp only [Bool.and_eq_true] at h
    have := rng_iff.1 h.1
    exact ⟨by omega, by omega, hl⟩
  · split at h
    · rename_i h1
      simp only [Bool.and_eq_true] at h
      have := rng_iff.1 h.1
      exact ⟨by omega, by omega, hl⟩
    · cases h
theorem okGr_netOk {x : GrD} (hok : netOkB x = true) : okGr x := by
  obtain ⟨⟨n1, n2, n3, n4, n5, n6⟩, o1, o2, o3⟩ := netOk_of hok
  obtain ⟨hF, hgl, hNi, hno⟩ := ok_sizes hok
  have hN := grN_eq x
  refine ⟨fun y hy => ?_, fun s hs => ⟨(seqOk_rng (o1 s hs)).1, (seqOk_rng (o1 s hs)).2.1, fun y hy => ?_⟩, fun a ha => ?_, by unfold isI; omega⟩
  · have := o2 y (outs_root hy); unfold isI; omega
  · have := o2 y (List.mem_append_right _ (List.mem_flatten.2 ⟨_, List.mem_map.2 ⟨s, hs, rfl⟩, hy⟩)); unfold isI; omega
  · obtain ⟨i, hi, rfl⟩ := List.mem_iff_getElem.1 ha
    obtain ⟨e, a1, a2, a3, a4, a5, a6⟩ := and_at hok (v := firstG x + i) (by omega) (by omega)
    rw [Nat.add_sub_cancel_left, List.getElem?_eq_getElem hi] at e
    rw [Option.some.inj e]
    unfold isI; omega
theorem fitGr_netOk {x : GrD} (hok : netOkB x = true) : fitGr 1048576 x := by
  obtain ⟨⟨n1, n2, n3, n4, n5, n6⟩, o1, o2, o3⟩ := netOk_of hok
  exact ⟨by omega, fun s hs => by have := seqOk_len (o1 s hs); omega, by omega, by omega⟩
def withA (x : GrD) (an : List AndD) : GrD := (x.1, x.2.1, an, x.2.2.2)
theorem ansOk_of {x : GrD} (hok : netOkB x = true) : ansOk (firstG x) x.2.2.1 := by
  obtain ⟨hF, hgl, hNi, hno⟩ := ok_sizes hok
  unfold netOkB at hok
  simp only [Bool.and_eq_true] at hok
  unfold ansOk
  rw [hF]
  exact hok.2
theorem netOk_withA {x : GrD} (hok : netOkB x = true) {an : List AndD} (hl : x.2.2.1.length ≤ an.length) (h3 : an.length ≤ 300) (ha : ansOk (firstG x) an) : netOkB (withA x an) = true := by
  obtain ⟨⟨n1, n2, n3, n4, n5, n6⟩, o1, o2, o3⟩ := netOk_of hok
  obtain ⟨hF, hgl, hNi, hno⟩ := ok_sizes hok
  have hN := grN_eq x
  have hn : nodesG (withA x an) = 1 + x.1 + x.2.1.length + an.length := by
    unfold nodesG withA
    rw [if_pos ⟨rng_iff.2 ⟨n1, n2⟩, n3, h3, n5⟩]
  have hr : grRoots (withA x an) = grRoots x := rfl
  unfold netOkB
  rw [hn, hr]
  simp only [Bool.and_eq_true, decide_eq_true_eq]
  refine ⟨⟨⟨by omega, ?_⟩, ?_⟩, ?_⟩
  · rw [List.all_eq_true]; exact o1
  · unfold belowB
    rw [List.all_eq_true]
    intro y hy
    have := o2 y hy
    exact rng_iff.2 (by omega)
  · show andsFit (1 + x.1 + (x.2.1.length : Int)) 0 an = true
    rw [← hF]; exact ha
theorem netOk_addN {x : GrD} (hok : netOkB x = true) {a b : Int} (ha : 0 ≤ a ∧ a < 2 * (grN x : Int)) (hb : 0 ≤ b ∧ b < 2 * (grN x : Int)) : netOkB (withA x (addN x.2.2.1 a b)) = true := by
  obtain ⟨⟨n1, n2, n3, n4, n5, n6⟩, o1, o2, o3⟩ := netOk_of hok
  have hN := grN_eq x
  exact netOk_withA hok addN_len.1 (addN_300 n4) (ansOk_add (ansOk_of hok) (by omega) (by omega))
/-- Adding a conjunction. -/
def sAddL (x : GrD) (a b : Int) : GrD × Int :=
  if rng a 0 (2 * (grN x : Int) - 1) = true ∧ rng b 0 (2 * (grN x : Int) - 1) = true then (withA x (addN x.2.2.1 a b), addV (firstG x) x.2.2.1 a b) else (x, -1)
def notV (v : Int) : Int := if v < 0 then -2 else flip v
def sOrL (x : GrD) (a b : Int) : GrD × Int := if (sAddL x (notV a) (notV b)).2 < 0 then (x, -1) else ((sAddL x (notV a) (notV b)).1, flip (sAddL x (notV a) (notV b)).2)
def sJoinL (x m : GrD) (p q : Int) : GrD × Int := if (sOrL m p q).2 < 0 then (x, -1) else sOrL m p q
def sXorL (x : GrD) (a b : Int) : GrD × Int := sJoinL x (sAddL (sAddL x a (notV b)).1 (notV a) b).1 (sAddL x a (notV b)).2 (sAddL (sAddL x a (notV b)).1 (notV a) b).2
theorem sAddL_ok {x : GrD} {a b : Int} (ha : 0 ≤ a ∧ a < 2 * (grN x : Int)) (hb : 0 ≤ b ∧ b < 2 * (grN x : Int)) : sAddL x a b = (withA x (addN x.2.2.1 a b), addV (firstG x) x.2.2.1 a b) := by
  unfold sAddL; rw [if_pos ⟨rng_iff.2 (by omega), rng_iff.2 (by omega)⟩]
theorem sAddL_bad {x : GrD} {a b : Int} (h : a < 0 ∨ b < 0) : sAddL x a b = (x, -1) := by
  unfold sAddL; rw [if_neg (fun h2 => by have h3 := rng_iff.1 h2.1; have h4 := rng_iff.1 h2.2; omega)]
theorem sOrL_ok {x : GrD} {a b : Int} (ha : 0 ≤ a ∧ a < 2 * (grN x : Int)) (hb : 0 ≤ b ∧ b < 2 * (grN x : Int)) :
    sOrL x a b = if orV (firstG x) x.2.2.1 a b < 0 then (x, -1) else (withA x (addN x.2.2.1 (flip a) (flip b)), orV (firstG x) x.2.2.1 a b) := by
  have fA := flip_half ha.1
  have fB := flip_half hb.1
  unfold sOrL notV
  rw [if_neg (show ¬ a < 0 by omega), if_neg (show ¬ b < 0 by omega), sAddL_ok (by omega) (by omega)]
  unfold orV
  simp only
  by_cases h : addV (firstG x) x.2.2.1 (flip a) (flip b) < 0
  · rw [if_pos h, if_pos h, if_pos (by omega)]
  · have hp := flip_half (v := addV (firstG x) x.2.2.1 (flip a) (flip b)) (by omega)
    rw [if_neg h, if_neg h, if_neg (by omega)]
theorem sOrL_bad {x : GrD} {a b : Int} (h : a < 0 ∨ b < 0) : sOrL x a b = (x, -1) := by
  unfold sOrL
  rw [sAddL_bad (by unfold notV; rcases h with h | h <;> simp [h])]
  simp
theorem grN_withA {x : GrD} {an : List AndD} : grN (withA x an) = firstG x + an.length := rfl
theorem sXorL_eq {x : GrD} {a b : Int} (h3 : x.2.2.1.length ≤ 300) (ha : 0 ≤ a ∧ a < 2 * (grN x : Int)) (hb : 0 ≤ b ∧ b < 2 * (grN x : Int)) :
    sXorL x a b = if (xorR (firstG x) x.2.2.1 a b).1 < 0 then (x, -1) else (withA x (xorR (firstG x) x.2.2.1 a b).2, (xorR (firstG x) x.2.2.1 a b).1) := by
  have hN := grN_eq x
  have fA := flip_half ha.1
  have fB := flip_half hb.1
  have l1 := addN_len (an := x.2.2.1) (a := a) (b := flip b)
  have n1 := addN_300 (a := a) (b := flip b) h3
  have r1 := addV_rng (fa := firstG x) (an := x.2.2.1) (a := a) (b := flip b) (by omega) (by omega) (by omega)
  have g1 := addV_neg (fa := firstG x) (an := x.2.2.1) (a := a) (b := flip b) (by omega) (by omega) (by omega)
  have nA : notV a = flip a := by unfold notV; rw [if_neg (by omega)]
  have nB : notV b = flip b := by unfold notV; rw [if_neg (by omega)]
  unfold sXorL sJoinL
  rw [nA, nB, sAddL_ok (x := x) (a := a) (b := flip b) (by omega) (by omega)]
  unfold xorR
  generalize addV (firstG x) x.2.2.1 a (flip b) = p at *
  generalize addN x.2.2.1 a (flip b) = an1 at *
  simp only
  rw [sAddL_ok (x := withA x an1) (by rw [grN_withA]; omega) (by rw [grN_withA]; omega)]
  simp only
  have ew : ∀ an2 : List AndD, withA (withA x an1) an2 = withA x an2 := fun _ => rfl
  have ef : firstG (withA x an1) = firstG x := rfl
  have ea : (withA x an1).2.2.1 = an1 := rfl
  rw [ew, ef, ea]
  have l2 := addN_len (an := an1) (a := flip a) (b := b)
  have n2 := addN_300 (a := flip a) (b := b) n1
  have r2 := addV_rng (fa := firstG x) (an := an1) (a := flip a) (b := b) (by omega) (by omega) (by omega)
  generalize addV (firstG x) an1 (flip a) b = q at *
  generalize addN an1 (flip a) b = an2 at *
  by_cases hp : p < 0
  · rw [if_pos hp, sOrL_bad (.inl hp)]; rfl
  rw [if_neg hp]
  by_cases hq : q < 0
  · rw [if_pos hq, sOrL_bad (.inr hq)]
  rw [if_neg hq, sOrL_ok (x := withA x an2) (by rw [grN_withA]; omega) (by rw [grN_withA]; omega)]
  have ef2 : firstG (withA x an2) = firstG x := rfl
  have ea2 : (withA x an2).2.2.1 = an2 := rfl
  have ew2 : ∀ an3 : List AndD, withA (withA x an2) an3 = withA x an3 := fun _ => rfl
  rw [ef2, ea2, ew2]
  simp only
  split
  · simp
  · rename_i h; simp only [h, if_false]
end Go.Proofs.Ytoppcdccplgalaa
