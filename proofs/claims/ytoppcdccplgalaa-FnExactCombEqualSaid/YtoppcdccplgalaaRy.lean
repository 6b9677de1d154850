/-
  The net that compares two nets is a net. Plain lemmas.
  Conditions: those typed in each theorem.
-/
import Derived.Test.YtoppcdccplgalaaRs
namespace Go.Proofs.Ytoppcdccplgalaa
open Go.RowKit Go.ChangeShapes Go.WideShapes
set_option linter.unusedVariables false
set_option linter.unusedSimpArgs false
theorem mitGo_net {m : GrD} {ra rb : List Int} {an0 : List AndD} (hf : 0 < firstG m) (h0 : netOkB (withA m an0) = true) (h300 : an0.length ≤ 300)
    (hA : ∀ k ∈ ra, 0 ≤ k ∧ k < 2 * ((firstG m : Int) + an0.length)) (hB : ∀ k ∈ rb, 0 ≤ k ∧ k < 2 * ((firstG m : Int) + an0.length)) {n : Nat} (hn : n ≤ ra.length) (hm : n ≤ rb.length) :
    ∀ i, i ≤ n → (mitGo (firstG m) ra rb an0 i).2.2 = true → netOkB (withA m (mitGo (firstG m) ra rb an0 i).2.1) = true
  | 0, _, _ => h0
  | i + 1, hi, h => by
    have ih := mitGo_net hf h0 h300 hA hB hn hm i (by omega)
    have hgf := mitGo_facts (fa := firstG m) (by omega) h300 hA hB hn hm i (by omega)
    obtain ⟨⟨s, an, b⟩, hst⟩ : ∃ q, mitGo (firstG m) ra rb an0 i = q := ⟨_, rfl⟩
    rw [hst] at ih hgf
    cases b with
    | false =>
      rw [mitGo, hst, if_pos rfl] at h
      simp at h
    | true =>
    have ih := ih rfl
    obtain ⟨g1, g2, g3⟩ := hgf rfl
    simp only at ih g1 g2 g3
    have hstp := mitGo_step hst
    have hx1 : ra[i]? = some (ra.getD i 0) := by rw [List.getD_eq_getElem?_getD, List.getElem?_eq_getElem (by omega)]; rfl
    have hx2 : rb[i]? = some (rb.getD i 0) := by rw [List.getD_eq_getElem?_getD, List.getElem?_eq_getElem (by omega)]; rfl
    have b1 := hA _ (List.mem_of_getElem? hx1)
    have b2 := hB _ (List.mem_of_getElem? hx2)
    generalize ra.getD i 0 = xa at *
    generalize rb.getD i 0 = xb at *
    have hgN : (grN (withA m an) : Int) = firstG m + an.length := by rw [grN_withA]; omega
    have eX := sXorL_eq (x := withA m an) (a := xa) (b := xb) g3 (by omega) (by omega)
    have hmX := sXorL_small (x := withA m an) (a := xa) (b := xb) ih
    have xr := xorR_rng (fa := firstG m) (an := an) (a := xa) (b := xb) (by omega) g3 (by omega) (by omega)
    have eF : xorR (firstG (withA m an)) (withA m an).2.2.1 xa xb = xorR (firstG m) an xa xb := rfl
    rw [eF] at eX
    obtain ⟨⟨xv, an1⟩, hX⟩ : ∃ q, xorR (firstG m) an xa xb = q := ⟨_, rfl⟩
    rw [hX] at eX xr hstp
    obtain ⟨x1, x2, x3, x4⟩ := xr
    simp only at x1 x2 x3 x4 hstp eX
    by_cases hv : xv < 0
    · rw [if_pos hv] at hstp
      rw [hstp] at h; simp at h
    rw [if_neg hv] at eX hstp
    rw [eX] at hmX
    simp only at hmX
    have hgN2 : (grN (withA (withA m an) an1) : Int) = firstG m + an1.length := by rw [grN_withA, show firstG (withA m an) = firstG m from rfl]; omega
    have eO := sOrL_ok (x := withA (withA m an) an1) (a := s) (b := xv) (by omega) (by omega)
    rw [show firstG (withA (withA m an) an1) = firstG m from rfl, show (withA (withA m an) an1).2.2.1 = an1 from rfl] at eO
    have hmO2 := (sOrL_small (x := withA (withA m an) an1) (a := s) (b := xv) hmX).2.2
    by_cases hv2 : orV (firstG m) an1 s xv < 0
    · rw [if_pos hv2] at hstp
      rw [hstp] at h; simp at h
    rw [if_neg hv2] at eO hstp
    rw [eO] at hmO2
    rw [hstp]
    exact hmO2
/-- The net that compares is a net, with one root. -/
theorem mitG_ok {a b : GrD} (h : mitOk a b = true) : netOkB (mitG a b) = true ∧ (mitG a b).2.2.2 = [(mitR a b).1] ∧ isI (mitR a b).1 := by
  have hG : mitG a b = if mitOk a b = true then (a.1 + (a.2.1.length : Int), [], (mitR a b).2.1, [(mitR a b).1]) else (0, [], [], []) := rfl
  rw [if_pos h] at hG
  have hO : mitOk a b = (compB a b && (imp1 a).2.2 && (imp2 a b).2.2 && (mitR a b).2.2) := rfl
  rw [h] at hO
  have hO := hO.symm
  simp only [Bool.and_eq_true] at hO
  obtain ⟨⟨⟨hC, o1⟩, o2⟩, o3⟩ := hO
  obtain ⟨hoa, hob, h1, h2, h3, h4, hfb, hrl⟩ := comp_of hC
  obtain ⟨⟨n1, n2, n3, n4, n5, n6⟩, -, -, -⟩ := netOk_of hoa
  obtain ⟨⟨m1, m2, m3, m4, m5, m6⟩, -, -, -⟩ := netOk_of hob
  obtain ⟨hFa, hga, hNa, -⟩ := ok_sizes hoa
  obtain ⟨hFb, hgb, hNb, -⟩ := ok_sizes hob
  have hNea := grN_eq a
  have hNeb := grN_eq b
  obtain ⟨I, hI⟩ : ∃ I, a.1 + (a.2.1.length : Int) = I := ⟨_, rfl⟩
  rw [hI] at hG
  have hI20 : 0 ≤ I ∧ I ≤ 20 := by omega
  have hfm : firstG ((I, [], [], []) : GrD) = firstG a := by unfold firstG; simp; unfold firstG at hFa; omega
  have hm0 : netOkB ((I, [], [], []) : GrD) = true := by
    unfold netOkB nodesG
    rw [if_pos ⟨rng_iff.2 (by omega), by simp, by simp, by simp⟩]
    simp [grRoots, belowB, andsFit]
    omega
  have p1 := impA_ok (x := a) hoa (an0 := []) (by simp) rfl (i := a.2.2.1.length) (Nat.le_refl _)
  have hi1 : impA a [] a.2.2.1.length = imp1 a := rfl
  rw [hi1] at p1
  have hi2 : impA b (imp1 a).2.1 b.2.2.1.length = imp2 a b := rfl
  have p2 := impA_ok (x := b) hob p1.1.an (by rw [hfb]; exact p1.1.ok) (i := b.2.2.1.length) (Nat.le_refl _)
  rw [hi2] at p2
  have hMr : mitR a b = mitGo (firstG a) (rootsM a (imp1 a).1) (rootsM b (imp2 a b).1) (imp2 a b).2.1 (grRoots a).length := rfl
  have hra : (rootsM a (imp1 a).1).length = (grRoots a).length := by simp [rootsM]
  have hrb : (rootsM b (imp2 a b).1).length = (grRoots a).length := by simp [rootsM, hrl]
  have h300 : (imp2 a b).2.1.length ≤ 300 := p2.1.an
  have hmB : netOkB (withA ((I, [], [], []) : GrD) (imp2 a b).2.1) = true := netOk_withA hm0 (by simp) p2.1.an (by rw [hfm, ← hfb]; exact p2.1.ok)
  have hpA := p1.1.pl
  have hpB := p2.1.pl
  rw [hfb] at hpB
  have hle := p2.2
  have hrA : ∀ k : Int, k ∈ rootsM a (imp1 a).1 → 0 ≤ k ∧ k < 2 * ((firstG a : Int) + (imp2 a b).2.1.length) := fun k hk => by
    obtain ⟨l, -, rfl⟩ := List.mem_map.1 hk
    have hq : plIn ((firstG a : Int) + (imp2 a b).2.1.length) (imp1 a).1 := plIn_mono hpA (by omega)
    exact mapV_rng (plIn_at hq (by omega) _) (by omega)
  have hrB : ∀ k : Int, k ∈ rootsM b (imp2 a b).1 → 0 ≤ k ∧ k < 2 * ((firstG a : Int) + (imp2 a b).2.1.length) := fun k hk => by
    obtain ⟨l, -, rfl⟩ := List.mem_map.1 hk
    exact mapV_rng (plIn_at hpB (by omega) _) (by omega)
  have hgf := mitGo_facts (fa := firstG a) (by omega) h300 hrA hrB (n := (grRoots a).length) (by omega) (by omega) _ (Nat.le_refl _)
  have hgn := mitGo_net (m := ((I, [], [], []) : GrD)) (by omega) hmB h300 (by rw [hfm]; exact hrA) (by rw [hfm]; exact hrB) (n := (grRoots a).length) (by omega) (by omega) _ (Nat.le_refl _)
  rw [hfm, ← hMr] at hgn
  rw [← hMr] at hgf
  obtain ⟨g1, g2, g3⟩ := hgf o3
  have hgn := hgn o3
  generalize mitR a b = R at *
  obtain ⟨l, an, bb⟩ := R
  simp only at g1 g2 g3 hgn hG
  rw [hG]
  refine ⟨?_, rfl, by unfold isI; simp only; omega⟩
  have hn : nodesG ((I, [], an, [l]) : GrD) = 1 + I + an.length := by
    unfold nodesG
    rw [if_pos ⟨rng_iff.2 hI20, by simp, g3, by simp⟩]
    simp
  have hA := ansOk_of hgn
  rw [show firstG (withA ((I, [], [], []) : GrD) an) = firstG a from hfm] at hA
  unfold netOkB
  rw [hn]
  simp only [Bool.and_eq_true, decide_eq_true_eq]
  refine ⟨⟨⟨by omega, by simp⟩, ?_⟩, ?_⟩
  · simp only [belowB, grRoots, List.map_nil, List.flatten_nil, List.append_nil, List.all_cons, List.all_nil, Bool.and_true]
    exact rng_iff.2 (by omega)
  · have e : (1 + I + (([] : List SeqD).length : Int)) = firstG a := by rw [List.length_nil]; omega
    rw [e]
    exact hA
end Go.Proofs.Ytoppcdccplgalaa
