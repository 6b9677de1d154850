/-
  Contracts of CnfOk, CnfTrue and NodeAssignment, the program's and the reference's. Written by mk_cnf2.py.
  Conditions: those typed in each theorem.
-/
import Derived.Test.YtbmapbbjbdpbcaaCnf
import Derived.Test.YtbmapbbjbdpbcaaPush
namespace Go.Proofs.Ytbmapbbjbdpbcaa
open Go.RowKit Go.ChangeShapes Go.WideShapes

theorem quiet_eq {P : Program} {f : FuncId} {args : Array Value} {w : World} {n : Nat} {v : Value}
    (h : Calls P f args (w.drewN n) fun e w' => e = .returned v ∧ w.drewN n = w') : Calls P f args (w.drewN n) fun e w' => e = .returned v ∧ ∃ m, w' = w.drewN m :=
  h.mono fun _ _ ⟨he, hm⟩ => ⟨he, n, hm.symm⟩
theorem quiet_add {P : Program} {f : FuncId} {args : Array Value} {w : World} {a n : Nat} {v : Value}
    (h : Calls P f args (w.drewN (a + n)) fun e w' => e = .returned v ∧ w.drewN (a + n) = w') : Calls P f args (w.drewN (a + n)) fun e w' => e = .returned v ∧ ∃ m, w' = w.drewN (a + m) :=
  h.mono fun _ _ ⟨he, hm⟩ => ⟨he, n, hm.symm⟩
def boolsOf (l : List Int) : List Bool := l.map fun x => x == 1
def nodeAsg (l : List Int) : List Bool := if 400 < l.length then [] else boolsOf l
theorem nodeAsg_len (l : List Int) : (nodeAsg l).length ≤ 400 := by unfold nodeAsg; split <;> simp [boolsOf]; omega
theorem below_of_only {B : Nat} {S : List Nat} {a b c : World} (h : Below B a b) (hB : B ≤ b.heap.size) (k : Only S b c) (hs : ∀ q ∈ S, B ≤ q) : Below B a c :=
  h.trans ⟨k.os, k.tape, k.output, k.size, fun i hi => k.block i (by omega) (fun hm => by have := hs i hm; omega)⟩


theorem icnfOk_any (v : Int) (A : Option Addr) (c : Nat) (xs : List (List Int)) (w : World) (hx : RowsR w w.heap.size A xs) :
    Calls Try.prog 28 #[cnfV v A xs.length c] w fun e w' => e = .returned (.bool (cnfOkL v xs)) ∧ Below w.heap.size w w' := by
  have hm := hx.1
  have HX := Lib.hid hx
  clear hx
  cases hr : rng v 0 400 with
  | false =>
    have HF : Hid (cnfOkL v xs = false) := by show cnfOkL v xs = false; unfold cnfOkL; rw [hr]; rfl
    go_enter Try.func28, Try.ntmps28
    go_wp2_with (go_at_call 53; refine (inr_any _ _ _ _).mono ?_; rintro e w' ⟨rfl, rfl⟩)
    go_ret
    exact ⟨ret_bool HF.out.symm, below1 _ _⟩
  | true =>
    have hv := rng_iff.1 hr
    by_cases hl : xs.length ≤ 1600
    · go_enter Try.func28, Try.ntmps28
      go_wp2_with (go_at_call 53; refine (inr_any _ _ _ _).mono ?_; rintro e w' ⟨rfl, rfl⟩)
      have hB0 := below1 w (.cells #[.int .i64 v, .slice A xs.length c] 37)
      have hz0 : w.heap.size ≤ (w.alloc (.cells #[.int .i64 v, .slice A xs.length c] 37)).heap.size := by simp
      have hk0 : ∀ W, Below (w.alloc (.cells #[.int .i64 v, .slice A xs.length c] 37)).heap.size (w.alloc (.cells #[.int .i64 v, .slice A xs.length c] 37)) W → W.cell? ⟨w.heap.size, 0, none⟩ = some (.int .i64 v) := fun W h => (h.cell (p := ⟨w.heap.size, 0, none⟩) (by simp)).trans (by simp)
      have hk1 : ∀ W, Below (w.alloc (.cells #[.int .i64 v, .slice A xs.length c] 37)).heap.size (w.alloc (.cells #[.int .i64 v, .slice A xs.length c] 37)) W → W.cell? ⟨w.heap.size, 1, none⟩ = some (.slice A xs.length c) := fun W h => (h.cell (p := ⟨w.heap.size, 1, none⟩) (by simp)).trans (by simp)
      generalize w.alloc (.cells #[.int .i64 v, .slice A xs.length c] 37) = W0 at *
      go_loopw [18] (fun i wr => ∃ k : Nat, k ≤ xs.length ∧ i = .int .i64 k ∧ Hid ((xs.take k).all (clauseOkL v) = true) ∧ Below W0.heap.size W0 wr) (fun i _ => xs.length - (intOf i).toNat)
      case atStart => exact ⟨0, Nat.zero_le _, rfl, Lib.hid rfl, Below.refl _ _⟩
      case round =>
        obtain ⟨k, hk, rfl, HA, hb⟩ := hrel
        by_cases hlt : k < xs.length
        · obtain ⟨b1, o1, x, A1, c1, e1, hb1, hxk, hc1, hr1⟩ := (HX.out.below hB0).sl_at hlt
          have HXK := Lib.hid hxk
          have HR := Lib.hid (hr1.mono hz0)
          have hq1 : ∀ W, Below W0.heap.size W0 W → W.cell? ⟨b1, o1 + k, none⟩ = some (.slice A1 x.length c1) := fun W h => (h.cell (p := ⟨b1, o1 + k, none⟩) (Nat.lt_of_lt_of_le hb1 hz0)).trans hc1
          clear hxk hr1 hc1
          subst e1
          cases hcl : clauseOkL v x with
          | true =>
            go_wp2_with (go_at_call 54; refine (iclauseOk_any v _ _ x _ ((HR.out.below hb).mono hb.size) hv).mono ?_; rintro e w' ⟨rfl, rfl⟩)
            refine ⟨⟨k + 1, by omega, by go_num, ?_, by assumption⟩, by simp [intOf]; omega⟩
            refine Lib.hid ?_
            rw [all_snoc HXK.out, HA.out, hcl]
            rfl
          | false =>
            go_wp2_with (go_at_call 54; refine (iclauseOk_any v _ _ x _ ((HR.out.below hb).mono hb.size) hv).mono ?_; rintro e w' ⟨rfl, rfl⟩)
            go_ret
            refine ⟨ret_bool ?_, hB0.trans (Below.mono (by assumption) hz0)⟩
            unfold cnfOkL
            rw [all_not HXK.out hcl]
            simp
        · go_wp2
          go_ret
          refine ⟨ret_bool ?_, hB0.trans (hb.mono hz0)⟩
          have hkk : k = xs.length := by omega
          have h := HA.out
          rw [hkk, List.take_length] at h
          unfold cnfOkL
          rw [h, hr]
          simp [hl]
    · have hl' : (1600 : Int) < (xs.length : Int) := by omega
      have HF : Hid (cnfOkL v xs = false) := by show cnfOkL v xs = false; unfold cnfOkL; simp [hl]
      go_enter Try.func28, Try.ntmps28
      go_wp2_with (go_at_call 53; refine (inr_any _ _ _ _).mono ?_; rintro e w' ⟨rfl, rfl⟩)
      go_ret
      exact ⟨ret_bool HF.out.symm, below1 _ _⟩


theorem scnfOk_any (v : Int) (A : Option Addr) (c : Nat) (xs : List (List Int)) (w : World) (hx : RowsR w w.heap.size A xs) :
    Calls Try.prog 30 #[cnfV v A xs.length c] w fun e w' => e = .returned (.bool (cnfOkL v xs)) ∧ Below w.heap.size w w' := by
  have hm := hx.1
  have HX := Lib.hid hx
  clear hx
  cases hr : rng v 0 400 with
  | false =>
    have HF : Hid (cnfOkL v xs = false) := by show cnfOkL v xs = false; unfold cnfOkL; rw [hr]; rfl
    go_enter Try.func30, Try.ntmps30
    go_wp2_with (go_at_call 55; refine (lin_any _ _ _ _).mono ?_; rintro e w' ⟨rfl, rfl⟩)
    go_ret
    exact ⟨ret_bool HF.out.symm, below1 _ _⟩
  | true =>
    have hv := rng_iff.1 hr
    by_cases hl : xs.length ≤ 1600
    · go_enter Try.func30, Try.ntmps30
      go_wp2_with (go_at_call 55; refine (lin_any _ _ _ _).mono ?_; rintro e w' ⟨rfl, rfl⟩)
      have hB0 := below1 w (.cells #[.int .i64 v, .slice A xs.length c] 37)
      have hz0 : w.heap.size ≤ (w.alloc (.cells #[.int .i64 v, .slice A xs.length c] 37)).heap.size := by simp
      have hk0 : ∀ W, Below (w.alloc (.cells #[.int .i64 v, .slice A xs.length c] 37)).heap.size (w.alloc (.cells #[.int .i64 v, .slice A xs.length c] 37)) W → W.cell? ⟨w.heap.size, 0, none⟩ = some (.int .i64 v) := fun W h => (h.cell (p := ⟨w.heap.size, 0, none⟩) (by simp)).trans (by simp)
      have hk1 : ∀ W, Below (w.alloc (.cells #[.int .i64 v, .slice A xs.length c] 37)).heap.size (w.alloc (.cells #[.int .i64 v, .slice A xs.length c] 37)) W → W.cell? ⟨w.heap.size, 1, none⟩ = some (.slice A xs.length c) := fun W h => (h.cell (p := ⟨w.heap.size, 1, none⟩) (by simp)).trans (by simp)
      generalize w.alloc (.cells #[.int .i64 v, .slice A xs.length c] 37) = W0 at *
      go_loopw [3] (fun i wr => ∃ k : Nat, k ≤ xs.length ∧ i = .int .i64 k ∧ Hid ((xs.take k).all (clauseOkL v) = true) ∧ Below W0.heap.size W0 wr) (fun i _ => xs.length - (intOf i).toNat)
      case atStart => exact ⟨0, Nat.zero_le _, rfl, Lib.hid rfl, Below.refl _ _⟩
      case round =>
        obtain ⟨k, hk, rfl, HA, hb⟩ := hrel
        by_cases hlt : k < xs.length
        · obtain ⟨b1, o1, x, A1, c1, e1, hb1, hxk, hc1, hr1⟩ := (HX.out.below hB0).sl_at hlt
          have HXK := Lib.hid hxk
          have HR := Lib.hid (hr1.mono hz0)
          have hq1 : ∀ W, Below W0.heap.size W0 W → W.cell? ⟨b1, o1 + k, none⟩ = some (.slice A1 x.length c1) := fun W h => (h.cell (p := ⟨b1, o1 + k, none⟩) (Nat.lt_of_lt_of_le hb1 hz0)).trans hc1
          clear hxk hr1 hc1
          subst e1
          cases hcl : clauseOkL v x with
          | true =>
            go_wp2
            go_region_held3 (fun w' => Below W0.heap.size W0 w') (first | exact hb.drew | assumption)
              ((go_at_call 56; refine (sclauseOk_any v _ _ x _ ((HR.out.below (by assumption)).mono (by exact hb.size)) hv).mono ?_; rintro e w' ⟨rfl, rfl⟩))
            go_wp2
            refine ⟨⟨k + 1, by omega, by go_num, ?_, by assumption⟩, by simp [intOf]; omega⟩
            refine Lib.hid ?_
            rw [all_snoc HXK.out, HA.out, hcl]
            rfl
          | false =>
            go_wp2
            go_region_held3 (fun w' => Below W0.heap.size W0 w') (first | exact hb.drew | assumption)
              ((go_at_call 56; refine (sclauseOk_any v _ _ x _ ((HR.out.below (by assumption)).mono (by exact hb.size)) hv).mono ?_; rintro e w' ⟨rfl, rfl⟩))
            go_wp2
            go_ret
            refine ⟨ret_bool ?_, hB0.trans (Below.mono (by assumption) hz0)⟩
            unfold cnfOkL
            rw [all_not HXK.out hcl]
            simp
        · go_wp2
          go_ret
          refine ⟨ret_bool ?_, hB0.trans (hb.mono hz0)⟩
          have hkk : k = xs.length := by omega
          have h := HA.out
          rw [hkk, List.take_length] at h
          unfold cnfOkL
          rw [h, hr]
          simp [hl]
    · have hl' : (1600 : Int) < (xs.length : Int) := by omega
      have HF : Hid (cnfOkL v xs = false) := by show cnfOkL v xs = false; unfold cnfOkL; simp [hl]
      go_enter Try.func30, Try.ntmps30
      go_wp2_with (go_at_call 55; refine (lin_any _ _ _ _).mono ?_; rintro e w' ⟨rfl, rfl⟩)
      go_ret
      exact ⟨ret_bool HF.out.symm, below1 _ _⟩


theorem icnfTrue_any (v : Int) (A B : Option Addr) (c d : Nat) (xs : List (List Int)) (asg : List Bool) (w : World) (hx : RowsR w w.heap.size A xs) (hy : SlR boolT w w.heap.size B asg) :
    Calls Try.prog 27 #[cnfV v A xs.length c, .slice B asg.length d] w fun e w' => e = .returned (.bool (cnfTrueL v xs asg)) ∧ Below w.heap.size w w' := by
  have hm := hx.1
  have hn := hy.1
  have HX := Lib.hid hx
  have HY := Lib.hid hy
  clear hx hy
  cases hr : cnfOkL v xs with
  | false =>
    have HF : Hid (cnfTrueL v xs asg = false) := by show cnfTrueL v xs asg = false; unfold cnfTrueL; rw [hr]; rfl
    go_enter Try.func27, Try.ntmps27
    go_wp2_with fail
    refine (icnfOk_any v A c xs _ ((HX.out.below (below1 _ _)).mono (by simp))).mono ?_
    rintro e w1 ⟨rfl, hb1⟩
    obtain ⟨hcell, hfroz⟩ := bcell hb1
    have hz := hb1.size
    simp only [World.size_alloc] at hz
    go_wp2
    go_ret
    exact ⟨ret_bool HF.out.symm, (below1 _ _).trans (hb1.mono (by simp))⟩
  | true =>
    by_cases hl : (asg.length : Int) = v
    · have hne : ((asg.length : Int) != v) = false := by rw [bne_eq_false_iff_eq]; exact hl
      have HL := Lib.hid hl
      clear hl
      go_enter Try.func27, Try.ntmps27
      go_wp2_with fail
      refine (icnfOk_any v A c xs _ ((HX.out.below (below1 _ _)).mono (by simp))).mono ?_
      rintro e w1 ⟨rfl, hb1⟩
      obtain ⟨hcell, hfroz⟩ := bcell hb1
      have hz := hb1.size
      simp only [World.size_alloc] at hz
      go_wp2
      go_loopw [20] (fun i wr => ∃ k : Nat, k ≤ xs.length ∧ i = .int .i64 k ∧ Hid ((xs.take k).all (clauseTrueL asg) = true) ∧ wr = w1) (fun i _ => xs.length - (intOf i).toNat)
      case atStart => exact ⟨0, Nat.zero_le _, rfl, Lib.hid rfl, rfl⟩
      case round =>
        obtain ⟨k, hk, rfl, HA, hww⟩ := hrel
        subst hww
        have hbw : Below w.heap.size w wr := (below1 _ _).trans (hb1.mono (by simp))
        by_cases hlt : k < xs.length
        · obtain ⟨b1, o1, x, A1, c1, e1, hb1', hxk, hc1, hr1⟩ := (HX.out.below hbw).sl_at hlt
          have HXK := Lib.hid hxk
          have HR := Lib.hid hr1
          clear hxk hr1
          subst e1
          cases hcl : clauseTrueL asg x with
          | true =>
            go_wp2_with (go_at_call 17; refine (iclauseTrue_any _ _ _ _ x asg _ (HR.out.mono (by omega)) ((HY.out.below hbw).mono (by omega))).mono ?_; rintro e w' ⟨rfl, rfl⟩)
            refine ⟨⟨k + 1, by omega, by go_num, ?_, by trivial⟩, by simp [intOf]; omega⟩
            refine Lib.hid ?_
            rw [all_snoc HXK.out, HA.out, hcl]
            rfl
          | false =>
            go_wp2_with (go_at_call 17; refine (iclauseTrue_any _ _ _ _ x asg _ (HR.out.mono (by omega)) ((HY.out.below hbw).mono (by omega))).mono ?_; rintro e w' ⟨rfl, rfl⟩)
            go_ret
            refine ⟨ret_bool ?_, hbw⟩
            unfold cnfTrueL
            rw [all_not HXK.out hcl]
            simp
        · go_wp2
          go_ret
          refine ⟨ret_bool ?_, hbw⟩
          have hkk : k = xs.length := by omega
          have h := HA.out
          rw [hkk, List.take_length] at h
          unfold cnfTrueL
          rw [h, hr]
          simp [HL.out]
    · have hne : ((asg.length : Int) != v) = true := by rw [bne_iff_ne]; exact hl
      have HF : Hid (cnfTrueL v xs asg = false) := by show cnfTrueL v xs asg = false; unfold cnfTrueL; simp [hl]
      have HL := Lib.hid hl
      clear hl
      go_enter Try.func27, Try.ntmps27
      go_wp2_with fail
      refine (icnfOk_any v A c xs _ ((HX.out.below (below1 _ _)).mono (by simp))).mono ?_
      rintro e w1 ⟨rfl, hb1⟩
      obtain ⟨hcell, hfroz⟩ := bcell hb1
      have hz := hb1.size
      simp only [World.size_alloc] at hz
      go_wp2
      all_goals first | (go_ret; exact ⟨ret_bool HF.out.symm, (below1 _ _).trans (hb1.mono (by simp))⟩) | (exfalso; exact HL.out (by assumption))


theorem scnfTrue_any (v : Int) (A B : Option Addr) (c d : Nat) (xs : List (List Int)) (asg : List Bool) (w : World) (hx : RowsR w w.heap.size A xs) (hy : SlR boolT w w.heap.size B asg) :
    Calls Try.prog 33 #[cnfV v A xs.length c, .slice B asg.length d] w fun e w' => e = .returned (.bool (cnfTrueL v xs asg)) ∧ Below w.heap.size w w' := by
  have hm := hx.1
  have hn := hy.1
  have HX := Lib.hid hx
  have HY := Lib.hid hy
  clear hx hy
  cases hr : cnfOkL v xs with
  | false =>
    have HF : Hid (cnfTrueL v xs asg = false) := by show cnfTrueL v xs asg = false; unfold cnfTrueL; rw [hr]; rfl
    go_enter Try.func33, Try.ntmps33
    go_wp2_with fail
    refine (scnfOk_any v A c xs _ ((HX.out.below (below1 _ _)).mono (by simp))).mono ?_
    rintro e w1 ⟨rfl, hb1⟩
    obtain ⟨hcell, hfroz⟩ := bcell hb1
    have hz := hb1.size
    simp only [World.size_alloc] at hz
    go_wp2
    go_ret
    exact ⟨ret_bool HF.out.symm, (below1 _ _).trans (hb1.mono (by simp))⟩
  | true =>
    by_cases hl : (asg.length : Int) = v
    · have hne : ((asg.length : Int) != v) = false := by rw [bne_eq_false_iff_eq]; exact hl
      have HL := Lib.hid hl
      clear hl
      go_enter Try.func33, Try.ntmps33
      go_wp2_with fail
      refine (scnfOk_any v A c xs _ ((HX.out.below (below1 _ _)).mono (by simp))).mono ?_
      rintro e w1 ⟨rfl, hb1⟩
      obtain ⟨hcell, hfroz⟩ := bcell hb1
      have hz := hb1.size
      simp only [World.size_alloc] at hz
      go_wp2
      go_loopw [5] (fun i wr => ∃ k : Nat, k ≤ xs.length ∧ i = .int .i64 k ∧ Hid ((xs.take k).all (clauseTrueL asg) = true) ∧ wr = w1) (fun i _ => xs.length - (intOf i).toNat)
      case atStart => exact ⟨0, Nat.zero_le _, rfl, Lib.hid rfl, rfl⟩
      case round =>
        obtain ⟨k, hk, rfl, HA, hww⟩ := hrel
        subst hww
        have hbw : Below w.heap.size w wr := (below1 _ _).trans (hb1.mono (by simp))
        by_cases hlt : k < xs.length
        · obtain ⟨b1, o1, x, A1, c1, e1, hb1', hxk, hc1, hr1⟩ := (HX.out.below hbw).sl_at hlt
          have HXK := Lib.hid hxk
          have HR := Lib.hid hr1
          clear hxk hr1
          subst e1
          cases hcl : clauseTrueL asg x with
          | true =>
            go_wp2_with (go_at_call 14; refine (sclauseTrue_any _ _ _ _ x asg _ (HR.out.mono (by omega)) ((HY.out.below hbw).mono (by omega))).mono ?_; rintro e w' ⟨rfl, rfl⟩)
            refine ⟨⟨k + 1, by omega, by go_num, ?_, by trivial⟩, by simp [intOf]; omega⟩
            refine Lib.hid ?_
            rw [all_snoc HXK.out, HA.out, hcl]
            rfl
          | false =>
            go_wp2_with (go_at_call 14; refine (sclauseTrue_any _ _ _ _ x asg _ (HR.out.mono (by omega)) ((HY.out.below hbw).mono (by omega))).mono ?_; rintro e w' ⟨rfl, rfl⟩)
            go_ret
            refine ⟨ret_bool ?_, hbw⟩
            unfold cnfTrueL
            rw [all_not HXK.out hcl]
            simp
        · go_wp2
          go_ret
          refine ⟨ret_bool ?_, hbw⟩
          have hkk : k = xs.length := by omega
          have h := HA.out
          rw [hkk, List.take_length] at h
          unfold cnfTrueL
          rw [h, hr]
          simp [HL.out]
    · have hne : ((asg.length : Int) != v) = true := by rw [bne_iff_ne]; exact hl
      have HF : Hid (cnfTrueL v xs asg = false) := by show cnfTrueL v xs asg = false; unfold cnfTrueL; simp [hl]
      have HL := Lib.hid hl
      clear hl
      go_enter Try.func33, Try.ntmps33
      go_wp2_with fail
      refine (scnfOk_any v A c xs _ ((HX.out.below (below1 _ _)).mono (by simp))).mono ?_
      rintro e w1 ⟨rfl, hb1⟩
      obtain ⟨hcell, hfroz⟩ := bcell hb1
      have hz := hb1.size
      simp only [World.size_alloc] at hz
      go_wp2
      all_goals first | (go_ret; exact ⟨ret_bool HF.out.symm, (below1 _ _).trans (hb1.mono (by simp))⟩) | (exfalso; exact HL.out (by assumption))


theorem inodeAsg_any (A : Option Addr) (c : Nat) (xs : List Int) (w : World) (hx : SlR intT w w.heap.size A xs) :
    Calls Try.prog 21 #[.slice A xs.length c] w fun e w' => ∃ A' c' F, e = .returned (.slice A' (nodeAsg xs).length c') ∧ SlO boolT w' A' c' (nodeAsg xs) F ∧ F.Nodup ∧ (∀ g ∈ F, w.heap.size ≤ g) ∧ Below w.heap.size w w' := by
  have hm := hx.1
  have HX := Lib.hid hx
  clear hx
  by_cases hl : xs.length ≤ 400
  · have HV : Hid (nodeAsg xs = boolsOf xs) := by show nodeAsg xs = _; unfold nodeAsg; rw [if_neg (by omega)]
    go_enter Try.func21, Try.ntmps21
    go_wp2
    go_loopw [3, 11] (fun u i wr => ∃ (k : Nat) (A' : Option Addr) (c' : Nat) (ys : List Bool) (F : List Nat), k ≤ xs.length ∧ i = .int .i64 k ∧ u = .slice A' ys.length c' ∧ SlO boolT wr A' c' ys F ∧ F.Nodup ∧ (∀ g ∈ F, w.heap.size ≤ g) ∧ Below w.heap.size w wr ∧ Hid (ys = boolsOf (xs.take k))) (fun _ i _ => xs.length - (intOf i).toNat)
    case atStart => exact ⟨0, none, 0, [], [], Nat.zero_le _, rfl, rfl, SlO.nil, List.nodup_nil, fun g hg => by simp at hg, Below.refl _ _, Lib.hid rfl⟩
    case round =>
      obtain ⟨k, A', c', ys, F, hk, rfl, rfl, hso, hnd, hge, hb, HYS⟩ := hrel
      have HSO := Lib.hid hso
      have HND := Lib.hid hnd
      have HGE := Lib.hid hge
      have hyl : ys.length = k := by rw [HYS.out]; simp [boolsOf]; omega
      have hyl' : ys.length ≤ 400 := by omega
      clear hso hnd hge hyl
      by_cases hlt : k < xs.length
      · obtain ⟨b1, o1, x, e1, -, hxk, hc1⟩ := (HX.out.below hb).int_at hlt
        have HXK := Lib.hid hxk
        clear hxk
        subst e1
        go_wp2_with (at_builtin; refine wpList_push1 rfl (.tmp 15) (.tmp 18) _ rfl inf_bool (by omega) rfl Try.underlying23 A' c' ys F rfl wr (.bool (x == 1)) _ rfl HSO.out HND.out rfl (x == 1) [] ⟨rfl, rfl⟩ List.nodup_nil (by simp) (by omega) ?_; intro A2 c2 F2 w2 hso2 hnd2 hmem2 ho2; have HSO2 := Lib.hid hso2; have HND2 := Lib.hid hnd2; have HM2 := Lib.hid hmem2; have HO2 := Lib.hid ho2; clear hso2 hnd2 hmem2 ho2)
        refine ⟨⟨k + 1, A2, c2, ys ++ [x == 1], F2, by omega, by go_num, by simp, HSO2.out, HND2.out, fun g hg => ?_, below_of_only hb hb.size HO2.out HGE.out, ?_⟩, by simp [intOf]; omega⟩
        · have := hb.size
          rcases HM2.out g hg with h | h | h
          · exact HGE.out g h
          · simp at h
          · omega
        · refine Lib.hid ?_
          rw [HYS.out, take_snoc HXK.out]
          simp [boolsOf]
      · go_wp2
        go_ret
        have hkk : k = xs.length := by omega
        have h := HYS.out
        rw [hkk, List.take_length] at h
        subst h
        rw [HV.out]
        exact ⟨A', c', F, rfl, HSO.out, HND.out, HGE.out, hb⟩
  · have hl' : (400 : Int) < (xs.length : Int) := by omega
    have HV : Hid (nodeAsg xs = []) := by show nodeAsg xs = _; unfold nodeAsg; rw [if_pos (by omega)]
    go_enter Try.func21, Try.ntmps21
    go_wp2
    go_ret
    rw [HV.out]
    exact ⟨none, 0, [], rfl, SlO.nil, List.nodup_nil, fun g hg => by simp at hg, Below.refl _ _⟩


theorem snodeAsg_any (A : Option Addr) (c : Nat) (xs : List Int) (w : World) (hx : SlR intT w w.heap.size A xs) :
    Calls Try.prog 20 #[.slice A xs.length c] w fun e w' => ∃ A' c' F, e = .returned (.slice A' (nodeAsg xs).length c') ∧ SlO boolT w' A' c' (nodeAsg xs) F ∧ F.Nodup ∧ (∀ g ∈ F, w.heap.size ≤ g) ∧ Below w.heap.size w w' := by
  have hm := hx.1
  have HX := Lib.hid hx
  clear hx
  by_cases hl : xs.length ≤ 400
  · have HV : Hid (nodeAsg xs = boolsOf xs) := by show nodeAsg xs = _; unfold nodeAsg; rw [if_neg (by omega)]
    go_enter Try.func20, Try.ntmps20
    go_wp2
    go_loopw [3, 4] (fun u i wr => ∃ (k : Nat) (A' : Option Addr) (c' : Nat) (ys : List Bool) (F : List Nat), k ≤ xs.length ∧ i = .int .i64 k ∧ u = .slice A' ys.length c' ∧ SlO boolT wr A' c' ys F ∧ F.Nodup ∧ (∀ g ∈ F, w.heap.size ≤ g) ∧ Below w.heap.size w wr ∧ Hid (ys = boolsOf (xs.take k))) (fun _ i _ => xs.length - (intOf i).toNat)
    case atStart => exact ⟨0, some ⟨w.heap.size, 0, none⟩, 0, [], [w.heap.size], Nat.zero_le _, rfl, rfl, SlO.made0 _ _, by simp, by simp, below1 _ _, Lib.hid rfl⟩
    case round =>
      obtain ⟨k, A', c', ys, F, hk, rfl, rfl, hso, hnd, hge, hb, HYS⟩ := hrel
      have HSO := Lib.hid hso
      have HND := Lib.hid hnd
      have HGE := Lib.hid hge
      have hyl : ys.length = k := by rw [HYS.out]; simp [boolsOf]; omega
      have hyl' : ys.length ≤ 400 := by omega
      clear hso hnd hge hyl
      by_cases hlt : k < xs.length
      · obtain ⟨b1, o1, x, e1, -, hxk, hc1⟩ := (HX.out.below hb).int_at hlt
        have HXK := Lib.hid hxk
        clear hxk
        subst e1
        go_wp2_with (at_builtin; refine wpList_push1 rfl (.tmp 16) (.tmp 22) _ rfl inf_bool (by omega) rfl Try.underlying23 A' c' ys F rfl wr (.bool (x == 1)) _ rfl HSO.out HND.out rfl (x == 1) [] ⟨rfl, rfl⟩ List.nodup_nil (by simp) (by omega) ?_; intro A2 c2 F2 w2 hso2 hnd2 hmem2 ho2; have HSO2 := Lib.hid hso2; have HND2 := Lib.hid hnd2; have HM2 := Lib.hid hmem2; have HO2 := Lib.hid ho2; clear hso2 hnd2 hmem2 ho2)
        refine ⟨⟨k + 1, A2, c2, ys ++ [x == 1], F2, by omega, by go_num, by simp, HSO2.out, HND2.out, fun g hg => ?_, below_of_only hb hb.size HO2.out HGE.out, ?_⟩, by simp [intOf]; omega⟩
        · have := hb.size
          rcases HM2.out g hg with h | h | h
          · exact HGE.out g h
          · simp at h
          · omega
        · refine Lib.hid ?_
          rw [HYS.out, take_snoc HXK.out]
          simp [boolsOf]
      · go_wp2
        go_ret
        have hkk : k = xs.length := by omega
        have h := HYS.out
        rw [hkk, List.take_length] at h
        subst h
        rw [HV.out]
        exact ⟨A', c', F, rfl, HSO.out, HND.out, HGE.out, hb⟩
  · have hl' : (400 : Int) < (xs.length : Int) := by omega
    have HV : Hid (nodeAsg xs = []) := by show nodeAsg xs = _; unfold nodeAsg; rw [if_pos (by omega)]
    go_enter Try.func20, Try.ntmps20
    go_wp2
    go_ret
    rw [HV.out]
    exact ⟨some ⟨w.heap.size, 0, none⟩, 0, [w.heap.size], rfl, SlO.made0 _ _, by simp, by simp, below1 _ _⟩


end Go.Proofs.Ytbmapbbjbdpbcaa
