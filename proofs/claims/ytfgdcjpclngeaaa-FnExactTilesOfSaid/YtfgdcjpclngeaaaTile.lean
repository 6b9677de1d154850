/-
  Contracts of the functions of the device, its tiles and its routing node numbers: what each returns, said by plain functions of integers.
  Conditions: those typed in each theorem.
-/
import Derived.Test.YtfgdcjpclngeaaaBase
namespace Go.Proofs.Ytfgdcjpclngeaaa
open Go.RowKit

/-- After a callee that only made memory: the old cells read as they did. -/
theorem bcell {B : Nat} {w w1 : World} (hb : Below B w w1) : (∀ b o, b < B → w1.cell? ⟨b, o, none⟩ = w.cell? ⟨b, o, none⟩) ∧ (∀ b o, b < B → w1.frozen? ⟨b, o, none⟩ = w.frozen? ⟨b, o, none⟩) :=
  ⟨fun b o h => hb.cell (p := ⟨b, o, none⟩) h, fun b o h => hb.frozen (p := ⟨b, o, none⟩) h⟩
def rng (n lo hi : Int) : Bool := decide (lo ≤ n) && decide (n ≤ hi)
abbrev devV (a b c d : Int) : Value := .agg #[.int .i64 a, .int .i64 b, .int .i64 c, .int .i64 d]
def devOk (a b c d : Int) : Bool := rng a 3 6 && rng b 3 6 && rng c 1 4 && (d == -1 || rng d 1 (a - 2))
theorem rng_iff {n lo hi : Int} : rng n lo hi = true ↔ lo ≤ n ∧ n ≤ hi := by simp [rng]
theorem rng_not {n lo hi : Int} : rng n lo hi = false ↔ n < lo ∨ hi < n := by
  rw [Bool.eq_false_iff, ne_eq, rng_iff]; omega
theorem devOk_iff {a b c d : Int} : devOk a b c d = true ↔ ((3 ≤ a ∧ a ≤ 6) ∧ (3 ≤ b ∧ b ≤ 6) ∧ (1 ≤ c ∧ c ≤ 4)) ∧ (d = -1 ∨ (1 ≤ d ∧ d ≤ a - 2)) := by
  simp [devOk, rng_iff, and_assoc]
theorem area_of {a b : Int} (ha : 3 ≤ a ∧ a ≤ 6) (hb : 3 ≤ b ∧ b ≤ 6) : 9 ≤ a * b ∧ a * b ≤ 36 := by
  have h1 : (3 : Int) * 3 ≤ a * b := Int.mul_le_mul ha.1 hb.1 (by omega) (by omega)
  have h2 : a * b ≤ 6 * 6 := Int.mul_le_mul ha.2 hb.2 (by omega) (by omega)
  omega
def tkind (a b d t : Int) : Int := if t % a = 0 ∨ t % a = a - 1 ∨ t / a = 0 ∨ t / a = b - 1 then 0 else if t % a = d then 2 else 1
def tkAll (a b c d t : Int) : Int := if devOk a b c d && rng t 0 (a * b - 1) then tkind a b d t else -1
def perOf (c : Int) : Int := 7 + 4 * c
def routeAll (a b c d : Int) : Int := if devOk a b c d = true then a * b * perOf c else 0
def outPinsOf (k : Int) : Int := if k = 0 ∨ k = 2 then 1 else if k = 1 then 2 else 0
def inPinsOf (k : Int) : Int := if k = 0 then 1 else if k = 1 then 5 else if k = 2 then 4 else 0
def litVarOf (l : Int) : Int := if l < 0 ∨ 800 < l then 0 else if l % 2 = 1 then -(l / 2 + 1) else l / 2 + 1

theorem lin_any (n lo hi : Int) (w : World) :
    Calls Try.prog 23 #[.int .i64 n, .int .i64 lo, .int .i64 hi] w fun e w' => e = .returned (.bool (rng n lo hi)) ∧ w = w' := by
  by_cases h1 : lo ≤ n
  · go_enter Try.func23, Try.ntmps23
    go_wp2
    go_ret
    exact ⟨ret_bool (by simp [rng, h1]), rfl⟩
  · have h1' : n < lo := by omega
    go_enter Try.func23, Try.ntmps23
    go_wp2
    go_ret
    exact ⟨ret_bool (by simp [rng]; omega), rfl⟩

theorem inr_any (n lo hi : Int) (w : World) :
    Calls Try.prog 24 #[.int .i64 n, .int .i64 lo, .int .i64 hi] w fun e w' => e = .returned (.bool (rng n lo hi)) ∧ w = w' := by
  by_cases h1 : lo ≤ n
  · go_enter Try.func24, Try.ntmps24
    go_wp2
    go_ret
    exact ⟨ret_bool (by simp [rng, h1]), rfl⟩
  · have h1' : n < lo := by omega
    go_enter Try.func24, Try.ntmps24
    go_wp2
    go_ret
    exact ⟨ret_bool (by simp [rng]; omega), rfl⟩

theorem sdev_any (a b c d : Int) (w : World) :
    Calls Try.prog 31 #[devV a b c d] w fun e w' => e = .returned (.bool (devOk a b c d)) ∧ Below w.heap.size w w' := by
  by_cases ha : rng a 3 6 = true
  · have hab := rng_iff.1 ha
    go_enter Try.func31, Try.ntmps31
    go_wp2_with (go_at_call 23; refine (lin_any _ _ _ _).mono ?_; rintro e w' ⟨rfl, rfl⟩)
    all_goals go_ret
    all_goals exact ⟨ret_bool (by simp_all [devOk]), below1 _ _⟩
  · go_enter Try.func31, Try.ntmps31
    go_wp2_with (go_at_call 23; refine (lin_any _ _ _ _).mono ?_; rintro e w' ⟨rfl, rfl⟩)
    all_goals go_ret
    all_goals exact ⟨ret_bool (by simp_all [devOk]), below1 _ _⟩

theorem idev_any (a b c d : Int) (w : World) :
    Calls Try.prog 32 #[devV a b c d] w fun e w' => e = .returned (.bool (devOk a b c d)) ∧ Below w.heap.size w w' := by
  by_cases ha : rng a 3 6 = true
  · have hab := rng_iff.1 ha
    go_enter Try.func32, Try.ntmps32
    go_wp2_with (go_at_call 24; refine (inr_any _ _ _ _).mono ?_; rintro e w' ⟨rfl, rfl⟩)
    all_goals go_ret
    all_goals exact ⟨ret_bool (by simp_all [devOk]), below1 _ _⟩
  · go_enter Try.func32, Try.ntmps32
    go_wp2_with (go_at_call 24; refine (inr_any _ _ _ _).mono ?_; rintro e w' ⟨rfl, rfl⟩)
    all_goals go_ret
    all_goals exact ⟨ret_bool (by simp_all [devOk]), below1 _ _⟩

theorem todev_any (a b c d : Int) (w : World) :
    Calls Try.prog 8 #[devV a b c d] w fun e w' => e = .returned (devV a b c d) ∧ Below w.heap.size w w' := by
  go_enter Try.func8, Try.ntmps8
  go_wp2
  go_returns
  refine ⟨rfl, ?_⟩
  go_grown

theorem sout_any (k : Int) (w : World) :
    Calls Try.prog 26 #[.int .i64 k] w fun e w' => e = .returned (.int .i64 (outPinsOf k)) ∧ w = w' := by
  go_enter Try.func26, Try.ntmps26
  go_wp2
  all_goals go_ret
  all_goals exact ⟨ret_int (by simp_all [outPinsOf]), rfl⟩

theorem iout_any (k : Int) (w : World) :
    Calls Try.prog 28 #[.int .i64 k] w fun e w' => e = .returned (.int .i64 (outPinsOf k)) ∧ w = w' := by
  go_enter Try.func28, Try.ntmps28
  go_wp2
  all_goals go_ret
  all_goals exact ⟨ret_int (by simp_all [outPinsOf]), rfl⟩

theorem sper_any (a b c d : Int) (hc : 1 ≤ c ∧ c ≤ 4) (w : World) :
    Calls Try.prog 27 #[devV a b c d] w fun e w' => e = .returned (.int .i64 (perOf c)) ∧ Below w.heap.size w w' := by
  go_enter Try.func27, Try.ntmps27
  go_wp2
  go_ret
  exact ⟨rfl, below1 _ _⟩

theorem iper_any (a b c d : Int) (hc : 1 ≤ c ∧ c ≤ 4) (w : World) :
    Calls Try.prog 30 #[devV a b c d] w fun e w' => e = .returned (.int .i64 (perOf c)) ∧ Below w.heap.size w w' := by
  go_enter Try.func30, Try.ntmps30
  go_wp2
  go_ret
  exact ⟨rfl, below1 _ _⟩

theorem tok_any (a b c d t : Int) (w : World) :
    Calls Try.prog 21 #[devV a b c d, .int .i64 t] w fun e w' => e = .returned (.bool (devOk a b c d && rng t 0 (a * b - 1))) ∧ Below w.heap.size w w' := by
  cases h : devOk a b c d with
  | false =>
    go_enter Try.func21, Try.ntmps21
    go_wp2_with (go_at_call 32; refine (idev_any _ _ _ _ _).mono ?_; rintro e w' ⟨rfl, hb1⟩)
    go_ret
    exact ⟨rfl, (below1 _ _).trans (hb1.mono (by simp))⟩
  | true =>
    obtain ⟨⟨ha, hb, hc⟩, hd⟩ := devOk_iff.1 h
    have hab := area_of ha hb
    go_enter Try.func21, Try.ntmps21
    go_wp2_with (first | (go_at_call 32; refine (idev_any _ _ _ _ _).mono ?_; rintro e w1 ⟨rfl, hb1⟩; obtain ⟨hcell, hfroz⟩ := bcell hb1) | (go_at_call 24; refine (inr_any _ _ _ _).mono ?_; rintro e w2 ⟨rfl, rfl⟩))
    go_ret
    exact ⟨rfl, (below1 _ _).trans (hb1.mono (by simp))⟩

end Go.Proofs.Ytfgdcjpclngeaaa
