/-
  Contracts of the functions on clauses and formulas. Written by mk_cnf.py.
  Conditions: those typed in each theorem.
-/
import Derived.Test.YtbmapbbjbdpbcaaExC
namespace Go.Proofs.Ytbmapbbjbdpbcaa
open Go.RowKit Go.ChangeShapes Go.WideShapes

def rng (n lo hi : Int) : Bool := decide (lo ≤ n) && decide (n ≤ hi)
theorem rng_iff {n lo hi : Int} : rng n lo hi = true ↔ lo ≤ n ∧ n ≤ hi := by simp [rng]
theorem rng_not {n lo hi : Int} : rng n lo hi = false ↔ n < lo ∨ hi < n := by
  rw [Bool.eq_false_iff, ne_eq, rng_iff]; omega
/-- What holds of the first k and of the next one holds of the first k + 1. -/
theorem all_snoc {α : Type} {xs : List α} {p : α → Bool} {k : Nat} {x : α} (hx : xs[k]? = some x) : (xs.take (k + 1)).all p = ((xs.take k).all p && p x) := by
  rw [take_snoc hx]; simp
theorem any_snoc {α : Type} {xs : List α} {p : α → Bool} {k : Nat} {x : α} (hx : xs[k]? = some x) : (xs.take (k + 1)).any p = ((xs.take k).any p || p x) := by
  rw [take_snoc hx]; simp
theorem all_not {α : Type} {xs : List α} {p : α → Bool} {k : Nat} {x : α} (hx : xs[k]? = some x) (h : p x = false) : xs.all p = false := by
  rw [Bool.eq_false_iff, ne_eq, List.all_eq_true]
  intro hh
  have := hh x (List.mem_of_getElem? hx)
  rw [h] at this
  cases this
theorem any_of {α : Type} {xs : List α} {p : α → Bool} {k : Nat} {x : α} (hx : xs[k]? = some x) (h : p x = true) : xs.any p = true :=
  List.any_eq_true.2 ⟨x, List.mem_of_getElem? hx, h⟩

def litOk (v l : Int) : Bool := !(l == 0) && rng l (-v) v
def clauseOkL (v : Int) (cl : List Int) : Bool := decide (cl.length ≤ 400) && cl.all (litOk v)
def cnfOkL (v : Int) (cls : List (List Int)) : Bool := rng v 0 400 && decide (cls.length ≤ 1600) && cls.all (clauseOkL v)
def litTrue (asg : List Bool) (x : Int) : Bool := if 0 < x then asg[(x - 1).toNat]? == some true else if x < 0 then asg[(-x - 1).toNat]? == some false else false
def clauseTrueL (asg : List Bool) (cl : List Int) : Bool := cl.any (litTrue asg)
def cnfTrueL (v : Int) (cls : List (List Int)) (asg : List Bool) : Bool := cnfOkL v cls && decide ((asg.length : Int) = v) && cls.all (clauseTrueL asg)
theorem clauseOk_of_cnf {v : Int} {cls : List (List Int)} (h : cnfOkL v cls = true) : 0 ≤ v ∧ v ≤ 400 := by
  unfold cnfOkL at h
  simp only [Bool.and_eq_true] at h
  exact rng_iff.1 h.1.1

theorem lin_any (n lo hi : Int) (w : World) :
    Calls Try.prog 55 #[.int .i64 n, .int .i64 lo, .int .i64 hi] w fun e w' => e = .returned (.bool (rng n lo hi)) ∧ w = w' := by
  by_cases h1 : lo ≤ n
  · go_enter Try.func55, Try.ntmps55
    go_wp2
    go_ret
    exact ⟨ret_bool (by simp [rng, h1]), rfl⟩
  · have h1' : n < lo := by omega
    go_enter Try.func55, Try.ntmps55
    go_wp2
    go_ret
    exact ⟨ret_bool (by simp [rng]; omega), rfl⟩

theorem inr_any (n lo hi : Int) (w : World) :
    Calls Try.prog 53 #[.int .i64 n, .int .i64 lo, .int .i64 hi] w fun e w' => e = .returned (.bool (rng n lo hi)) ∧ w = w' := by
  by_cases h1 : lo ≤ n
  · go_enter Try.func53, Try.ntmps53
    go_wp2
    go_ret
    exact ⟨ret_bool (by simp [rng, h1]), rfl⟩
  · have h1' : n < lo := by omega
    go_enter Try.func53, Try.ntmps53
    go_wp2
    go_ret
    exact ⟨ret_bool (by simp [rng]; omega), rfl⟩


theorem iclauseOk_any (v : Int) (A : Option Addr) (c : Nat) (cl : List Int) (w : World) (hx : SlR intT w w.heap.size A cl) (hv : 0 ≤ v ∧ v ≤ 400) :
    Calls Try.prog 54 #[.slice A cl.length c, .int .i64 v] w fun e w' => e = .returned (.bool (clauseOkL v cl)) ∧ w = w' := by
  have hm := hx.1
  have HX := Lib.hid hx
  clear hx
  by_cases hl : cl.length ≤ 400
  · go_enter Try.func54, Try.ntmps54
    go_wp2
    go_loop [12] (fun i => ∃ k : Nat, k ≤ cl.length ∧ i = .int .i64 k ∧ Hid ((cl.take k).all (litOk v) = true)) (fun i => cl.length - (intOf i).toNat)
    case atStart => exact ⟨0, Nat.zero_le _, rfl, Lib.hid rfl⟩
    case round =>
      obtain ⟨k, hk, rfl, HA⟩ := hrel
      by_cases hlt : k < cl.length
      · obtain ⟨b1, o1, x, e1, -, hxk, hc1⟩ := HX.out.int_at hlt
        have HXK := Lib.hid hxk
        clear hxk
        subst e1
        by_cases hx0 : x = 0
        · subst hx0
          go_wp2
          go_ret
          refine ⟨ret_bool ?_, rfl⟩
          unfold clauseOkL
          rw [all_not HXK.out (by simp [litOk])]
          simp
        · have hx0' : (x == 0) = false := beq_eq_false_iff_ne.2 hx0
          have HX0 := Lib.hid hx0'
          cases hr : rng x (-v) v with
          | true =>
            go_wp2_with (go_at_call 53; refine (inr_any _ _ _ _).mono ?_; rintro e w' ⟨rfl, rfl⟩)
            refine ⟨⟨k + 1, by omega, by go_num, ?_⟩, by simp [intOf]; omega⟩
            refine Lib.hid ?_
            rw [all_snoc HXK.out, HA.out]
            simp [litOk, hx0, hr]
          | false =>
            go_wp2_with (go_at_call 53; refine (inr_any _ _ _ _).mono ?_; rintro e w' ⟨rfl, rfl⟩)
            go_ret
            refine ⟨ret_bool ?_, rfl⟩
            unfold clauseOkL
            rw [all_not HXK.out (by simp [litOk, hr])]
            simp
      · go_wp2
        go_ret
        refine ⟨ret_bool ?_, rfl⟩
        have hkk : k = cl.length := by omega
        have h := HA.out
        rw [hkk, List.take_length] at h
        unfold clauseOkL
        rw [h]
        simp [hl]
  · have hl' : (400 : Int) < (cl.length : Int) := by omega
    go_enter Try.func54, Try.ntmps54
    go_wp2
    go_ret
    refine ⟨ret_bool ?_, rfl⟩
    unfold clauseOkL
    simp [hl]


theorem sclauseOk_any (v : Int) (A : Option Addr) (c : Nat) (cl : List Int) (w : World) (hx : SlR intT w w.heap.size A cl) (hv : 0 ≤ v ∧ v ≤ 400) :
    Calls Try.prog 56 #[.int .i64 v, .slice A cl.length c] w fun e w' => e = .returned (.bool (clauseOkL v cl)) ∧ w = w' := by
  have hm := hx.1
  have HX := Lib.hid hx
  clear hx
  by_cases hl : cl.length ≤ 400
  · go_enter Try.func56, Try.ntmps56
    go_wp2
    go_loop [5] (fun i => ∃ k : Nat, k ≤ cl.length ∧ i = .int .i64 k ∧ Hid ((cl.take k).all (litOk v) = true)) (fun i => cl.length - (intOf i).toNat)
    case atStart => exact ⟨0, Nat.zero_le _, rfl, Lib.hid rfl⟩
    case round =>
      obtain ⟨k, hk, rfl, HA⟩ := hrel
      by_cases hlt : k < cl.length
      · obtain ⟨b1, o1, x, e1, -, hxk, hc1⟩ := HX.out.int_at hlt
        have HXK := Lib.hid hxk
        clear hxk
        subst e1
        by_cases hx0 : x = 0
        · subst hx0
          go_wp2
          go_ret
          refine ⟨ret_bool ?_, rfl⟩
          unfold clauseOkL
          rw [all_not HXK.out (by simp [litOk])]
          simp
        · have hx0' : (x == 0) = false := beq_eq_false_iff_ne.2 hx0
          have HX0 := Lib.hid hx0'
          cases hr : rng x (-v) v with
          | true =>
            go_wp2_with (go_at_call 55; refine (lin_any _ _ _ _).mono ?_; rintro e w' ⟨rfl, rfl⟩)
            refine ⟨⟨k + 1, by omega, by go_num, ?_⟩, by simp [intOf]; omega⟩
            refine Lib.hid ?_
            rw [all_snoc HXK.out, HA.out]
            simp [litOk, hx0, hr]
          | false =>
            go_wp2_with (go_at_call 55; refine (lin_any _ _ _ _).mono ?_; rintro e w' ⟨rfl, rfl⟩)
            go_ret
            refine ⟨ret_bool ?_, rfl⟩
            unfold clauseOkL
            rw [all_not HXK.out (by simp [litOk, hr])]
            simp
      · go_wp2
        go_ret
        refine ⟨ret_bool ?_, rfl⟩
        have hkk : k = cl.length := by omega
        have h := HA.out
        rw [hkk, List.take_length] at h
        unfold clauseOkL
        rw [h]
        simp [hl]
  · have hl' : (400 : Int) < (cl.length : Int) := by omega
    go_enter Try.func56, Try.ntmps56
    go_wp2
    go_ret
    refine ⟨ret_bool ?_, rfl⟩
    unfold clauseOkL
    simp [hl]


set_option maxHeartbeats 800000 in
theorem iclauseTrue_any (A B : Option Addr) (c d : Nat) (cl : List Int) (asg : List Bool) (w : World) (hx : SlR intT w w.heap.size A cl) (hy : SlR boolT w w.heap.size B asg) :
    Calls Try.prog 17 #[.slice A cl.length c, .slice B asg.length d] w fun e w' => e = .returned (.bool (clauseTrueL asg cl)) ∧ w = w' := by
  have hm := hx.1
  have hn := hy.1
  have HX := Lib.hid hx
  have HY := Lib.hid hy
  clear hx hy
  go_enter Try.func17, Try.ntmps17
  go_wp2
  go_loop [9] (fun i => ∃ k : Nat, k ≤ cl.length ∧ i = .int .i64 k ∧ Hid ((cl.take k).any (litTrue asg) = false)) (fun i => cl.length - (intOf i).toNat)
  case atStart => exact ⟨0, Nat.zero_le _, rfl, Lib.hid rfl⟩
  case round =>
    obtain ⟨k, hk, rfl, HA⟩ := hrel
    by_cases hlt : k < cl.length
    · obtain ⟨b1, o1, x, e1, -, hxk, hc1⟩ := HX.out.int_at hlt
      have HXK := Lib.hid hxk
      clear hxk
      subst e1
      have goon : litTrue asg x = false → Hid ((cl.take (k + 1)).any (litTrue asg) = false) := fun h => Lib.hid (by rw [any_snoc HXK.out, HA.out, h]; rfl)
      have stop : litTrue asg x = true → Ending.returned (.bool true) = Ending.returned (.bool (clauseTrueL asg cl)) := fun h => ret_bool (any_of HXK.out h).symm
      have GO := Lib.hid goon
      have ST := Lib.hid stop
      clear goon stop
      by_cases hp : 0 < x
      · obtain ⟨m, rfl⟩ : ∃ m : Nat, x = (m : Int) + 1 := ⟨(x - 1).toNat, by omega⟩
        by_cases hml : m < asg.length
        · obtain ⟨b2, o2, y, e2, -, hyk, hc2⟩ := HY.out.bool_at hml
          have hv : litTrue asg ((m : Int) + 1) = y := by
            unfold litTrue
            rw [if_pos hp, show ((m : Int) + 1 - 1).toNat = m from by omega, hyk]
            cases y <;> rfl
          have HV := Lib.hid hv
          clear hyk hv
          subst e2
          cases y with
          | true =>
            go_wp2
            go_ret
            exact ⟨ST.out HV.out, rfl⟩
          | false =>
            go_wp2
            exact ⟨⟨k + 1, by omega, by go_num, GO.out HV.out⟩, by simp [intOf]; omega⟩
        · have hv : litTrue asg ((m : Int) + 1) = false := by
            unfold litTrue
            rw [if_pos hp, show ((m : Int) + 1 - 1).toNat = m from by omega, List.getElem?_eq_none (by omega)]
            rfl
          have HV := Lib.hid hv
          have hgt : (asg.length : Int) < (m : Int) + 1 := by omega
          clear hv
          go_wp2
          exact ⟨⟨k + 1, by omega, by go_num, GO.out HV.out⟩, by simp [intOf]; omega⟩
      · by_cases hng : x < 0
        · obtain ⟨m, rfl⟩ : ∃ m : Nat, x = -((m : Int) + 1) := ⟨(-x - 1).toNat, by omega⟩
          by_cases hml : m < asg.length
          · obtain ⟨b2, o2, y, e2, -, hyk, hc2⟩ := HY.out.bool_at hml
            have hv : litTrue asg (-((m : Int) + 1)) = !y := by
              unfold litTrue
              rw [if_neg hp, if_pos hng, show (- -((m : Int) + 1) - 1).toNat = m from by omega, hyk]
              cases y <;> rfl
            have HV := Lib.hid hv
            have hle : -(asg.length : Int) ≤ -((m : Int) + 1) := by omega
            clear hyk hv
            subst e2
            cases y with
            | false =>
              go_wp2
              go_ret
              exact ⟨ST.out HV.out, rfl⟩
            | true =>
              go_wp2
              exact ⟨⟨k + 1, by omega, by go_num, GO.out HV.out⟩, by simp [intOf]; omega⟩
          · have hv : litTrue asg (-((m : Int) + 1)) = false := by
              unfold litTrue
              rw [if_neg hp, if_pos hng, show (- -((m : Int) + 1) - 1).toNat = m from by omega, List.getElem?_eq_none (by omega)]
              rfl
            have HV := Lib.hid hv
            have hgt : -((m : Int) + 1) < -(asg.length : Int) := by omega
            clear hv
            go_wp2
            exact ⟨⟨k + 1, by omega, by go_num, GO.out HV.out⟩, by simp [intOf]; omega⟩
        · have hx0 : x = 0 := by omega
          subst hx0
          have hv : litTrue asg 0 = false := by simp [litTrue]
          have HV := Lib.hid hv
          clear hv hp hng
          go_wp2
          exact ⟨⟨k + 1, by omega, by go_num, GO.out HV.out⟩, by simp [intOf]; omega⟩
    · go_wp2
      go_ret
      refine ⟨ret_bool ?_, rfl⟩
      have hkk : k = cl.length := by omega
      have h := HA.out
      rw [hkk, List.take_length] at h
      exact h.symm


set_option maxHeartbeats 800000 in
theorem sclauseTrue_any (A B : Option Addr) (c d : Nat) (cl : List Int) (asg : List Bool) (w : World) (hx : SlR intT w w.heap.size A cl) (hy : SlR boolT w w.heap.size B asg) :
    Calls Try.prog 14 #[.slice A cl.length c, .slice B asg.length d] w fun e w' => e = .returned (.bool (clauseTrueL asg cl)) ∧ w = w' := by
  have hm := hx.1
  have hn := hy.1
  have HX := Lib.hid hx
  have HY := Lib.hid hy
  clear hx hy
  go_enter Try.func14, Try.ntmps14
  go_wp2
  go_loop [5] (fun i => ∃ k : Nat, k ≤ cl.length ∧ i = .int .i64 k ∧ Hid ((cl.take k).any (litTrue asg) = false)) (fun i => cl.length - (intOf i).toNat)
  case atStart => exact ⟨0, Nat.zero_le _, rfl, Lib.hid rfl⟩
  case round =>
    obtain ⟨k, hk, rfl, HA⟩ := hrel
    by_cases hlt : k < cl.length
    · obtain ⟨b1, o1, x, e1, -, hxk, hc1⟩ := HX.out.int_at hlt
      have HXK := Lib.hid hxk
      clear hxk
      subst e1
      have goon : litTrue asg x = false → Hid ((cl.take (k + 1)).any (litTrue asg) = false) := fun h => Lib.hid (by rw [any_snoc HXK.out, HA.out, h]; rfl)
      have stop : litTrue asg x = true → Ending.returned (.bool true) = Ending.returned (.bool (clauseTrueL asg cl)) := fun h => ret_bool (any_of HXK.out h).symm
      have GO := Lib.hid goon
      have ST := Lib.hid stop
      clear goon stop
      by_cases hp : 0 < x
      · obtain ⟨m, rfl⟩ : ∃ m : Nat, x = (m : Int) + 1 := ⟨(x - 1).toNat, by omega⟩
        by_cases hml : m < asg.length
        · obtain ⟨b2, o2, y, e2, -, hyk, hc2⟩ := HY.out.bool_at hml
          have hv : litTrue asg ((m : Int) + 1) = y := by
            unfold litTrue
            rw [if_pos hp, show ((m : Int) + 1 - 1).toNat = m from by omega, hyk]
            cases y <;> rfl
          have HV := Lib.hid hv
          clear hyk hv
          subst e2
          cases y with
          | true =>
            go_wp2
            go_ret
            exact ⟨ST.out HV.out, rfl⟩
          | false =>
            go_wp2
            exact ⟨⟨k + 1, by omega, by go_num, GO.out HV.out⟩, by simp [intOf]; omega⟩
        · have hv : litTrue asg ((m : Int) + 1) = false := by
            unfold litTrue
            rw [if_pos hp, show ((m : Int) + 1 - 1).toNat = m from by omega, List.getElem?_eq_none (by omega)]
            rfl
          have HV := Lib.hid hv
          have hgt : (asg.length : Int) < (m : Int) + 1 := by omega
          clear hv
          go_wp2
          exact ⟨⟨k + 1, by omega, by go_num, GO.out HV.out⟩, by simp [intOf]; omega⟩
      · by_cases hng : x < 0
        · obtain ⟨m, rfl⟩ : ∃ m : Nat, x = -((m : Int) + 1) := ⟨(-x - 1).toNat, by omega⟩
          by_cases hml : m < asg.length
          · obtain ⟨b2, o2, y, e2, -, hyk, hc2⟩ := HY.out.bool_at hml
            have hv : litTrue asg (-((m : Int) + 1)) = !y := by
              unfold litTrue
              rw [if_neg hp, if_pos hng, show (- -((m : Int) + 1) - 1).toNat = m from by omega, hyk]
              cases y <;> rfl
            have HV := Lib.hid hv
            have hle : -(asg.length : Int) ≤ -((m : Int) + 1) := by omega
            clear hyk hv
            subst e2
            cases y with
            | false =>
              go_wp2
              go_ret
              exact ⟨ST.out HV.out, rfl⟩
            | true =>
              go_wp2
              exact ⟨⟨k + 1, by omega, by go_num, GO.out HV.out⟩, by simp [intOf]; omega⟩
          · have hv : litTrue asg (-((m : Int) + 1)) = false := by
              unfold litTrue
              rw [if_neg hp, if_pos hng, show (- -((m : Int) + 1) - 1).toNat = m from by omega, List.getElem?_eq_none (by omega)]
              rfl
            have HV := Lib.hid hv
            have hgt : -((m : Int) + 1) < -(asg.length : Int) := by omega
            clear hv
            go_wp2
            exact ⟨⟨k + 1, by omega, by go_num, GO.out HV.out⟩, by simp [intOf]; omega⟩
        · have hx0 : x = 0 := by omega
          subst hx0
          have hv : litTrue asg 0 = false := by simp [litTrue]
          have HV := Lib.hid hv
          clear hv hp hng
          go_wp2
          exact ⟨⟨k + 1, by omega, by go_num, GO.out HV.out⟩, by simp [intOf]; omega⟩
    · go_wp2
      go_ret
      refine ⟨ret_bool ?_, rfl⟩
      have hkk : k = cl.length := by omega
      have h := HA.out
      rw [hkk, List.take_length] at h
      exact h.symm


end Go.Proofs.Ytbmapbbjbdpbcaa
