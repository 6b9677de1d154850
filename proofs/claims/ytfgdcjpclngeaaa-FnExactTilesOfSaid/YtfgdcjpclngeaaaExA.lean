/-
  Contracts of the laws' helpers over []int and []bool: copies, comparisons, sizes, marks. Written by mk_ex.py.
  Conditions: those typed in each theorem.
-/
import Derived.Test.YtfgdcjpclngeaaaMem
namespace Go.Proofs.Ytfgdcjpclngeaaa
open Go.RowKit Go.ChangeShapes Go.WideShapes

theorem below_drewN {B : Nat} {a w : World} (h : Below B a w) (n : Nat) : Below B a (w.drewN n) := ⟨h.os, h.tape, h.output, h.size, h.block⟩
theorem same_until {α : Type} {xs ys : List α} (hl : xs.length = ys.length) (h : ∀ i, i < xs.length → xs[i]? = ys[i]?) : xs = ys := by
  apply List.ext_getElem?
  intro i
  by_cases hi : i < xs.length
  · exact h i hi
  · rw [List.getElem?_eq_none (by omega), List.getElem?_eq_none (by omega)]
/-- The marks: k, k + 1, .. -/
def mkInts (k : Int) (n : Nat) : List Int := (List.range n).map fun i => k + (i : Nat)
def mkBools (k : Int) (n : Nat) : List Bool := (List.range n).map fun i => ((k + (i : Nat)) % 3 == 0)
theorem mkInts_len (k : Int) (n : Nat) : (mkInts k n).length = n := by simp [mkInts]
theorem mkBools_len (k : Int) (n : Nat) : (mkBools k n).length = n := by simp [mkBools]
theorem mkInts_at (k : Int) {n i : Nat} (h : i < n) : (mkInts k n)[i]? = some (k + (i : Nat)) := by simp [mkInts, h]
theorem mkBools_at (k : Int) {n i : Nat} (h : i < n) : (mkBools k n)[i]? = some (((k + (i : Nat)) % 3 == 0)) := by simp [mkBools, h]
/-- One more place is set. -/
theorem set_step {α : Type} {xs ms : List α} {k : Nat} {x : α} (hl : ms.length = xs.length) (hk : k < xs.length) (hx : ms[k]? = some x) :
    (ms.take k ++ xs.drop k).set k x = ms.take (k + 1) ++ xs.drop (k + 1) := by
  have hmk : ms[k]'(by omega) = x := by
    rw [List.getElem?_eq_getElem (by omega)] at hx
    exact Option.some.inj hx
  have ht : (ms.take k).length = k := by simp; omega
  rw [List.take_succ_eq_append_getElem (by omega), List.drop_eq_getElem_cons hk, hmk, List.set_append_right _ _ (by omega), ht]
  simp [-List.getElem_cons_drop]
theorem take_snoc {α : Type} {xs : List α} {k : Nat} {x : α} (hx : xs[k]? = some x) : xs.take (k + 1) = xs.take k ++ [x] := by
  obtain ⟨hk, rfl⟩ := List.getElem?_eq_some_iff.1 hx
  exact List.take_succ_eq_append_getElem hk


set_option maxHeartbeats 400000 in
theorem eqIntS_any (A B : Option Addr) (c d : Nat) (xs ys : List Int) (w : World) (hx : SlR intT w w.heap.size A xs) (hy : SlR intT w w.heap.size B ys) :
    Calls Try.prog 16 #[.slice A xs.length c, .slice B ys.length d] w fun e w' => e = .returned (.bool (same xs ys)) ∧ Below w.heap.size w w' := by
  have hmx := hx.1
  have hmy := hy.1
  have HX := Lib.hid hx
  have HY := Lib.hid hy
  clear hx hy
  by_cases hl : xs.length = ys.length
  · have HL := Lib.hid hl
    rw [← hl]
    clear hl
    go_enter Try.func16, Try.ntmps16
    go_wp2
    go_loopw [5] (fun i wr => ∃ k : Nat, k ≤ xs.length ∧ i = .int .i64 k ∧ Below w.heap.size w wr ∧ ∀ j, j < k → xs[j]? = ys[j]?) (fun i _ => xs.length - (intOf i).toNat)
    case atStart => exact ⟨0, Nat.zero_le _, rfl, Below.refl _ _, fun j hj => absurd hj (by omega)⟩
    case round =>
      obtain ⟨k, hk, rfl, hb, hs⟩ := hrel
      have HS := Lib.hid hs
      clear hs
      by_cases hlt : k < xs.length
      · obtain ⟨b1, o1, x, e1, -, hxk, hc1⟩ := (HX.out.below hb).int_at hlt
        obtain ⟨b2, o2, y, e2, -, hyk, hc2⟩ := (HY.out.below hb).int_at (k := k) (by rw [← HL.out]; exact hlt)
        have HXK := Lib.hid hxk
        have HYK := Lib.hid hyk
        clear hxk hyk
        subst e1 e2
        go_wp2
        go_quiet (fail)
        go_wp2
        · go_ret
          refine ⟨ret_bool ?_, below_drewN hb _⟩
          have hne : (x != y) = true := by assumption
          refine (same_false fun e => ?_).symm
          subst e
          have he := HXK.out.symm.trans HYK.out
          simp_all
        · have heq : (x != y) = false := by assumption
          refine ⟨⟨k + 1, by omega, by go_num, below_drewN hb _, fun j hj => ?_⟩, by simp [intOf]; omega⟩
          by_cases hjk : j = k
          · subst hjk
            rw [HXK.out, HYK.out]
            simp_all
          · exact HS.out j (by omega)
      · go_wp2
        go_ret
        exact ⟨ret_bool (same_true (same_until HL.out fun i hi => HS.out i (by omega))).symm, hb⟩
  · have hne : ((xs.length : Int) != (ys.length : Int)) = true := by rw [bne_iff_ne]; omega
    have HL := Lib.hid hl
    clear hl
    go_enter Try.func16, Try.ntmps16
    go_wp2
    all_goals first | (go_ret; exact ⟨ret_bool (same_false fun e => HL.out (by rw [e])).symm, Below.refl _ _⟩) | (exfalso; have := HL.out; omega) | (exfalso; exact HL.out (by assumption))

theorem markIntS_any (A : Option Addr) (c : Nat) (xs : List Int) (F : List Nat) (k : Int) (w : World) (hx : SlO intT w A c xs F) (h0 : 0 ≤ k) (hk : k + xs.length ≤ 1099511627776) :
    Calls Try.prog 17 #[.slice A xs.length c, .int .i64 k] w fun e w' => e = .returned (.int .i64 (k + xs.length)) ∧ SlO intT w' A c (mkInts k xs.length) F ∧ Only F w w' := by
  have hlen := mkInts_len k xs.length
  have HM := Lib.hid hlen
  have HX := Lib.hid hx
  clear hx hlen
  go_enter Try.func17, Try.ntmps17
  go_wp2
  go_loopw [1, 5] (fun q i wr => ∃ j : Nat, j ≤ xs.length ∧ i = .int .i64 j ∧ q = .int .i64 (k + j) ∧ Only F w wr ∧ SlO intT wr A c ((mkInts k xs.length).take j ++ xs.drop j) F) (fun _ i _ => xs.length - (intOf i).toNat)
  case atStart => exact ⟨0, Nat.zero_le _, rfl, by simp, Only.refl _ _, by simpa using HX.out⟩
  case round =>
    obtain ⟨j, hj, rfl, rfl, ho, hr⟩ := hrel
    have HR := Lib.hid hr
    by_cases hlt : j < xs.length
    · have hlj : j < ((mkInts k xs.length).take j ++ xs.drop j).length := by simp [HM.out]; omega
      obtain ⟨g, Fs, e1, e2, hrow⟩ := hr.at_ hlj
      obtain ⟨u0, hu0⟩ := hrow.slot (j := j) (by have := hrow.cap; show j < c * 1; omega)
      have hfree := hrow.free j
      have HA := Lib.hid e1
      have HF := Lib.hid e2
      clear hr hrow e2 hlj
      subst e1
      go_wp2
      refine ⟨⟨j + 1, by omega, by go_num, by go_num, ho.setCell (.inl (by rw [HF.out]; simp)) _, ?_⟩, by simp [intOf]; omega⟩
      have hstep := set_step (x := k + (j : Nat)) (HM.out) hlt (mkInts_at k hlt)
      rw [← hstep]
      exact HR.out.set_leaf intT_leaf rfl rfl (by simp [HM.out]; omega) (fun W => int_ow _ W)
    · clear hr
      go_wp2
      go_ret
      have hjj : j = xs.length := by omega
      have hr := HR.out
      rw [hjj, List.drop_length, List.append_nil, List.take_of_length_le (by rw [HM.out]; omega)] at hr
      subst hjj
      exact ⟨rfl, hr, ho⟩

theorem heldIntS_any (A : Option Addr) (c n : Nat) (k : Int) (w : World) (hx : SlR intT w w.heap.size A (mkInts k n)) (h0 : 0 ≤ k) (hk : k + n ≤ 1099511627776) :
    Calls Try.prog 18 #[.slice A n c, .int .i64 k] w fun e w' => e = .returned (.int .i64 (k + n)) ∧ Below w.heap.size w w' := by
  have hlen := mkInts_len k n
  have HM := Lib.hid hlen
  have HX := Lib.hid hx
  clear hx hlen
  go_enter Try.func18, Try.ntmps18
  go_wp2
  go_loopw [1, 5] (fun q i wr => ∃ j : Nat, j ≤ n ∧ i = .int .i64 j ∧ q = .int .i64 (k + j) ∧ Below w.heap.size w wr) (fun _ i _ => n - (intOf i).toNat)
  case atStart => exact ⟨0, Nat.zero_le _, rfl, by simp, Below.refl _ _⟩
  case round =>
    obtain ⟨j, hj, rfl, rfl, hb⟩ := hrel
    by_cases hlt : j < n
    · obtain ⟨b1, o1, x, e1, -, hxk, hc1⟩ := (HX.out.below hb).int_at (k := j) (by rw [HM.out]; exact hlt)
      rw [mkInts_at k hlt] at hxk
      obtain rfl := Option.some.inj hxk
      clear hxk
      subst e1
      go_wp2
      refine ⟨⟨j + 1, by omega, by go_num, by go_num, hb⟩, by simp [intOf]; omega⟩
    · go_wp2
      go_ret
      have hjj : j = n := by omega
      subst hjj
      exact ⟨rfl, hb⟩


end Go.Proofs.Ytfgdcjpclngeaaa
