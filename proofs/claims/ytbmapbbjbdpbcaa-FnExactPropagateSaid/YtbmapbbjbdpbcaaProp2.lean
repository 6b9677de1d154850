/-
  Contracts of Propagate, the program's and the reference's. Written by mk_prop2.py.
  Conditions: those typed in each theorem.
-/
import Derived.Test.YtbmapbbjbdpbcaaCons
namespace Go.Proofs.Ytbmapbbjbdpbcaa
open Go.RowKit Go.ChangeShapes Go.WideShapes

def tritB (x : Int) : Bool := rng x (-1) 1
def partOk (v : Int) (p : List Int) : Bool := decide ((p.length : Int) = v) && p.all tritB
def propagateB (v : Int) (cls : List (List Int)) (p : List Int) : Option (List Int) := if (cnfOkL v cls && partOk v p) = true then propL cls p else none
theorem trits_of {p : List Int} (h : p.all tritB = true) : trits p := fun x hx => rng_iff.1 (List.all_eq_true.1 h x hx)
theorem propagateB_len {v : Int} {cls : List (List Int)} {p : List Int} : ((propagateB v cls p).getD []).length ≤ p.length := by
  unfold propagateB
  split
  · rename_i h
    simp only [Bool.and_eq_true] at h
    obtain ⟨h1, h2⟩ := h
    unfold partOk at h2
    simp only [Bool.and_eq_true, decide_eq_true_eq] at h2
    cases hp : propL cls p with
    | none => simp
    | some q =>
      have hc : clausesIn p.length cls := cnfOk_clauses (by rw [h2.1]; exact h1)
      exact Nat.le_of_eq (propL_facts hc (trits_of h2.2) hp).1
  · simp

theorem spartial_any (v : Int) (A B : Option Addr) (n c d : Nat) (p : List Int) (w : World) (hy : SlR intT w w.heap.size B p) :
    Calls Try.prog 59 #[cnfV v A n c, .slice B p.length d] w fun e w' => e = .returned (.bool (partOk v p)) ∧ Below w.heap.size w w' := by
  have hm := hy.1
  have HY := Lib.hid hy
  clear hy
  by_cases hl : (p.length : Int) = v
  · have hne : ((p.length : Int) != v) = false := by rw [bne_eq_false_iff_eq]; exact hl
    have HL := Lib.hid hl
    clear hl
    go_enter Try.func59, Try.ntmps59
    go_wp2
    have hB0 := below1 w (.cells #[.int .i64 v, .slice A n c] 37)
    generalize w.alloc (.cells #[.int .i64 v, .slice A n c] 37) = W0 at *
    go_loop [5] (fun i => ∃ k : Nat, k ≤ p.length ∧ i = .int .i64 k ∧ Hid ((p.take k).all tritB = true)) (fun i => p.length - (intOf i).toNat)
    case atStart => exact ⟨0, Nat.zero_le _, rfl, Lib.hid rfl⟩
    case round =>
      obtain ⟨k, hk, rfl, HA⟩ := hrel
      by_cases hlt : k < p.length
      · obtain ⟨b1, o1, x, e1, -, hxk, hc1⟩ := (HY.out.below hB0).int_at hlt
        have HXK := Lib.hid hxk
        clear hxk
        subst e1
        cases hr : rng x (-1) 1 with
        | true =>
          go_wp2_with (go_at_call 55; refine (lin_any _ _ _ _).mono ?_; rintro e w' ⟨rfl, rfl⟩)
          refine ⟨⟨k + 1, by omega, by go_num, ?_⟩, by simp [intOf]; omega⟩
          refine Lib.hid ?_
          rw [all_snoc HXK.out, HA.out]
          exact hr
        | false =>
          go_wp2_with (go_at_call 55; refine (lin_any _ _ _ _).mono ?_; rintro e w' ⟨rfl, rfl⟩)
          go_ret
          refine ⟨ret_bool ?_, hB0⟩
          unfold partOk
          rw [all_not (p := tritB) HXK.out hr]
          simp
      · go_wp2
        go_ret
        refine ⟨ret_bool ?_, hB0⟩
        have hkk : k = p.length := by omega
        have h := HA.out
        rw [hkk, List.take_length] at h
        unfold partOk
        rw [h, decide_eq_true HL.out]
        rfl
  · have hne : ((p.length : Int) != v) = true := by rw [bne_iff_ne]; exact hl
    have HL := Lib.hid hl
    clear hl
    have HF : Hid (partOk v p = false) := Lib.hid (by unfold partOk; rw [decide_eq_false HL.out]; rfl)
    go_enter Try.func59, Try.ntmps59
    go_wp2
    all_goals first | (go_ret; exact ⟨ret_bool HF.out.symm, below1 _ _⟩) | (exfalso; exact HL.out (by assumption))

theorem sPropagate_any (v : Int) (A B : Option Addr) (c d : Nat) (cls : List (List Int)) (p : List Int) (w : World) (hx : RowsR w w.heap.size A cls) (hy : SlR intT w w.heap.size B p) :
    Calls Try.prog 36 #[cnfV v A cls.length c, .slice B p.length d] w (RetOpt (propagateB v cls p) w) := by
  have HX := Lib.hid hx
  have HY := Lib.hid hy
  clear hx hy
  cases hr : cnfOkL v cls with
  | false =>
    have HF : Hid (propagateB v cls p = none) := Lib.hid (by unfold propagateB; rw [hr]; rfl)
    go_enter Try.func36, Try.ntmps36
    go_wp2_with fail
    refine (scnfOk_any v A c cls _ ((HX.out.below (below1 _ _)).mono (by simp))).mono ?_
    rintro e w1 ⟨rfl, hb1⟩
    go_wp2
    go_ret2
    rw [HF.out]
    have hbw : Below w.heap.size w w1 := (below1 _ _).trans (hb1.mono (by simp))
    exact ⟨some ⟨w1.heap.size, 0, none⟩, 0, [w1.heap.size], rfl, SlO.made0 _ _, by simp, by simpa using hbw.size, hbw.alloc hbw.size _⟩
  | true =>
    have hv := clauseOk_of_cnf hr
    go_enter Try.func36, Try.ntmps36
    go_wp2_with fail
    refine (scnfOk_any v A c cls _ ((HX.out.below (below1 _ _)).mono (by simp))).mono ?_
    rintro e w1 ⟨rfl, hb1⟩
    obtain ⟨hcell, hfroz⟩ := bcell hb1
    have hbw : Below w.heap.size w w1 := (below1 _ _).trans (hb1.mono (by simp))
    go_wp2_with fail
    refine (spartial_any v _ _ _ _ _ p _ ((HY.out.below hbw).mono hbw.size)).mono ?_
    rintro e w2 ⟨rfl, hb2⟩
    have hbw2 : Below w.heap.size w w2 := hbw.trans (hb2.mono hbw.size)
    have hb12 := hb1.trans (hb2.mono hb1.size)
    clear hcell hfroz
    obtain ⟨hcell, hfroz⟩ := bcell hb12
    cases hp : partOk v p with
    | false =>
      have HF : Hid (propagateB v cls p = none) := Lib.hid (by unfold propagateB; rw [hr, hp]; rfl)
      go_wp2
      go_ret2
      rw [HF.out]
      exact ⟨some ⟨w2.heap.size, 0, none⟩, 0, [w2.heap.size], rfl, SlO.made0 _ _, by simp, by simpa using hbw2.size, hbw2.alloc hbw2.size _⟩
    | true =>
      have HF : Hid (propagateB v cls p = propL cls p) := Lib.hid (by unfold propagateB; rw [hr, hp]; rfl)
      have hpp := hp
      unfold partOk at hpp
      simp only [Bool.and_eq_true, decide_eq_true_eq] at hpp
      have HC : Hid (clausesIn p.length cls) := Lib.hid (cnfOk_clauses (by rw [hpp.1]; exact hr))
      have HT := Lib.hid (trits_of hpp.2)
      have hn : p.length ≤ 1048576 := by omega
      clear hpp
      go_wp2_with fail
      refine (sprop_any _ _ _ _ cls p _ _ ((HX.out.below hbw2).mono hbw2.size) ((HY.out.below hbw2).mono hbw2.size) HT.out HC.out hn rfl).mono ?_
      rintro e w3 ⟨A', c', F, rfl, hso, hnd, hge, hb3⟩
      have HSO := Lib.hid hso
      have HND := Lib.hid hnd
      have HGE := Lib.hid hge
      clear hso hnd hge
      go_wp2
      go_ret2
      rw [HF.out]
      exact ⟨A', c', F, rfl, HSO.out, HND.out, fun g hg => Nat.le_trans hbw2.size (HGE.out g hg), hbw2.trans (hb3.mono hbw2.size)⟩

theorem iPropagate_any (v : Int) (A B : Option Addr) (c d : Nat) (cls : List (List Int)) (p : List Int) (w : World) (hx : RowsR w w.heap.size A cls) (hy : SlR intT w w.heap.size B p) :
    Calls Try.prog 37 #[cnfV v A cls.length c, .slice B p.length d] w (RetOpt (propagateB v cls p) w) := by
  have hm := hy.1
  have HX := Lib.hid hx
  have HY := Lib.hid hy
  clear hx hy
  cases hr : cnfOkL v cls with
  | false =>
    have HF : Hid (propagateB v cls p = none) := Lib.hid (by unfold propagateB; rw [hr]; rfl)
    go_enter Try.func37, Try.ntmps37
    go_wp2_with fail
    refine (icnfOk_any v A c cls _ ((HX.out.below (below1 _ _)).mono (by simp))).mono ?_
    rintro e w1 ⟨rfl, hb1⟩
    go_wp2
    go_ret2
    rw [HF.out]
    exact ⟨none, 0, [], rfl, SlO.nil, List.nodup_nil, fun g hg => by simp at hg, (below1 _ _).trans (hb1.mono (by simp))⟩
  | true =>
    have hv := clauseOk_of_cnf hr
    by_cases hl : (p.length : Int) = v
    · have hne : ((p.length : Int) != v) = false := by rw [bne_eq_false_iff_eq]; exact hl
      have HL := Lib.hid hl
      have hn : p.length ≤ 1048576 := by omega
      clear hl
      go_enter Try.func37, Try.ntmps37
      go_wp2_with fail
      refine (icnfOk_any v A c cls _ ((HX.out.below (below1 _ _)).mono (by simp))).mono ?_
      rintro e w1 ⟨rfl, hb1⟩
      obtain ⟨hcell, hfroz⟩ := bcell hb1
      have hbw : Below w.heap.size w w1 := (below1 _ _).trans (hb1.mono (by simp))
      go_wp2
      go_loopw [20] (fun i wr => ∃ k : Nat, k ≤ p.length ∧ i = .int .i64 k ∧ Hid ((p.take k).all tritB = true) ∧ wr = w1) (fun i _ => p.length - (intOf i).toNat)
      case atStart => exact ⟨0, Nat.zero_le _, rfl, Lib.hid rfl, rfl⟩
      case round =>
        obtain ⟨k, hk, rfl, HA, hww⟩ := hrel
        subst hww
        by_cases hlt : k < p.length
        · obtain ⟨b1, o1, x, e1, -, hxk, hc1⟩ := (HY.out.below hbw).int_at hlt
          have HXK := Lib.hid hxk
          clear hxk
          subst e1
          cases hrx : rng x (-1) 1 with
          | true =>
            go_wp2_with (go_at_call 53; refine (inr_any _ _ _ _).mono ?_; rintro e w' ⟨rfl, rfl⟩)
            refine ⟨⟨k + 1, by omega, by go_num, ?_, by trivial⟩, by simp [intOf]; omega⟩
            refine Lib.hid ?_
            rw [all_snoc HXK.out, HA.out]
            exact hrx
          | false =>
            have HF : Hid (propagateB v cls p = none) := Lib.hid (by
              unfold propagateB partOk
              rw [all_not (p := tritB) HXK.out hrx]
              simp)
            go_wp2_with (go_at_call 53; refine (inr_any _ _ _ _).mono ?_; rintro e w' ⟨rfl, rfl⟩)
            go_ret2
            rw [HF.out]
            exact ⟨none, 0, [], rfl, SlO.nil, List.nodup_nil, fun g hg => by simp at hg, hbw⟩
        · have hkk : k = p.length := by omega
          have h := HA.out
          rw [hkk, List.take_length] at h
          have HF : Hid (propagateB v cls p = propL cls p) := Lib.hid (by
            unfold propagateB partOk
            rw [h, hr, decide_eq_true HL.out]
            rfl)
          have HC : Hid (clausesIn p.length cls) := Lib.hid (cnfOk_clauses (by rw [HL.out]; exact hr))
          have HT := Lib.hid (trits_of h)
          clear h
          go_wp2_with fail
          refine (iprop_any _ _ _ _ cls p _ _ ((HX.out.below hbw).mono hbw.size) ((HY.out.below hbw).mono hbw.size) HT.out HC.out hn rfl).mono ?_
          rintro e w3 ⟨A', c', F, rfl, hso, hnd, hge, hb3⟩
          have HSO := Lib.hid hso
          have HND := Lib.hid hnd
          have HGE := Lib.hid hge
          clear hso hnd hge
          go_wp2
          go_ret2
          rw [HF.out]
          exact ⟨A', c', F, rfl, HSO.out, HND.out, fun g hg => Nat.le_trans hbw.size (HGE.out g hg), hbw.trans (hb3.mono hbw.size)⟩
    · have hne : ((p.length : Int) != v) = true := by rw [bne_iff_ne]; exact hl
      have HF : Hid (propagateB v cls p = none) := Lib.hid (by unfold propagateB partOk; rw [decide_eq_false hl]; simp)
      have HL := Lib.hid hl
      clear hl
      go_enter Try.func37, Try.ntmps37
      go_wp2_with fail
      refine (icnfOk_any v A c cls _ ((HX.out.below (below1 _ _)).mono (by simp))).mono ?_
      rintro e w1 ⟨rfl, hb1⟩
      obtain ⟨hcell, hfroz⟩ := bcell hb1
      go_wp2
      all_goals first | (go_ret2; rw [HF.out]; exact ⟨none, 0, [], rfl, SlO.nil, List.nodup_nil, fun g hg => by simp at hg, (below1 _ _).trans (hb1.mono (by simp))⟩) | (exfalso; exact HL.out (by assumption))

end Go.Proofs.Ytbmapbbjbdpbcaa
