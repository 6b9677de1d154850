/-
  Contracts of the laws' helpers over [][]int and Cnf.
  Conditions: those typed in each theorem.
-/
import Derived.Test.YtbmapbbjbdpbcaaExA
namespace Go.Proofs.Ytbmapbbjbdpbcaa
open Go.RowKit Go.ChangeShapes Go.WideShapes

def ssT : Ty (List (List Int)) := slT 35 (slT 22 intT)
def rowT : Ty (List Int) := slT 22 intT
abbrev RowsR (w : World) (B : Nat) (A : Option Addr) (xs : List (List Int)) : Prop := SlR rowT w B A xs
abbrev RowsO (w : World) (A : Option Addr) (c : Nat) (xs : List (List Int)) (F : List Nat) : Prop := SlO rowT w A c xs F
def total {α : Type} : List (List α) → Nat
  | [] => 0
  | x :: xs => x.length + total xs
theorem total_append {α : Type} : ∀ (xs ys : List (List α)), total (xs ++ ys) = total xs + total ys
  | [], ys => by simp [total]
  | x :: xs, ys => by simp [total, total_append xs ys]; omega
theorem total_snoc {α : Type} {xs : List (List α)} {k : Nat} {x : List α} (hx : xs[k]? = some x) : total (xs.take (k + 1)) = total (xs.take k) + x.length := by
  rw [take_snoc hx, total_append]; simp [total]
theorem total_take_le {α : Type} (xs : List (List α)) (k : Nat) : total (xs.take k) ≤ total xs := by
  have h := total_append (xs.take k) (xs.drop k)
  rw [List.take_append_drop] at h
  omega
theorem len_le_total {α : Type} {xs : List (List α)} {k : Nat} {x : List α} (hx : xs[k]? = some x) : x.length ≤ total xs := by
  have h := total_take_le xs (k + 1)
  rw [total_snoc hx] at h
  omega
def mkRows : Int → List (List Int) → List (List Int)
  | _, [] => []
  | k, x :: xs => mkInts k x.length :: mkRows (k + x.length) xs
theorem mkRows_len : ∀ (k : Int) (xs : List (List Int)), (mkRows k xs).length = xs.length
  | _, [] => rfl
  | k, x :: xs => by simp [mkRows, mkRows_len]
theorem mkRows_total : ∀ (k : Int) (xs : List (List Int)), total (mkRows k xs) = total xs
  | _, [] => rfl
  | k, x :: xs => by simp [mkRows, total, mkRows_total, mkInts_len]
theorem mkRows_at : ∀ (k : Int) (xs : List (List Int)) {j : Nat} {x : List Int}, xs[j]? = some x → (mkRows k xs)[j]? = some (mkInts (k + (total (xs.take j) : Nat)) x.length)
  | _, [], _, _, h => by simp at h
  | k, y :: xs, 0, x, h => by simp at h; subst h; simp [mkRows, total]
  | k, y :: xs, j + 1, x, h => by
    simp at h
    have := mkRows_at (k + y.length) xs h
    simp [mkRows, total, this]
    congr 1
    omega

set_option maxHeartbeats 400000 in
theorem eqIntSS_any (A B : Option Addr) (c d : Nat) (xs ys : List (List Int)) (w : World) (hx : RowsR w w.heap.size A xs) (hy : RowsR w w.heap.size B ys) :
    Calls Try.prog 44 #[.slice A xs.length c, .slice B ys.length d] w fun e w' => e = .returned (.bool (same xs ys)) ∧ Below w.heap.size w w' := by
  have hmx := hx.1
  have hmy := hy.1
  have HX := Lib.hid hx
  have HY := Lib.hid hy
  clear hx hy
  by_cases hl : xs.length = ys.length
  · have HL := Lib.hid hl
    rw [← hl]
    clear hl
    go_enter Try.func44, Try.ntmps44
    go_wp2
    go_loopw [5] (fun i wr => ∃ k : Nat, k ≤ xs.length ∧ i = .int .i64 k ∧ Below w.heap.size w wr ∧ ∀ j, j < k → xs[j]? = ys[j]?) (fun i _ => xs.length - (intOf i).toNat)
    case atStart => exact ⟨0, Nat.zero_le _, rfl, Below.refl _ _, fun j hj => absurd hj (by omega)⟩
    case round =>
      obtain ⟨k, hk, rfl, hb, hs⟩ := hrel
      have HS := Lib.hid hs
      clear hs
      by_cases hlt : k < xs.length
      · obtain ⟨b1, o1, x, A1, c1, e1, hb1, hxk, hc1, hr1⟩ := HX.out.sl_at hlt
        obtain ⟨b2, o2, y, A2, c2, e2, hb2, hyk, hc2, hr2⟩ := HY.out.sl_at (k := k) (by rw [← HL.out]; exact hlt)
        have HXK := Lib.hid hxk
        have HYK := Lib.hid hyk
        have HR1 := Lib.hid hr1
        have HR2 := Lib.hid hr2
        have hq1 : ∀ W, Below w.heap.size w W → W.cell? ⟨b1, o1 + k, none⟩ = some (.slice A1 x.length c1) := fun W h => (h.cell (p := ⟨b1, o1 + k, none⟩) hb1).trans hc1
        have hq2 : ∀ W, Below w.heap.size w W → W.cell? ⟨b2, o2 + k, none⟩ = some (.slice A2 y.length c2) := fun W h => (h.cell (p := ⟨b2, o2 + k, none⟩) hb2).trans hc2
        clear hxk hyk hr1 hr2 hc1 hc2
        subst e1 e2
        go_wp2
        go_region_held3 (fun w' => Below w.heap.size w w') (first | exact hb.drew | exact hb.drew.trans (hbp.mono hb.size))
          ((go_at_call 18; refine (eqIntS_any _ _ _ _ x y _ ((HR1.out.below (by assumption)).mono (by exact hb.size)) ((HR2.out.below (by assumption)).mono (by exact hb.size))).mono ?_; rintro e w' ⟨rfl, hbp⟩))
        cases hxy : same x y with
        | true =>
          go_wp2
          refine ⟨⟨k + 1, by omega, by go_num, by assumption, fun j hj => ?_⟩, by simp [intOf]; omega⟩
          by_cases hjk : j = k
          · subst hjk
            rw [HXK.out, HYK.out, of_same hxy]
          · exact HS.out j (by omega)
        | false =>
          go_wp2
          go_ret
          refine ⟨ret_bool (same_false fun e => not_same hxy ?_).symm, by assumption⟩
          subst e
          exact Option.some.inj (HXK.out.symm.trans HYK.out)
      · go_wp2
        go_ret
        exact ⟨ret_bool (same_true (same_until HL.out fun i hi => HS.out i (by omega))).symm, hb⟩
  · have hne : ((xs.length : Int) != (ys.length : Int)) = true := by rw [bne_iff_ne]; omega
    have HL := Lib.hid hl
    clear hl
    go_enter Try.func44, Try.ntmps44
    go_wp2
    all_goals first | (go_ret; exact ⟨ret_bool (same_false fun e => HL.out (by rw [e])).symm, Below.refl _ _⟩) | (exfalso; have := HL.out; omega) | (exfalso; exact HL.out (by assumption))

theorem szIntSS_any (A : Option Addr) (c : Nat) (xs : List (List Int)) (l : Int) (w : World) (hx : RowsR w w.heap.size A xs) (hl : 0 ≤ l ∧ l ≤ 1048576) :
    Calls Try.prog 40 #[.slice A xs.length c, .int .i64 l] w fun e w' => ∃ r, e = .returned (.int .i64 r) ∧ Hid (r = -1 ∨ (0 ≤ r ∧ r + xs.length + total xs ≤ l)) ∧ Below w.heap.size w w' := by
  have hm := hx.1
  have HX := Lib.hid hx
  clear hx
  by_cases h : (xs.length : Int) ≤ l
  · go_enter Try.func40, Try.ntmps40
    go_wp2
    go_loopw [1, 5] (fun q i wr => ∃ (k : Nat) (r : Int), k ≤ xs.length ∧ i = .int .i64 k ∧ q = .int .i64 r ∧ 0 ≤ r ∧ r + xs.length + total (xs.take k) ≤ l ∧ Below w.heap.size w wr) (fun _ i _ => xs.length - (intOf i).toNat)
    case atStart => exact ⟨0, _, Nat.zero_le _, rfl, rfl, by omega, by simp [total], Below.refl _ _⟩
    case round =>
      obtain ⟨k, r, hk, rfl, rfl, hr0, hr1, hb⟩ := hrel
      by_cases hlt : k < xs.length
      · obtain ⟨b1, o1, x, A1, c1, e1, hb1, hxk, hc1, hr⟩ := (HX.out.below hb).sl_at hlt
        have HXK := Lib.hid hxk
        have hmx := hr.1
        clear hxk hr
        subst e1
        go_wp2_with (go_at_call 62; refine (szIntS_any _ _ x r _ hmx (by omega)).mono ?_; rintro e w' ⟨r', rfl, HR, rfl⟩; rcases HR.out with h1 | h1)
        · go_ret
          exact ⟨_, rfl, (.inl rfl : _ ∨ _), hb⟩
        · refine ⟨⟨k + 1, r', by omega, by go_num, rfl, h1.1, ?_, hb⟩, by simp [intOf]; omega⟩
          rw [total_snoc HXK.out]
          omega
      · go_wp2
        go_ret
        have hkk : k = xs.length := by omega
        subst hkk
        rw [List.take_length] at hr1
        exact ⟨_, rfl, (.inr ⟨hr0, hr1⟩ : _ ∨ _), hb⟩
  · have h' : l < (xs.length : Int) := by omega
    go_enter Try.func40, Try.ntmps40
    go_wp2
    go_ret
    exact ⟨_, rfl, (.inl rfl : _ ∨ _), Below.refl _ _⟩

theorem makeIntSS (n : Nat) (hn : n ≤ 1048576) (W : World) : (Instr.makeSlice 35 (.int .i64 (n : Int)) (.int .i64 (n : Int))).run Try.prog W = .ok (.slice (some ⟨W.heap.size, 0, none⟩) n n) (W.alloc (.cells (madeCells #[.slice none 0 0] n) 22)) := by
  have info : (Try.prog.info? 22).map (fun i => (i.zero, i.size)) = some (some (.slice none 0 0), 1) := by kernel_rfl
  have infob : (Try.prog.info? 22).map (fun i => decide (i.bytes ≤ 24)) = some true := by kernel_rfl
  obtain ⟨i, hi⟩ : ∃ i, Try.prog.info? 22 = some i := by
    cases h : Try.prog.info? 22 with
    | none => rw [h] at info; cases info
    | some i => exact ⟨i, rfl⟩
  rw [hi] at info infob
  simp only [Option.map_some, Option.some.injEq, Prod.mk.injEq, decide_eq_true_eq] at info infob
  have hr := run_make (P := Try.prog) W 35 22 i (.slice none 0 0) Try.underlying35 hi info.1 .i64 .i64 (n : Int) (n : Int) (by omega) (Int.le_refl _)
    (by have h1 : (i.bytes : Int) * (n : Int) ≤ 24 * 1048576 := Int.mul_le_mul (by omega) (by omega) (by omega) (by omega)
        omega) (by omega)
  rw [info.2] at hr
  simpa [Value.cells] using hr
theorem toIntSS_any (A : Option Addr) (c : Nat) (xs : List (List Int)) (w : World) (hx : RowsR w w.heap.size A xs) (hn : xs.length ≤ 1048576) (ht : total xs ≤ 1048576) :
    Calls Try.prog 42 #[.slice A xs.length c] w fun e w' => ∃ A' F, e = .returned (.slice A' xs.length xs.length) ∧ RowsO w' A' xs.length xs F ∧ F.Nodup ∧ (∀ g ∈ F, w.heap.size ≤ g) ∧ Below w.heap.size w w' := by
  have HX := Lib.hid hx
  clear hx
  have hmk := makeIntSS xs.length hn
  have H1 := Lib.hid (Row.made rowT w #[.slice none 0 0] xs.length)
  go_enter Try.func42, Try.ntmps42
  go_wp2
  clear hmk
  go_loopw [4] (fun i wr => ∃ k : Nat, k ≤ xs.length ∧ i = .int .i64 k ∧ Below w.heap.size w wr ∧ ∃ Fs, Row rowT wr w.heap.size xs.length (xs.take k) Fs ∧ (w.heap.size :: Fs.flatten).Nodup ∧ ∀ g ∈ Fs.flatten, w.heap.size ≤ g) (fun i _ => xs.length - (intOf i).toNat)
  case atStart =>
    refine ⟨0, Nat.zero_le _, rfl, below1 _ _, [], ?_, by simp, by simp⟩
    have h := H1.out
    rw [show xs.length * rowT.size = xs.length from Nat.mul_one _] at h
    exact h
  case round =>
    obtain ⟨k, hk, rfl, hb, Fs, hr, hnd, hge⟩ := hrel
    have HR := Lib.hid hr
    have HN := Lib.hid hnd
    have HG := Lib.hid hge
    have hlw := hr.lt
    clear hnd hge
    by_cases hlt : k < xs.length
    · obtain ⟨b1, o1, x, A1, c1, e1, hb1, hxk, hc1, hr1⟩ := (HX.out.below hb).sl_at hlt
      have hxn : x.length ≤ 1048576 := Nat.le_trans (len_le_total hxk) ht
      have HXK := Lib.hid hxk
      have HR1 := Lib.hid hr1
      clear hxk hr1 hr
      subst e1
      go_wp2_with fail
      refine (toIntS_any _ _ x _ (HR1.out.mono hb.size) hxn).mono ?_
      rintro e w1 ⟨A', F, rfl, hF, hFn, hFg, hb1'⟩
      have hr := (HR.out).stay (w' := w1) (hb1'.block _ hlw) (fun q hq => hb1'.block _ (HR.out.ltF q hq))
      obtain ⟨u0, hu0⟩ := hr.slot (j := k) (by show k < xs.length * 1; omega)
      have hfree := hr.free k
      have HR2 := Lib.hid hr
      have HF := Lib.hid hF
      have HFn := Lib.hid hFn
      have HFg := Lib.hid hFg
      clear hr hF hFn hFg
      go_wp2
      have hgf : w.heap.size ∉ F := fun h => by have := HFg.out _ h; omega
      refine ⟨⟨k + 1, by omega, by go_num, (hb.trans (hb1'.mono hb.size)).setCell (Nat.le_refl _) _, Fs ++ [F], ?_, ?_, ?_⟩, by simp [intOf]; omega⟩
      · rw [take_snoc HXK.out]
        have ht : (xs.take k).length = k := by simp; omega
        have hp := HR2.out.push1 (x := x) (f := F) rfl (by omega) (u := .slice A' x.length x.length) ⟨A', x.length, rfl, HF.out⟩ (List.nodup_cons.1 HN.out).1 hgf
        rw [ht] at hp
        exact hp
      · rw [flat_snoc, ← List.cons_append]
        refine nodup_snoc HN.out HFn.out (n := wr.heap.size) (fun q hq => ?_) HFg.out
        rcases List.mem_cons.1 hq with rfl | hq
        · exact hlw
        · exact HR.out.ltF q hq
      · rw [flat_snoc]
        intro q hq
        rcases List.mem_append.1 hq with hq | hq
        · exact HG.out q hq
        · have := HFg.out q hq
          omega
    · clear hr
      go_wp2
      go_ret
      have hkk : k = xs.length := by omega
      have hr := HR.out
      rw [hkk, List.take_length] at hr
      exact ⟨some ⟨w.heap.size, 0, none⟩, w.heap.size :: Fs.flatten, rfl, ⟨by omega, .inr ⟨_, Fs, rfl, rfl, hr⟩⟩, HN.out, fun q hq => by rcases List.mem_cons.1 hq with rfl | hq <;> first | omega | exact HG.out q hq, hb⟩

theorem markIntSS_any (A : Option Addr) (c : Nat) (xs : List (List Int)) (F : List Nat) (k : Int) (w : World) (hx : RowsO w A c xs F) (hF : F.Nodup) (h0 : 0 ≤ k) (hk : k + total xs ≤ 1099511627776) :
    Calls Try.prog 48 #[.slice A xs.length c, .int .i64 k] w fun e w' => e = .returned (.int .i64 (k + total xs)) ∧ RowsO w' A c (mkRows k xs) F ∧ Only F w w' := by
  have hlen := mkRows_len k xs
  have hmx : xs.length ≤ 9223372036854775807 := Nat.le_trans hx.cap hx.1
  have HM := Lib.hid hlen
  have HX := Lib.hid hx
  have HN := Lib.hid hF
  clear hx hlen hF
  go_enter Try.func48, Try.ntmps48
  go_wp2
  go_loopw [1, 5] (fun q i wr => ∃ j : Nat, j ≤ xs.length ∧ i = .int .i64 j ∧ q = .int .i64 (k + total (xs.take j)) ∧ Only F w wr ∧ RowsO wr A c ((mkRows k xs).take j ++ xs.drop j) F) (fun _ i _ => xs.length - (intOf i).toNat)
  case atStart => exact ⟨0, Nat.zero_le _, rfl, by simp [total], Only.refl _ _, by simpa using HX.out⟩
  case round =>
    obtain ⟨j, hj, rfl, rfl, ho, hr⟩ := hrel
    have HR := Lib.hid hr
    by_cases hlt : j < xs.length
    · have hat : ((mkRows k xs).take j ++ xs.drop j)[j]? = xs[j]? := by
        have ht : ((mkRows k xs).take j).length = j := by simp [HM.out]; omega
        rw [List.getElem?_append_right (by omega), ht, List.getElem?_drop]
        simp
      have hlj : j < ((mkRows k xs).take j ++ xs.drop j).length := by simp [HM.out]; omega
      obtain ⟨g, Fs, e1, e2, hrow⟩ := hr.at_ hlj
      obtain ⟨x, f, A1, c1, hx, hf, hc1, hin⟩ := hrow.inner hlj
      have hx' := hx
      rw [hat] at hx'
      have htt := total_take_le xs (j + 1)
      rw [total_snoc hx'] at htt
      have HXK := Lib.hid hx
      have HXK' := Lib.hid hx'
      have HFK := Lib.hid hf
      have HI := Lib.hid hin
      have HW := Lib.hid hrow
      have HA := Lib.hid e1
      have HF := Lib.hid e2
      have HC := Lib.hid hc1
      clear hr hrow e2 hlj hat hx hx' hf hin
      subst e1
      go_wp2_with fail
      refine (markIntS_any _ _ x f _ _ HI.out (by omega) (by omega)).mono ?_
      rintro e w1 ⟨rfl, hso, hoo⟩
      have HSO := Lib.hid hso
      clear hso hc1
      go_wp2
      refine ⟨⟨j + 1, by omega, by go_num, ?_, ?_, ?_⟩, by simp [intOf]; omega⟩
      · rw [total_snoc HXK'.out]
        have e : k + (total (xs.take j) : Nat) + (x.length : Nat) = k + ((total (xs.take j) + x.length : Nat) : Int) := by omega
        rw [e]
      · refine ho.trans (hoo.mono fun q hq => .inl ?_)
        rw [HF.out]
        exact List.mem_cons_of_mem _ (mem_flat HFK.out hq)
      · have hstep := set_step HM.out hlt (mkRows_at k xs HXK'.out)
        rw [← hstep]
        exact HR.out.set_inner HN.out rfl HF.out HW.out HXK.out HFK.out HC.out (mkInts_len _ _) HSO.out hoo
    · clear hr
      go_wp2
      go_ret
      have hjj : j = xs.length := by omega
      have hr := HR.out
      rw [hjj, List.drop_length, List.append_nil, List.take_of_length_le (by rw [HM.out]; omega)] at hr
      subst hjj
      refine ⟨ret_int ?_, hr, ho⟩
      rw [List.take_length]

theorem heldIntSS_any (A : Option Addr) (c : Nat) (xs : List (List Int)) (k : Int) (w : World) (hx : RowsR w w.heap.size A (mkRows k xs)) (h0 : 0 ≤ k) (hk : k + total xs ≤ 1099511627776) :
    Calls Try.prog 49 #[.slice A xs.length c, .int .i64 k] w fun e w' => e = .returned (.int .i64 (k + total xs)) ∧ Below w.heap.size w w' := by
  have hlen := mkRows_len k xs
  have hmx := hx.1
  rw [hlen] at hmx
  have HM := Lib.hid hlen
  have HX := Lib.hid hx
  clear hx hlen
  go_enter Try.func49, Try.ntmps49
  go_wp2
  go_loopw [1, 5] (fun q i wr => ∃ j : Nat, j ≤ xs.length ∧ i = .int .i64 j ∧ q = .int .i64 (k + total (xs.take j)) ∧ Below w.heap.size w wr) (fun _ i _ => xs.length - (intOf i).toNat)
  case atStart => exact ⟨0, Nat.zero_le _, rfl, by simp [total], Below.refl _ _⟩
  case round =>
    obtain ⟨j, hj, rfl, rfl, hb⟩ := hrel
    by_cases hlt : j < xs.length
    · have hxj : xs[j]? = some xs[j] := List.getElem?_eq_getElem hlt
      obtain ⟨b1, o1, y, A1, c1, e1, hb1, hyk, hc1, hr1⟩ := (HX.out.below hb).sl_at (k := j) (by rw [HM.out]; exact hlt)
      rw [mkRows_at k xs hxj] at hyk
      obtain rfl := Option.some.inj hyk
      have htt := total_take_le xs (j + 1)
      rw [total_snoc hxj] at htt
      generalize hxe : xs[j] = x at *
      rw [mkInts_len] at hc1
      have HXJ := Lib.hid hxj
      have HR1 := Lib.hid hr1
      clear hyk hr1 hxj hxe
      subst e1
      go_wp2_with fail
      refine (heldIntS_any _ _ x.length _ _ (HR1.out.mono hb.size) (by omega) (by omega)).mono ?_
      rintro e w1 ⟨rfl, hb1'⟩
      go_wp2
      refine ⟨⟨j + 1, by omega, by go_num, ?_, hb.trans (hb1'.mono hb.size)⟩, by simp [intOf]; omega⟩
      rw [total_snoc HXJ.out]
      have e : k + (total (xs.take j) : Nat) + (x.length : Nat) = k + ((total (xs.take j) + x.length : Nat) : Int) := by omega
      rw [e]
    · go_wp2
      go_ret
      have hjj : j = xs.length := by omega
      subst hjj
      refine ⟨ret_int ?_, hb⟩
      rw [List.take_length]

end Go.Proofs.Ytbmapbbjbdpbcaa
