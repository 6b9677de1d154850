/-
  The laws LawCnf1: each call returns true, at every input. Written by mk_cnflaws.py.
  Conditions: none.
-/
import Derived.Test.YtbmapbbjbdpbcaaCnf2
import Derived.Test.YtbmapbbjbdpbcaaOpen
namespace Go.Proofs.Ytbmapbbjbdpbcaa
open Go.RowKit Go.ChangeShapes Go.WideShapes Go.ChangeAt
set_option linter.unusedVariables false

set_option maxHeartbeats 1000000 in
theorem FnExactClauseTrue_walk (Aa : Option Addr) (ca : Nat) (xa : List Int) (Ab : Option Addr) (cb : Nat) (xb : List Bool) (w : World) (hHXa : SlR intT w w.heap.size Aa xa) (hHXb : SlR boolT w w.heap.size Ab xb) :
    Calls Try.prog 3 #[.slice Aa xa.length ca, .slice Ab xb.length cb] w fun e w' => e = .returned (.bool true) ∧ Below w.heap.size w w' := by
  have hmxa := hHXa.1
  have HXa := Lib.hid hHXa
  clear hHXa
  have hmxb := hHXb.1
  have HXb := Lib.hid hHXb
  clear hHXb
  by_cases hlxa : xa.length ≤ 1048576
  case neg =>
    have hg : (1048576 : Int) < (xa.length : Int) := by omega
    go_enter Try.func3, Try.ntmps3
    go_wp2
    go_ret
    refine ⟨rfl, ?_⟩
    go_grown
  case pos =>
    by_cases hlxb : xb.length ≤ 1048576
    case neg =>
      have hg : (1048576 : Int) < (xb.length : Int) := by omega
      go_enter Try.func3, Try.ntmps3
      go_wp2
      go_ret
      refine ⟨rfl, ?_⟩
      go_grown
    case pos =>
      have HB := Below.refl w.heap.size w
      go_enter Try.func3, Try.ntmps3
      go_wp2_with fail
      go_wp2_with fail
      refine (toIntS_any  Aa _ xa _ ((HXa.out.below HB).mono HB.size) (by omega)).mono ?_
      rintro e w1 ⟨B1, F1, rfl, HO1, HN1, HG1, hb⟩
      replace HO1 := Lib.hid HO1
      replace HN1 := Lib.hid HN1
      replace HG1 := Lib.hid HG1
      have hzw1 := hb.size
      replace HB := HB.trans (hb.mono HB.size)
      clear hb
      have HU1 := Lib.hid HO1.out.lt
      go_wp2_with fail
      refine (toBoolS_any  Ab _ xb _ ((HXb.out.below HB).mono HB.size) (by omega)).mono ?_
      rintro e w2 ⟨B2, F2, rfl, HO2, HN2, HG2, hb⟩
      replace HO2 := Lib.hid HO2
      replace HN2 := Lib.hid HN2
      replace HG2 := Lib.hid HG2
      have hzw2 := hb.size
      replace HB := HB.trans (hb.mono HB.size)
      replace HO1 := Lib.hid (HO1.out.after hb)
      clear hb
      have HU2 := Lib.hid HO2.out.lt
      go_wp2_with fail
      refine (sclauseTrue_any _ _ _ _ xa xb _ HO1.out.rd HO2.out.rd).mono ?_
      rintro e w3 ⟨rfl, rfl⟩
      clear HO1 HN1 HG1 HU1
      clear HO2 HN2 HG2 HU2
      go_wp2_with fail
      refine (toIntS_any  Aa _ xa _ ((HXa.out.below HB).mono HB.size) (by omega)).mono ?_
      rintro e w4 ⟨B3, F3, rfl, HO3, HN3, HG3, hb⟩
      replace HO3 := Lib.hid HO3
      replace HN3 := Lib.hid HN3
      replace HG3 := Lib.hid HG3
      have hzw4 := hb.size
      replace HB := HB.trans (hb.mono HB.size)
      clear hb
      have HU3 := Lib.hid HO3.out.lt
      go_wp2_with fail
      refine (toBoolS_any  Ab _ xb _ ((HXb.out.below HB).mono HB.size) (by omega)).mono ?_
      rintro e w5 ⟨B4, F4, rfl, HO4, HN4, HG4, hb⟩
      replace HO4 := Lib.hid HO4
      replace HN4 := Lib.hid HN4
      replace HG4 := Lib.hid HG4
      have hzw5 := hb.size
      replace HB := HB.trans (hb.mono HB.size)
      replace HO3 := Lib.hid (HO3.out.after hb)
      clear hb
      have HU4 := Lib.hid HO4.out.lt
      go_wp2_with fail
      refine (iclauseTrue_any _ _ _ _ xa xb _ HO3.out.rd HO4.out.rd).mono ?_
      rintro e w6 ⟨rfl, rfl⟩
      go_wp2_with fail
      refine (toIntS_any  Aa _ xa _ ((HXa.out.below HB).mono HB.size) (by omega)).mono ?_
      rintro e w7 ⟨B5, F5, rfl, HO5, HN5, HG5, hb⟩
      replace HO5 := Lib.hid HO5
      replace HN5 := Lib.hid HN5
      replace HG5 := Lib.hid HG5
      have hzw7 := hb.size
      replace HB := HB.trans (hb.mono HB.size)
      replace HO3 := Lib.hid (HO3.out.after hb)
      replace HO4 := Lib.hid (HO4.out.after hb)
      clear hb
      have HU5 := Lib.hid HO5.out.lt
      have hs := same_self xa
      go_wp2_with fail
      refine (eqIntS_any _ _ _ _ xa xa _ HO3.out.rd HO5.out.rd).mono ?_
      rintro e w8 ⟨rfl, hb⟩
      have hzw8 := hb.size
      replace HB := HB.trans (hb.mono HB.size)
      replace HO3 := Lib.hid (HO3.out.after hb)
      replace HO4 := Lib.hid (HO4.out.after hb)
      replace HO5 := Lib.hid (HO5.out.after hb)
      clear hb
      clear HO5 HN5 HG5 HU5
      go_wp2_with fail
      refine (toBoolS_any  Ab _ xb _ ((HXb.out.below HB).mono HB.size) (by omega)).mono ?_
      rintro e w9 ⟨B6, F6, rfl, HO6, HN6, HG6, hb⟩
      replace HO6 := Lib.hid HO6
      replace HN6 := Lib.hid HN6
      replace HG6 := Lib.hid HG6
      have hzw9 := hb.size
      replace HB := HB.trans (hb.mono HB.size)
      replace HO3 := Lib.hid (HO3.out.after hb)
      replace HO4 := Lib.hid (HO4.out.after hb)
      clear hb
      have HU6 := Lib.hid HO6.out.lt
      have hs := same_self xb
      go_wp2_with fail
      refine (eqBoolS_any _ _ _ _ xb xb _ HO4.out.rd HO6.out.rd).mono ?_
      rintro e w10 ⟨rfl, hb⟩
      have hzw10 := hb.size
      replace HB := HB.trans (hb.mono HB.size)
      replace HO3 := Lib.hid (HO3.out.after hb)
      replace HO4 := Lib.hid (HO4.out.after hb)
      replace HO6 := Lib.hid (HO6.out.after hb)
      clear hb
      clear HO6 HN6 HG6 HU6
      go_wp2_with fail
      go_ret
      exact ⟨rfl, HB⟩
set_option maxRecDepth 100000 in
theorem FnExactClauseTrue_lifted (os : Os) (started : os.Started) (H : Type) (enc : TypeId × Value → H) :
    ReturnsInHanded {} Try.checked os 3 .any (Rows.fnExactClauseTrueSpec.pre6 enc Try.prog Try.f3 Rows.fnExactClauseTrueRow.domain false) (Rows.fnExactClauseTrueSpec.post enc Try.prog Try.f3 false true false false) := by
  refine law_lift (C := Try.checked) Try.own started (by kernel_rfl) Try.func3
    (ChangeSpec.witness6 (enc := enc) (C := Try.checked) false ⟨#[], #[.slice none 0 0, .slice none 0 0], []⟩ 8 (by kernel_rfl) (by kernel_rfl) (by kernel_rfl) (by kernel_rfl))
    Try.laidOut (of_decide_eq_true (by kernel_rfl)) rfl rfl Try.underlying4 ?_
  intro W base args ds ps hval0 hA0 hlt
  have hval : ∀ (j : Nat) t v, Try.f3.params[j]? = some t → args[j]? = some v → Value.okWide Try.prog W .any base t v := hval0
  have hA : DataW.TrodAll enc Try.prog W 0 (fun _ => true) true Try.f3.params.toList args.toList ds ps := hA0
  clear hval0 hA0
  rw [Try.params3] at hA hval
  obtain ⟨v0, vs0, d0, ds0, p0, q0, hargs, rfl, rfl, h0, r0⟩ := trodAll_cons hA
  obtain ⟨v1, vs1, d1, ds1, p1, q1, rfl, rfl, rfl, h1, r1⟩ := trodAll_cons r0
  obtain ⟨rfl, rfl, rfl⟩ := trodAll_nil r1
  obtain rfl : args = #[v0, v1] := by cases args; simp_all
  obtain ⟨Aa, xa, ca, rfl, hHXa⟩ := open_intl (hval 0 _ v0 rfl rfl) h0 (fun x hx => hlt x (by simp [hx]))
  obtain ⟨Ab, xb, cb, rfl, hHXb⟩ := open_booll (hval 1 _ v1 rfl rfl) h1 (fun x hx => hlt x (by simp [hx]))
  exact ⟨rfl, FnExactClauseTrue_walk Aa ca xa Ab cb xb W hHXa hHXb⟩

/-- THE STATEMENT, PROVED. -/
theorem FnExactClauseTrue_holds : Rows.FnExactClauseTrueSaid :=
  OpenClaim.holds_of_wide 3 Try.f3 rfl rfl rfl rfl rfl rfl rfl ⟨rfl, rfl, rfl, rfl, rfl⟩ rfl rfl rfl rfl rfl (by kernel_rfl) Try.func3 (by kernel_rfl)
    (of_decide_eq_true (by kernel_rfl)) (by unfold Func.isWrapper; first | (rw [if_pos (by decide +kernel)]; kernel_rfl) | (rw [if_neg (by decide +kernel)]; exact ⟨rfl, rfl⟩))
    (fun os started H enc _ => FnExactClauseTrue_lifted os started H enc)
#print axioms FnExactClauseTrue_holds

set_option maxHeartbeats 1000000 in
theorem FnExactCnfOk_walk (vf : Int) (Af : Option Addr) (cf : Nat) (xf : List (List Int)) (w : World) (hHXf : SlR rowT w w.heap.size Af xf) :
    Calls Try.prog 6 #[.agg #[.int .i64 vf, .slice Af xf.length cf]] w fun e w' => e = .returned (.bool true) ∧ Below w.heap.size w w' := by
  have hmxf := hHXf.1
  have HXf := Lib.hid hHXf
  clear hHXf
  have HB := Below.refl w.heap.size w
  go_enter Try.func6, Try.ntmps6
  go_wp2_with fail
  have hb : Below w.heap.size w (w.alloc (.cells #[.int .i64 vf, .slice Af xf.length cf] 42)) := by go_grown
  have HKAf : Hid (Blk (w.alloc (.cells #[.int .i64 vf, .slice Af xf.length cf] 42)) (w.heap.size) 42 #[.int .i64 vf, .slice Af xf.length cf]) := Lib.hid (by simp only [Blk, heap_alloc_get]; simp)
  generalize (w.alloc (.cells #[.int .i64 vf, .slice Af xf.length cf] 42)) = w1 at *
  have hzw1 := hb.size
  replace HB := HB.trans (hb.mono HB.size)
  clear hb
  have kc0_0 := HKAf.out.cell 0
  have kc0_1 := HKAf.out.cell 1
  go_wp2_with fail
  clear kc0_0 kc0_1
  refine (szCnf_any vf Af _ xf _ _ ((HXf.out.below HB).mono HB.size) (by omega)).mono ?_
  rintro e w2 ⟨rf, rfl, HRf, hb⟩
  have hzw2 := hb.size
  replace HB := HB.trans (hb.mono HB.size)
  replace HKAf := Lib.hid (HKAf.out.below hb HKAf.out.lt)
  clear hb
  rcases HRf.out with hrf | hrf
  case inl =>
    have hrf2 : rf < 0 := by omega
    have kc0_0 := HKAf.out.cell 0
    have kc0_1 := HKAf.out.cell 1
    go_wp2_with fail
    go_ret
    exact ⟨rfl, HB⟩
  case inr =>
    have hrf2 := hrf.1
    have kc0_0 := HKAf.out.cell 0
    have kc0_1 := HKAf.out.cell 1
    go_wp2_with fail
    clear kc0_0 kc0_1
    refine (toCnf_any vf Af _ xf _ ((HXf.out.below HB).mono HB.size) (by omega) (by omega)).mono ?_
    rintro e w3 ⟨B1, F1, rfl, HO1, HN1, HG1, hb⟩
    replace HO1 := Lib.hid HO1
    replace HN1 := Lib.hid HN1
    replace HG1 := Lib.hid HG1
    have hzw3 := hb.size
    replace HB := HB.trans (hb.mono HB.size)
    replace HKAf := Lib.hid (HKAf.out.below hb HKAf.out.lt)
    clear hb
    have HU1 := Lib.hid HO1.out.lt
    have kc0_0 := HKAf.out.cell 0
    have kc0_1 := HKAf.out.cell 1
    go_wp2_with fail
    clear kc0_0 kc0_1
    refine (scnfOk_any vf _ _ xf _ HO1.out.rd).mono ?_
    rintro e w4 ⟨rfl, hb⟩
    have hzw4 := hb.size
    replace HB := HB.trans (hb.mono HB.size)
    replace HO1 := Lib.hid (HO1.out.after hb)
    replace HKAf := Lib.hid (HKAf.out.below hb HKAf.out.lt)
    clear hb
    clear HO1 HN1 HG1 HU1
    have kc0_0 := HKAf.out.cell 0
    have kc0_1 := HKAf.out.cell 1
    go_wp2_with fail
    clear kc0_0 kc0_1
    refine (toCnf_any vf Af _ xf _ ((HXf.out.below HB).mono HB.size) (by omega) (by omega)).mono ?_
    rintro e w5 ⟨B2, F2, rfl, HO2, HN2, HG2, hb⟩
    replace HO2 := Lib.hid HO2
    replace HN2 := Lib.hid HN2
    replace HG2 := Lib.hid HG2
    have hzw5 := hb.size
    replace HB := HB.trans (hb.mono HB.size)
    replace HKAf := Lib.hid (HKAf.out.below hb HKAf.out.lt)
    clear hb
    have HU2 := Lib.hid HO2.out.lt
    have kc0_0 := HKAf.out.cell 0
    have kc0_1 := HKAf.out.cell 1
    go_wp2_with fail
    clear kc0_0 kc0_1
    have hb := below1 w5 (.cells #[.int .i64 vf, .slice B2 xf.length xf.length] 37)
    have HK2 := Lib.hid (Blk.new w5 37 #[.int .i64 vf, .slice B2 xf.length xf.length])
    generalize w5.alloc (.cells #[.int .i64 vf, .slice B2 xf.length xf.length] 37) = w6 at *
    have hzw6 := hb.size
    replace HB := HB.trans (hb.mono HB.size)
    replace HO2 := Lib.hid (HO2.out.after hb)
    replace HKAf := Lib.hid (HKAf.out.below hb HKAf.out.lt)
    clear hb
    refine (icnfOk_any vf _ _ xf _ HO2.out.rd).mono ?_
    rintro e w7 ⟨rfl, hb⟩
    have hzw7 := hb.size
    replace HB := HB.trans (hb.mono HB.size)
    replace HO2 := Lib.hid (HO2.out.after hb)
    replace HKAf := Lib.hid (HKAf.out.below hb HKAf.out.lt)
    replace HK2 := Lib.hid (HK2.out.below hb HK2.out.lt)
    clear hb
    have kc0_0 := HKAf.out.cell 0
    have kc0_1 := HKAf.out.cell 1
    have kc1_0 := HK2.out.cell 0
    have kc1_1 := HK2.out.cell 1
    go_wp2_with fail
    clear kc0_0 kc0_1 kc1_0 kc1_1
    have hq0_0 : ∀ W, Below w7.heap.size w7 W → W.cell? ⟨w.heap.size, 0, none⟩ = some (.int .i64 vf) := fun W h => (h.cell (p := ⟨w.heap.size, 0, none⟩) HKAf.out.lt).trans (HKAf.out.cell 0)
    have hq0_1 : ∀ W, Below w7.heap.size w7 W → W.cell? ⟨w.heap.size, 1, none⟩ = some (.slice Af xf.length cf) := fun W h => (h.cell (p := ⟨w.heap.size, 1, none⟩) HKAf.out.lt).trans (HKAf.out.cell 1)
    have hq1_0 : ∀ W, Below w7.heap.size w7 W → W.cell? ⟨w5.heap.size, 0, none⟩ = some (.int .i64 vf) := fun W h => (h.cell (p := ⟨w5.heap.size, 0, none⟩) HK2.out.lt).trans (HK2.out.cell 0)
    have hq1_1 : ∀ W, Below w7.heap.size w7 W → W.cell? ⟨w5.heap.size, 1, none⟩ = some (.slice B2 xf.length xf.length) := fun W h => (h.cell (p := ⟨w5.heap.size, 1, none⟩) HK2.out.lt).trans (HK2.out.cell 1)
    go_region_held3 (fun w' => Below w7.heap.size w7 w') (first | exact (Below.refl _ _).drew | exact Below.trans (Below.refl _ _).drew (hbA.mono (Nat.le_refl _)) | exact Below.trans (by assumption) (hbB.mono (Below.size (by assumption))))
      (first | (go_at_call 31; refine (toCnf_any vf Af _ xf _ ((HXf.out.below HB.drew).mono (by exact HB.size)) (by omega) (by omega)).mono ?_; rintro e wA ⟨BA, FA, rfl, HOA, HNA, HGA, hbA⟩; replace HOA := Lib.hid HOA; replace HNA := Lib.hid HNA; replace HGA := Lib.hid HGA) | (go_at_call 32; refine (eqCnf_same vf _ _ _ _ xf _ (HO2.out.after (by assumption)).rd HOA.out.rd).mono ?_; rintro e wB ⟨rfl, hbB⟩))
    clear hq0_0 hq0_1
    clear hq1_0 hq1_1
    have hb : Below w7.heap.size w7 wB := by assumption
    clear hbA hbB HOA HNA HGA
    have hzwB := hb.size
    replace HB := HB.trans (hb.mono HB.size)
    replace HO2 := Lib.hid (HO2.out.after hb)
    replace HKAf := Lib.hid (HKAf.out.below hb HKAf.out.lt)
    replace HK2 := Lib.hid (HK2.out.below hb HK2.out.lt)
    clear hb
    obtain ⟨w8, hwB⟩ : ∃ W, W = wB := ⟨_, rfl⟩
    subst hwB
    have kc0_0 := HKAf.out.cell 0
    have kc0_1 := HKAf.out.cell 1
    have kc1_0 := HK2.out.cell 0
    have kc1_1 := HK2.out.cell 1
    go_wp2_with fail
    go_ret
    exact ⟨rfl, HB⟩
set_option maxRecDepth 100000 in
theorem FnExactCnfOk_lifted (os : Os) (started : os.Started) (H : Type) (enc : TypeId × Value → H) :
    ReturnsInHanded {} Try.checked os 6 .any (Rows.fnExactCnfOkSpec.pre6 enc Try.prog Try.f6 Rows.fnExactCnfOkRow.domain false) (Rows.fnExactCnfOkSpec.post enc Try.prog Try.f6 false true false false) := by
  refine law_lift (C := Try.checked) Try.own started (by kernel_rfl) Try.func6
    (ChangeSpec.witness6 (enc := enc) (C := Try.checked) false ⟨#[], #[.agg #[.int .i64 0, .slice none 0 0]], []⟩ 8 (by kernel_rfl) (by kernel_rfl) (by kernel_rfl) (by kernel_rfl))
    Try.laidOut (of_decide_eq_true (by kernel_rfl)) rfl rfl Try.underlying4 ?_
  intro W base args ds ps hval0 hA0 hlt
  have hval : ∀ (j : Nat) t v, Try.f6.params[j]? = some t → args[j]? = some v → Value.okWide Try.prog W .any base t v := hval0
  have hA : DataW.TrodAll enc Try.prog W 0 (fun _ => true) true Try.f6.params.toList args.toList ds ps := hA0
  clear hval0 hA0
  rw [Try.params6] at hA hval
  obtain ⟨v0, vs0, d0, ds0, p0, q0, hargs, rfl, rfl, h0, r0⟩ := trodAll_cons hA
  obtain ⟨rfl, rfl, rfl⟩ := trodAll_nil r0
  obtain rfl : args = #[v0] := by cases args; simp_all
  obtain ⟨vf, Af, xf, cf, rfl, hHXf⟩ := open_cnf (hval 0 _ v0 rfl rfl) h0 (fun x hx => hlt x (by simp [hx]))
  exact ⟨rfl, FnExactCnfOk_walk vf Af cf xf W hHXf⟩

/-- THE STATEMENT, PROVED. -/
theorem FnExactCnfOk_holds : Rows.FnExactCnfOkSaid :=
  OpenClaim.holds_of_wide 6 Try.f6 rfl rfl rfl rfl rfl rfl rfl ⟨rfl, rfl, rfl, rfl, rfl⟩ rfl rfl rfl rfl rfl (by kernel_rfl) Try.func6 (by kernel_rfl)
    (of_decide_eq_true (by kernel_rfl)) (by unfold Func.isWrapper; first | (rw [if_pos (by decide +kernel)]; kernel_rfl) | (rw [if_neg (by decide +kernel)]; exact ⟨rfl, rfl⟩))
    (fun os started H enc _ => FnExactCnfOk_lifted os started H enc)
#print axioms FnExactCnfOk_holds

set_option maxHeartbeats 1000000 in
theorem FnExactCnfTrue_walk (vf : Int) (Af : Option Addr) (cf : Nat) (xf : List (List Int)) (Ab : Option Addr) (cb : Nat) (xb : List Bool) (w : World) (hHXf : SlR rowT w w.heap.size Af xf) (hHXb : SlR boolT w w.heap.size Ab xb) :
    Calls Try.prog 7 #[.agg #[.int .i64 vf, .slice Af xf.length cf], .slice Ab xb.length cb] w fun e w' => e = .returned (.bool true) ∧ Below w.heap.size w w' := by
  have hmxf := hHXf.1
  have HXf := Lib.hid hHXf
  clear hHXf
  have hmxb := hHXb.1
  have HXb := Lib.hid hHXb
  clear hHXb
  by_cases hlxb : xb.length ≤ 1048576
  case neg =>
    have hg : (1048576 : Int) < (xb.length : Int) := by omega
    go_enter Try.func7, Try.ntmps7
    go_wp2
    go_ret
    refine ⟨rfl, ?_⟩
    go_grown
  case pos =>
    have HB := Below.refl w.heap.size w
    go_enter Try.func7, Try.ntmps7
    go_wp2_with fail
    have hb : Below w.heap.size w (w.alloc (.cells #[.int .i64 vf, .slice Af xf.length cf] 42)) := by go_grown
    have HKAf : Hid (Blk (w.alloc (.cells #[.int .i64 vf, .slice Af xf.length cf] 42)) (w.heap.size) 42 #[.int .i64 vf, .slice Af xf.length cf]) := Lib.hid (by simp only [Blk, heap_alloc_get]; simp)
    generalize (w.alloc (.cells #[.int .i64 vf, .slice Af xf.length cf] 42)) = w1 at *
    have hzw1 := hb.size
    replace HB := HB.trans (hb.mono HB.size)
    clear hb
    have kc0_0 := HKAf.out.cell 0
    have kc0_1 := HKAf.out.cell 1
    go_wp2_with fail
    clear kc0_0 kc0_1
    refine (szCnf_any vf Af _ xf _ _ ((HXf.out.below HB).mono HB.size) (by omega)).mono ?_
    rintro e w2 ⟨rf, rfl, HRf, hb⟩
    have hzw2 := hb.size
    replace HB := HB.trans (hb.mono HB.size)
    replace HKAf := Lib.hid (HKAf.out.below hb HKAf.out.lt)
    clear hb
    rcases HRf.out with hrf | hrf
    case inl =>
      have hrf2 : rf < 0 := by omega
      have kc0_0 := HKAf.out.cell 0
      have kc0_1 := HKAf.out.cell 1
      go_wp2_with fail
      go_ret
      exact ⟨rfl, HB⟩
    case inr =>
      have hrf2 := hrf.1
      have kc0_0 := HKAf.out.cell 0
      have kc0_1 := HKAf.out.cell 1
      go_wp2_with fail
      clear kc0_0 kc0_1
      refine (toCnf_any vf Af _ xf _ ((HXf.out.below HB).mono HB.size) (by omega) (by omega)).mono ?_
      rintro e w3 ⟨B1, F1, rfl, HO1, HN1, HG1, hb⟩
      replace HO1 := Lib.hid HO1
      replace HN1 := Lib.hid HN1
      replace HG1 := Lib.hid HG1
      have hzw3 := hb.size
      replace HB := HB.trans (hb.mono HB.size)
      replace HKAf := Lib.hid (HKAf.out.below hb HKAf.out.lt)
      clear hb
      have HU1 := Lib.hid HO1.out.lt
      have kc0_0 := HKAf.out.cell 0
      have kc0_1 := HKAf.out.cell 1
      go_wp2_with fail
      clear kc0_0 kc0_1
      refine (toBoolS_any  Ab _ xb _ ((HXb.out.below HB).mono HB.size) (by omega)).mono ?_
      rintro e w4 ⟨B2, F2, rfl, HO2, HN2, HG2, hb⟩
      replace HO2 := Lib.hid HO2
      replace HN2 := Lib.hid HN2
      replace HG2 := Lib.hid HG2
      have hzw4 := hb.size
      replace HB := HB.trans (hb.mono HB.size)
      replace HO1 := Lib.hid (HO1.out.after hb)
      replace HKAf := Lib.hid (HKAf.out.below hb HKAf.out.lt)
      clear hb
      have HU2 := Lib.hid HO2.out.lt
      have kc0_0 := HKAf.out.cell 0
      have kc0_1 := HKAf.out.cell 1
      go_wp2_with fail
      clear kc0_0 kc0_1
      refine (scnfTrue_any vf _ _ _ _ xf xb _ HO1.out.rd HO2.out.rd).mono ?_
      rintro e w5 ⟨rfl, hb⟩
      have hzw5 := hb.size
      replace HB := HB.trans (hb.mono HB.size)
      replace HO1 := Lib.hid (HO1.out.after hb)
      replace HO2 := Lib.hid (HO2.out.after hb)
      replace HKAf := Lib.hid (HKAf.out.below hb HKAf.out.lt)
      clear hb
      clear HO1 HN1 HG1 HU1
      clear HO2 HN2 HG2 HU2
      have kc0_0 := HKAf.out.cell 0
      have kc0_1 := HKAf.out.cell 1
      go_wp2_with fail
      clear kc0_0 kc0_1
      refine (toCnf_any vf Af _ xf _ ((HXf.out.below HB).mono HB.size) (by omega) (by omega)).mono ?_
      rintro e w6 ⟨B3, F3, rfl, HO3, HN3, HG3, hb⟩
      replace HO3 := Lib.hid HO3
      replace HN3 := Lib.hid HN3
      replace HG3 := Lib.hid HG3
      have hzw6 := hb.size
      replace HB := HB.trans (hb.mono HB.size)
      replace HKAf := Lib.hid (HKAf.out.below hb HKAf.out.lt)
      clear hb
      have HU3 := Lib.hid HO3.out.lt
      have kc0_0 := HKAf.out.cell 0
      have kc0_1 := HKAf.out.cell 1
      go_wp2_with fail
      clear kc0_0 kc0_1
      have hb := below1 w6 (.cells #[.int .i64 vf, .slice B3 xf.length xf.length] 37)
      have HK3 := Lib.hid (Blk.new w6 37 #[.int .i64 vf, .slice B3 xf.length xf.length])
      generalize w6.alloc (.cells #[.int .i64 vf, .slice B3 xf.length xf.length] 37) = w7 at *
      have hzw7 := hb.size
      replace HB := HB.trans (hb.mono HB.size)
      replace HO3 := Lib.hid (HO3.out.after hb)
      replace HKAf := Lib.hid (HKAf.out.below hb HKAf.out.lt)
      clear hb
      refine (toBoolS_any  Ab _ xb _ ((HXb.out.below HB).mono HB.size) (by omega)).mono ?_
      rintro e w8 ⟨B4, F4, rfl, HO4, HN4, HG4, hb⟩
      replace HO4 := Lib.hid HO4
      replace HN4 := Lib.hid HN4
      replace HG4 := Lib.hid HG4
      have hzw8 := hb.size
      replace HB := HB.trans (hb.mono HB.size)
      replace HO3 := Lib.hid (HO3.out.after hb)
      replace HKAf := Lib.hid (HKAf.out.below hb HKAf.out.lt)
      replace HK3 := Lib.hid (HK3.out.below hb HK3.out.lt)
      clear hb
      have HU4 := Lib.hid HO4.out.lt
      have kc0_0 := HKAf.out.cell 0
      have kc0_1 := HKAf.out.cell 1
      have kc1_0 := HK3.out.cell 0
      have kc1_1 := HK3.out.cell 1
      go_wp2_with fail
      clear kc0_0 kc0_1 kc1_0 kc1_1
      refine (icnfTrue_any vf _ _ _ _ xf xb _ HO3.out.rd HO4.out.rd).mono ?_
      rintro e w9 ⟨rfl, hb⟩
      have hzw9 := hb.size
      replace HB := HB.trans (hb.mono HB.size)
      replace HO3 := Lib.hid (HO3.out.after hb)
      replace HO4 := Lib.hid (HO4.out.after hb)
      replace HKAf := Lib.hid (HKAf.out.below hb HKAf.out.lt)
      replace HK3 := Lib.hid (HK3.out.below hb HK3.out.lt)
      clear hb
      have kc0_0 := HKAf.out.cell 0
      have kc0_1 := HKAf.out.cell 1
      have kc1_0 := HK3.out.cell 0
      have kc1_1 := HK3.out.cell 1
      go_wp2_with fail
      clear kc0_0 kc0_1 kc1_0 kc1_1
      have hq0_0 : ∀ W, Below w9.heap.size w9 W → W.cell? ⟨w.heap.size, 0, none⟩ = some (.int .i64 vf) := fun W h => (h.cell (p := ⟨w.heap.size, 0, none⟩) HKAf.out.lt).trans (HKAf.out.cell 0)
      have hq0_1 : ∀ W, Below w9.heap.size w9 W → W.cell? ⟨w.heap.size, 1, none⟩ = some (.slice Af xf.length cf) := fun W h => (h.cell (p := ⟨w.heap.size, 1, none⟩) HKAf.out.lt).trans (HKAf.out.cell 1)
      have hq1_0 : ∀ W, Below w9.heap.size w9 W → W.cell? ⟨w6.heap.size, 0, none⟩ = some (.int .i64 vf) := fun W h => (h.cell (p := ⟨w6.heap.size, 0, none⟩) HK3.out.lt).trans (HK3.out.cell 0)
      have hq1_1 : ∀ W, Below w9.heap.size w9 W → W.cell? ⟨w6.heap.size, 1, none⟩ = some (.slice B3 xf.length xf.length) := fun W h => (h.cell (p := ⟨w6.heap.size, 1, none⟩) HK3.out.lt).trans (HK3.out.cell 1)
      go_region_held3 (fun w' => Below w9.heap.size w9 w') (first | exact (Below.refl _ _).drew | exact Below.trans (Below.refl _ _).drew (hbA.mono (Nat.le_refl _)) | exact Below.trans (by assumption) (hbB.mono (Below.size (by assumption))))
        (first | (go_at_call 31; refine (toCnf_any vf Af _ xf _ ((HXf.out.below HB.drew).mono (by exact HB.size)) (by omega) (by omega)).mono ?_; rintro e wA ⟨BA, FA, rfl, HOA, HNA, HGA, hbA⟩; replace HOA := Lib.hid HOA; replace HNA := Lib.hid HNA; replace HGA := Lib.hid HGA) | (go_at_call 32; refine (eqCnf_same vf _ _ _ _ xf _ (HO3.out.after (by assumption)).rd HOA.out.rd).mono ?_; rintro e wB ⟨rfl, hbB⟩))
      clear hq0_0 hq0_1
      clear hq1_0 hq1_1
      have hb : Below w9.heap.size w9 wB := by assumption
      clear hbA hbB HOA HNA HGA
      have hzwB := hb.size
      replace HB := HB.trans (hb.mono HB.size)
      replace HO3 := Lib.hid (HO3.out.after hb)
      replace HO4 := Lib.hid (HO4.out.after hb)
      replace HKAf := Lib.hid (HKAf.out.below hb HKAf.out.lt)
      replace HK3 := Lib.hid (HK3.out.below hb HK3.out.lt)
      clear hb
      obtain ⟨w10, hwB⟩ : ∃ W, W = wB := ⟨_, rfl⟩
      subst hwB
      have kc0_0 := HKAf.out.cell 0
      have kc0_1 := HKAf.out.cell 1
      have kc1_0 := HK3.out.cell 0
      have kc1_1 := HK3.out.cell 1
      go_wp2_with fail
      clear kc0_0 kc0_1 kc1_0 kc1_1
      refine (toBoolS_any  Ab _ xb _ ((HXb.out.below HB).mono HB.size) (by omega)).mono ?_
      rintro e w11 ⟨B6, F6, rfl, HO6, HN6, HG6, hb⟩
      replace HO6 := Lib.hid HO6
      replace HN6 := Lib.hid HN6
      replace HG6 := Lib.hid HG6
      have hzw11 := hb.size
      replace HB := HB.trans (hb.mono HB.size)
      replace HO3 := Lib.hid (HO3.out.after hb)
      replace HO4 := Lib.hid (HO4.out.after hb)
      replace HKAf := Lib.hid (HKAf.out.below hb HKAf.out.lt)
      replace HK3 := Lib.hid (HK3.out.below hb HK3.out.lt)
      clear hb
      have HU6 := Lib.hid HO6.out.lt
      have hs := same_self xb
      have kc0_0 := HKAf.out.cell 0
      have kc0_1 := HKAf.out.cell 1
      have kc1_0 := HK3.out.cell 0
      have kc1_1 := HK3.out.cell 1
      go_wp2_with fail
      clear kc0_0 kc0_1 kc1_0 kc1_1
      refine (eqBoolS_any _ _ _ _ xb xb _ HO4.out.rd HO6.out.rd).mono ?_
      rintro e w12 ⟨rfl, hb⟩
      have hzw12 := hb.size
      replace HB := HB.trans (hb.mono HB.size)
      replace HO3 := Lib.hid (HO3.out.after hb)
      replace HO4 := Lib.hid (HO4.out.after hb)
      replace HO6 := Lib.hid (HO6.out.after hb)
      replace HKAf := Lib.hid (HKAf.out.below hb HKAf.out.lt)
      replace HK3 := Lib.hid (HK3.out.below hb HK3.out.lt)
      clear hb
      clear HO6 HN6 HG6 HU6
      have kc0_0 := HKAf.out.cell 0
      have kc0_1 := HKAf.out.cell 1
      have kc1_0 := HK3.out.cell 0
      have kc1_1 := HK3.out.cell 1
      go_wp2_with fail
      go_ret
      exact ⟨rfl, HB⟩
set_option maxRecDepth 100000 in
theorem FnExactCnfTrue_lifted (os : Os) (started : os.Started) (H : Type) (enc : TypeId × Value → H) :
    ReturnsInHanded {} Try.checked os 7 .any (Rows.fnExactCnfTrueSpec.pre6 enc Try.prog Try.f7 Rows.fnExactCnfTrueRow.domain false) (Rows.fnExactCnfTrueSpec.post enc Try.prog Try.f7 false true false false) := by
  refine law_lift (C := Try.checked) Try.own started (by kernel_rfl) Try.func7
    (ChangeSpec.witness6 (enc := enc) (C := Try.checked) false ⟨#[], #[.agg #[.int .i64 0, .slice none 0 0], .slice none 0 0], []⟩ 8 (by kernel_rfl) (by kernel_rfl) (by kernel_rfl) (by kernel_rfl))
    Try.laidOut (of_decide_eq_true (by kernel_rfl)) rfl rfl Try.underlying4 ?_
  intro W base args ds ps hval0 hA0 hlt
  have hval : ∀ (j : Nat) t v, Try.f7.params[j]? = some t → args[j]? = some v → Value.okWide Try.prog W .any base t v := hval0
  have hA : DataW.TrodAll enc Try.prog W 0 (fun _ => true) true Try.f7.params.toList args.toList ds ps := hA0
  clear hval0 hA0
  rw [Try.params7] at hA hval
  obtain ⟨v0, vs0, d0, ds0, p0, q0, hargs, rfl, rfl, h0, r0⟩ := trodAll_cons hA
  obtain ⟨v1, vs1, d1, ds1, p1, q1, rfl, rfl, rfl, h1, r1⟩ := trodAll_cons r0
  obtain ⟨rfl, rfl, rfl⟩ := trodAll_nil r1
  obtain rfl : args = #[v0, v1] := by cases args; simp_all
  obtain ⟨vf, Af, xf, cf, rfl, hHXf⟩ := open_cnf (hval 0 _ v0 rfl rfl) h0 (fun x hx => hlt x (by simp [hx]))
  obtain ⟨Ab, xb, cb, rfl, hHXb⟩ := open_booll (hval 1 _ v1 rfl rfl) h1 (fun x hx => hlt x (by simp [hx]))
  exact ⟨rfl, FnExactCnfTrue_walk vf Af cf xf Ab cb xb W hHXf hHXb⟩

/-- THE STATEMENT, PROVED. -/
theorem FnExactCnfTrue_holds : Rows.FnExactCnfTrueSaid :=
  OpenClaim.holds_of_wide 7 Try.f7 rfl rfl rfl rfl rfl rfl rfl ⟨rfl, rfl, rfl, rfl, rfl⟩ rfl rfl rfl rfl rfl (by kernel_rfl) Try.func7 (by kernel_rfl)
    (of_decide_eq_true (by kernel_rfl)) (by unfold Func.isWrapper; first | (rw [if_pos (by decide +kernel)]; kernel_rfl) | (rw [if_neg (by decide +kernel)]; exact ⟨rfl, rfl⟩))
    (fun os started H enc _ => FnExactCnfTrue_lifted os started H enc)
#print axioms FnExactCnfTrue_holds

end Go.Proofs.Ytbmapbbjbdpbcaa
