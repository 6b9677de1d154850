/-
  The laws LawCnf2: each call returns true, at every input. Written by mk_cnflaws.py.
  Conditions: none.
-/
import Derived.Test.YtbmapbbjbdpbcaaCons
import Derived.Test.YtbmapbbjbdpbcaaOpen
namespace Go.Proofs.Ytbmapbbjbdpbcaa
open Go.RowKit Go.ChangeShapes Go.WideShapes Go.ChangeAt
set_option linter.unusedVariables false

set_option maxHeartbeats 1000000 in
theorem FnExactIsConsequence_walk (vf : Int) (Af : Option Addr) (cf : Nat) (xf : List (List Int)) (Ab : Option Addr) (cb : Nat) (xb : List Int) (w : World) (hHXf : SlR rowT w w.heap.size Af xf) (hHXb : SlR intT w w.heap.size Ab xb) :
    Calls Try.prog 8 #[.agg #[.int .i64 vf, .slice Af xf.length cf], .slice Ab xb.length cb] w fun e w' => e = .returned (.bool true) ∧ Below w.heap.size w w' := by
  have hmxf := hHXf.1
  have HXf := Lib.hid hHXf
  clear hHXf
  have hmxb := hHXb.1
  have HXb := Lib.hid hHXb
  clear hHXb
  by_cases hlxb : xb.length ≤ 1048576
  case neg =>
    have hg : (1048576 : Int) < (xb.length : Int) := by omega
    go_enter Try.func8, Try.ntmps8
    go_wp2
    go_ret
    refine ⟨rfl, ?_⟩
    go_grown
  case pos =>
    have HB := Below.refl w.heap.size w
    go_enter Try.func8, Try.ntmps8
    go_wp2_with fail
    have hb : Below w.heap.size w (w.alloc (.cells #[.int .i64 vf, .slice Af xf.length cf] 42)) := by go_grown
    have HKAf : Hid (Blk (w.alloc (.cells #[.int .i64 vf, .slice Af xf.length cf] 42)) (w.heap.size) 42 #[.int .i64 vf, .slice Af xf.length cf]) := Lib.hid (by simp only [Blk, heap_alloc_get]; simp)
    have hsw1 : w.heap.size + 1 ≤ (w.alloc (.cells #[.int .i64 vf, .slice Af xf.length cf] 42)).heap.size := by simp
    generalize (w.alloc (.cells #[.int .i64 vf, .slice Af xf.length cf] 42)) = w1 at *
    have hzw1 := hb.size
    replace HB := HB.trans (hb.mono HB.size)
    clear hb
    have kc0_0 := HKAf.out.cell 0
    have kc0_1 := HKAf.out.cell 1
    go_wp2_with fail
    clear kc0_0 kc0_1
    refine (szCnf_any vf Af _ xf _ _ ((HXf.out.below HB).mono HB.size) (by omega)).mono ?_
    rintro e w2 ⟨rf, rfl, HRf, hb⟩
    have hzw2 := hb.size
    replace HB := HB.trans (hb.mono HB.size)
    replace HKAf := Lib.hid (HKAf.out.below hb HKAf.out.lt)
    clear hb
    rcases HRf.out with hrf | hrf
    case inl =>
      have hrf2 : rf < 0 := by omega
      have kc0_0 := HKAf.out.cell 0
      have kc0_1 := HKAf.out.cell 1
      go_wp2_with fail
      go_ret
      exact ⟨rfl, HB⟩
    case inr =>
      have hrf2 := hrf.1
      have kc0_0 := HKAf.out.cell 0
      have kc0_1 := HKAf.out.cell 1
      go_wp2_with fail
      clear kc0_0 kc0_1
      refine (toCnf_any vf Af _ xf _ ((HXf.out.below HB).mono HB.size) (by omega) (by omega)).mono ?_
      rintro e w3 ⟨B1, F1, rfl, HO1, HN1, HG1, hb⟩
      replace HO1 := Lib.hid HO1
      replace HN1 := Lib.hid HN1
      replace HG1 := Lib.hid HG1
      have hzw3 := hb.size
      replace HB := HB.trans (hb.mono HB.size)
      replace HKAf := Lib.hid (HKAf.out.below hb HKAf.out.lt)
      clear hb
      have HU1 := Lib.hid HO1.out.lt
      have kc0_0 := HKAf.out.cell 0
      have kc0_1 := HKAf.out.cell 1
      go_wp2_with fail
      clear kc0_0 kc0_1
      refine (toIntS_any  Ab _ xb _ ((HXb.out.below HB).mono HB.size) (by omega)).mono ?_
      rintro e w4 ⟨B2, F2, rfl, HO2, HN2, HG2, hb⟩
      replace HO2 := Lib.hid HO2
      replace HN2 := Lib.hid HN2
      replace HG2 := Lib.hid HG2
      have hzw4 := hb.size
      replace HB := HB.trans (hb.mono HB.size)
      replace HO1 := Lib.hid (HO1.out.after hb)
      replace HKAf := Lib.hid (HKAf.out.below hb HKAf.out.lt)
      clear hb
      have HU2 := Lib.hid HO2.out.lt
      have kc0_0 := HKAf.out.cell 0
      have kc0_1 := HKAf.out.cell 1
      go_wp2_with fail
      clear kc0_0 kc0_1
      refine (scons_any vf _ _ _ _ xf xb _ HO1.out.rd HO2.out.rd).mono ?_
      rintro e w5 ⟨rfl, hb⟩
      have hzw5 := hb.size
      replace HB := HB.trans (hb.mono HB.size)
      replace HO1 := Lib.hid (HO1.out.after hb)
      replace HO2 := Lib.hid (HO2.out.after hb)
      replace HKAf := Lib.hid (HKAf.out.below hb HKAf.out.lt)
      clear hb
      clear HO1 HN1 HG1 HU1
      clear HO2 HN2 HG2 HU2
      have kc0_0 := HKAf.out.cell 0
      have kc0_1 := HKAf.out.cell 1
      go_wp2_with fail
      clear kc0_0 kc0_1
      refine (toCnf_any vf Af _ xf _ ((HXf.out.below HB).mono HB.size) (by omega) (by omega)).mono ?_
      rintro e w6 ⟨B3, F3, rfl, HO3, HN3, HG3, hb⟩
      replace HO3 := Lib.hid HO3
      replace HN3 := Lib.hid HN3
      replace HG3 := Lib.hid HG3
      have hzw6 := hb.size
      replace HB := HB.trans (hb.mono HB.size)
      replace HKAf := Lib.hid (HKAf.out.below hb HKAf.out.lt)
      clear hb
      have HU3 := Lib.hid HO3.out.lt
      have kc0_0 := HKAf.out.cell 0
      have kc0_1 := HKAf.out.cell 1
      go_wp2_with fail
      clear kc0_0 kc0_1
      have hb := below1 w6 (.cells #[.int .i64 vf, .slice B3 xf.length xf.length] 37)
      have HK3 := Lib.hid (Blk.new w6 37 #[.int .i64 vf, .slice B3 xf.length xf.length])
      have hsw7 : w6.heap.size + 1 ≤ (w6.alloc (.cells #[.int .i64 vf, .slice B3 xf.length xf.length] 37)).heap.size := by simp
      generalize w6.alloc (.cells #[.int .i64 vf, .slice B3 xf.length xf.length] 37) = w7 at *
      have hzw7 := hb.size
      replace HB := HB.trans (hb.mono HB.size)
      replace HO3 := Lib.hid (HO3.out.after hb)
      replace HKAf := Lib.hid (HKAf.out.below hb HKAf.out.lt)
      clear hb
      refine (toIntS_any  Ab _ xb _ ((HXb.out.below HB).mono HB.size) (by omega)).mono ?_
      rintro e w8 ⟨B4, F4, rfl, HO4, HN4, HG4, hb⟩
      replace HO4 := Lib.hid HO4
      replace HN4 := Lib.hid HN4
      replace HG4 := Lib.hid HG4
      have hzw8 := hb.size
      replace HB := HB.trans (hb.mono HB.size)
      replace HO3 := Lib.hid (HO3.out.after hb)
      replace HKAf := Lib.hid (HKAf.out.below hb HKAf.out.lt)
      replace HK3 := Lib.hid (HK3.out.below hb HK3.out.lt)
      clear hb
      have HU4 := Lib.hid HO4.out.lt
      have kc0_0 := HKAf.out.cell 0
      have kc0_1 := HKAf.out.cell 1
      have kc1_0 := HK3.out.cell 0
      have kc1_1 := HK3.out.cell 1
      go_wp2_with fail
      clear kc0_0 kc0_1 kc1_0 kc1_1
      refine (icons_any vf _ _ _ _ xf xb _ HO3.out.rd HO4.out.rd).mono ?_
      rintro e w9 ⟨rfl, hb⟩
      have hzw9 := hb.size
      replace HB := HB.trans (hb.mono HB.size)
      replace HO3 := Lib.hid (HO3.out.after hb)
      replace HO4 := Lib.hid (HO4.out.after hb)
      replace HKAf := Lib.hid (HKAf.out.below hb HKAf.out.lt)
      replace HK3 := Lib.hid (HK3.out.below hb HK3.out.lt)
      clear hb
      have kc0_0 := HKAf.out.cell 0
      have kc0_1 := HKAf.out.cell 1
      have kc1_0 := HK3.out.cell 0
      have kc1_1 := HK3.out.cell 1
      go_wp2_with fail
      clear kc0_0 kc0_1 kc1_0 kc1_1
      have hq0_0 : ∀ W, Below w9.heap.size w9 W → W.cell? ⟨w.heap.size, 0, none⟩ = some (.int .i64 vf) := fun W h => (h.cell (p := ⟨w.heap.size, 0, none⟩) HKAf.out.lt).trans (HKAf.out.cell 0)
      have hq0_1 : ∀ W, Below w9.heap.size w9 W → W.cell? ⟨w.heap.size, 1, none⟩ = some (.slice Af xf.length cf) := fun W h => (h.cell (p := ⟨w.heap.size, 1, none⟩) HKAf.out.lt).trans (HKAf.out.cell 1)
      have hq1_0 : ∀ W, Below w9.heap.size w9 W → W.cell? ⟨w6.heap.size, 0, none⟩ = some (.int .i64 vf) := fun W h => (h.cell (p := ⟨w6.heap.size, 0, none⟩) HK3.out.lt).trans (HK3.out.cell 0)
      have hq1_1 : ∀ W, Below w9.heap.size w9 W → W.cell? ⟨w6.heap.size, 1, none⟩ = some (.slice B3 xf.length xf.length) := fun W h => (h.cell (p := ⟨w6.heap.size, 1, none⟩) HK3.out.lt).trans (HK3.out.cell 1)
      go_region_held3 (fun w' => Below w9.heap.size w9 w') (first | exact (Below.refl _ _).drew | exact Below.trans (Below.refl _ _).drew (hbA.mono (Nat.le_refl _)) | exact Below.trans (by assumption) (hbB.mono (Below.size (by assumption))))
        (first | (go_at_call 31; refine (toCnf_any vf Af _ xf _ ((HXf.out.below HB.drew).mono (by exact HB.size)) (by omega) (by omega)).mono ?_; rintro e wA ⟨BA, FA, rfl, HOA, HNA, HGA, hbA⟩; replace HOA := Lib.hid HOA; replace HNA := Lib.hid HNA; replace HGA := Lib.hid HGA) | (go_at_call 32; refine (eqCnf_same vf _ _ _ _ xf _ (HO3.out.after (by assumption)).rd HOA.out.rd).mono ?_; rintro e wB ⟨rfl, hbB⟩))
      clear hq0_0 hq0_1
      clear hq1_0 hq1_1
      have hb : Below w9.heap.size w9 wB := by assumption
      clear hbA hbB HOA HNA HGA
      have hzwB := hb.size
      replace HB := HB.trans (hb.mono HB.size)
      replace HO3 := Lib.hid (HO3.out.after hb)
      replace HO4 := Lib.hid (HO4.out.after hb)
      replace HKAf := Lib.hid (HKAf.out.below hb HKAf.out.lt)
      replace HK3 := Lib.hid (HK3.out.below hb HK3.out.lt)
      clear hb
      obtain ⟨w10, hwB⟩ : ∃ W, W = wB := ⟨_, rfl⟩
      subst hwB
      have kc0_0 := HKAf.out.cell 0
      have kc0_1 := HKAf.out.cell 1
      have kc1_0 := HK3.out.cell 0
      have kc1_1 := HK3.out.cell 1
      go_wp2_with fail
      clear kc0_0 kc0_1 kc1_0 kc1_1
      refine (toIntS_any  Ab _ xb _ ((HXb.out.below HB).mono HB.size) (by omega)).mono ?_
      rintro e w11 ⟨B6, F6, rfl, HO6, HN6, HG6, hb⟩
      replace HO6 := Lib.hid HO6
      replace HN6 := Lib.hid HN6
      replace HG6 := Lib.hid HG6
      have hzw11 := hb.size
      replace HB := HB.trans (hb.mono HB.size)
      replace HO3 := Lib.hid (HO3.out.after hb)
      replace HO4 := Lib.hid (HO4.out.after hb)
      replace HKAf := Lib.hid (HKAf.out.below hb HKAf.out.lt)
      replace HK3 := Lib.hid (HK3.out.below hb HK3.out.lt)
      clear hb
      have HU6 := Lib.hid HO6.out.lt
      have hs := same_self xb
      have kc0_0 := HKAf.out.cell 0
      have kc0_1 := HKAf.out.cell 1
      have kc1_0 := HK3.out.cell 0
      have kc1_1 := HK3.out.cell 1
      go_wp2_with fail
      clear kc0_0 kc0_1 kc1_0 kc1_1
      refine (eqIntS_any _ _ _ _ xb xb _ HO4.out.rd HO6.out.rd).mono ?_
      rintro e w12 ⟨rfl, hb⟩
      have hzw12 := hb.size
      replace HB := HB.trans (hb.mono HB.size)
      replace HO3 := Lib.hid (HO3.out.after hb)
      replace HO4 := Lib.hid (HO4.out.after hb)
      replace HO6 := Lib.hid (HO6.out.after hb)
      replace HKAf := Lib.hid (HKAf.out.below hb HKAf.out.lt)
      replace HK3 := Lib.hid (HK3.out.below hb HK3.out.lt)
      clear hb
      clear HO6 HN6 HG6 HU6
      have kc0_0 := HKAf.out.cell 0
      have kc0_1 := HKAf.out.cell 1
      have kc1_0 := HK3.out.cell 0
      have kc1_1 := HK3.out.cell 1
      go_wp2_with fail
      go_ret
      exact ⟨rfl, HB⟩
set_option maxRecDepth 100000 in
theorem FnExactIsConsequence_lifted (os : Os) (started : os.Started) (H : Type) (enc : TypeId × Value → H) :
    ReturnsInHanded {} Try.checked os 8 .any (Rows.fnExactIsConsequenceSpec.pre6 enc Try.prog Try.f8 Rows.fnExactIsConsequenceRow.domain false) (Rows.fnExactIsConsequenceSpec.post enc Try.prog Try.f8 false true false false) := by
  refine law_lift (C := Try.checked) Try.own started (by kernel_rfl) Try.func8
    (ChangeSpec.witness6 (enc := enc) (C := Try.checked) false ⟨#[], #[.agg #[.int .i64 0, .slice none 0 0], .slice none 0 0], []⟩ 8 (by kernel_rfl) (by kernel_rfl) (by kernel_rfl) (by kernel_rfl))
    Try.laidOut (of_decide_eq_true (by kernel_rfl)) rfl rfl Try.underlying4 ?_
  intro W base args ds ps hval0 hA0 hlt
  have hval : ∀ (j : Nat) t v, Try.f8.params[j]? = some t → args[j]? = some v → Value.okWide Try.prog W .any base t v := hval0
  have hA : DataW.TrodAll enc Try.prog W 0 (fun _ => true) true Try.f8.params.toList args.toList ds ps := hA0
  clear hval0 hA0
  rw [Try.params8] at hA hval
  obtain ⟨v0, vs0, d0, ds0, p0, q0, hargs, rfl, rfl, h0, r0⟩ := trodAll_cons hA
  obtain ⟨v1, vs1, d1, ds1, p1, q1, rfl, rfl, rfl, h1, r1⟩ := trodAll_cons r0
  obtain ⟨rfl, rfl, rfl⟩ := trodAll_nil r1
  obtain rfl : args = #[v0, v1] := by cases args; simp_all
  obtain ⟨vf, Af, xf, cf, rfl, hHXf⟩ := open_cnf (hval 0 _ v0 rfl rfl) h0 (fun x hx => hlt x (by simp [hx]))
  obtain ⟨Ab, xb, cb, rfl, hHXb⟩ := open_intl (hval 1 _ v1 rfl rfl) h1 (fun x hx => hlt x (by simp [hx]))
  exact ⟨rfl, FnExactIsConsequence_walk vf Af cf xf Ab cb xb W hHXf hHXb⟩

/-- THE STATEMENT, PROVED. -/
theorem FnExactIsConsequence_holds : Rows.FnExactIsConsequenceSaid :=
  OpenClaim.holds_of_wide 8 Try.f8 rfl rfl rfl rfl rfl rfl rfl ⟨rfl, rfl, rfl, rfl, rfl⟩ rfl rfl rfl rfl rfl (by kernel_rfl) Try.func8 (by kernel_rfl)
    (of_decide_eq_true (by kernel_rfl)) (by unfold Func.isWrapper; first | (rw [if_pos (by decide +kernel)]; kernel_rfl) | (rw [if_neg (by decide +kernel)]; exact ⟨rfl, rfl⟩))
    (fun os started H enc _ => FnExactIsConsequence_lifted os started H enc)
#print axioms FnExactIsConsequence_holds

end Go.Proofs.Ytbmapbbjbdpbcaa
