/-
  The laws LawCnf4: each call returns true, at every input. Written by mk_cnflaws.py.
  Conditions: none.
-/
import Derived.Test.YtbmapbbjbdpbcaaProp2
import Derived.Test.YtbmapbbjbdpbcaaOpen
namespace Go.Proofs.Ytbmapbbjbdpbcaa
open Go.RowKit Go.ChangeShapes Go.WideShapes Go.ChangeAt
set_option linter.unusedVariables false

set_option maxHeartbeats 1000000 in
theorem FnExactPropagate_walk (vf : Int) (Af : Option Addr) (cf : Nat) (xf : List (List Int)) (Ap : Option Addr) (cp : Nat) (xp : List Int) (w : World) (hHXf : SlR rowT w w.heap.size Af xf) (hHXp : SlR intT w w.heap.size Ap xp) :
    Calls Try.prog 9 #[.agg #[.int .i64 vf, .slice Af xf.length cf], .slice Ap xp.length cp] w fun e w' => e = .returned (.bool true) ∧ Below w.heap.size w w' := by
  have hmxf := hHXf.1
  have HXf := Lib.hid hHXf
  clear hHXf
  have hmxp := hHXp.1
  have HXp := Lib.hid hHXp
  clear hHXp
  by_cases hlxp : xp.length ≤ 1048576
  case neg =>
    have hg : (1048576 : Int) < (xp.length : Int) := by omega
    go_enter Try.func9, Try.ntmps9
    go_wp2
    go_ret
    refine ⟨rfl, ?_⟩
    go_grown
  case pos =>
    have HB := Below.refl w.heap.size w
    go_enter Try.func9, Try.ntmps9
    go_wp2_with fail
    have hb : Below w.heap.size w (w.alloc (.cells #[.int .i64 vf, .slice Af xf.length cf] 42)) := by go_grown
    have HKAf : Hid (Blk (w.alloc (.cells #[.int .i64 vf, .slice Af xf.length cf] 42)) (w.heap.size) 42 #[.int .i64 vf, .slice Af xf.length cf]) := Lib.hid (by simp only [Blk, heap_alloc_get]; simp)
    have hsw1 : w.heap.size + 1 ≤ (w.alloc (.cells #[.int .i64 vf, .slice Af xf.length cf] 42)).heap.size := by simp
    generalize (w.alloc (.cells #[.int .i64 vf, .slice Af xf.length cf] 42)) = w1 at *
    have hzw1 := hb.size
    replace HB := HB.trans (hb.mono HB.size)
    clear hb
    have kc0_0 := HKAf.out.cell 0
    have kc0_1 := HKAf.out.cell 1
    go_wp2_with fail
    clear kc0_0 kc0_1
    refine (szCnf_any vf Af _ xf _ _ ((HXf.out.below HB).mono HB.size) (by omega)).mono ?_
    rintro e w2 ⟨rf, rfl, HRf, hb⟩
    have hzw2 := hb.size
    replace HB := HB.trans (hb.mono HB.size)
    replace HKAf := Lib.hid (HKAf.out.below hb HKAf.out.lt)
    clear hb
    rcases HRf.out with hrf | hrf
    case inl =>
      have hrf2 : rf < 0 := by omega
      have kc0_0 := HKAf.out.cell 0
      have kc0_1 := HKAf.out.cell 1
      go_wp2_with fail
      go_ret
      exact ⟨rfl, HB⟩
    case inr =>
      have hrf2 := hrf.1
      have hres : ((propagateB vf xf xp).getD []).length ≤ 1048576 := Nat.le_trans propagateB_len (by omega)
      have kc0_0 := HKAf.out.cell 0
      have kc0_1 := HKAf.out.cell 1
      go_wp2_with fail
      clear kc0_0 kc0_1
      refine (toCnf_any vf Af _ xf _ ((HXf.out.below HB).mono HB.size) (by omega) (by omega)).mono ?_
      rintro e w3 ⟨B1, F1, rfl, HO1, HN1, HG1, hb⟩
      replace HO1 := Lib.hid HO1
      replace HN1 := Lib.hid HN1
      replace HG1 := Lib.hid HG1
      have hzw3 := hb.size
      replace HB := HB.trans (hb.mono HB.size)
      replace HKAf := Lib.hid (HKAf.out.below hb HKAf.out.lt)
      clear hb
      have HU1 := Lib.hid HO1.out.lt
      have kc0_0 := HKAf.out.cell 0
      have kc0_1 := HKAf.out.cell 1
      go_wp2_with fail
      clear kc0_0 kc0_1
      refine (toIntS_any  Ap _ xp _ ((HXp.out.below HB).mono HB.size) (by omega)).mono ?_
      rintro e w4 ⟨B2, F2, rfl, HO2, HN2, HG2, hb⟩
      replace HO2 := Lib.hid HO2
      replace HN2 := Lib.hid HN2
      replace HG2 := Lib.hid HG2
      have hzw4 := hb.size
      replace HB := HB.trans (hb.mono HB.size)
      replace HO1 := Lib.hid (HO1.out.after hb)
      replace HKAf := Lib.hid (HKAf.out.below hb HKAf.out.lt)
      clear hb
      have HU2 := Lib.hid HO2.out.lt
      have kc0_0 := HKAf.out.cell 0
      have kc0_1 := HKAf.out.cell 1
      go_wp2_with fail
      clear kc0_0 kc0_1
      refine (sPropagate_any vf _ _ _ _ xf xp _ HO1.out.rd HO2.out.rd).mono ?_
      rintro e w5 ⟨B3, D3, F3, rfl, HO3, HN3, HG3, hb⟩
      replace HO3 := Lib.hid HO3
      replace HN3 := Lib.hid HN3
      replace HG3 := Lib.hid HG3
      have hzw5 := hb.size
      replace HB := HB.trans (hb.mono HB.size)
      replace HO1 := Lib.hid (HO1.out.after hb)
      replace HO2 := Lib.hid (HO2.out.after hb)
      replace HKAf := Lib.hid (HKAf.out.below hb HKAf.out.lt)
      clear hb
      have HU3 := Lib.hid HO3.out.lt
      clear HO1 HN1 HG1 HU1
      clear HO2 HN2 HG2 HU2
      have kc0_0 := HKAf.out.cell 0
      have kc0_1 := HKAf.out.cell 1
      go_wp2_with fail
      clear kc0_0 kc0_1
      refine (toCnf_any vf Af _ xf _ ((HXf.out.below HB).mono HB.size) (by omega) (by omega)).mono ?_
      rintro e w6 ⟨B4, F4, rfl, HO4, HN4, HG4, hb⟩
      replace HO4 := Lib.hid HO4
      replace HN4 := Lib.hid HN4
      replace HG4 := Lib.hid HG4
      have hzw6 := hb.size
      replace HB := HB.trans (hb.mono HB.size)
      replace HO3 := Lib.hid (HO3.out.after hb)
      replace HKAf := Lib.hid (HKAf.out.below hb HKAf.out.lt)
      clear hb
      have HU4 := Lib.hid HO4.out.lt
      have kc0_0 := HKAf.out.cell 0
      have kc0_1 := HKAf.out.cell 1
      go_wp2_with fail
      clear kc0_0 kc0_1
      have hb := below1 w6 (.cells #[.int .i64 vf, .slice B4 xf.length xf.length] 37)
      have HK4 := Lib.hid (Blk.new w6 37 #[.int .i64 vf, .slice B4 xf.length xf.length])
      have hsw7 : w6.heap.size + 1 ≤ (w6.alloc (.cells #[.int .i64 vf, .slice B4 xf.length xf.length] 37)).heap.size := by simp
      generalize w6.alloc (.cells #[.int .i64 vf, .slice B4 xf.length xf.length] 37) = w7 at *
      have hzw7 := hb.size
      replace HB := HB.trans (hb.mono HB.size)
      replace HO3 := Lib.hid (HO3.out.after hb)
      replace HO4 := Lib.hid (HO4.out.after hb)
      replace HKAf := Lib.hid (HKAf.out.below hb HKAf.out.lt)
      clear hb
      refine (toIntS_any  Ap _ xp _ ((HXp.out.below HB).mono HB.size) (by omega)).mono ?_
      rintro e w8 ⟨B5, F5, rfl, HO5, HN5, HG5, hb⟩
      replace HO5 := Lib.hid HO5
      replace HN5 := Lib.hid HN5
      replace HG5 := Lib.hid HG5
      have hzw8 := hb.size
      replace HB := HB.trans (hb.mono HB.size)
      replace HO3 := Lib.hid (HO3.out.after hb)
      replace HO4 := Lib.hid (HO4.out.after hb)
      replace HKAf := Lib.hid (HKAf.out.below hb HKAf.out.lt)
      replace HK4 := Lib.hid (HK4.out.below hb HK4.out.lt)
      clear hb
      have HU5 := Lib.hid HO5.out.lt
      have kc0_0 := HKAf.out.cell 0
      have kc0_1 := HKAf.out.cell 1
      have kc1_0 := HK4.out.cell 0
      have kc1_1 := HK4.out.cell 1
      go_wp2_with fail
      clear kc0_0 kc0_1 kc1_0 kc1_1
      refine (iPropagate_any vf _ _ _ _ xf xp _ HO4.out.rd HO5.out.rd).mono ?_
      rintro e w9 ⟨B6, D6, F6, rfl, HO6, HN6, HG6, hb⟩
      replace HO6 := Lib.hid HO6
      replace HN6 := Lib.hid HN6
      replace HG6 := Lib.hid HG6
      have hzw9 := hb.size
      replace HB := HB.trans (hb.mono HB.size)
      replace HO3 := Lib.hid (HO3.out.after hb)
      replace HO4 := Lib.hid (HO4.out.after hb)
      replace HO5 := Lib.hid (HO5.out.after hb)
      replace HKAf := Lib.hid (HKAf.out.below hb HKAf.out.lt)
      replace HK4 := Lib.hid (HK4.out.below hb HK4.out.lt)
      clear hb
      have HU6 := Lib.hid HO6.out.lt
      have hs := same_self ((propagateB vf xf xp).getD [])
      have kc0_0 := HKAf.out.cell 0
      have kc0_1 := HKAf.out.cell 1
      have kc1_0 := HK4.out.cell 0
      have kc1_1 := HK4.out.cell 1
      go_wp2_with fail
      clear kc0_0 kc0_1 kc1_0 kc1_1
      refine (eqIntS_any _ _ _ _ ((propagateB vf xf xp).getD []) ((propagateB vf xf xp).getD []) _ HO6.out.rd HO3.out.rd).mono ?_
      rintro e w10 ⟨rfl, hb⟩
      have hzw10 := hb.size
      replace HB := HB.trans (hb.mono HB.size)
      replace HO3 := Lib.hid (HO3.out.after hb)
      replace HO4 := Lib.hid (HO4.out.after hb)
      replace HO5 := Lib.hid (HO5.out.after hb)
      replace HO6 := Lib.hid (HO6.out.after hb)
      replace HKAf := Lib.hid (HKAf.out.below hb HKAf.out.lt)
      replace HK4 := Lib.hid (HK4.out.below hb HK4.out.lt)
      clear hb
      have kc0_0 := HKAf.out.cell 0
      have kc0_1 := HKAf.out.cell 1
      have kc1_0 := HK4.out.cell 0
      have kc1_1 := HK4.out.cell 1
      go_wp2_with fail
      clear kc0_0 kc0_1 kc1_0 kc1_1
      have hq0_0 : ∀ W, Below w10.heap.size w10 W → W.cell? ⟨w.heap.size, 0, none⟩ = some (.int .i64 vf) := fun W h => (h.cell (p := ⟨w.heap.size, 0, none⟩) HKAf.out.lt).trans (HKAf.out.cell 0)
      have hq0_1 : ∀ W, Below w10.heap.size w10 W → W.cell? ⟨w.heap.size, 1, none⟩ = some (.slice Af xf.length cf) := fun W h => (h.cell (p := ⟨w.heap.size, 1, none⟩) HKAf.out.lt).trans (HKAf.out.cell 1)
      have hq1_0 : ∀ W, Below w10.heap.size w10 W → W.cell? ⟨w6.heap.size, 0, none⟩ = some (.int .i64 vf) := fun W h => (h.cell (p := ⟨w6.heap.size, 0, none⟩) HK4.out.lt).trans (HK4.out.cell 0)
      have hq1_1 : ∀ W, Below w10.heap.size w10 W → W.cell? ⟨w6.heap.size, 1, none⟩ = some (.slice B4 xf.length xf.length) := fun W h => (h.cell (p := ⟨w6.heap.size, 1, none⟩) HK4.out.lt).trans (HK4.out.cell 1)
      go_region_held3 (fun w' => Below w10.heap.size w10 w') (first | exact (Below.refl _ _).drew | exact Below.trans (Below.refl _ _).drew (hbA.mono (Nat.le_refl _)) | exact Below.trans (by assumption) (hbB.mono (Below.size (by assumption))))
        (first | (go_at_call 31; refine (toCnf_any vf Af _ xf _ ((HXf.out.below HB.drew).mono (by exact HB.size)) (by omega) (by omega)).mono ?_; rintro e wA ⟨BA, FA, rfl, HOA, HNA, HGA, hbA⟩; replace HOA := Lib.hid HOA; replace HNA := Lib.hid HNA; replace HGA := Lib.hid HGA) | (go_at_call 32; refine (eqCnf_same vf _ _ _ _ xf _ (HO4.out.after (by assumption)).rd HOA.out.rd).mono ?_; rintro e wB ⟨rfl, hbB⟩))
      clear hq0_0 hq0_1
      clear hq1_0 hq1_1
      have hb : Below w10.heap.size w10 wB := by assumption
      clear hbA hbB HOA HNA HGA
      have hzwB := hb.size
      replace HB := HB.trans (hb.mono HB.size)
      replace HO3 := Lib.hid (HO3.out.after hb)
      replace HO4 := Lib.hid (HO4.out.after hb)
      replace HO5 := Lib.hid (HO5.out.after hb)
      replace HO6 := Lib.hid (HO6.out.after hb)
      replace HKAf := Lib.hid (HKAf.out.below hb HKAf.out.lt)
      replace HK4 := Lib.hid (HK4.out.below hb HK4.out.lt)
      clear hb
      obtain ⟨w11, hwB⟩ : ∃ W, W = wB := ⟨_, rfl⟩
      subst hwB
      have kc0_0 := HKAf.out.cell 0
      have kc0_1 := HKAf.out.cell 1
      have kc1_0 := HK4.out.cell 0
      have kc1_1 := HK4.out.cell 1
      go_wp2_with fail
      clear kc0_0 kc0_1 kc1_0 kc1_1
      refine (toIntS_any  Ap _ xp _ ((HXp.out.below HB).mono HB.size) (by omega)).mono ?_
      rintro e w12 ⟨B8, F8, rfl, HO8, HN8, HG8, hb⟩
      replace HO8 := Lib.hid HO8
      replace HN8 := Lib.hid HN8
      replace HG8 := Lib.hid HG8
      have hzw12 := hb.size
      replace HB := HB.trans (hb.mono HB.size)
      replace HO3 := Lib.hid (HO3.out.after hb)
      replace HO4 := Lib.hid (HO4.out.after hb)
      replace HO5 := Lib.hid (HO5.out.after hb)
      replace HO6 := Lib.hid (HO6.out.after hb)
      replace HKAf := Lib.hid (HKAf.out.below hb HKAf.out.lt)
      replace HK4 := Lib.hid (HK4.out.below hb HK4.out.lt)
      clear hb
      have HU8 := Lib.hid HO8.out.lt
      have hs := same_self xp
      have kc0_0 := HKAf.out.cell 0
      have kc0_1 := HKAf.out.cell 1
      have kc1_0 := HK4.out.cell 0
      have kc1_1 := HK4.out.cell 1
      go_wp2_with fail
      clear kc0_0 kc0_1 kc1_0 kc1_1
      refine (eqIntS_any _ _ _ _ xp xp _ HO5.out.rd HO8.out.rd).mono ?_
      rintro e w13 ⟨rfl, hb⟩
      have hzw13 := hb.size
      replace HB := HB.trans (hb.mono HB.size)
      replace HO3 := Lib.hid (HO3.out.after hb)
      replace HO4 := Lib.hid (HO4.out.after hb)
      replace HO5 := Lib.hid (HO5.out.after hb)
      replace HO6 := Lib.hid (HO6.out.after hb)
      replace HO8 := Lib.hid (HO8.out.after hb)
      replace HKAf := Lib.hid (HKAf.out.below hb HKAf.out.lt)
      replace HK4 := Lib.hid (HK4.out.below hb HK4.out.lt)
      clear hb
      clear HO8 HN8 HG8 HU8
      have kc0_0 := HKAf.out.cell 0
      have kc0_1 := HKAf.out.cell 1
      have kc1_0 := HK4.out.cell 0
      have kc1_1 := HK4.out.cell 1
      go_wp2_with fail
      clear kc0_0 kc0_1 kc1_0 kc1_1
      refine (markCnf_any vf _ _ (xf) F4 _ _ HO4.out HN4.out (by omega) (by omega)).mono ?_
      rintro e w14 ⟨rfl, HMM, ho⟩
      replace HO4 := Lib.hid HMM
      clear HMM
      have hzw14 := ho.size
      replace HB := below_of_only HB HB.size ho (fun q hq => by have h1 := HG4.out q hq; omega)
      replace HO3 := Lib.hid (HO3.out.only ho (fun q hq hq2 => by have h1 := HG3.out q hq; have h2 := HU3.out q hq; have h3 := HG4.out q hq2; have h4 := HU4.out q hq2; omega))
      replace HO5 := Lib.hid (HO5.out.only ho (fun q hq hq2 => by have h1 := HG5.out q hq; have h2 := HU5.out q hq; have h3 := HG4.out q hq2; have h4 := HU4.out q hq2; omega))
      replace HO6 := Lib.hid (HO6.out.only ho (fun q hq hq2 => by have h1 := HG6.out q hq; have h2 := HU6.out q hq; have h3 := HG4.out q hq2; have h4 := HU4.out q hq2; omega))
      replace HKAf := Lib.hid (HKAf.out.only ho (fun hq => by have h1 := HG4.out _ hq; have h2 := HU4.out _ hq; omega))
      replace HK4 := Lib.hid (HK4.out.only ho (fun hq => by have h1 := HG4.out _ hq; have h2 := HU4.out _ hq; omega))
      clear ho
      clear HO4 HN4 HG4 HU4
      have kc0_0 := HKAf.out.cell 0
      have kc0_1 := HKAf.out.cell 1
      have kc1_0 := HK4.out.cell 0
      have kc1_1 := HK4.out.cell 1
      go_wp2_with fail
      clear kc0_0 kc0_1 kc1_0 kc1_1
      refine (markIntS_any  _ _ (xp) F5 _ _ HO5.out  (by omega) (by omega)).mono ?_
      rintro e w15 ⟨rfl, HMM, ho⟩
      replace HO5 := Lib.hid HMM
      clear HMM
      have hzw15 := ho.size
      replace HB := below_of_only HB HB.size ho (fun q hq => by have h1 := HG5.out q hq; omega)
      replace HO3 := Lib.hid (HO3.out.only ho (fun q hq hq2 => by have h1 := HG3.out q hq; have h2 := HU3.out q hq; have h3 := HG5.out q hq2; have h4 := HU5.out q hq2; omega))
      replace HO6 := Lib.hid (HO6.out.only ho (fun q hq hq2 => by have h1 := HG6.out q hq; have h2 := HU6.out q hq; have h3 := HG5.out q hq2; have h4 := HU5.out q hq2; omega))
      replace HKAf := Lib.hid (HKAf.out.only ho (fun hq => by have h1 := HG5.out _ hq; have h2 := HU5.out _ hq; omega))
      replace HK4 := Lib.hid (HK4.out.only ho (fun hq => by have h1 := HG5.out _ hq; have h2 := HU5.out _ hq; omega))
      clear ho
      clear HO5 HN5 HG5 HU5
      have hs := same_self ((propagateB vf xf xp).getD [])
      have kc0_0 := HKAf.out.cell 0
      have kc0_1 := HKAf.out.cell 1
      have kc1_0 := HK4.out.cell 0
      have kc1_1 := HK4.out.cell 1
      go_wp2_with fail
      clear kc0_0 kc0_1 kc1_0 kc1_1
      refine (eqIntS_any _ _ _ _ ((propagateB vf xf xp).getD []) ((propagateB vf xf xp).getD []) _ HO6.out.rd HO3.out.rd).mono ?_
      rintro e w16 ⟨rfl, hb⟩
      have hzw16 := hb.size
      replace HB := HB.trans (hb.mono HB.size)
      replace HO3 := Lib.hid (HO3.out.after hb)
      replace HO6 := Lib.hid (HO6.out.after hb)
      replace HKAf := Lib.hid (HKAf.out.below hb HKAf.out.lt)
      replace HK4 := Lib.hid (HK4.out.below hb HK4.out.lt)
      clear hb
      clear HK4
      have kc0_0 := HKAf.out.cell 0
      have kc0_1 := HKAf.out.cell 1
      go_wp2_with fail
      clear kc0_0 kc0_1
      refine (markIntS_any  _ _ ((propagateB vf xf xp).getD []) F6 _ _ HO6.out  (by omega) (by omega)).mono ?_
      rintro e w17 ⟨rfl, HMM, ho⟩
      replace HO6 := Lib.hid HMM
      clear HMM
      have hzw17 := ho.size
      replace HB := below_of_only HB HB.size ho (fun q hq => by have h1 := HG6.out q hq; omega)
      replace HO3 := Lib.hid (HO3.out.only ho (fun q hq hq2 => by have h1 := HG3.out q hq; have h2 := HU3.out q hq; have h3 := HG6.out q hq2; have h4 := HU6.out q hq2; omega))
      replace HKAf := Lib.hid (HKAf.out.only ho (fun hq => by have h1 := HG6.out _ hq; have h2 := HU6.out _ hq; omega))
      clear ho
      have kc0_0 := HKAf.out.cell 0
      have kc0_1 := HKAf.out.cell 1
      go_wp2_with fail
      clear kc0_0 kc0_1
      refine (heldIntS_any _ _ _ _ _ HO6.out.rd (by omega) (by omega)).mono ?_
      rintro e w18 ⟨rfl, hb⟩
      have hzw18 := hb.size
      replace HB := HB.trans (hb.mono HB.size)
      replace HO3 := Lib.hid (HO3.out.after hb)
      replace HO6 := Lib.hid (HO6.out.after hb)
      replace HKAf := Lib.hid (HKAf.out.below hb HKAf.out.lt)
      clear hb
      have kc0_0 := HKAf.out.cell 0
      have kc0_1 := HKAf.out.cell 1
      go_wp2_with fail
      clear kc0_0 kc0_1
      refine (toCnf_any vf Af _ xf _ ((HXf.out.below HB).mono HB.size) (by omega) (by omega)).mono ?_
      rintro e w19 ⟨B9, F9, rfl, HO9, HN9, HG9, hb⟩
      replace HO9 := Lib.hid HO9
      replace HN9 := Lib.hid HN9
      replace HG9 := Lib.hid HG9
      have hzw19 := hb.size
      replace HB := HB.trans (hb.mono HB.size)
      replace HO3 := Lib.hid (HO3.out.after hb)
      replace HO6 := Lib.hid (HO6.out.after hb)
      replace HKAf := Lib.hid (HKAf.out.below hb HKAf.out.lt)
      clear hb
      have HU9 := Lib.hid HO9.out.lt
      have kc0_0 := HKAf.out.cell 0
      have kc0_1 := HKAf.out.cell 1
      go_wp2_with fail
      clear kc0_0 kc0_1
      refine (toIntS_any  Ap _ xp _ ((HXp.out.below HB).mono HB.size) (by omega)).mono ?_
      rintro e w20 ⟨B10, F10, rfl, HO10, HN10, HG10, hb⟩
      replace HO10 := Lib.hid HO10
      replace HN10 := Lib.hid HN10
      replace HG10 := Lib.hid HG10
      have hzw20 := hb.size
      replace HB := HB.trans (hb.mono HB.size)
      replace HO3 := Lib.hid (HO3.out.after hb)
      replace HO6 := Lib.hid (HO6.out.after hb)
      replace HO9 := Lib.hid (HO9.out.after hb)
      replace HKAf := Lib.hid (HKAf.out.below hb HKAf.out.lt)
      clear hb
      have HU10 := Lib.hid HO10.out.lt
      have kc0_0 := HKAf.out.cell 0
      have kc0_1 := HKAf.out.cell 1
      go_wp2_with fail
      clear kc0_0 kc0_1
      refine (iPropagate_any vf _ _ _ _ xf xp _ HO9.out.rd HO10.out.rd).mono ?_
      rintro e w21 ⟨B11, D11, F11, rfl, HO11, HN11, HG11, hb⟩
      replace HO11 := Lib.hid HO11
      replace HN11 := Lib.hid HN11
      replace HG11 := Lib.hid HG11
      have hzw21 := hb.size
      replace HB := HB.trans (hb.mono HB.size)
      replace HO3 := Lib.hid (HO3.out.after hb)
      replace HO6 := Lib.hid (HO6.out.after hb)
      replace HO9 := Lib.hid (HO9.out.after hb)
      replace HO10 := Lib.hid (HO10.out.after hb)
      replace HKAf := Lib.hid (HKAf.out.below hb HKAf.out.lt)
      clear hb
      have HU11 := Lib.hid HO11.out.lt
      have hs := same_self ((propagateB vf xf xp).getD [])
      have kc0_0 := HKAf.out.cell 0
      have kc0_1 := HKAf.out.cell 1
      go_wp2_with fail
      clear kc0_0 kc0_1
      refine (eqIntS_any _ _ _ _ ((propagateB vf xf xp).getD []) ((propagateB vf xf xp).getD []) _ HO11.out.rd HO3.out.rd).mono ?_
      rintro e w22 ⟨rfl, hb⟩
      have hzw22 := hb.size
      replace HB := HB.trans (hb.mono HB.size)
      replace HO3 := Lib.hid (HO3.out.after hb)
      replace HO6 := Lib.hid (HO6.out.after hb)
      replace HO9 := Lib.hid (HO9.out.after hb)
      replace HO10 := Lib.hid (HO10.out.after hb)
      replace HO11 := Lib.hid (HO11.out.after hb)
      replace HKAf := Lib.hid (HKAf.out.below hb HKAf.out.lt)
      clear hb
      have kc0_0 := HKAf.out.cell 0
      have kc0_1 := HKAf.out.cell 1
      go_wp2_with fail
      clear kc0_0 kc0_1
      refine (heldIntS_any _ _ _ _ _ HO6.out.rd (by omega) (by omega)).mono ?_
      rintro e w23 ⟨rfl, hb⟩
      have hzw23 := hb.size
      replace HB := HB.trans (hb.mono HB.size)
      replace HO3 := Lib.hid (HO3.out.after hb)
      replace HO6 := Lib.hid (HO6.out.after hb)
      replace HO9 := Lib.hid (HO9.out.after hb)
      replace HO10 := Lib.hid (HO10.out.after hb)
      replace HO11 := Lib.hid (HO11.out.after hb)
      replace HKAf := Lib.hid (HKAf.out.below hb HKAf.out.lt)
      clear hb
      have kc0_0 := HKAf.out.cell 0
      have kc0_1 := HKAf.out.cell 1
      go_wp2_with fail
      go_ret
      exact ⟨rfl, HB⟩
set_option maxRecDepth 100000 in
theorem FnExactPropagate_lifted (os : Os) (started : os.Started) (H : Type) (enc : TypeId × Value → H) :
    ReturnsInHanded {} Try.checked os 9 .any (Rows.fnExactPropagateSpec.pre6 enc Try.prog Try.f9 Rows.fnExactPropagateRow.domain false) (Rows.fnExactPropagateSpec.post enc Try.prog Try.f9 false true false false) := by
  refine law_lift (C := Try.checked) Try.own started (by kernel_rfl) Try.func9
    (ChangeSpec.witness6 (enc := enc) (C := Try.checked) false ⟨#[], #[.agg #[.int .i64 0, .slice none 0 0], .slice none 0 0], []⟩ 8 (by kernel_rfl) (by kernel_rfl) (by kernel_rfl) (by kernel_rfl))
    Try.laidOut (of_decide_eq_true (by kernel_rfl)) rfl rfl Try.underlying4 ?_
  intro W base args ds ps hval0 hA0 hlt
  have hval : ∀ (j : Nat) t v, Try.f9.params[j]? = some t → args[j]? = some v → Value.okWide Try.prog W .any base t v := hval0
  have hA : DataW.TrodAll enc Try.prog W 0 (fun _ => true) true Try.f9.params.toList args.toList ds ps := hA0
  clear hval0 hA0
  rw [Try.params9] at hA hval
  obtain ⟨v0, vs0, d0, ds0, p0, q0, hargs, rfl, rfl, h0, r0⟩ := trodAll_cons hA
  obtain ⟨v1, vs1, d1, ds1, p1, q1, rfl, rfl, rfl, h1, r1⟩ := trodAll_cons r0
  obtain ⟨rfl, rfl, rfl⟩ := trodAll_nil r1
  obtain rfl : args = #[v0, v1] := by cases args; simp_all
  obtain ⟨vf, Af, xf, cf, rfl, hHXf⟩ := open_cnf (hval 0 _ v0 rfl rfl) h0 (fun x hx => hlt x (by simp [hx]))
  obtain ⟨Ap, xp, cp, rfl, hHXp⟩ := open_intl (hval 1 _ v1 rfl rfl) h1 (fun x hx => hlt x (by simp [hx]))
  exact ⟨rfl, FnExactPropagate_walk vf Af cf xf Ap cp xp W hHXf hHXp⟩

/-- THE STATEMENT, PROVED. -/
theorem FnExactPropagate_holds : Rows.FnExactPropagateSaid :=
  OpenClaim.holds_of_wide 9 Try.f9 rfl rfl rfl rfl rfl rfl rfl ⟨rfl, rfl, rfl, rfl, rfl⟩ rfl rfl rfl rfl rfl (by kernel_rfl) Try.func9 (by kernel_rfl)
    (of_decide_eq_true (by kernel_rfl)) (by unfold Func.isWrapper; first | (rw [if_pos (by decide +kernel)]; kernel_rfl) | (rw [if_neg (by decide +kernel)]; exact ⟨rfl, rfl⟩))
    (fun os started H enc _ => FnExactPropagate_lifted os started H enc)
#print axioms FnExactPropagate_holds

end Go.Proofs.Ytbmapbbjbdpbcaa
