/-
  The laws LawTile3: each call returns true, at every input. Written by mk_cnflaws.py.
  Conditions: none.
-/
import Derived.Test.YtfgdcjpclngeaaaTiles
import Derived.Test.YtfgdcjpclngeaaaOpen
import Derived.Test.YtfgdcjpclngeaaaExA
namespace Go.Proofs.Ytfgdcjpclngeaaa
open Go.RowKit Go.ChangeShapes Go.WideShapes Go.ChangeAt
set_option linter.unusedVariables false

open Go.Joins
theorem cellsDev : Try.prog.cellsOf 23 = 4 := by kernel_rfl
theorem open_dev {H : Type} {enc : TypeId × Value → H} {W : World} {base : Nat} {v : Value} {d : DataW H} {p : List MemPlace}
    (hv : Value.okWide Try.prog W .any base 23 v) (h : DataW.Trod enc Try.prog W 0 (fun _ => true) true 23 v d p) (_ : ∀ x ∈ p, x.block < W.heap.size) : ∃ a b c e : Int, v = devV a b c e := by
  obtain ⟨c0, c1, c2, c3, y0, y1, y2, y3, m, rfl, -, -, h0, h1, h2, h3⟩ := open_agg4 Try.underlying23 (by kernel_rfl) cellsDev hv h
  obtain ⟨a, e0, -, -⟩ := DataW.trod_int Try.underlying3 h0
  obtain ⟨b, e1, -, -⟩ := DataW.trod_int Try.underlying3 h1
  obtain ⟨c, e2, -, -⟩ := DataW.trod_int Try.underlying3 h2
  obtain ⟨e, e3, -, -⟩ := DataW.trod_int Try.underlying3 h3
  simp at e0 e1 e2 e3
  subst e0 e1 e2 e3
  exact ⟨a, b, c, e, rfl⟩


set_option maxHeartbeats 1000000 in
theorem FnExactTilesOf_walk (vd0 : Int) (vd1 : Int) (vd2 : Int) (vd3 : Int) (k : Int) (w : World)  :
    Calls Try.prog 6 #[.agg #[.int .i64 vd0, .int .i64 vd1, .int .i64 vd2, .int .i64 vd3], .int .i64 k] w fun e w' => e = .returned (.bool true) ∧ Below w.heap.size w w' := by
  have HB := Below.refl w.heap.size w
  go_enter Try.func6, Try.ntmps6
  go_wp2_with fail
  have hb : Below w.heap.size w (w.alloc (.cells #[.int .i64 vd0, .int .i64 vd1, .int .i64 vd2, .int .i64 vd3] 23)) := by go_grown
  have HKAd : Hid (Blk (w.alloc (.cells #[.int .i64 vd0, .int .i64 vd1, .int .i64 vd2, .int .i64 vd3] 23)) (w.heap.size) 23 #[.int .i64 vd0, .int .i64 vd1, .int .i64 vd2, .int .i64 vd3]) := Lib.hid (by simp only [Blk, heap_alloc_get]; simp)
  have hsw1 : w.heap.size + 1 ≤ (w.alloc (.cells #[.int .i64 vd0, .int .i64 vd1, .int .i64 vd2, .int .i64 vd3] 23)).heap.size := by simp
  generalize (w.alloc (.cells #[.int .i64 vd0, .int .i64 vd1, .int .i64 vd2, .int .i64 vd3] 23)) = w1 at *
  have hzw1 := hb.size
  replace HB := HB.trans (hb.mono HB.size)
  clear hb
  have hres : (tilesAll vd0 vd1 vd2 vd3 k).length ≤ 1048576 := Nat.le_trans (tilesAll_len _ _ _ _ _) (by omega)
  have kc0_0 := HKAd.out.cell 0
  have kc0_1 := HKAd.out.cell 1
  have kc0_2 := HKAd.out.cell 2
  have kc0_3 := HKAd.out.cell 3
  go_wp2_with fail
  clear kc0_0 kc0_1 kc0_2 kc0_3
  refine (todev_any vd0 vd1 vd2 vd3 _).mono ?_
  rintro e w2 ⟨rfl, hb⟩
  have hzw2 := hb.size
  replace HB := HB.trans (hb.mono HB.size)
  replace HKAd := Lib.hid (HKAd.out.below hb HKAd.out.lt)
  clear hb
  have kc0_0 := HKAd.out.cell 0
  have kc0_1 := HKAd.out.cell 1
  have kc0_2 := HKAd.out.cell 2
  have kc0_3 := HKAd.out.cell 3
  go_wp2_with fail
  clear kc0_0 kc0_1 kc0_2 kc0_3
  refine (sTiles_any vd0 vd1 vd2 vd3 k _).mono ?_
  rintro e w3 ⟨B1, D1, F1, rfl, HO1, HN1, HG1, hb⟩
  replace HO1 := Lib.hid HO1
  replace HN1 := Lib.hid HN1
  replace HG1 := Lib.hid HG1
  have hzw3 := hb.size
  replace HB := HB.trans (hb.mono HB.size)
  replace HKAd := Lib.hid (HKAd.out.below hb HKAd.out.lt)
  clear hb
  have HU1 := Lib.hid HO1.out.lt
  have kc0_0 := HKAd.out.cell 0
  have kc0_1 := HKAd.out.cell 1
  have kc0_2 := HKAd.out.cell 2
  have kc0_3 := HKAd.out.cell 3
  go_wp2_with fail
  clear kc0_0 kc0_1 kc0_2 kc0_3
  refine (todev_any vd0 vd1 vd2 vd3 _).mono ?_
  rintro e w4 ⟨rfl, hb⟩
  have hzw4 := hb.size
  replace HB := HB.trans (hb.mono HB.size)
  replace HO1 := Lib.hid (HO1.out.after hb)
  replace HKAd := Lib.hid (HKAd.out.below hb HKAd.out.lt)
  clear hb
  have kc0_0 := HKAd.out.cell 0
  have kc0_1 := HKAd.out.cell 1
  have kc0_2 := HKAd.out.cell 2
  have kc0_3 := HKAd.out.cell 3
  go_wp2_with fail
  clear kc0_0 kc0_1 kc0_2 kc0_3
  refine (iTiles_any vd0 vd1 vd2 vd3 k _).mono ?_
  rintro e w5 ⟨B2, D2, F2, rfl, HO2, HN2, HG2, hb⟩
  replace HO2 := Lib.hid HO2
  replace HN2 := Lib.hid HN2
  replace HG2 := Lib.hid HG2
  have hzw5 := hb.size
  replace HB := HB.trans (hb.mono HB.size)
  replace HO1 := Lib.hid (HO1.out.after hb)
  replace HKAd := Lib.hid (HKAd.out.below hb HKAd.out.lt)
  clear hb
  have HU2 := Lib.hid HO2.out.lt
  have hs := same_self (tilesAll vd0 vd1 vd2 vd3 k)
  have kc0_0 := HKAd.out.cell 0
  have kc0_1 := HKAd.out.cell 1
  have kc0_2 := HKAd.out.cell 2
  have kc0_3 := HKAd.out.cell 3
  go_wp2_with fail
  clear kc0_0 kc0_1 kc0_2 kc0_3
  refine (eqIntS_any _ _ _ _ (tilesAll vd0 vd1 vd2 vd3 k) (tilesAll vd0 vd1 vd2 vd3 k) _ HO2.out.rd HO1.out.rd).mono ?_
  rintro e w6 ⟨rfl, hb⟩
  have hzw6 := hb.size
  replace HB := HB.trans (hb.mono HB.size)
  replace HO1 := Lib.hid (HO1.out.after hb)
  replace HO2 := Lib.hid (HO2.out.after hb)
  replace HKAd := Lib.hid (HKAd.out.below hb HKAd.out.lt)
  clear hb
  have kc0_0 := HKAd.out.cell 0
  have kc0_1 := HKAd.out.cell 1
  have kc0_2 := HKAd.out.cell 2
  have kc0_3 := HKAd.out.cell 3
  go_wp2_with fail
  clear kc0_0 kc0_1 kc0_2 kc0_3
  refine (markIntS_any  _ _ (tilesAll vd0 vd1 vd2 vd3 k) F2 _ _ HO2.out  (by omega) (by omega)).mono ?_
  rintro e w7 ⟨rfl, HMM, ho⟩
  replace HO2 := Lib.hid HMM
  clear HMM
  have hzw7 := ho.size
  replace HB := below_of_only HB HB.size ho (fun q hq => by have h1 := HG2.out q hq; omega)
  replace HO1 := Lib.hid (HO1.out.only ho (fun q hq hq2 => by have h1 := HG1.out q hq; have h2 := HU1.out q hq; have h3 := HG2.out q hq2; have h4 := HU2.out q hq2; omega))
  replace HKAd := Lib.hid (HKAd.out.only ho (fun hq => by have h1 := HG2.out _ hq; have h2 := HU2.out _ hq; omega))
  clear ho
  have kc0_0 := HKAd.out.cell 0
  have kc0_1 := HKAd.out.cell 1
  have kc0_2 := HKAd.out.cell 2
  have kc0_3 := HKAd.out.cell 3
  go_wp2_with fail
  clear kc0_0 kc0_1 kc0_2 kc0_3
  refine (heldIntS_any _ _ _ _ _ HO2.out.rd (by omega) (by omega)).mono ?_
  rintro e w8 ⟨rfl, hb⟩
  have hzw8 := hb.size
  replace HB := HB.trans (hb.mono HB.size)
  replace HO1 := Lib.hid (HO1.out.after hb)
  replace HO2 := Lib.hid (HO2.out.after hb)
  replace HKAd := Lib.hid (HKAd.out.below hb HKAd.out.lt)
  clear hb
  have kc0_0 := HKAd.out.cell 0
  have kc0_1 := HKAd.out.cell 1
  have kc0_2 := HKAd.out.cell 2
  have kc0_3 := HKAd.out.cell 3
  go_wp2_with fail
  clear kc0_0 kc0_1 kc0_2 kc0_3
  refine (todev_any vd0 vd1 vd2 vd3 _).mono ?_
  rintro e w9 ⟨rfl, hb⟩
  have hzw9 := hb.size
  replace HB := HB.trans (hb.mono HB.size)
  replace HO1 := Lib.hid (HO1.out.after hb)
  replace HO2 := Lib.hid (HO2.out.after hb)
  replace HKAd := Lib.hid (HKAd.out.below hb HKAd.out.lt)
  clear hb
  have kc0_0 := HKAd.out.cell 0
  have kc0_1 := HKAd.out.cell 1
  have kc0_2 := HKAd.out.cell 2
  have kc0_3 := HKAd.out.cell 3
  go_wp2_with fail
  clear kc0_0 kc0_1 kc0_2 kc0_3
  refine (iTiles_any vd0 vd1 vd2 vd3 k _).mono ?_
  rintro e w10 ⟨B3, D3, F3, rfl, HO3, HN3, HG3, hb⟩
  replace HO3 := Lib.hid HO3
  replace HN3 := Lib.hid HN3
  replace HG3 := Lib.hid HG3
  have hzw10 := hb.size
  replace HB := HB.trans (hb.mono HB.size)
  replace HO1 := Lib.hid (HO1.out.after hb)
  replace HO2 := Lib.hid (HO2.out.after hb)
  replace HKAd := Lib.hid (HKAd.out.below hb HKAd.out.lt)
  clear hb
  have HU3 := Lib.hid HO3.out.lt
  have hs := same_self (tilesAll vd0 vd1 vd2 vd3 k)
  have kc0_0 := HKAd.out.cell 0
  have kc0_1 := HKAd.out.cell 1
  have kc0_2 := HKAd.out.cell 2
  have kc0_3 := HKAd.out.cell 3
  go_wp2_with fail
  clear kc0_0 kc0_1 kc0_2 kc0_3
  refine (eqIntS_any _ _ _ _ (tilesAll vd0 vd1 vd2 vd3 k) (tilesAll vd0 vd1 vd2 vd3 k) _ HO3.out.rd HO1.out.rd).mono ?_
  rintro e w11 ⟨rfl, hb⟩
  have hzw11 := hb.size
  replace HB := HB.trans (hb.mono HB.size)
  replace HO1 := Lib.hid (HO1.out.after hb)
  replace HO2 := Lib.hid (HO2.out.after hb)
  replace HO3 := Lib.hid (HO3.out.after hb)
  replace HKAd := Lib.hid (HKAd.out.below hb HKAd.out.lt)
  clear hb
  have kc0_0 := HKAd.out.cell 0
  have kc0_1 := HKAd.out.cell 1
  have kc0_2 := HKAd.out.cell 2
  have kc0_3 := HKAd.out.cell 3
  go_wp2_with fail
  clear kc0_0 kc0_1 kc0_2 kc0_3
  refine (heldIntS_any _ _ _ _ _ HO2.out.rd (by omega) (by omega)).mono ?_
  rintro e w12 ⟨rfl, hb⟩
  have hzw12 := hb.size
  replace HB := HB.trans (hb.mono HB.size)
  replace HO1 := Lib.hid (HO1.out.after hb)
  replace HO2 := Lib.hid (HO2.out.after hb)
  replace HO3 := Lib.hid (HO3.out.after hb)
  replace HKAd := Lib.hid (HKAd.out.below hb HKAd.out.lt)
  clear hb
  have kc0_0 := HKAd.out.cell 0
  have kc0_1 := HKAd.out.cell 1
  have kc0_2 := HKAd.out.cell 2
  have kc0_3 := HKAd.out.cell 3
  go_wp2_with fail
  go_ret
  exact ⟨rfl, HB⟩
set_option maxRecDepth 100000 in
theorem FnExactTilesOf_lifted (os : Os) (started : os.Started) (H : Type) (enc : TypeId × Value → H) :
    ReturnsInHanded {} Try.checked os 6 .any (Rows.fnExactTilesOfSpec.pre6 enc Try.prog Try.f6 Rows.fnExactTilesOfRow.domain false) (Rows.fnExactTilesOfSpec.post enc Try.prog Try.f6 false true false false) := by
  refine law_lift (C := Try.checked) Try.own started (by kernel_rfl) Try.func6
    (ChangeSpec.witness6 (enc := enc) (C := Try.checked) false ⟨#[], #[devV 0 0 0 0, .int .i64 0], []⟩ 8 (by kernel_rfl) (by kernel_rfl) (by kernel_rfl) (by kernel_rfl))
    Try.laidOut (of_decide_eq_true (by kernel_rfl)) rfl rfl Try.underlying4 ?_
  intro W base args ds ps hval0 hA0 hlt
  have hval : ∀ (j : Nat) t v, Try.f6.params[j]? = some t → args[j]? = some v → Value.okWide Try.prog W .any base t v := hval0
  have hA : DataW.TrodAll enc Try.prog W 0 (fun _ => true) true Try.f6.params.toList args.toList ds ps := hA0
  clear hval0 hA0
  rw [Try.params6] at hA hval
  obtain ⟨v0, vs0, d0, ds0, p0, q0, hargs, rfl, rfl, h0, r0⟩ := trodAll_cons hA
  obtain ⟨v1, vs1, d1, ds1, p1, q1, rfl, rfl, rfl, h1, r1⟩ := trodAll_cons r0
  obtain ⟨rfl, rfl, rfl⟩ := trodAll_nil r1
  obtain rfl : args = #[v0, v1] := by cases args; simp_all
  obtain ⟨vd0, vd1, vd2, vd3, rfl⟩ := open_dev (hval 0 _ v0 rfl rfl) h0 (fun x hx => hlt x (by simp [hx]))
  obtain ⟨k, rfl, rfl, rfl, wf1⟩ := open_int Try.underlying3 (hval 1 _ v1 rfl rfl) h1
  exact ⟨rfl, FnExactTilesOf_walk vd0 vd1 vd2 vd3 k W ⟩

/-- THE STATEMENT, PROVED. -/
theorem FnExactTilesOf_holds : Rows.FnExactTilesOfSaid :=
  OpenClaim.holds_of_wide 6 Try.f6 rfl rfl rfl rfl rfl rfl rfl ⟨rfl, rfl, rfl, rfl, rfl⟩ rfl rfl rfl rfl rfl (by kernel_rfl) Try.func6 (by kernel_rfl)
    (of_decide_eq_true (by kernel_rfl)) (by unfold Func.isWrapper; first | (rw [if_pos (by decide +kernel)]; kernel_rfl) | (rw [if_neg (by decide +kernel)]; exact ⟨rfl, rfl⟩))
    (fun os started H enc _ => FnExactTilesOf_lifted os started H enc)
#print axioms FnExactTilesOf_holds

end Go.Proofs.Ytfgdcjpclngeaaa
