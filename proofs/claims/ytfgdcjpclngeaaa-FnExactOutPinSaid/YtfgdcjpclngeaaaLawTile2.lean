/-
  The laws of the device and its tiles: each call returns true, at every input.
  Conditions: none.
-/
import Derived.Test.YtfgdcjpclngeaaaTile5
namespace Go.Proofs.Ytfgdcjpclngeaaa
open Go.RowKit Go.ChangeShapes Go.WideShapes Go.ChangeAt Go.Joins
set_option linter.unusedVariables false

theorem below_new1 (w : World) (o : Obj) {B : Nat} (h : B ≤ w.heap.size) : Below B w (w.alloc o) := (Below.refl _ _).alloc h o
theorem cellsDev : Try.prog.cellsOf 23 = 4 := by kernel_rfl
theorem open_dev {H : Type} {enc : TypeId × Value → H} {W : World} {base : Nat} {v : Value} {d : DataW H} {p : List MemPlace}
    (hv : Value.okWide Try.prog W .any base 23 v) (h : DataW.Trod enc Try.prog W 0 (fun _ => true) true 23 v d p) (_ : ∀ x ∈ p, x.block < W.heap.size) : ∃ a b c e : Int, v = devV a b c e := by
  obtain ⟨c0, c1, c2, c3, y0, y1, y2, y3, m, rfl, -, -, h0, h1, h2, h3⟩ := open_agg4 Try.underlying23 (by kernel_rfl) cellsDev hv h
  obtain ⟨a, e0, -, -⟩ := DataW.trod_int Try.underlying3 h0
  obtain ⟨b, e1, -, -⟩ := DataW.trod_int Try.underlying3 h1
  obtain ⟨c, e2, -, -⟩ := DataW.trod_int Try.underlying3 h2
  obtain ⟨e, e3, -, -⟩ := DataW.trod_int Try.underlying3 h3
  simp at e0 e1 e2 e3
  subst e0 e1 e2 e3
  exact ⟨a, b, c, e, rfl⟩

theorem FnExactTileDistance_walk (a b c d t u : Int) (w : World) :
    Calls Try.prog 3 #[devV a b c d, .int .i64 t, .int .i64 u] w fun e w' => e = .returned (.bool true) ∧ Below w.heap.size w w' := by
  go_enter Try.func3, Try.ntmps3
  go_wp2_with fail
  refine (todev_any _ _ _ _ _).mono ?_
  rintro e w1 ⟨rfl, hb1⟩
  go_wp2_with fail
  refine (sDist_any _ _ _ _ _ _ _).mono ?_
  rintro e w2 ⟨rfl, hb⟩
  replace hb1 := hb1.trans (hb.mono hb1.size)
  clear hb
  obtain ⟨hc, hf⟩ := bcell hb1
  go_wp2_with fail
  refine (todev_any _ _ _ _ _).mono ?_
  rintro e w3 ⟨rfl, hb⟩
  clear hc hf
  replace hb1 := hb1.trans (hb.mono hb1.size)
  clear hb
  go_wp2_with fail
  refine (iDist_any _ _ _ _ _ _ _).mono ?_
  rintro e w4 ⟨rfl, hb⟩
  replace hb1 := hb1.trans (hb.mono hb1.size)
  clear hb
  go_wp2_with fail
  go_ret
  exact ⟨rfl, (below1 _ _).trans (hb1.mono (by simp))⟩
set_option maxRecDepth 100000 in
theorem FnExactTileDistance_lifted (os : Os) (started : os.Started) (H : Type) (enc : TypeId × Value → H) :
    ReturnsInHanded {} Try.checked os 3 .any (Rows.fnExactTileDistanceSpec.pre6 enc Try.prog Try.f3 Rows.fnExactTileDistanceRow.domain false) (Rows.fnExactTileDistanceSpec.post enc Try.prog Try.f3 false true false false) := by
  refine law_lift (C := Try.checked) Try.own started (by kernel_rfl) Try.func3
    (ChangeSpec.witness6 (enc := enc) (C := Try.checked) false ⟨#[], #[devV 0 0 0 0, .int .i64 0, .int .i64 0], []⟩ 8 (by kernel_rfl) (by kernel_rfl) (by kernel_rfl) (by kernel_rfl))
    Try.laidOut (of_decide_eq_true (by kernel_rfl)) rfl rfl Try.underlying4 ?_
  intro W base args ds ps hval0 hA0 hlt
  have hval : ∀ (j : Nat) t v, Try.f3.params[j]? = some t → args[j]? = some v → Value.okWide Try.prog W .any base t v := hval0
  have hA : DataW.TrodAll enc Try.prog W 0 (fun _ => true) true Try.f3.params.toList args.toList ds ps := hA0
  clear hval0 hA0
  rw [Try.params3] at hA hval
  obtain ⟨v0, vs0, d0, ds0, p0, q0, hargs, rfl, rfl, h0, r0⟩ := trodAll_cons hA
  obtain ⟨v1, vs1, d1, ds1, p1, q1, rfl, rfl, rfl, h1, r1⟩ := trodAll_cons r0
  obtain ⟨v2, vs2, d2, ds2, p2, q2, rfl, rfl, rfl, h2, r2⟩ := trodAll_cons r1
  obtain ⟨rfl, rfl, rfl⟩ := trodAll_nil r2
  obtain rfl : args = #[v0, v1, v2] := by cases args; simp_all
  obtain ⟨a, b, c, d, rfl⟩ := open_dev (hval 0 _ v0 rfl rfl) h0 (fun x hx => hlt x (by simp [hx]))
  obtain ⟨t, rfl, rfl, rfl, wf1⟩ := open_int Try.underlying3 (hval 1 _ v1 rfl rfl) h1
  obtain ⟨u, rfl, rfl, rfl, wf2⟩ := open_int Try.underlying3 (hval 2 _ v2 rfl rfl) h2
  exact ⟨rfl, FnExactTileDistance_walk a b c d t u W⟩

/-- THE STATEMENT, PROVED. -/
theorem FnExactTileDistance_holds : Rows.FnExactTileDistanceSaid :=
  OpenClaim.holds_of_wide 3 Try.f3 rfl rfl rfl rfl rfl rfl rfl ⟨rfl, rfl, rfl, rfl, rfl⟩ rfl rfl rfl rfl rfl (by kernel_rfl) Try.func3 (by kernel_rfl)
    (of_decide_eq_true (by kernel_rfl)) (by unfold Func.isWrapper; first | (rw [if_pos (by decide +kernel)]; kernel_rfl) | (rw [if_neg (by decide +kernel)]; exact ⟨rfl, rfl⟩))
    (fun os started H enc _ => FnExactTileDistance_lifted os started H enc)
#print axioms FnExactTileDistance_holds

theorem FnExactTileStep_walk (a b c d t k n : Int) (w : World) :
    Calls Try.prog 4 #[devV a b c d, .int .i64 t, .int .i64 k, .int .i64 n] w fun e w' => e = .returned (.bool true) ∧ Below w.heap.size w w' := by
  go_enter Try.func4, Try.ntmps4
  go_wp2_with fail
  refine (todev_any _ _ _ _ _).mono ?_
  rintro e w1 ⟨rfl, hb1⟩
  go_wp2_with fail
  refine (sStep_any _ _ _ _ _ _ _ _).mono ?_
  rintro e w2 ⟨rfl, hb⟩
  replace hb1 := hb1.trans (hb.mono hb1.size)
  clear hb
  obtain ⟨hc, hf⟩ := bcell hb1
  go_wp2_with fail
  refine (todev_any _ _ _ _ _).mono ?_
  rintro e w3 ⟨rfl, hb⟩
  clear hc hf
  replace hb1 := hb1.trans (hb.mono hb1.size)
  clear hb
  go_wp2_with fail
  refine (iStep_any _ _ _ _ _ _ _ _).mono ?_
  rintro e w4 ⟨rfl, hb⟩
  replace hb1 := hb1.trans (hb.mono hb1.size)
  clear hb
  go_wp2_with fail
  go_ret
  exact ⟨rfl, (below1 _ _).trans (hb1.mono (by simp))⟩
set_option maxRecDepth 100000 in
theorem FnExactTileStep_lifted (os : Os) (started : os.Started) (H : Type) (enc : TypeId × Value → H) :
    ReturnsInHanded {} Try.checked os 4 .any (Rows.fnExactTileStepSpec.pre6 enc Try.prog Try.f4 Rows.fnExactTileStepRow.domain false) (Rows.fnExactTileStepSpec.post enc Try.prog Try.f4 false true false false) := by
  refine law_lift (C := Try.checked) Try.own started (by kernel_rfl) Try.func4
    (ChangeSpec.witness6 (enc := enc) (C := Try.checked) false ⟨#[], #[devV 0 0 0 0, .int .i64 0, .int .i64 0, .int .i64 0], []⟩ 8 (by kernel_rfl) (by kernel_rfl) (by kernel_rfl) (by kernel_rfl))
    Try.laidOut (of_decide_eq_true (by kernel_rfl)) rfl rfl Try.underlying4 ?_
  intro W base args ds ps hval0 hA0 hlt
  have hval : ∀ (j : Nat) t v, Try.f4.params[j]? = some t → args[j]? = some v → Value.okWide Try.prog W .any base t v := hval0
  have hA : DataW.TrodAll enc Try.prog W 0 (fun _ => true) true Try.f4.params.toList args.toList ds ps := hA0
  clear hval0 hA0
  rw [Try.params4] at hA hval
  obtain ⟨v0, vs0, d0, ds0, p0, q0, hargs, rfl, rfl, h0, r0⟩ := trodAll_cons hA
  obtain ⟨v1, vs1, d1, ds1, p1, q1, rfl, rfl, rfl, h1, r1⟩ := trodAll_cons r0
  obtain ⟨v2, vs2, d2, ds2, p2, q2, rfl, rfl, rfl, h2, r2⟩ := trodAll_cons r1
  obtain ⟨v3, vs3, d3, ds3, p3, q3, rfl, rfl, rfl, h3, r3⟩ := trodAll_cons r2
  obtain ⟨rfl, rfl, rfl⟩ := trodAll_nil r3
  obtain rfl : args = #[v0, v1, v2, v3] := by cases args; simp_all
  obtain ⟨a, b, c, d, rfl⟩ := open_dev (hval 0 _ v0 rfl rfl) h0 (fun x hx => hlt x (by simp [hx]))
  obtain ⟨t, rfl, rfl, rfl, wf1⟩ := open_int Try.underlying3 (hval 1 _ v1 rfl rfl) h1
  obtain ⟨k, rfl, rfl, rfl, wf2⟩ := open_int Try.underlying3 (hval 2 _ v2 rfl rfl) h2
  obtain ⟨n, rfl, rfl, rfl, wf3⟩ := open_int Try.underlying3 (hval 3 _ v3 rfl rfl) h3
  exact ⟨rfl, FnExactTileStep_walk a b c d t k n W⟩

/-- THE STATEMENT, PROVED. -/
theorem FnExactTileStep_holds : Rows.FnExactTileStepSaid :=
  OpenClaim.holds_of_wide 4 Try.f4 rfl rfl rfl rfl rfl rfl rfl ⟨rfl, rfl, rfl, rfl, rfl⟩ rfl rfl rfl rfl rfl (by kernel_rfl) Try.func4 (by kernel_rfl)
    (of_decide_eq_true (by kernel_rfl)) (by unfold Func.isWrapper; first | (rw [if_pos (by decide +kernel)]; kernel_rfl) | (rw [if_neg (by decide +kernel)]; exact ⟨rfl, rfl⟩))
    (fun os started H enc _ => FnExactTileStep_lifted os started H enc)
#print axioms FnExactTileStep_holds

theorem FnExactOutPin_walk (a b c d t k : Int) (w : World) :
    Calls Try.prog 5 #[devV a b c d, .int .i64 t, .int .i64 k] w fun e w' => e = .returned (.bool true) ∧ Below w.heap.size w w' := by
  go_enter Try.func5, Try.ntmps5
  go_wp2_with fail
  refine (todev_any _ _ _ _ _).mono ?_
  rintro e w1 ⟨rfl, hb1⟩
  go_wp2_with fail
  refine (sPin_any _ _ _ _ _ _ _).mono ?_
  rintro e w2 ⟨rfl, hb⟩
  replace hb1 := hb1.trans (hb.mono hb1.size)
  clear hb
  obtain ⟨hc, hf⟩ := bcell hb1
  go_wp2_with fail
  refine (todev_any _ _ _ _ _).mono ?_
  rintro e w3 ⟨rfl, hb⟩
  clear hc hf
  replace hb1 := hb1.trans (hb.mono hb1.size)
  clear hb
  go_wp2_with fail
  refine (iPin_any _ _ _ _ _ _ _).mono ?_
  rintro e w4 ⟨rfl, hb⟩
  replace hb1 := hb1.trans (hb.mono hb1.size)
  clear hb
  go_wp2_with fail
  go_ret
  exact ⟨rfl, (below1 _ _).trans (hb1.mono (by simp))⟩
set_option maxRecDepth 100000 in
theorem FnExactOutPin_lifted (os : Os) (started : os.Started) (H : Type) (enc : TypeId × Value → H) :
    ReturnsInHanded {} Try.checked os 5 .any (Rows.fnExactOutPinSpec.pre6 enc Try.prog Try.f5 Rows.fnExactOutPinRow.domain false) (Rows.fnExactOutPinSpec.post enc Try.prog Try.f5 false true false false) := by
  refine law_lift (C := Try.checked) Try.own started (by kernel_rfl) Try.func5
    (ChangeSpec.witness6 (enc := enc) (C := Try.checked) false ⟨#[], #[devV 0 0 0 0, .int .i64 0, .int .i64 0], []⟩ 8 (by kernel_rfl) (by kernel_rfl) (by kernel_rfl) (by kernel_rfl))
    Try.laidOut (of_decide_eq_true (by kernel_rfl)) rfl rfl Try.underlying4 ?_
  intro W base args ds ps hval0 hA0 hlt
  have hval : ∀ (j : Nat) t v, Try.f5.params[j]? = some t → args[j]? = some v → Value.okWide Try.prog W .any base t v := hval0
  have hA : DataW.TrodAll enc Try.prog W 0 (fun _ => true) true Try.f5.params.toList args.toList ds ps := hA0
  clear hval0 hA0
  rw [Try.params5] at hA hval
  obtain ⟨v0, vs0, d0, ds0, p0, q0, hargs, rfl, rfl, h0, r0⟩ := trodAll_cons hA
  obtain ⟨v1, vs1, d1, ds1, p1, q1, rfl, rfl, rfl, h1, r1⟩ := trodAll_cons r0
  obtain ⟨v2, vs2, d2, ds2, p2, q2, rfl, rfl, rfl, h2, r2⟩ := trodAll_cons r1
  obtain ⟨rfl, rfl, rfl⟩ := trodAll_nil r2
  obtain rfl : args = #[v0, v1, v2] := by cases args; simp_all
  obtain ⟨a, b, c, d, rfl⟩ := open_dev (hval 0 _ v0 rfl rfl) h0 (fun x hx => hlt x (by simp [hx]))
  obtain ⟨t, rfl, rfl, rfl, wf1⟩ := open_int Try.underlying3 (hval 1 _ v1 rfl rfl) h1
  obtain ⟨k, rfl, rfl, rfl, wf2⟩ := open_int Try.underlying3 (hval 2 _ v2 rfl rfl) h2
  exact ⟨rfl, FnExactOutPin_walk a b c d t k W⟩

/-- THE STATEMENT, PROVED. -/
theorem FnExactOutPin_holds : Rows.FnExactOutPinSaid :=
  OpenClaim.holds_of_wide 5 Try.f5 rfl rfl rfl rfl rfl rfl rfl ⟨rfl, rfl, rfl, rfl, rfl⟩ rfl rfl rfl rfl rfl (by kernel_rfl) Try.func5 (by kernel_rfl)
    (of_decide_eq_true (by kernel_rfl)) (by unfold Func.isWrapper; first | (rw [if_pos (by decide +kernel)]; kernel_rfl) | (rw [if_neg (by decide +kernel)]; exact ⟨rfl, rfl⟩))
    (fun os started H enc _ => FnExactOutPin_lifted os started H enc)
#print axioms FnExactOutPin_holds

end Go.Proofs.Ytfgdcjpclngeaaa
