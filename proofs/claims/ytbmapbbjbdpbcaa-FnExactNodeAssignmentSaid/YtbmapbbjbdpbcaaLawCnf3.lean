/-
  The laws LawCnf3: each call returns true, at every input. Written by mk_cnflaws.py.
  Conditions: none.
-/
import Derived.Test.YtbmapbbjbdpbcaaCnf2
import Derived.Test.YtbmapbbjbdpbcaaOpen
namespace Go.Proofs.Ytbmapbbjbdpbcaa
open Go.RowKit Go.ChangeShapes Go.WideShapes Go.ChangeAt
set_option linter.unusedVariables false

set_option maxHeartbeats 1000000 in
theorem FnExactNodeAssignment_walk (Aa : Option Addr) (ca : Nat) (xa : List Int) (w : World) (hHXa : SlR intT w w.heap.size Aa xa) :
    Calls Try.prog 4 #[.slice Aa xa.length ca] w fun e w' => e = .returned (.bool true) ∧ Below w.heap.size w w' := by
  have hmxa := hHXa.1
  have HXa := Lib.hid hHXa
  clear hHXa
  by_cases hlxa : xa.length ≤ 1048576
  case neg =>
    have hg : (1048576 : Int) < (xa.length : Int) := by omega
    go_enter Try.func4, Try.ntmps4
    go_wp2
    go_ret
    refine ⟨rfl, ?_⟩
    go_grown
  case pos =>
    have HB := Below.refl w.heap.size w
    go_enter Try.func4, Try.ntmps4
    go_wp2_with fail
    have hres : (nodeAsg xa).length ≤ 400 := nodeAsg_len xa
    go_wp2_with fail
    refine (toIntS_any  Aa _ xa _ ((HXa.out.below HB).mono HB.size) (by omega)).mono ?_
    rintro e w1 ⟨B1, F1, rfl, HO1, HN1, HG1, hb⟩
    replace HO1 := Lib.hid HO1
    replace HN1 := Lib.hid HN1
    replace HG1 := Lib.hid HG1
    have hzw1 := hb.size
    replace HB := HB.trans (hb.mono HB.size)
    clear hb
    have HU1 := Lib.hid HO1.out.lt
    go_wp2_with fail
    refine (snodeAsg_any _ _ xa _ HO1.out.rd).mono ?_
    rintro e w2 ⟨B2, D2, F2, rfl, HO2, HN2, HG2, hb⟩
    replace HO2 := Lib.hid HO2
    replace HN2 := Lib.hid HN2
    replace HG2 := Lib.hid HG2
    have hzw2 := hb.size
    replace HB := HB.trans (hb.mono HB.size)
    replace HO1 := Lib.hid (HO1.out.after hb)
    clear hb
    have HU2 := Lib.hid HO2.out.lt
    clear HO1 HN1 HG1 HU1
    go_wp2_with fail
    refine (toIntS_any  Aa _ xa _ ((HXa.out.below HB).mono HB.size) (by omega)).mono ?_
    rintro e w3 ⟨B3, F3, rfl, HO3, HN3, HG3, hb⟩
    replace HO3 := Lib.hid HO3
    replace HN3 := Lib.hid HN3
    replace HG3 := Lib.hid HG3
    have hzw3 := hb.size
    replace HB := HB.trans (hb.mono HB.size)
    replace HO2 := Lib.hid (HO2.out.after hb)
    clear hb
    have HU3 := Lib.hid HO3.out.lt
    go_wp2_with fail
    refine (inodeAsg_any _ _ xa _ HO3.out.rd).mono ?_
    rintro e w4 ⟨B4, D4, F4, rfl, HO4, HN4, HG4, hb⟩
    replace HO4 := Lib.hid HO4
    replace HN4 := Lib.hid HN4
    replace HG4 := Lib.hid HG4
    have hzw4 := hb.size
    replace HB := HB.trans (hb.mono HB.size)
    replace HO2 := Lib.hid (HO2.out.after hb)
    replace HO3 := Lib.hid (HO3.out.after hb)
    clear hb
    have HU4 := Lib.hid HO4.out.lt
    have hs := same_self (nodeAsg xa)
    go_wp2_with fail
    refine (eqBoolS_any _ _ _ _ (nodeAsg xa) (nodeAsg xa) _ HO4.out.rd HO2.out.rd).mono ?_
    rintro e w5 ⟨rfl, hb⟩
    have hzw5 := hb.size
    replace HB := HB.trans (hb.mono HB.size)
    replace HO2 := Lib.hid (HO2.out.after hb)
    replace HO3 := Lib.hid (HO3.out.after hb)
    replace HO4 := Lib.hid (HO4.out.after hb)
    clear hb
    go_wp2_with fail
    refine (toIntS_any  Aa _ xa _ ((HXa.out.below HB).mono HB.size) (by omega)).mono ?_
    rintro e w6 ⟨B5, F5, rfl, HO5, HN5, HG5, hb⟩
    replace HO5 := Lib.hid HO5
    replace HN5 := Lib.hid HN5
    replace HG5 := Lib.hid HG5
    have hzw6 := hb.size
    replace HB := HB.trans (hb.mono HB.size)
    replace HO2 := Lib.hid (HO2.out.after hb)
    replace HO3 := Lib.hid (HO3.out.after hb)
    replace HO4 := Lib.hid (HO4.out.after hb)
    clear hb
    have HU5 := Lib.hid HO5.out.lt
    have hs := same_self xa
    go_wp2_with fail
    refine (eqIntS_any _ _ _ _ xa xa _ HO3.out.rd HO5.out.rd).mono ?_
    rintro e w7 ⟨rfl, hb⟩
    have hzw7 := hb.size
    replace HB := HB.trans (hb.mono HB.size)
    replace HO2 := Lib.hid (HO2.out.after hb)
    replace HO3 := Lib.hid (HO3.out.after hb)
    replace HO4 := Lib.hid (HO4.out.after hb)
    replace HO5 := Lib.hid (HO5.out.after hb)
    clear hb
    clear HO5 HN5 HG5 HU5
    go_wp2_with fail
    refine (markIntS_any  _ _ (xa) F3 _ _ HO3.out  (by omega) (by omega)).mono ?_
    rintro e w8 ⟨rfl, HMM, ho⟩
    replace HO3 := Lib.hid HMM
    clear HMM
    have hzw8 := ho.size
    replace HB := below_of_only HB HB.size ho (fun q hq => by have h1 := HG3.out q hq; omega)
    replace HO2 := Lib.hid (HO2.out.only ho (fun q hq hq2 => by have h1 := HG2.out q hq; have h2 := HU2.out q hq; have h3 := HG3.out q hq2; have h4 := HU3.out q hq2; omega))
    replace HO4 := Lib.hid (HO4.out.only ho (fun q hq hq2 => by have h1 := HG4.out q hq; have h2 := HU4.out q hq; have h3 := HG3.out q hq2; have h4 := HU3.out q hq2; omega))
    clear ho
    clear HO3 HN3 HG3 HU3
    have hs := same_self (nodeAsg xa)
    go_wp2_with fail
    refine (eqBoolS_any _ _ _ _ (nodeAsg xa) (nodeAsg xa) _ HO4.out.rd HO2.out.rd).mono ?_
    rintro e w9 ⟨rfl, hb⟩
    have hzw9 := hb.size
    replace HB := HB.trans (hb.mono HB.size)
    replace HO2 := Lib.hid (HO2.out.after hb)
    replace HO4 := Lib.hid (HO4.out.after hb)
    clear hb
    go_wp2_with fail
    refine (markBoolS_any  _ _ (nodeAsg xa) F4 _ _ HO4.out  (by omega) (by omega)).mono ?_
    rintro e w10 ⟨rfl, HMM, ho⟩
    replace HO4 := Lib.hid HMM
    clear HMM
    have hzw10 := ho.size
    replace HB := below_of_only HB HB.size ho (fun q hq => by have h1 := HG4.out q hq; omega)
    replace HO2 := Lib.hid (HO2.out.only ho (fun q hq hq2 => by have h1 := HG2.out q hq; have h2 := HU2.out q hq; have h3 := HG4.out q hq2; have h4 := HU4.out q hq2; omega))
    clear ho
    go_wp2_with fail
    refine (heldBoolS_any _ _ _ _ _ HO4.out.rd (by omega) (by omega)).mono ?_
    rintro e w11 ⟨rfl, hb⟩
    have hzw11 := hb.size
    replace HB := HB.trans (hb.mono HB.size)
    replace HO2 := Lib.hid (HO2.out.after hb)
    replace HO4 := Lib.hid (HO4.out.after hb)
    clear hb
    go_wp2_with fail
    refine (toIntS_any  Aa _ xa _ ((HXa.out.below HB).mono HB.size) (by omega)).mono ?_
    rintro e w12 ⟨B6, F6, rfl, HO6, HN6, HG6, hb⟩
    replace HO6 := Lib.hid HO6
    replace HN6 := Lib.hid HN6
    replace HG6 := Lib.hid HG6
    have hzw12 := hb.size
    replace HB := HB.trans (hb.mono HB.size)
    replace HO2 := Lib.hid (HO2.out.after hb)
    replace HO4 := Lib.hid (HO4.out.after hb)
    clear hb
    have HU6 := Lib.hid HO6.out.lt
    go_wp2_with fail
    refine (inodeAsg_any _ _ xa _ HO6.out.rd).mono ?_
    rintro e w13 ⟨B7, D7, F7, rfl, HO7, HN7, HG7, hb⟩
    replace HO7 := Lib.hid HO7
    replace HN7 := Lib.hid HN7
    replace HG7 := Lib.hid HG7
    have hzw13 := hb.size
    replace HB := HB.trans (hb.mono HB.size)
    replace HO2 := Lib.hid (HO2.out.after hb)
    replace HO4 := Lib.hid (HO4.out.after hb)
    replace HO6 := Lib.hid (HO6.out.after hb)
    clear hb
    have HU7 := Lib.hid HO7.out.lt
    have hs := same_self (nodeAsg xa)
    go_wp2_with fail
    refine (eqBoolS_any _ _ _ _ (nodeAsg xa) (nodeAsg xa) _ HO7.out.rd HO2.out.rd).mono ?_
    rintro e w14 ⟨rfl, hb⟩
    have hzw14 := hb.size
    replace HB := HB.trans (hb.mono HB.size)
    replace HO2 := Lib.hid (HO2.out.after hb)
    replace HO4 := Lib.hid (HO4.out.after hb)
    replace HO6 := Lib.hid (HO6.out.after hb)
    replace HO7 := Lib.hid (HO7.out.after hb)
    clear hb
    go_wp2_with fail
    refine (heldBoolS_any _ _ _ _ _ HO4.out.rd (by omega) (by omega)).mono ?_
    rintro e w15 ⟨rfl, hb⟩
    have hzw15 := hb.size
    replace HB := HB.trans (hb.mono HB.size)
    replace HO2 := Lib.hid (HO2.out.after hb)
    replace HO4 := Lib.hid (HO4.out.after hb)
    replace HO6 := Lib.hid (HO6.out.after hb)
    replace HO7 := Lib.hid (HO7.out.after hb)
    clear hb
    go_wp2_with fail
    go_ret
    exact ⟨rfl, HB⟩
set_option maxRecDepth 100000 in
theorem FnExactNodeAssignment_lifted (os : Os) (started : os.Started) (H : Type) (enc : TypeId × Value → H) :
    ReturnsInHanded {} Try.checked os 4 .any (Rows.fnExactNodeAssignmentSpec.pre6 enc Try.prog Try.f4 Rows.fnExactNodeAssignmentRow.domain false) (Rows.fnExactNodeAssignmentSpec.post enc Try.prog Try.f4 false true false false) := by
  refine law_lift (C := Try.checked) Try.own started (by kernel_rfl) Try.func4
    (ChangeSpec.witness6 (enc := enc) (C := Try.checked) false ⟨#[], #[.slice none 0 0], []⟩ 8 (by kernel_rfl) (by kernel_rfl) (by kernel_rfl) (by kernel_rfl))
    Try.laidOut (of_decide_eq_true (by kernel_rfl)) rfl rfl Try.underlying4 ?_
  intro W base args ds ps hval0 hA0 hlt
  have hval : ∀ (j : Nat) t v, Try.f4.params[j]? = some t → args[j]? = some v → Value.okWide Try.prog W .any base t v := hval0
  have hA : DataW.TrodAll enc Try.prog W 0 (fun _ => true) true Try.f4.params.toList args.toList ds ps := hA0
  clear hval0 hA0
  rw [Try.params4] at hA hval
  obtain ⟨v0, vs0, d0, ds0, p0, q0, hargs, rfl, rfl, h0, r0⟩ := trodAll_cons hA
  obtain ⟨rfl, rfl, rfl⟩ := trodAll_nil r0
  obtain rfl : args = #[v0] := by cases args; simp_all
  obtain ⟨Aa, xa, ca, rfl, hHXa⟩ := open_intl (hval 0 _ v0 rfl rfl) h0 (fun x hx => hlt x (by simp [hx]))
  exact ⟨rfl, FnExactNodeAssignment_walk Aa ca xa W hHXa⟩

/-- THE STATEMENT, PROVED. -/
theorem FnExactNodeAssignment_holds : Rows.FnExactNodeAssignmentSaid :=
  OpenClaim.holds_of_wide 4 Try.f4 rfl rfl rfl rfl rfl rfl rfl ⟨rfl, rfl, rfl, rfl, rfl⟩ rfl rfl rfl rfl rfl (by kernel_rfl) Try.func4 (by kernel_rfl)
    (of_decide_eq_true (by kernel_rfl)) (by unfold Func.isWrapper; first | (rw [if_pos (by decide +kernel)]; kernel_rfl) | (rw [if_neg (by decide +kernel)]; exact ⟨rfl, rfl⟩))
    (fun os started H enc _ => FnExactNodeAssignment_lifted os started H enc)
#print axioms FnExactNodeAssignment_holds

end Go.Proofs.Ytbmapbbjbdpbcaa
