/-
  Adding a disjunction and an exclusive disjunction to a net, by abstract walks: the program.
  Conditions: those typed in each theorem.
-/
import Derived.Test.YtoppcdccplgalaaRh
import Derived.Test.YtoppcdccplgalaaRj
namespace Go.Proofs.Ytoppcdccplgalaa
open Go.RowKit Go.ChangeShapes Go.WideShapes
set_option linter.unusedVariables false
set_option linter.unusedSimpArgs false
attribute [local simp ↓] condG_true condG_false condB_true condB_false
attribute [local simp] AWp_skip AWp_region_t AWp_region_d AWp_region_f still_mk AWp_seq AWp_cond condV_bool condB AWp_block AWp_exit AWp_ret
attribute [local simp] AOps_nil AOp_move AOp_assign AOp_pick AOp_binOp AOp_unOp AOp_convert AOp_len AOp_max AOp_min AOp_indexAddr AOp_load
attribute [local simp] AOp_fieldAddr AOp_field AOp_extract AOp_nilCheck AOp_build AOp_alloc AOp_box AOp_call AOp_store AOp_append AOp_buildSlice nextB_some
attribute [local simp] nextB_none adoptO adoptC AOp_makeSlice AOp_slice AOp_makeFunc AOp_guard guardD_some guardG_bool guardG_undef nextO_some nextS_some
attribute [local simp] nextZ_some nextL_some nextM_some nextT_some sliceO sliceL sliceT partO partV boundV funcO pickO
attribute [local simp] convO lenO maxO minO idxO extO nilO buildO litO litC makeO chunks
attribute [local simp] fillV placeOf thenA inBlockA St.get St.put St.eval ofCell evalT abin_add abin_sub abin_mul
attribute [local simp] abin_quo abin_rem abin_and abin_or abin_xor abin_andNot abin_shl abin_shr abin_shlu abin_eql abin_eqp abin_neq
attribute [local simp] abin_lss abin_leq abin_gtr abin_geq abin_eqlb abin_neqb aun pickV lenV intOf? indexV takeD
attribute [local simp] takeV loadV fieldAddrV fieldV ofX presD presDs pres presAll cellsV V.cell storeV
attribute [local simp] freezeC putAt kill takeC plains plainV scalarV nat_neg keepT sets eSl e1
attribute [local simp] e2 e3 e4 eInt eBool afterCall inst inst1 inst1s instD instDs RetA
attribute [local simp] resVs resV gives give1 give1s Le isPin leSlots leS leTmps leV le0
attribute [local simp] le0s ren ren0 renS ren0s frame enterT afterT_some afterC_some lives Slot.live arrsOk
attribute [local simp] viewV view0 renT rens renSs setAll List.range'_succ RetT RetW joinV leT AOpsE_nil
attribute [local simp] AOpsE_cons AOpsT_nil AOpsT_cons isCallT callOf condC_true condC_false beginT_mk thenT_mk pickE pickT isT
attribute [local simp] loose namesOf namesV names1 names0 stableN sameAt Op.operands Call.operands
set_option maxRecDepth 100000 in
theorem addOr_same_n (I fa : Int) (a b : Int) (hI : 0 ≤ I ∧ I ≤ 20) (hfa : 1 + I = fa) (hn : ([] : List AndD).length ≤ 300) (ha : 0 ≤ a ∧ a < 2 * (fa + ([] : List AndD).length)) (hb : 0 ≤ b ∧ b < 2 * (fa + ([] : List AndD).length)) (h : addM ([] : List AndD) (flip a) (flip b) = false) :
    ConT Try.prog 112 [.ptr 0 0, .d (.int .i64 a), .d (.int .i64 b)] [.var 33 [.d (.int .i64 I), .nil 52, .nil 100, .nil 3]] (.d (.int .i64 (orV fa ([] : List AndD) a b))) [.var 33 [.d (.int .i64 I), .nil 52, .nil 100, .nil 3]] := by
  have hV : orV fa ([] : List AndD) a b = if addV fa ([] : List AndD) (flip a) (flip b) < 0 then -1 else flip (addV fa ([] : List AndD) (flip a) (flip b)) := rfl
  have hx : xor64 a 1 = flip a := xor64_one (by omega) (by omega)
  have hy : xor64 b 1 = flip b := xor64_one (by omega) (by omega)
  have fA := flip_half ha.1
  have fB := flip_half hb.1
  have hr := addV_rng (fa := fa) (an := ([] : List AndD)) (a := flip a) (b := flip b) (by omega) (by omega) (by omega)
  have h3 := addN_300 (a := flip a) (b := flip b) hn
  have k := addAnd_same_nn I fa (flip a) (flip b) hI hfa (by omega) (by omega) h
  rw [hV]
  generalize addV fa ([] : List AndD) (flip a) (flip b) = v at *
  refine conT_of (by kernel_rfl) Try.func112 rfl rfl rfl (by simp [laters, Later]) (by simp [lives, Slot.live]) ?_
  simp [hx, hy]
  refine callT_step (k) [] [0] (by simp) ?_
  simp
  by_cases hv : v < 0
  · simp [hv, decide_eq_true hv, show ¬ 0 ≤ v by omega]
    exact ⟨[0], by simp⟩
  · have hz : xor64 v 1 = flip v := xor64_one (by omega) (by omega)
    simp [hv, decide_eq_false hv, hz, show 0 ≤ v by omega]
    exact ⟨[0], by simp⟩
set_option maxRecDepth 100000 in
theorem addOr_new_n (I fa : Int) (a b : Int) (hI : 0 ≤ I ∧ I ≤ 20) (hfa : 1 + I = fa) (hn : ([] : List AndD).length ≤ 300) (ha : 0 ≤ a ∧ a < 2 * (fa + ([] : List AndD).length)) (hb : 0 ≤ b ∧ b < 2 * (fa + ([] : List AndD).length)) (h : addM ([] : List AndD) (flip a) (flip b) = true) :
    ConT Try.prog 112 [.ptr 0 0, .d (.int .i64 a), .d (.int .i64 b)] [.var 33 [.d (.int .i64 I), .nil 52, .nil 100, .nil 3]] (.d (.int .i64 (orV fa ([] : List AndD) a b))) [.var 33 [.d (.int .i64 I), .nil 52, .ref 1, .nil 3], .arr 100 true ((addN ([] : List AndD) (flip a) (flip b)).map enAnd)] := by
  have hV : orV fa ([] : List AndD) a b = if addV fa ([] : List AndD) (flip a) (flip b) < 0 then -1 else flip (addV fa ([] : List AndD) (flip a) (flip b)) := rfl
  have hx : xor64 a 1 = flip a := xor64_one (by omega) (by omega)
  have hy : xor64 b 1 = flip b := xor64_one (by omega) (by omega)
  have fA := flip_half ha.1
  have fB := flip_half hb.1
  have hr := addV_rng (fa := fa) (an := ([] : List AndD)) (a := flip a) (b := flip b) (by omega) (by omega) (by omega)
  have h3 := addN_300 (a := flip a) (b := flip b) hn
  have k := addAnd_new_nn I fa (flip a) (flip b) hI hfa (by omega) (by omega) h
  rw [hV]
  generalize addV fa ([] : List AndD) (flip a) (flip b) = v at *
  refine conT_of (by kernel_rfl) Try.func112 rfl rfl rfl (by simp [laters, Later]) (by simp [lives, Slot.live]) ?_
  simp [hx, hy]
  refine callT_step (k) [] [0] (by simp) ?_
  simp
  by_cases hv : v < 0
  · simp [hv, decide_eq_true hv, show ¬ 0 ≤ v by omega]
    exact ⟨[0, 1], by simp⟩
  · have hz : xor64 v 1 = flip v := xor64_one (by omega) (by omega)
    simp [hv, decide_eq_false hv, hz, show 0 ≤ v by omega]
    exact ⟨[0, 1], by simp⟩
set_option maxRecDepth 100000 in
theorem addOr_same_a (I fa : Int) (an : List AndD) (a b : Int) (hI : 0 ≤ I ∧ I ≤ 20) (hfa : 1 + I = fa) (hn : an.length ≤ 300) (ha : 0 ≤ a ∧ a < 2 * (fa + an.length)) (hb : 0 ≤ b ∧ b < 2 * (fa + an.length)) (h : addM an (flip a) (flip b) = false) :
    ConT Try.prog 112 [.ptr 0 0, .d (.int .i64 a), .d (.int .i64 b)] [.var 33 [.d (.int .i64 I), .nil 52, .ref 1, .nil 3], .arr 100 true ((an).map enAnd)] (.d (.int .i64 (orV fa an a b))) [.var 33 [.d (.int .i64 I), .nil 52, .ref 1, .nil 3], .arr 100 true ((an).map enAnd)] := by
  have hV : orV fa an a b = if addV fa an (flip a) (flip b) < 0 then -1 else flip (addV fa an (flip a) (flip b)) := rfl
  have hx : xor64 a 1 = flip a := xor64_one (by omega) (by omega)
  have hy : xor64 b 1 = flip b := xor64_one (by omega) (by omega)
  have fA := flip_half ha.1
  have fB := flip_half hb.1
  have hr := addV_rng (fa := fa) (an := an) (a := flip a) (b := flip b) (by omega) (by omega) (by omega)
  have h3 := addN_300 (a := flip a) (b := flip b) hn
  have k := addAnd_same_na I fa an (flip a) (flip b) hI hfa hn (by omega) (by omega) h
  rw [hV]
  generalize addV fa an (flip a) (flip b) = v at *
  refine conT_of (by kernel_rfl) Try.func112 rfl rfl rfl (by simp [laters, Later]) (by simp [lives, Slot.live]) ?_
  simp [hx, hy]
  refine callT_step (k) [] [0, 1] (by simp) ?_
  simp
  by_cases hv : v < 0
  · simp [hv, decide_eq_true hv, show ¬ 0 ≤ v by omega]
    exact ⟨[0, 1], by simp⟩
  · have hz : xor64 v 1 = flip v := xor64_one (by omega) (by omega)
    simp [hv, decide_eq_false hv, hz, show 0 ≤ v by omega]
    exact ⟨[0, 1], by simp⟩
set_option maxRecDepth 100000 in
theorem addOr_new_a (I fa : Int) (an : List AndD) (a b : Int) (hI : 0 ≤ I ∧ I ≤ 20) (hfa : 1 + I = fa) (hn : an.length ≤ 300) (ha : 0 ≤ a ∧ a < 2 * (fa + an.length)) (hb : 0 ≤ b ∧ b < 2 * (fa + an.length)) (h : addM an (flip a) (flip b) = true) :
    ConT Try.prog 112 [.ptr 0 0, .d (.int .i64 a), .d (.int .i64 b)] [.var 33 [.d (.int .i64 I), .nil 52, .ref 1, .nil 3], .arr 100 true ((an).map enAnd)] (.d (.int .i64 (orV fa an a b))) [.var 33 [.d (.int .i64 I), .nil 52, .ref 2, .nil 3], .dead, .arr 100 true ((addN an (flip a) (flip b)).map enAnd)] := by
  have hV : orV fa an a b = if addV fa an (flip a) (flip b) < 0 then -1 else flip (addV fa an (flip a) (flip b)) := rfl
  have hx : xor64 a 1 = flip a := xor64_one (by omega) (by omega)
  have hy : xor64 b 1 = flip b := xor64_one (by omega) (by omega)
  have fA := flip_half ha.1
  have fB := flip_half hb.1
  have hr := addV_rng (fa := fa) (an := an) (a := flip a) (b := flip b) (by omega) (by omega) (by omega)
  have h3 := addN_300 (a := flip a) (b := flip b) hn
  have k := addAnd_new_na I fa an (flip a) (flip b) hI hfa hn (by omega) (by omega) h
  rw [hV]
  generalize addV fa an (flip a) (flip b) = v at *
  refine conT_of (by kernel_rfl) Try.func112 rfl rfl rfl (by simp [laters, Later]) (by simp [lives, Slot.live]) ?_
  simp [hx, hy]
  refine callT_step (k) [] [0, 1] (by simp) ?_
  simp
  by_cases hv : v < 0
  · simp [hv, decide_eq_true hv, show ¬ 0 ≤ v by omega]
    exact ⟨[0, 1, 2], by simp⟩
  · have hz : xor64 v 1 = flip v := xor64_one (by omega) (by omega)
    simp [hv, decide_eq_false hv, hz, show 0 ≤ v by omega]
    exact ⟨[0, 1, 2], by simp⟩
set_option maxRecDepth 100000 in
set_option maxHeartbeats 2000000 in
theorem addXor_same_n (I fa : Int) (a b : Int) (hI : 0 ≤ I ∧ I ≤ 20) (hfa : 1 + I = fa) (hn : ([] : List AndD).length ≤ 300) (ha : 0 ≤ a ∧ a < 2 * (fa + ([] : List AndD).length)) (hb : 0 ≤ b ∧ b < 2 * (fa + ([] : List AndD).length)) (h : (xorR fa ([] : List AndD) a b).2 = ([] : List AndD)) :
    ConT Try.prog 111 [.ptr 0 0, .d (.int .i64 a), .d (.int .i64 b)] [.var 33 [.d (.int .i64 I), .nil 52, .nil 100, .nil 3]] (.d (.int .i64 (xorR fa ([] : List AndD) a b).1)) [.var 33 [.d (.int .i64 I), .nil 52, .nil 100, .nil 3]] := by
  have hx : xor64 a 1 = flip a := xor64_one (by omega) (by omega)
  have hy : xor64 b 1 = flip b := xor64_one (by omega) (by omega)
  have fA := flip_half ha.1
  have fB := flip_half hb.1
  have hR : xorR fa ([] : List AndD) a b = if addV fa ([] : List AndD) a (flip b) < 0 then (-1, addN ([] : List AndD) a (flip b)) else if addV fa (addN ([] : List AndD) a (flip b)) (flip a) b < 0 then (-1, addN (addN ([] : List AndD) a (flip b)) (flip a) b) else (orV fa (addN (addN ([] : List AndD) a (flip b)) (flip a) b) (addV fa ([] : List AndD) a (flip b)) (addV fa (addN ([] : List AndD) a (flip b)) (flip a) b), addN (addN (addN ([] : List AndD) a (flip b)) (flip a) b) (flip (addV fa ([] : List AndD) a (flip b))) (flip (addV fa (addN ([] : List AndD) a (flip b)) (flip a) b))) := rfl
  have l1 := addN_len (an := ([] : List AndD)) (a := a) (b := flip b)
  have n1 := addN_300 (a := a) (b := flip b) hn
  have r1 := addV_rng (fa := fa) (an := ([] : List AndD)) (a := a) (b := flip b) (by omega) (by omega) (by omega)
  have c1same := addAnd_same_nn I fa a (flip b) hI hfa (by omega) (by omega)
  have c1new := addAnd_new_nn I fa a (flip b) hI hfa (by omega) (by omega)
  have e1 : addM ([] : List AndD) a (flip b) = false → ([] : List AndD) = addN ([] : List AndD) a (flip b) := fun h => by unfold addN; rw [if_neg (by simp [h])]
  have e1b : addM ([] : List AndD) a (flip b) = true → ([] : List AndD).length < (addN ([] : List AndD) a (flip b)).length := fun h => by unfold addN; rw [if_pos h]; simp
  generalize xorR fa ([] : List AndD) a b = R at *
  generalize hp0 : addV fa ([] : List AndD) a (flip b) = p at *
  generalize h10 : addN ([] : List AndD) a (flip b) = an1 at *
  generalize h1m : addM ([] : List AndD) a (flip b) = m1 at *
  refine conT_of (by kernel_rfl) Try.func111 rfl rfl rfl (by simp [laters, Later]) (by simp [lives, Slot.live]) ?_
  simp [hx, hy]
  cases m1
  · have c1 := c1same rfl
    obtain rfl := e1 rfl
    refine callT_step (c1) [] [0] (by simp) ?_
    simp [hx, hy]
    by_cases hp : p < 0
    · obtain rfl : R = (-1, ([] : List AndD)) := by rw [hR, if_pos hp]
      simp [hp, decide_eq_true hp, show ¬ 0 ≤ p by omega]
      exact ⟨[0], by simp⟩
    rw [if_neg hp] at hR
    have l2 := addN_len (an := ([] : List AndD)) (a := flip a) (b := b)
    have n2 := addN_300 (an := ([] : List AndD)) (a := flip a) (b := b) hn
    have r2 := addV_rng (fa := fa) (an := ([] : List AndD)) (a := flip a) (b := b) (by omega) (by omega) (by omega)
    have c2same := addAnd_same_nn I fa (flip a) b hI hfa (by omega) (by omega)
    have c2new := addAnd_new_nn I fa (flip a) b hI hfa (by omega) (by omega)
    have e2 : addM ([] : List AndD) (flip a) b = false → ([] : List AndD) = addN ([] : List AndD) (flip a) b := fun h => by unfold addN; rw [if_neg (by simp [h])]
    have e2b : addM ([] : List AndD) (flip a) b = true → ([] : List AndD).length < (addN ([] : List AndD) (flip a) b).length := fun h => by unfold addN; rw [if_pos h]; simp
    generalize hq0 : addV fa ([] : List AndD) (flip a) b = q at *
    generalize h20 : addN ([] : List AndD) (flip a) b = an2 at *
    generalize h2m : addM ([] : List AndD) (flip a) b = m2 at *
    simp [hp, decide_eq_false hp, show 0 ≤ p by omega, hx, hy]
    cases m2
    · have c2 := c2same rfl
      obtain rfl := e2 rfl
      refine callT_step (c2) [] [0] (by simp) ?_
      simp
      by_cases hq : q < 0
      · obtain rfl : R = (-1, ([] : List AndD)) := by rw [hR, if_pos hq]
        simp [hq, decide_eq_true hq, show ¬ 0 ≤ q by omega]
        exact ⟨[0], by simp⟩
      rw [if_neg hq] at hR
      have l3 := addN_len (an := ([] : List AndD)) (a := flip p) (b := flip q)
      have c3same := addOr_same_n I fa p q hI hfa hn (by omega) (by omega)
      have c3new := addOr_new_n I fa p q hI hfa hn (by omega) (by omega)
      have e3 : addM ([] : List AndD) (flip p) (flip q) = false → ([] : List AndD) = addN ([] : List AndD) (flip p) (flip q) := fun h => by unfold addN; rw [if_neg (by simp [h])]
      have e3b : addM ([] : List AndD) (flip p) (flip q) = true → ([] : List AndD).length < (addN ([] : List AndD) (flip p) (flip q)).length := fun h => by unfold addN; rw [if_pos h]; simp
      generalize orV fa ([] : List AndD) p q = r at *
      generalize addN ([] : List AndD) (flip p) (flip q) = an3 at *
      generalize addM ([] : List AndD) (flip p) (flip q) = m3 at *
      subst hR
      simp [hq, decide_eq_false hq, show 0 ≤ q by omega]
      cases m3
      · have c3 := c3same rfl
        obtain rfl := e3 rfl
        refine callT_step (c3) [] [0] (by simp) ?_
        simp
        exact ⟨[0], by simp⟩
      · have c3 := c3new rfl
        have b3 := e3b rfl
        exfalso; have hh := congrArg List.length h; simp only [List.length_nil] at hh l1; omega
    · have c2 := c2new rfl
      have b2 := e2b rfl
      refine callT_step (c2) [] [0] (by simp) ?_
      simp
      by_cases hq : q < 0
      · obtain rfl : R = (-1, an2) := by rw [hR, if_pos hq]
        exfalso; have hh := congrArg List.length h; simp only [List.length_nil] at hh l1; omega
      rw [if_neg hq] at hR
      have l3 := addN_len (an := an2) (a := flip p) (b := flip q)
      have c3same := addOr_same_a I fa an2 p q hI hfa n2 (by omega) (by omega)
      have c3new := addOr_new_a I fa an2 p q hI hfa n2 (by omega) (by omega)
      have e3 : addM an2 (flip p) (flip q) = false → an2 = addN an2 (flip p) (flip q) := fun h => by unfold addN; rw [if_neg (by simp [h])]
      have e3b : addM an2 (flip p) (flip q) = true → an2.length < (addN an2 (flip p) (flip q)).length := fun h => by unfold addN; rw [if_pos h]; simp
      generalize orV fa an2 p q = r at *
      generalize addN an2 (flip p) (flip q) = an3 at *
      generalize addM an2 (flip p) (flip q) = m3 at *
      subst hR
      simp [hq, decide_eq_false hq, show 0 ≤ q by omega]
      cases m3
      · have c3 := c3same rfl
        obtain rfl := e3 rfl
        exfalso; have hh := congrArg List.length h; simp only [List.length_nil] at hh l1; omega
      · have c3 := c3new rfl
        have b3 := e3b rfl
        exfalso; have hh := congrArg List.length h; simp only [List.length_nil] at hh l1; omega
  · have c1 := c1new rfl
    have b1 := e1b rfl
    refine callT_step (c1) [] [0] (by simp) ?_
    simp [hx, hy]
    by_cases hp : p < 0
    · obtain rfl : R = (-1, an1) := by rw [hR, if_pos hp]
      exfalso; have hh := congrArg List.length h; simp only [List.length_nil] at hh l1; omega
    rw [if_neg hp] at hR
    have l2 := addN_len (an := an1) (a := flip a) (b := b)
    have n2 := addN_300 (an := an1) (a := flip a) (b := b) n1
    have r2 := addV_rng (fa := fa) (an := an1) (a := flip a) (b := b) (by omega) (by omega) (by omega)
    have c2same := addAnd_same_na I fa an1 (flip a) b hI hfa n1 (by omega) (by omega)
    have c2new := addAnd_new_na I fa an1 (flip a) b hI hfa n1 (by omega) (by omega)
    have e2 : addM an1 (flip a) b = false → an1 = addN an1 (flip a) b := fun h => by unfold addN; rw [if_neg (by simp [h])]
    have e2b : addM an1 (flip a) b = true → an1.length < (addN an1 (flip a) b).length := fun h => by unfold addN; rw [if_pos h]; simp
    generalize hq0 : addV fa an1 (flip a) b = q at *
    generalize h20 : addN an1 (flip a) b = an2 at *
    generalize h2m : addM an1 (flip a) b = m2 at *
    simp [hp, decide_eq_false hp, show 0 ≤ p by omega, hx, hy]
    cases m2
    · have c2 := c2same rfl
      obtain rfl := e2 rfl
      refine callT_step (c2) [] [0, 1] (by simp) ?_
      simp
      by_cases hq : q < 0
      · obtain rfl : R = (-1, an1) := by rw [hR, if_pos hq]
        exfalso; have hh := congrArg List.length h; simp only [List.length_nil] at hh l1; omega
      rw [if_neg hq] at hR
      have l3 := addN_len (an := an1) (a := flip p) (b := flip q)
      have c3same := addOr_same_a I fa an1 p q hI hfa n1 (by omega) (by omega)
      have c3new := addOr_new_a I fa an1 p q hI hfa n1 (by omega) (by omega)
      have e3 : addM an1 (flip p) (flip q) = false → an1 = addN an1 (flip p) (flip q) := fun h => by unfold addN; rw [if_neg (by simp [h])]
      have e3b : addM an1 (flip p) (flip q) = true → an1.length < (addN an1 (flip p) (flip q)).length := fun h => by unfold addN; rw [if_pos h]; simp
      generalize orV fa an1 p q = r at *
      generalize addN an1 (flip p) (flip q) = an3 at *
      generalize addM an1 (flip p) (flip q) = m3 at *
      subst hR
      simp [hq, decide_eq_false hq, show 0 ≤ q by omega]
      cases m3
      · have c3 := c3same rfl
        obtain rfl := e3 rfl
        exfalso; have hh := congrArg List.length h; simp only [List.length_nil] at hh l1; omega
      · have c3 := c3new rfl
        have b3 := e3b rfl
        exfalso; have hh := congrArg List.length h; simp only [List.length_nil] at hh l1; omega
    · have c2 := c2new rfl
      have b2 := e2b rfl
      refine callT_step (c2) [] [0, 1] (by simp) ?_
      simp
      by_cases hq : q < 0
      · obtain rfl : R = (-1, an2) := by rw [hR, if_pos hq]
        exfalso; have hh := congrArg List.length h; simp only [List.length_nil] at hh l1; omega
      rw [if_neg hq] at hR
      have l3 := addN_len (an := an2) (a := flip p) (b := flip q)
      have c3same := addOr_same_a I fa an2 p q hI hfa n2 (by omega) (by omega)
      have c3new := addOr_new_a I fa an2 p q hI hfa n2 (by omega) (by omega)
      have e3 : addM an2 (flip p) (flip q) = false → an2 = addN an2 (flip p) (flip q) := fun h => by unfold addN; rw [if_neg (by simp [h])]
      have e3b : addM an2 (flip p) (flip q) = true → an2.length < (addN an2 (flip p) (flip q)).length := fun h => by unfold addN; rw [if_pos h]; simp
      generalize orV fa an2 p q = r at *
      generalize addN an2 (flip p) (flip q) = an3 at *
      generalize addM an2 (flip p) (flip q) = m3 at *
      subst hR
      simp [hq, decide_eq_false hq, show 0 ≤ q by omega]
      cases m3
      · have c3 := c3same rfl
        obtain rfl := e3 rfl
        exfalso; have hh := congrArg List.length h; simp only [List.length_nil] at hh l1; omega
      · have c3 := c3new rfl
        have b3 := e3b rfl
        exfalso; have hh := congrArg List.length h; simp only [List.length_nil] at hh l1; omega
set_option maxRecDepth 100000 in
set_option maxHeartbeats 2000000 in
theorem addXor_new_n (I fa : Int) (a b : Int) (hI : 0 ≤ I ∧ I ≤ 20) (hfa : 1 + I = fa) (hn : ([] : List AndD).length ≤ 300) (ha : 0 ≤ a ∧ a < 2 * (fa + ([] : List AndD).length)) (hb : 0 ≤ b ∧ b < 2 * (fa + ([] : List AndD).length)) (h : (xorR fa ([] : List AndD) a b).2 ≠ ([] : List AndD)) :
    ConT Try.prog 111 [.ptr 0 0, .d (.int .i64 a), .d (.int .i64 b)] [.var 33 [.d (.int .i64 I), .nil 52, .nil 100, .nil 3]] (.d (.int .i64 (xorR fa ([] : List AndD) a b).1)) [.var 33 [.d (.int .i64 I), .nil 52, .ref 1, .nil 3], .arr 100 true (((xorR fa ([] : List AndD) a b).2).map enAnd)] := by
  have hx : xor64 a 1 = flip a := xor64_one (by omega) (by omega)
  have hy : xor64 b 1 = flip b := xor64_one (by omega) (by omega)
  have fA := flip_half ha.1
  have fB := flip_half hb.1
  have hR : xorR fa ([] : List AndD) a b = if addV fa ([] : List AndD) a (flip b) < 0 then (-1, addN ([] : List AndD) a (flip b)) else if addV fa (addN ([] : List AndD) a (flip b)) (flip a) b < 0 then (-1, addN (addN ([] : List AndD) a (flip b)) (flip a) b) else (orV fa (addN (addN ([] : List AndD) a (flip b)) (flip a) b) (addV fa ([] : List AndD) a (flip b)) (addV fa (addN ([] : List AndD) a (flip b)) (flip a) b), addN (addN (addN ([] : List AndD) a (flip b)) (flip a) b) (flip (addV fa ([] : List AndD) a (flip b))) (flip (addV fa (addN ([] : List AndD) a (flip b)) (flip a) b))) := rfl
  have l1 := addN_len (an := ([] : List AndD)) (a := a) (b := flip b)
  have n1 := addN_300 (a := a) (b := flip b) hn
  have r1 := addV_rng (fa := fa) (an := ([] : List AndD)) (a := a) (b := flip b) (by omega) (by omega) (by omega)
  have c1same := addAnd_same_nn I fa a (flip b) hI hfa (by omega) (by omega)
  have c1new := addAnd_new_nn I fa a (flip b) hI hfa (by omega) (by omega)
  have e1 : addM ([] : List AndD) a (flip b) = false → ([] : List AndD) = addN ([] : List AndD) a (flip b) := fun h => by unfold addN; rw [if_neg (by simp [h])]
  have e1b : addM ([] : List AndD) a (flip b) = true → ([] : List AndD).length < (addN ([] : List AndD) a (flip b)).length := fun h => by unfold addN; rw [if_pos h]; simp
  generalize xorR fa ([] : List AndD) a b = R at *
  generalize hp0 : addV fa ([] : List AndD) a (flip b) = p at *
  generalize h10 : addN ([] : List AndD) a (flip b) = an1 at *
  generalize h1m : addM ([] : List AndD) a (flip b) = m1 at *
  refine conT_of (by kernel_rfl) Try.func111 rfl rfl rfl (by simp [laters, Later]) (by simp [lives, Slot.live]) ?_
  simp [hx, hy]
  cases m1
  · have c1 := c1same rfl
    obtain rfl := e1 rfl
    refine callT_step (c1) [] [0] (by simp) ?_
    simp [hx, hy]
    by_cases hp : p < 0
    · obtain rfl : R = (-1, ([] : List AndD)) := by rw [hR, if_pos hp]
      exact absurd rfl h
    rw [if_neg hp] at hR
    have l2 := addN_len (an := ([] : List AndD)) (a := flip a) (b := b)
    have n2 := addN_300 (an := ([] : List AndD)) (a := flip a) (b := b) hn
    have r2 := addV_rng (fa := fa) (an := ([] : List AndD)) (a := flip a) (b := b) (by omega) (by omega) (by omega)
    have c2same := addAnd_same_nn I fa (flip a) b hI hfa (by omega) (by omega)
    have c2new := addAnd_new_nn I fa (flip a) b hI hfa (by omega) (by omega)
    have e2 : addM ([] : List AndD) (flip a) b = false → ([] : List AndD) = addN ([] : List AndD) (flip a) b := fun h => by unfold addN; rw [if_neg (by simp [h])]
    have e2b : addM ([] : List AndD) (flip a) b = true → ([] : List AndD).length < (addN ([] : List AndD) (flip a) b).length := fun h => by unfold addN; rw [if_pos h]; simp
    generalize hq0 : addV fa ([] : List AndD) (flip a) b = q at *
    generalize h20 : addN ([] : List AndD) (flip a) b = an2 at *
    generalize h2m : addM ([] : List AndD) (flip a) b = m2 at *
    simp [hp, decide_eq_false hp, show 0 ≤ p by omega, hx, hy]
    cases m2
    · have c2 := c2same rfl
      obtain rfl := e2 rfl
      refine callT_step (c2) [] [0] (by simp) ?_
      simp
      by_cases hq : q < 0
      · obtain rfl : R = (-1, ([] : List AndD)) := by rw [hR, if_pos hq]
        exact absurd rfl h
      rw [if_neg hq] at hR
      have l3 := addN_len (an := ([] : List AndD)) (a := flip p) (b := flip q)
      have c3same := addOr_same_n I fa p q hI hfa hn (by omega) (by omega)
      have c3new := addOr_new_n I fa p q hI hfa hn (by omega) (by omega)
      have e3 : addM ([] : List AndD) (flip p) (flip q) = false → ([] : List AndD) = addN ([] : List AndD) (flip p) (flip q) := fun h => by unfold addN; rw [if_neg (by simp [h])]
      have e3b : addM ([] : List AndD) (flip p) (flip q) = true → ([] : List AndD).length < (addN ([] : List AndD) (flip p) (flip q)).length := fun h => by unfold addN; rw [if_pos h]; simp
      generalize orV fa ([] : List AndD) p q = r at *
      generalize addN ([] : List AndD) (flip p) (flip q) = an3 at *
      generalize addM ([] : List AndD) (flip p) (flip q) = m3 at *
      subst hR
      simp [hq, decide_eq_false hq, show 0 ≤ q by omega]
      cases m3
      · have c3 := c3same rfl
        obtain rfl := e3 rfl
        exact absurd rfl h
      · have c3 := c3new rfl
        have b3 := e3b rfl
        refine callT_step (c3) [] [0] (by simp) ?_
        simp
        exact ⟨[0, 1], by simp⟩
    · have c2 := c2new rfl
      have b2 := e2b rfl
      refine callT_step (c2) [] [0] (by simp) ?_
      simp
      by_cases hq : q < 0
      · obtain rfl : R = (-1, an2) := by rw [hR, if_pos hq]
        simp [hq, decide_eq_true hq, show ¬ 0 ≤ q by omega]
        exact ⟨[0, 1], by simp⟩
      rw [if_neg hq] at hR
      have l3 := addN_len (an := an2) (a := flip p) (b := flip q)
      have c3same := addOr_same_a I fa an2 p q hI hfa n2 (by omega) (by omega)
      have c3new := addOr_new_a I fa an2 p q hI hfa n2 (by omega) (by omega)
      have e3 : addM an2 (flip p) (flip q) = false → an2 = addN an2 (flip p) (flip q) := fun h => by unfold addN; rw [if_neg (by simp [h])]
      have e3b : addM an2 (flip p) (flip q) = true → an2.length < (addN an2 (flip p) (flip q)).length := fun h => by unfold addN; rw [if_pos h]; simp
      generalize orV fa an2 p q = r at *
      generalize addN an2 (flip p) (flip q) = an3 at *
      generalize addM an2 (flip p) (flip q) = m3 at *
      subst hR
      simp [hq, decide_eq_false hq, show 0 ≤ q by omega]
      cases m3
      · have c3 := c3same rfl
        obtain rfl := e3 rfl
        refine callT_step (c3) [] [0, 1] (by simp) ?_
        simp
        exact ⟨[0, 1], by simp⟩
      · have c3 := c3new rfl
        have b3 := e3b rfl
        refine callT_step (c3) [] [0, 1] (by simp) ?_
        simp
        exact ⟨[0, 2], by simp⟩
  · have c1 := c1new rfl
    have b1 := e1b rfl
    refine callT_step (c1) [] [0] (by simp) ?_
    simp [hx, hy]
    by_cases hp : p < 0
    · obtain rfl : R = (-1, an1) := by rw [hR, if_pos hp]
      simp [hp, decide_eq_true hp, show ¬ 0 ≤ p by omega]
      exact ⟨[0, 1], by simp⟩
    rw [if_neg hp] at hR
    have l2 := addN_len (an := an1) (a := flip a) (b := b)
    have n2 := addN_300 (an := an1) (a := flip a) (b := b) n1
    have r2 := addV_rng (fa := fa) (an := an1) (a := flip a) (b := b) (by omega) (by omega) (by omega)
    have c2same := addAnd_same_na I fa an1 (flip a) b hI hfa n1 (by omega) (by omega)
    have c2new := addAnd_new_na I fa an1 (flip a) b hI hfa n1 (by omega) (by omega)
    have e2 : addM an1 (flip a) b = false → an1 = addN an1 (flip a) b := fun h => by unfold addN; rw [if_neg (by simp [h])]
    have e2b : addM an1 (flip a) b = true → an1.length < (addN an1 (flip a) b).length := fun h => by unfold addN; rw [if_pos h]; simp
    generalize hq0 : addV fa an1 (flip a) b = q at *
    generalize h20 : addN an1 (flip a) b = an2 at *
    generalize h2m : addM an1 (flip a) b = m2 at *
    simp [hp, decide_eq_false hp, show 0 ≤ p by omega, hx, hy]
    cases m2
    · have c2 := c2same rfl
      obtain rfl := e2 rfl
      refine callT_step (c2) [] [0, 1] (by simp) ?_
      simp
      by_cases hq : q < 0
      · obtain rfl : R = (-1, an1) := by rw [hR, if_pos hq]
        simp [hq, decide_eq_true hq, show ¬ 0 ≤ q by omega]
        exact ⟨[0, 1], by simp⟩
      rw [if_neg hq] at hR
      have l3 := addN_len (an := an1) (a := flip p) (b := flip q)
      have c3same := addOr_same_a I fa an1 p q hI hfa n1 (by omega) (by omega)
      have c3new := addOr_new_a I fa an1 p q hI hfa n1 (by omega) (by omega)
      have e3 : addM an1 (flip p) (flip q) = false → an1 = addN an1 (flip p) (flip q) := fun h => by unfold addN; rw [if_neg (by simp [h])]
      have e3b : addM an1 (flip p) (flip q) = true → an1.length < (addN an1 (flip p) (flip q)).length := fun h => by unfold addN; rw [if_pos h]; simp
      generalize orV fa an1 p q = r at *
      generalize addN an1 (flip p) (flip q) = an3 at *
      generalize addM an1 (flip p) (flip q) = m3 at *
      subst hR
      simp [hq, decide_eq_false hq, show 0 ≤ q by omega]
      cases m3
      · have c3 := c3same rfl
        obtain rfl := e3 rfl
        refine callT_step (c3) [] [0, 1] (by simp) ?_
        simp
        exact ⟨[0, 1], by simp⟩
      · have c3 := c3new rfl
        have b3 := e3b rfl
        refine callT_step (c3) [] [0, 1] (by simp) ?_
        simp
        exact ⟨[0, 2], by simp⟩
    · have c2 := c2new rfl
      have b2 := e2b rfl
      refine callT_step (c2) [] [0, 1] (by simp) ?_
      simp
      by_cases hq : q < 0
      · obtain rfl : R = (-1, an2) := by rw [hR, if_pos hq]
        simp [hq, decide_eq_true hq, show ¬ 0 ≤ q by omega]
        exact ⟨[0, 2], by simp⟩
      rw [if_neg hq] at hR
      have l3 := addN_len (an := an2) (a := flip p) (b := flip q)
      have c3same := addOr_same_a I fa an2 p q hI hfa n2 (by omega) (by omega)
      have c3new := addOr_new_a I fa an2 p q hI hfa n2 (by omega) (by omega)
      have e3 : addM an2 (flip p) (flip q) = false → an2 = addN an2 (flip p) (flip q) := fun h => by unfold addN; rw [if_neg (by simp [h])]
      have e3b : addM an2 (flip p) (flip q) = true → an2.length < (addN an2 (flip p) (flip q)).length := fun h => by unfold addN; rw [if_pos h]; simp
      generalize orV fa an2 p q = r at *
      generalize addN an2 (flip p) (flip q) = an3 at *
      generalize addM an2 (flip p) (flip q) = m3 at *
      subst hR
      simp [hq, decide_eq_false hq, show 0 ≤ q by omega]
      cases m3
      · have c3 := c3same rfl
        obtain rfl := e3 rfl
        refine callT_step (c3) [] [0, 2] (by simp) ?_
        simp
        exact ⟨[0, 2], by simp⟩
      · have c3 := c3new rfl
        have b3 := e3b rfl
        refine callT_step (c3) [] [0, 2] (by simp) ?_
        simp
        exact ⟨[0, 3], by simp⟩
set_option maxRecDepth 100000 in
set_option maxHeartbeats 2000000 in
theorem addXor_same_a (I fa : Int) (an : List AndD) (a b : Int) (hI : 0 ≤ I ∧ I ≤ 20) (hfa : 1 + I = fa) (hn : an.length ≤ 300) (ha : 0 ≤ a ∧ a < 2 * (fa + an.length)) (hb : 0 ≤ b ∧ b < 2 * (fa + an.length)) (h : (xorR fa an a b).2 = an) :
    ConT Try.prog 111 [.ptr 0 0, .d (.int .i64 a), .d (.int .i64 b)] [.var 33 [.d (.int .i64 I), .nil 52, .ref 1, .nil 3], .arr 100 true ((an).map enAnd)] (.d (.int .i64 (xorR fa an a b).1)) [.var 33 [.d (.int .i64 I), .nil 52, .ref 1, .nil 3], .arr 100 true ((an).map enAnd)] := by
  have hx : xor64 a 1 = flip a := xor64_one (by omega) (by omega)
  have hy : xor64 b 1 = flip b := xor64_one (by omega) (by omega)
  have fA := flip_half ha.1
  have fB := flip_half hb.1
  have hR : xorR fa an a b = if addV fa an a (flip b) < 0 then (-1, addN an a (flip b)) else if addV fa (addN an a (flip b)) (flip a) b < 0 then (-1, addN (addN an a (flip b)) (flip a) b) else (orV fa (addN (addN an a (flip b)) (flip a) b) (addV fa an a (flip b)) (addV fa (addN an a (flip b)) (flip a) b), addN (addN (addN an a (flip b)) (flip a) b) (flip (addV fa an a (flip b))) (flip (addV fa (addN an a (flip b)) (flip a) b))) := rfl
  have l1 := addN_len (an := an) (a := a) (b := flip b)
  have n1 := addN_300 (a := a) (b := flip b) hn
  have r1 := addV_rng (fa := fa) (an := an) (a := a) (b := flip b) (by omega) (by omega) (by omega)
  have c1same := addAnd_same_na I fa an a (flip b) hI hfa hn (by omega) (by omega)
  have c1new := addAnd_new_na I fa an a (flip b) hI hfa hn (by omega) (by omega)
  have e1 : addM an a (flip b) = false → an = addN an a (flip b) := fun h => by unfold addN; rw [if_neg (by simp [h])]
  have e1b : addM an a (flip b) = true → an.length < (addN an a (flip b)).length := fun h => by unfold addN; rw [if_pos h]; simp
  generalize xorR fa an a b = R at *
  generalize hp0 : addV fa an a (flip b) = p at *
  generalize h10 : addN an a (flip b) = an1 at *
  generalize h1m : addM an a (flip b) = m1 at *
  refine conT_of (by kernel_rfl) Try.func111 rfl rfl rfl (by simp [laters, Later]) (by simp [lives, Slot.live]) ?_
  simp [hx, hy]
  cases m1
  · have c1 := c1same rfl
    obtain rfl := e1 rfl
    refine callT_step (c1) [] [0, 1] (by simp) ?_
    simp [hx, hy]
    by_cases hp : p < 0
    · obtain rfl : R = (-1, an) := by rw [hR, if_pos hp]
      simp [hp, decide_eq_true hp, show ¬ 0 ≤ p by omega]
      exact ⟨[0, 1], by simp⟩
    rw [if_neg hp] at hR
    have l2 := addN_len (an := an) (a := flip a) (b := b)
    have n2 := addN_300 (an := an) (a := flip a) (b := b) hn
    have r2 := addV_rng (fa := fa) (an := an) (a := flip a) (b := b) (by omega) (by omega) (by omega)
    have c2same := addAnd_same_na I fa an (flip a) b hI hfa hn (by omega) (by omega)
    have c2new := addAnd_new_na I fa an (flip a) b hI hfa hn (by omega) (by omega)
    have e2 : addM an (flip a) b = false → an = addN an (flip a) b := fun h => by unfold addN; rw [if_neg (by simp [h])]
    have e2b : addM an (flip a) b = true → an.length < (addN an (flip a) b).length := fun h => by unfold addN; rw [if_pos h]; simp
    generalize hq0 : addV fa an (flip a) b = q at *
    generalize h20 : addN an (flip a) b = an2 at *
    generalize h2m : addM an (flip a) b = m2 at *
    simp [hp, decide_eq_false hp, show 0 ≤ p by omega, hx, hy]
    cases m2
    · have c2 := c2same rfl
      obtain rfl := e2 rfl
      refine callT_step (c2) [] [0, 1] (by simp) ?_
      simp
      by_cases hq : q < 0
      · obtain rfl : R = (-1, an) := by rw [hR, if_pos hq]
        simp [hq, decide_eq_true hq, show ¬ 0 ≤ q by omega]
        exact ⟨[0, 1], by simp⟩
      rw [if_neg hq] at hR
      have l3 := addN_len (an := an) (a := flip p) (b := flip q)
      have c3same := addOr_same_a I fa an p q hI hfa hn (by omega) (by omega)
      have c3new := addOr_new_a I fa an p q hI hfa hn (by omega) (by omega)
      have e3 : addM an (flip p) (flip q) = false → an = addN an (flip p) (flip q) := fun h => by unfold addN; rw [if_neg (by simp [h])]
      have e3b : addM an (flip p) (flip q) = true → an.length < (addN an (flip p) (flip q)).length := fun h => by unfold addN; rw [if_pos h]; simp
      generalize orV fa an p q = r at *
      generalize addN an (flip p) (flip q) = an3 at *
      generalize addM an (flip p) (flip q) = m3 at *
      subst hR
      simp [hq, decide_eq_false hq, show 0 ≤ q by omega]
      cases m3
      · have c3 := c3same rfl
        obtain rfl := e3 rfl
        refine callT_step (c3) [] [0, 1] (by simp) ?_
        simp
        exact ⟨[0, 1], by simp⟩
      · have c3 := c3new rfl
        have b3 := e3b rfl
        exfalso; have hh := congrArg List.length h; simp only at hh; omega
    · have c2 := c2new rfl
      have b2 := e2b rfl
      refine callT_step (c2) [] [0, 1] (by simp) ?_
      simp
      by_cases hq : q < 0
      · obtain rfl : R = (-1, an2) := by rw [hR, if_pos hq]
        exfalso; have hh := congrArg List.length h; simp only at hh; omega
      rw [if_neg hq] at hR
      have l3 := addN_len (an := an2) (a := flip p) (b := flip q)
      have c3same := addOr_same_a I fa an2 p q hI hfa n2 (by omega) (by omega)
      have c3new := addOr_new_a I fa an2 p q hI hfa n2 (by omega) (by omega)
      have e3 : addM an2 (flip p) (flip q) = false → an2 = addN an2 (flip p) (flip q) := fun h => by unfold addN; rw [if_neg (by simp [h])]
      have e3b : addM an2 (flip p) (flip q) = true → an2.length < (addN an2 (flip p) (flip q)).length := fun h => by unfold addN; rw [if_pos h]; simp
      generalize orV fa an2 p q = r at *
      generalize addN an2 (flip p) (flip q) = an3 at *
      generalize addM an2 (flip p) (flip q) = m3 at *
      subst hR
      simp [hq, decide_eq_false hq, show 0 ≤ q by omega]
      cases m3
      · have c3 := c3same rfl
        obtain rfl := e3 rfl
        exfalso; have hh := congrArg List.length h; simp only at hh; omega
      · have c3 := c3new rfl
        have b3 := e3b rfl
        exfalso; have hh := congrArg List.length h; simp only at hh; omega
  · have c1 := c1new rfl
    have b1 := e1b rfl
    refine callT_step (c1) [] [0, 1] (by simp) ?_
    simp [hx, hy]
    by_cases hp : p < 0
    · obtain rfl : R = (-1, an1) := by rw [hR, if_pos hp]
      exfalso; have hh := congrArg List.length h; simp only at hh; omega
    rw [if_neg hp] at hR
    have l2 := addN_len (an := an1) (a := flip a) (b := b)
    have n2 := addN_300 (an := an1) (a := flip a) (b := b) n1
    have r2 := addV_rng (fa := fa) (an := an1) (a := flip a) (b := b) (by omega) (by omega) (by omega)
    have c2same := addAnd_same_na I fa an1 (flip a) b hI hfa n1 (by omega) (by omega)
    have c2new := addAnd_new_na I fa an1 (flip a) b hI hfa n1 (by omega) (by omega)
    have e2 : addM an1 (flip a) b = false → an1 = addN an1 (flip a) b := fun h => by unfold addN; rw [if_neg (by simp [h])]
    have e2b : addM an1 (flip a) b = true → an1.length < (addN an1 (flip a) b).length := fun h => by unfold addN; rw [if_pos h]; simp
    generalize hq0 : addV fa an1 (flip a) b = q at *
    generalize h20 : addN an1 (flip a) b = an2 at *
    generalize h2m : addM an1 (flip a) b = m2 at *
    simp [hp, decide_eq_false hp, show 0 ≤ p by omega, hx, hy]
    cases m2
    · have c2 := c2same rfl
      obtain rfl := e2 rfl
      refine callT_step (c2) [] [0, 2] (by simp) ?_
      simp
      by_cases hq : q < 0
      · obtain rfl : R = (-1, an1) := by rw [hR, if_pos hq]
        exfalso; have hh := congrArg List.length h; simp only at hh; omega
      rw [if_neg hq] at hR
      have l3 := addN_len (an := an1) (a := flip p) (b := flip q)
      have c3same := addOr_same_a I fa an1 p q hI hfa n1 (by omega) (by omega)
      have c3new := addOr_new_a I fa an1 p q hI hfa n1 (by omega) (by omega)
      have e3 : addM an1 (flip p) (flip q) = false → an1 = addN an1 (flip p) (flip q) := fun h => by unfold addN; rw [if_neg (by simp [h])]
      have e3b : addM an1 (flip p) (flip q) = true → an1.length < (addN an1 (flip p) (flip q)).length := fun h => by unfold addN; rw [if_pos h]; simp
      generalize orV fa an1 p q = r at *
      generalize addN an1 (flip p) (flip q) = an3 at *
      generalize addM an1 (flip p) (flip q) = m3 at *
      subst hR
      simp [hq, decide_eq_false hq, show 0 ≤ q by omega]
      cases m3
      · have c3 := c3same rfl
        obtain rfl := e3 rfl
        exfalso; have hh := congrArg List.length h; simp only at hh; omega
      · have c3 := c3new rfl
        have b3 := e3b rfl
        exfalso; have hh := congrArg List.length h; simp only at hh; omega
    · have c2 := c2new rfl
      have b2 := e2b rfl
      refine callT_step (c2) [] [0, 2] (by simp) ?_
      simp
      by_cases hq : q < 0
      · obtain rfl : R = (-1, an2) := by rw [hR, if_pos hq]
        exfalso; have hh := congrArg List.length h; simp only at hh; omega
      rw [if_neg hq] at hR
      have l3 := addN_len (an := an2) (a := flip p) (b := flip q)
      have c3same := addOr_same_a I fa an2 p q hI hfa n2 (by omega) (by omega)
      have c3new := addOr_new_a I fa an2 p q hI hfa n2 (by omega) (by omega)
      have e3 : addM an2 (flip p) (flip q) = false → an2 = addN an2 (flip p) (flip q) := fun h => by unfold addN; rw [if_neg (by simp [h])]
      have e3b : addM an2 (flip p) (flip q) = true → an2.length < (addN an2 (flip p) (flip q)).length := fun h => by unfold addN; rw [if_pos h]; simp
      generalize orV fa an2 p q = r at *
      generalize addN an2 (flip p) (flip q) = an3 at *
      generalize addM an2 (flip p) (flip q) = m3 at *
      subst hR
      simp [hq, decide_eq_false hq, show 0 ≤ q by omega]
      cases m3
      · have c3 := c3same rfl
        obtain rfl := e3 rfl
        exfalso; have hh := congrArg List.length h; simp only at hh; omega
      · have c3 := c3new rfl
        have b3 := e3b rfl
        exfalso; have hh := congrArg List.length h; simp only at hh; omega
set_option maxRecDepth 100000 in
set_option maxHeartbeats 2000000 in
theorem addXor_new_a (I fa : Int) (an : List AndD) (a b : Int) (hI : 0 ≤ I ∧ I ≤ 20) (hfa : 1 + I = fa) (hn : an.length ≤ 300) (ha : 0 ≤ a ∧ a < 2 * (fa + an.length)) (hb : 0 ≤ b ∧ b < 2 * (fa + an.length)) (h : (xorR fa an a b).2 ≠ an) :
    ConT Try.prog 111 [.ptr 0 0, .d (.int .i64 a), .d (.int .i64 b)] [.var 33 [.d (.int .i64 I), .nil 52, .ref 1, .nil 3], .arr 100 true ((an).map enAnd)] (.d (.int .i64 (xorR fa an a b).1)) [.var 33 [.d (.int .i64 I), .nil 52, .ref 2, .nil 3], .dead, .arr 100 true (((xorR fa an a b).2).map enAnd)] := by
  have hx : xor64 a 1 = flip a := xor64_one (by omega) (by omega)
  have hy : xor64 b 1 = flip b := xor64_one (by omega) (by omega)
  have fA := flip_half ha.1
  have fB := flip_half hb.1
  have hR : xorR fa an a b = if addV fa an a (flip b) < 0 then (-1, addN an a (flip b)) else if addV fa (addN an a (flip b)) (flip a) b < 0 then (-1, addN (addN an a (flip b)) (flip a) b) else (orV fa (addN (addN an a (flip b)) (flip a) b) (addV fa an a (flip b)) (addV fa (addN an a (flip b)) (flip a) b), addN (addN (addN an a (flip b)) (flip a) b) (flip (addV fa an a (flip b))) (flip (addV fa (addN an a (flip b)) (flip a) b))) := rfl
  have l1 := addN_len (an := an) (a := a) (b := flip b)
  have n1 := addN_300 (a := a) (b := flip b) hn
  have r1 := addV_rng (fa := fa) (an := an) (a := a) (b := flip b) (by omega) (by omega) (by omega)
  have c1same := addAnd_same_na I fa an a (flip b) hI hfa hn (by omega) (by omega)
  have c1new := addAnd_new_na I fa an a (flip b) hI hfa hn (by omega) (by omega)
  have e1 : addM an a (flip b) = false → an = addN an a (flip b) := fun h => by unfold addN; rw [if_neg (by simp [h])]
  have e1b : addM an a (flip b) = true → an.length < (addN an a (flip b)).length := fun h => by unfold addN; rw [if_pos h]; simp
  generalize xorR fa an a b = R at *
  generalize hp0 : addV fa an a (flip b) = p at *
  generalize h10 : addN an a (flip b) = an1 at *
  generalize h1m : addM an a (flip b) = m1 at *
  refine conT_of (by kernel_rfl) Try.func111 rfl rfl rfl (by simp [laters, Later]) (by simp [lives, Slot.live]) ?_
  simp [hx, hy]
  cases m1
  · have c1 := c1same rfl
    obtain rfl := e1 rfl
    refine callT_step (c1) [] [0, 1] (by simp) ?_
    simp [hx, hy]
    by_cases hp : p < 0
    · obtain rfl : R = (-1, an) := by rw [hR, if_pos hp]
      exact absurd rfl h
    rw [if_neg hp] at hR
    have l2 := addN_len (an := an) (a := flip a) (b := b)
    have n2 := addN_300 (an := an) (a := flip a) (b := b) hn
    have r2 := addV_rng (fa := fa) (an := an) (a := flip a) (b := b) (by omega) (by omega) (by omega)
    have c2same := addAnd_same_na I fa an (flip a) b hI hfa hn (by omega) (by omega)
    have c2new := addAnd_new_na I fa an (flip a) b hI hfa hn (by omega) (by omega)
    have e2 : addM an (flip a) b = false → an = addN an (flip a) b := fun h => by unfold addN; rw [if_neg (by simp [h])]
    have e2b : addM an (flip a) b = true → an.length < (addN an (flip a) b).length := fun h => by unfold addN; rw [if_pos h]; simp
    generalize hq0 : addV fa an (flip a) b = q at *
    generalize h20 : addN an (flip a) b = an2 at *
    generalize h2m : addM an (flip a) b = m2 at *
    simp [hp, decide_eq_false hp, show 0 ≤ p by omega, hx, hy]
    cases m2
    · have c2 := c2same rfl
      obtain rfl := e2 rfl
      refine callT_step (c2) [] [0, 1] (by simp) ?_
      simp
      by_cases hq : q < 0
      · obtain rfl : R = (-1, an) := by rw [hR, if_pos hq]
        exact absurd rfl h
      rw [if_neg hq] at hR
      have l3 := addN_len (an := an) (a := flip p) (b := flip q)
      have c3same := addOr_same_a I fa an p q hI hfa hn (by omega) (by omega)
      have c3new := addOr_new_a I fa an p q hI hfa hn (by omega) (by omega)
      have e3 : addM an (flip p) (flip q) = false → an = addN an (flip p) (flip q) := fun h => by unfold addN; rw [if_neg (by simp [h])]
      have e3b : addM an (flip p) (flip q) = true → an.length < (addN an (flip p) (flip q)).length := fun h => by unfold addN; rw [if_pos h]; simp
      generalize orV fa an p q = r at *
      generalize addN an (flip p) (flip q) = an3 at *
      generalize addM an (flip p) (flip q) = m3 at *
      subst hR
      simp [hq, decide_eq_false hq, show 0 ≤ q by omega]
      cases m3
      · have c3 := c3same rfl
        obtain rfl := e3 rfl
        exact absurd rfl h
      · have c3 := c3new rfl
        have b3 := e3b rfl
        refine callT_step (c3) [] [0, 1] (by simp) ?_
        simp
        exact ⟨[0, 1, 2], by simp⟩
    · have c2 := c2new rfl
      have b2 := e2b rfl
      refine callT_step (c2) [] [0, 1] (by simp) ?_
      simp
      by_cases hq : q < 0
      · obtain rfl : R = (-1, an2) := by rw [hR, if_pos hq]
        simp [hq, decide_eq_true hq, show ¬ 0 ≤ q by omega]
        exact ⟨[0, 1, 2], by simp⟩
      rw [if_neg hq] at hR
      have l3 := addN_len (an := an2) (a := flip p) (b := flip q)
      have c3same := addOr_same_a I fa an2 p q hI hfa n2 (by omega) (by omega)
      have c3new := addOr_new_a I fa an2 p q hI hfa n2 (by omega) (by omega)
      have e3 : addM an2 (flip p) (flip q) = false → an2 = addN an2 (flip p) (flip q) := fun h => by unfold addN; rw [if_neg (by simp [h])]
      have e3b : addM an2 (flip p) (flip q) = true → an2.length < (addN an2 (flip p) (flip q)).length := fun h => by unfold addN; rw [if_pos h]; simp
      generalize orV fa an2 p q = r at *
      generalize addN an2 (flip p) (flip q) = an3 at *
      generalize addM an2 (flip p) (flip q) = m3 at *
      subst hR
      simp [hq, decide_eq_false hq, show 0 ≤ q by omega]
      cases m3
      · have c3 := c3same rfl
        obtain rfl := e3 rfl
        refine callT_step (c3) [] [0, 2] (by simp) ?_
        simp
        exact ⟨[0, 1, 2], by simp⟩
      · have c3 := c3new rfl
        have b3 := e3b rfl
        refine callT_step (c3) [] [0, 2] (by simp) ?_
        simp
        exact ⟨[0, 1, 3], by simp⟩
  · have c1 := c1new rfl
    have b1 := e1b rfl
    refine callT_step (c1) [] [0, 1] (by simp) ?_
    simp [hx, hy]
    by_cases hp : p < 0
    · obtain rfl : R = (-1, an1) := by rw [hR, if_pos hp]
      simp [hp, decide_eq_true hp, show ¬ 0 ≤ p by omega]
      exact ⟨[0, 1, 2], by simp⟩
    rw [if_neg hp] at hR
    have l2 := addN_len (an := an1) (a := flip a) (b := b)
    have n2 := addN_300 (an := an1) (a := flip a) (b := b) n1
    have r2 := addV_rng (fa := fa) (an := an1) (a := flip a) (b := b) (by omega) (by omega) (by omega)
    have c2same := addAnd_same_na I fa an1 (flip a) b hI hfa n1 (by omega) (by omega)
    have c2new := addAnd_new_na I fa an1 (flip a) b hI hfa n1 (by omega) (by omega)
    have e2 : addM an1 (flip a) b = false → an1 = addN an1 (flip a) b := fun h => by unfold addN; rw [if_neg (by simp [h])]
    have e2b : addM an1 (flip a) b = true → an1.length < (addN an1 (flip a) b).length := fun h => by unfold addN; rw [if_pos h]; simp
    generalize hq0 : addV fa an1 (flip a) b = q at *
    generalize h20 : addN an1 (flip a) b = an2 at *
    generalize h2m : addM an1 (flip a) b = m2 at *
    simp [hp, decide_eq_false hp, show 0 ≤ p by omega, hx, hy]
    cases m2
    · have c2 := c2same rfl
      obtain rfl := e2 rfl
      refine callT_step (c2) [] [0, 2] (by simp) ?_
      simp
      by_cases hq : q < 0
      · obtain rfl : R = (-1, an1) := by rw [hR, if_pos hq]
        simp [hq, decide_eq_true hq, show ¬ 0 ≤ q by omega]
        exact ⟨[0, 1, 2], by simp⟩
      rw [if_neg hq] at hR
      have l3 := addN_len (an := an1) (a := flip p) (b := flip q)
      have c3same := addOr_same_a I fa an1 p q hI hfa n1 (by omega) (by omega)
      have c3new := addOr_new_a I fa an1 p q hI hfa n1 (by omega) (by omega)
      have e3 : addM an1 (flip p) (flip q) = false → an1 = addN an1 (flip p) (flip q) := fun h => by unfold addN; rw [if_neg (by simp [h])]
      have e3b : addM an1 (flip p) (flip q) = true → an1.length < (addN an1 (flip p) (flip q)).length := fun h => by unfold addN; rw [if_pos h]; simp
      generalize orV fa an1 p q = r at *
      generalize addN an1 (flip p) (flip q) = an3 at *
      generalize addM an1 (flip p) (flip q) = m3 at *
      subst hR
      simp [hq, decide_eq_false hq, show 0 ≤ q by omega]
      cases m3
      · have c3 := c3same rfl
        obtain rfl := e3 rfl
        refine callT_step (c3) [] [0, 2] (by simp) ?_
        simp
        exact ⟨[0, 1, 2], by simp⟩
      · have c3 := c3new rfl
        have b3 := e3b rfl
        refine callT_step (c3) [] [0, 2] (by simp) ?_
        simp
        exact ⟨[0, 1, 3], by simp⟩
    · have c2 := c2new rfl
      have b2 := e2b rfl
      refine callT_step (c2) [] [0, 2] (by simp) ?_
      simp
      by_cases hq : q < 0
      · obtain rfl : R = (-1, an2) := by rw [hR, if_pos hq]
        simp [hq, decide_eq_true hq, show ¬ 0 ≤ q by omega]
        exact ⟨[0, 1, 3], by simp⟩
      rw [if_neg hq] at hR
      have l3 := addN_len (an := an2) (a := flip p) (b := flip q)
      have c3same := addOr_same_a I fa an2 p q hI hfa n2 (by omega) (by omega)
      have c3new := addOr_new_a I fa an2 p q hI hfa n2 (by omega) (by omega)
      have e3 : addM an2 (flip p) (flip q) = false → an2 = addN an2 (flip p) (flip q) := fun h => by unfold addN; rw [if_neg (by simp [h])]
      have e3b : addM an2 (flip p) (flip q) = true → an2.length < (addN an2 (flip p) (flip q)).length := fun h => by unfold addN; rw [if_pos h]; simp
      generalize orV fa an2 p q = r at *
      generalize addN an2 (flip p) (flip q) = an3 at *
      generalize addM an2 (flip p) (flip q) = m3 at *
      subst hR
      simp [hq, decide_eq_false hq, show 0 ≤ q by omega]
      cases m3
      · have c3 := c3same rfl
        obtain rfl := e3 rfl
        refine callT_step (c3) [] [0, 3] (by simp) ?_
        simp
        exact ⟨[0, 1, 3], by simp⟩
      · have c3 := c3new rfl
        have b3 := e3b rfl
        refine callT_step (c3) [] [0, 3] (by simp) ?_
        simp
        exact ⟨[0, 1, 4], by simp⟩
end Go.Proofs.Ytoppcdccplgalaa
