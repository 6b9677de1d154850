/-
  Imports of the reference with results of their own, by abstract walks.
  Conditions: those typed in each theorem.
-/
import Derived.Test.YtoppcdccplgalaaRs
namespace Go.Proofs.Ytoppcdccplgalaa
open Go.RowKit Go.ChangeShapes Go.WideShapes
set_option linter.unusedVariables false
set_option linter.unusedSimpArgs false
attribute [local simp ↓] condG_true condG_false condB_true condB_false
attribute [local simp] AWp_skip AWp_region_t AWp_region_d AWp_region_f still_mk AWp_seq AWp_cond condV_bool condB AWp_block AWp_exit AWp_ret
attribute [local simp] AOps_nil AOp_move AOp_assign AOp_pick AOp_binOp AOp_unOp AOp_convert AOp_len AOp_max AOp_min AOp_indexAddr AOp_load
attribute [local simp] AOp_fieldAddr AOp_field AOp_extract AOp_nilCheck AOp_build AOp_alloc AOp_box AOp_call AOp_store AOp_append AOp_buildSlice nextB_some
attribute [local simp] nextB_none adoptO adoptC AOp_makeSlice AOp_slice AOp_makeFunc AOp_guard guardD_some guardG_bool guardG_undef nextO_some nextS_some
attribute [local simp] nextZ_some nextL_some nextM_some nextT_some sliceO sliceL sliceT partO partV boundV funcO pickO
attribute [local simp] convO lenO maxO minO idxO extO nilO buildO litO litC makeO chunks
attribute [local simp] fillV placeOf thenA inBlockA St.get St.put St.eval ofCell evalT abin_add abin_sub abin_mul
attribute [local simp] abin_quo abin_rem abin_and abin_or abin_xor abin_andNot abin_shl abin_shr abin_shlu abin_eql abin_eqp abin_neq
attribute [local simp] abin_lss abin_leq abin_gtr abin_geq abin_eqlb abin_neqb aun pickV lenV intOf? indexV takeD
attribute [local simp] takeV loadV fieldAddrV fieldV ofX presD presDs pres presAll cellsV V.cell storeV
attribute [local simp] freezeC putAt kill takeC plains plainV scalarV nat_neg keepT sets eSl e1
attribute [local simp] e2 e3 e4 eInt eBool afterCall inst inst1 inst1s instD instDs RetA
attribute [local simp] resVs resV gives give1 give1s Le isPin leSlots leS leTmps leV le0
attribute [local simp] le0s ren ren0 renS ren0s frame enterT afterT_some afterC_some lives Slot.live arrsOk
attribute [local simp] viewV view0 renT rens renSs setAll List.range'_succ RetT RetW joinV leT AOpsE_nil
attribute [local simp] AOpsE_cons AOpsT_nil AOpsT_cons isCallT callOf condC_true condC_false beginT_mk thenT_mk pickE pickT isT
attribute [local simp] loose namesOf namesV names1 names0 stableN sameAt Op.operands Call.operands
/-- A net without sequential elements and outputs: its value, and its rows. -/
abbrev nilN (I : Int) : V := .agg [.d (.int .i64 I), .nil 52, .nil 100, .nil 3]
abbrev refN (I : Int) (k : Nat) : V := .agg [.d (.int .i64 I), .ref k, .ref (k + 1), .ref (k + 2)]
abbrev rowsN (an : List AndD) : List Slot := [.arr 52 true [], .arr 100 true (an.map enAnd), .arr 3 true []]
abbrev rowI (xs : List Int) : Slot := .arr 3 true (xs.map (e1 eInt))
def oaSn (i : Nat) (I : Int) (an : List AndD) (to : List Int) (sl : List Slot) : List Slot := if i = 0 then sl else (sl.set 0 .dead).set 1 (.var 33 [.d (.int .i64 I), .ref 4, .ref 5, .ref 6]) ++ rowsN an ++ [rowI to]
def oaVn (i : Nat) : V := if i = 0 then .ref 0 else .ref 7
set_option maxRecDepth 100000 in
set_option maxHeartbeats 4000000 in
theorem l15Ands_own_n (I : Int) (n : GrD) (to0 : List Int) (c : Bool) (hm : netOkB ((I, [], [], []) : GrD) = true) (hn : netOkB n = true) (hI : ImpOk (firstG ((I, [], [], []) : GrD)) (firstG n) (to0, [], true))
    (hc : c = decide ((impR n (firstG ((I, [], [], []) : GrD)) (-1) 0 to0 [] n.2.2.1.length).1.length ≠ to0.length)) :
    ConT Try.prog 170 [nilN I, .ref 0, dgr n, .d (.int .i64 (-1)), .d (.int .i64 0)] [rowI to0]
      (.tup [if c = true then refN I 1 else nilN I, .ref (if c = true then 4 else 0), .d (.bool (impR n (firstG ((I, [], [], []) : GrD)) (-1) 0 to0 [] n.2.2.1.length).2.2)])
      (if c = true then [.dead] ++ rowsN (impR n (firstG ((I, [], [], []) : GrD)) (-1) 0 to0 [] n.2.2.1.length).2.1 ++ [rowI (impR n (firstG ((I, [], [], []) : GrD)) (-1) 0 to0 [] n.2.2.1.length).1] else [rowI to0]) := by
  obtain ⟨⟨n1, n2, n3, n4, n5, n6⟩, -, -, -⟩ := netOk_of hn
  obtain ⟨⟨m1, m2, m3, m4, m5, m6⟩, -, -, -⟩ := netOk_of hm
  obtain ⟨hF, hgl, hNi, hno⟩ := ok_sizes hn
  obtain ⟨hFm, hglm, hNim, hnom⟩ := ok_sizes hm
  have hN := grN_eq n
  have hNm := grN_eq ((I, [], [], []) : GrD)
  have hFI : (firstG ((I, [], [], []) : GrD) : Int) = 1 + I := by rw [hFm]; simp
  have hII := fun i hi' => impR_ok hn (fa := firstG ((I, [], [], []) : GrD)) (skip := -1) (inst := 0) (by omega) (by omega) hI i hi'
  generalize hfm : firstG ((I, [], [], []) : GrD) = fm at *
  have hfA : ∀ an : List AndD, firstG ((I, [], an, []) : GrD) = fm := fun an => hfm
  have hnA : ∀ {an : List AndD}, [].length ≤ an.length → an.length ≤ 300 → ansOk fm an → netOkB ((I, [], an, []) : GrD) = true := fun {an} h1 h2 h3 => by
    rw [← hfm] at h3
    exact netOk_withA (x := ((I, [], [], []) : GrD)) hm h1 h2 h3
  generalize hR : impR n fm (-1) 0 to0 [] n.2.2.1.length = R at *
  refine conT_ofD (by kernel_rfl) Try.func170 rfl rfl rfl (by cases c <;> simp [laters, Later]) (by simp [lives, Slot.live]) ?_
  simp
  refine aw_loopN [false, true, false, true, true, true, false, true, false, false, true, false, false, true, false, false, false, false, false, false, false, false, false, false, false, false, false, false, false, false, false, false, false, false, false, false, false, false, false, false, false, false, false, false, false, false, false, false, false, false, false, false, false, false, false, false, false, false, false, false, false, false, false, false, false, false, false, false] (fun i : Nat => i ≤ n.2.2.1.length ∧ (impR n fm (-1) 0 to0 [] i).2.2 = true) (fun i : Nat => [(1, oaVn i), (13, .d (.int .i64 i))]) (fun i : Nat => oaSn i I (impR n fm (-1) 0 to0 [] i).2.1 (impR n fm (-1) 0 to0 [] i).1) (fun i : Nat => n.2.2.1.length - i) 0 ?_ ?_ ?_
  · exact ⟨Nat.zero_le _, rfl⟩
  · exact ⟨[0, 1, 2, 3], by simp [oaSn, oaVn]⟩
  have hto0 : to0.length = firstG n := hI.len rfl
  rintro J S μ hJ hS hμ i ⟨hile, hio⟩
  obtain ⟨q1, q2⟩ := hII i hile
  obtain ⟨⟨to, an, bb⟩, hst⟩ : ∃ s, impR n fm (-1) 0 to0 [] i = s := ⟨_, rfl⟩
  rw [hst] at hio q1 q2
  simp only at hio q2
  subst hio
  have hl := q1.len rfl
  have hpl := q1.pl
  have ha3 := q1.an
  have han := q1.ok
  simp only at hl hpl ha3 han
  have hokA := hnA q2 ha3 han
  rw [hst]
  by_cases hlt : i < n.2.2.1.length
  case neg =>
    obtain rfl : i = n.2.2.1.length := by omega
    rw [hst] at hR
    subst hR
    simp only at hc
    by_cases hi0 : n.2.2.1.length = 0
    · obtain rfl : c = false := by rw [hc]; simp; omega
      rw [hi0] at hst
      have e0 : (to0, [], true) = (to, an, true) := hst
      simp only [Prod.mk.injEq] at e0
      obtain ⟨rfl, rfl, -⟩ := e0
      simp [oaSn, oaVn, hi0]
      exact ⟨[0], by simp⟩
    · obtain rfl : c = true := by rw [hc]; simp; omega
      simp [oaSn, oaVn, hi0, decide_eq_false hlt, hlt]
      exact ⟨[0, 4, 5, 6, 7], by simp⟩
  obtain ⟨hA, a1, a2, a3, a4, a5, a6⟩ := and_at hn (v := firstG n + i) (by omega) (by omega)
  rw [Nat.add_sub_cancel_left] at hA
  have hsk : ¬ (i : Int) = -1 := by omega
  have hskb : ((i : Int) == -1) = false := by simp
  have hstp : impR n fm (-1) 0 to0 [] (i + 1) = if addV fm an (mapV to (andAt n (firstG n + i)).1) (mapV to (andAt n (firstG n + i)).2) < 0 then (to, an, false) else (to ++ [addV fm an (mapV to (andAt n (firstG n + i)).1) (mapV to (andAt n (firstG n + i)).2)], addN an (mapV to (andAt n (firstG n + i)).1) (mapV to (andAt n (firstG n + i)).2), true) := by
    rw [impR, hst]; simp only [Bool.true_eq_false, if_false]
    rw [if_neg hsk]
  have kM := l10Map_con to [(andAt n (firstG n + i)).1, (andAt n (firstG n + i)).2] (by omega) (by simp) (fun l hl' => by
    simp only [List.mem_cons, List.not_mem_nil, or_false] at hl'
    rcases hl' with rfl | rfl <;> omega)
  have r1 := mapV_rng (l := (andAt n (firstG n + i)).1) (plIn_at hpl (by omega) ((andAt n (firstG n + i)).1 / 2)) (by omega)
  have r2 := mapV_rng (l := (andAt n (firstG n + i)).2) (plIn_at hpl (by omega) ((andAt n (firstG n + i)).2 / 2)) (by omega)
  generalize andAt n (firstG n + i) = A at *
  have hL : (enAnd A).length = 2 := rfl
  simp only [List.map_cons, List.map_nil] at kM
  generalize mapV to A.1 = x1 at *
  generalize mapV to A.2 = x2 at *
  have hgN : (grN ((I, [], an, []) : GrD) : Int) = fm + an.length := by rw [grN_eq, hfA]; simp
  have kD := sAddAnd_con ((I, [], an, []) : GrD) x1 x2 hokA (by omega) (by omega)
  rw [sAddL_ok (by omega) (by omega), hfA] at kD
  have e1' : withA ((I, [], an, []) : GrD) (addN ((I, [], an, []) : GrD).2.2.1 x1 x2) = ((I, [], addN an x1 x2, []) : GrD) := rfl
  rw [e1'] at kD
  simp only at kD
  have w1 : IntKind.i64.wrap ((i : Int) + 1) = (i : Int) + 1 := wrap_id (by omega) (by omega)
  generalize addV fm an x1 x2 = v at *
  generalize addN an x1 x2 = an2 at *
  by_cases hi0 : i = 0
  · subst hi0
    have e0 : (to0, [], true) = (to, an, true) := hst
    simp only [Prod.mk.injEq] at e0
    obtain ⟨rfl, rfl, -⟩ := e0
    simp [oaSn, oaVn, hlt, decide_eq_true hlt]
    refine drawD_of 16 (by kernel_rfl) ?_
    simp [hA, hL, enAnd]
    refine call_step (kM) ?_
    simp
    refine drawE_of [(12, [10]), (13, [])] (by kernel_rfl) ?_
    simp
    refine call_step (kD) ?_
    simp [enGr]
    by_cases hv : v < 0
    · rw [if_pos hv] at hstp
      have hRR := impR_false (show (impR n fm (-1) 0 to0 [] (0 + 1)).2.2 = false by rw [hstp]) (n.2.2.1.length - 1)
      rw [show 0 + 1 + (n.2.2.1.length - 1) = n.2.2.1.length by omega, hR, hstp] at hRR
      subst hRR
      obtain rfl : c = false := by rw [hc]; simp
      simp [hv, decide_eq_true hv, show ¬ 0 ≤ v by omega]
      exact ⟨[0], by simp⟩
    rw [if_neg hv] at hstp
    simp [hv, decide_eq_false hv, show 0 ≤ v by omega]
    refine app_data vt_el_24 rfl (by simp) rfl (by simp) (by simp) (by first | (simp; done) | (simp; omega)) (by simp [flatP, flatD]) ?_
    simp [w1, show IntKind.i64.wrap 1 = 1 from rfl]
    exact round_of hJ hS hμ 1 ⟨by omega, by rw [show (1 : Nat) = 0 + 1 from rfl, hstp]⟩ (by omega) ⟨[0, 1, 2, 3, 6, 7, 8, 11], by rw [show (1 : Nat) = 0 + 1 from rfl, hstp]; simp [oaSn, oaVn, e1, eInt]⟩
  · simp [oaSn, oaVn, hi0, decide_eq_true hlt, hsk, hskb]
    refine drawD_of 16 (by kernel_rfl) ?_
    simp [hA, hL, enAnd]
    refine call_step (kM) ?_
    simp
    refine drawE_of [(12, [10]), (13, [])] (by kernel_rfl) ?_
    simp
    refine call_step (kD) ?_
    simp [enGr]
    by_cases hv : v < 0
    · rw [if_pos hv] at hstp
      have hRR := impR_false (show (impR n fm (-1) 0 to0 [] (i + 1)).2.2 = false by rw [hstp]) (n.2.2.1.length - (i + 1))
      rw [show i + 1 + (n.2.2.1.length - (i + 1)) = n.2.2.1.length by omega, hR, hstp] at hRR
      subst hRR
      obtain rfl : c = true := by rw [hc]; simp; omega
      simp [hv, decide_eq_true hv, show ¬ 0 ≤ v by omega]
      exact ⟨[0, 4, 5, 6, 7], by simp⟩
    rw [if_neg hv] at hstp
    simp [hv, decide_eq_false hv, show 0 ≤ v by omega]
    refine app_data vt_el_24 rfl (by simp) rfl (by simp) (by simp) (by first | (simp; done) | (simp; omega)) (by simp [flatP, flatD]) ?_
    simp [w1]
    exact round_of hJ hS hμ (i + 1) ⟨by omega, by rw [hstp]⟩ (by omega) ⟨[0, 1, 2, 3, 10, 11, 12, 15], by simp [hstp, oaSn, oaVn, e1, eInt]⟩
def oaSr (i : Nat) (I : Int) (an : List AndD) (to : List Int) (sl : List Slot) : List Slot := if i = 0 then sl else (sl.set 3 .dead).set 4 (.var 33 [.d (.int .i64 I), .ref 7, .ref 8, .ref 9]) ++ rowsN an ++ [rowI to]
def oaVr (i : Nat) : V := if i = 0 then .ref 3 else .ref 10
set_option maxRecDepth 100000 in
set_option maxHeartbeats 4000000 in
theorem l15Ands_own_r (I : Int) (an0 : List AndD) (n : GrD) (to0 : List Int) (c : Bool) (hm : netOkB ((I, [], an0, []) : GrD) = true) (hn : netOkB n = true) (hI : ImpOk (firstG ((I, [], an0, []) : GrD)) (firstG n) (to0, an0, true))
    (hc : c = decide ((impR n (firstG ((I, [], an0, []) : GrD)) (-1) 0 to0 an0 n.2.2.1.length).1.length ≠ to0.length)) :
    ConT Try.prog 170 [refN I 0, .ref 3, dgr n, .d (.int .i64 (-1)), .d (.int .i64 0)] (rowsN an0 ++ [rowI to0])
      (.tup [if c = true then refN I 4 else refN I 0, .ref (if c = true then 7 else 3), .d (.bool (impR n (firstG ((I, [], an0, []) : GrD)) (-1) 0 to0 an0 n.2.2.1.length).2.2)])
      (if c = true then rowsN an0 ++ [.dead] ++ rowsN (impR n (firstG ((I, [], an0, []) : GrD)) (-1) 0 to0 an0 n.2.2.1.length).2.1 ++ [rowI (impR n (firstG ((I, [], an0, []) : GrD)) (-1) 0 to0 an0 n.2.2.1.length).1] else (rowsN an0 ++ [rowI to0])) := by
  obtain ⟨⟨n1, n2, n3, n4, n5, n6⟩, -, -, -⟩ := netOk_of hn
  obtain ⟨⟨m1, m2, m3, m4, m5, m6⟩, -, -, -⟩ := netOk_of hm
  obtain ⟨hF, hgl, hNi, hno⟩ := ok_sizes hn
  obtain ⟨hFm, hglm, hNim, hnom⟩ := ok_sizes hm
  have hN := grN_eq n
  have hNm := grN_eq ((I, [], an0, []) : GrD)
  have hFI : (firstG ((I, [], an0, []) : GrD) : Int) = 1 + I := by rw [hFm]; simp
  have hII := fun i hi' => impR_ok hn (fa := firstG ((I, [], an0, []) : GrD)) (skip := -1) (inst := 0) (by omega) (by omega) hI i hi'
  generalize hfm : firstG ((I, [], an0, []) : GrD) = fm at *
  have hfA : ∀ an : List AndD, firstG ((I, [], an, []) : GrD) = fm := fun an => hfm
  have hnA : ∀ {an : List AndD}, an0.length ≤ an.length → an.length ≤ 300 → ansOk fm an → netOkB ((I, [], an, []) : GrD) = true := fun {an} h1 h2 h3 => by
    rw [← hfm] at h3
    exact netOk_withA (x := ((I, [], an0, []) : GrD)) hm h1 h2 h3
  generalize hR : impR n fm (-1) 0 to0 an0 n.2.2.1.length = R at *
  refine conT_ofD (by kernel_rfl) Try.func170 rfl rfl rfl (by cases c <;> simp [laters, Later]) (by simp [lives, Slot.live]) ?_
  simp
  refine aw_loopN [false, true, false, true, true, true, false, true, false, false, true, false, false, true, false, false, false, false, false, false, false, false, false, false, false, false, false, false, false, false, false, false, false, false, false, false, false, false, false, false, false, false, false, false, false, false, false, false, false, false, false, false, false, false, false, false, false, false, false, false, false, false, false, false, false, false, false, false] (fun i : Nat => i ≤ n.2.2.1.length ∧ (impR n fm (-1) 0 to0 an0 i).2.2 = true) (fun i : Nat => [(1, oaVr i), (13, .d (.int .i64 i))]) (fun i : Nat => oaSr i I (impR n fm (-1) 0 to0 an0 i).2.1 (impR n fm (-1) 0 to0 an0 i).1) (fun i : Nat => n.2.2.1.length - i) 0 ?_ ?_ ?_
  · exact ⟨Nat.zero_le _, rfl⟩
  · exact ⟨[0, 1, 2, 3, 4, 5, 6], by simp [oaSr, oaVr]⟩
  have hto0 : to0.length = firstG n := hI.len rfl
  rintro J S μ hJ hS hμ i ⟨hile, hio⟩
  obtain ⟨q1, q2⟩ := hII i hile
  obtain ⟨⟨to, an, bb⟩, hst⟩ : ∃ s, impR n fm (-1) 0 to0 an0 i = s := ⟨_, rfl⟩
  rw [hst] at hio q1 q2
  simp only at hio q2
  subst hio
  have hl := q1.len rfl
  have hpl := q1.pl
  have ha3 := q1.an
  have han := q1.ok
  simp only at hl hpl ha3 han
  have hokA := hnA q2 ha3 han
  rw [hst]
  by_cases hlt : i < n.2.2.1.length
  case neg =>
    obtain rfl : i = n.2.2.1.length := by omega
    rw [hst] at hR
    subst hR
    simp only at hc
    by_cases hi0 : n.2.2.1.length = 0
    · obtain rfl : c = false := by rw [hc]; simp; omega
      rw [hi0] at hst
      have e0 : (to0, an0, true) = (to, an, true) := hst
      simp only [Prod.mk.injEq] at e0
      obtain ⟨rfl, rfl, -⟩ := e0
      simp [oaSr, oaVr, hi0]
      exact ⟨[0, 1, 2, 3], by simp⟩
    · obtain rfl : c = true := by rw [hc]; simp; omega
      simp [oaSr, oaVr, hi0, decide_eq_false hlt, hlt]
      exact ⟨[0, 1, 2, 3, 7, 8, 9, 10], by simp⟩
  obtain ⟨hA, a1, a2, a3, a4, a5, a6⟩ := and_at hn (v := firstG n + i) (by omega) (by omega)
  rw [Nat.add_sub_cancel_left] at hA
  have hsk : ¬ (i : Int) = -1 := by omega
  have hskb : ((i : Int) == -1) = false := by simp
  have hstp : impR n fm (-1) 0 to0 an0 (i + 1) = if addV fm an (mapV to (andAt n (firstG n + i)).1) (mapV to (andAt n (firstG n + i)).2) < 0 then (to, an, false) else (to ++ [addV fm an (mapV to (andAt n (firstG n + i)).1) (mapV to (andAt n (firstG n + i)).2)], addN an (mapV to (andAt n (firstG n + i)).1) (mapV to (andAt n (firstG n + i)).2), true) := by
    rw [impR, hst]; simp only [Bool.true_eq_false, if_false]
    rw [if_neg hsk]
  have kM := l10Map_con to [(andAt n (firstG n + i)).1, (andAt n (firstG n + i)).2] (by omega) (by simp) (fun l hl' => by
    simp only [List.mem_cons, List.not_mem_nil, or_false] at hl'
    rcases hl' with rfl | rfl <;> omega)
  have r1 := mapV_rng (l := (andAt n (firstG n + i)).1) (plIn_at hpl (by omega) ((andAt n (firstG n + i)).1 / 2)) (by omega)
  have r2 := mapV_rng (l := (andAt n (firstG n + i)).2) (plIn_at hpl (by omega) ((andAt n (firstG n + i)).2 / 2)) (by omega)
  generalize andAt n (firstG n + i) = A at *
  have hL : (enAnd A).length = 2 := rfl
  simp only [List.map_cons, List.map_nil] at kM
  generalize mapV to A.1 = x1 at *
  generalize mapV to A.2 = x2 at *
  have hgN : (grN ((I, [], an, []) : GrD) : Int) = fm + an.length := by rw [grN_eq, hfA]; simp
  have kD := sAddAnd_con ((I, [], an, []) : GrD) x1 x2 hokA (by omega) (by omega)
  rw [sAddL_ok (by omega) (by omega), hfA] at kD
  have e1' : withA ((I, [], an, []) : GrD) (addN ((I, [], an, []) : GrD).2.2.1 x1 x2) = ((I, [], addN an x1 x2, []) : GrD) := rfl
  rw [e1'] at kD
  simp only at kD
  have w1 : IntKind.i64.wrap ((i : Int) + 1) = (i : Int) + 1 := wrap_id (by omega) (by omega)
  generalize addV fm an x1 x2 = v at *
  generalize addN an x1 x2 = an2 at *
  by_cases hi0 : i = 0
  · subst hi0
    have e0 : (to0, an0, true) = (to, an, true) := hst
    simp only [Prod.mk.injEq] at e0
    obtain ⟨rfl, rfl, -⟩ := e0
    simp [oaSr, oaVr, hlt, decide_eq_true hlt]
    refine drawD_of 16 (by kernel_rfl) ?_
    simp [hA, hL, enAnd]
    refine call_step (kM) ?_
    simp
    refine drawE_of [(12, [10]), (13, [])] (by kernel_rfl) ?_
    simp
    refine call_step (kD) ?_
    simp [enGr]
    by_cases hv : v < 0
    · rw [if_pos hv] at hstp
      have hRR := impR_false (show (impR n fm (-1) 0 to0 an0 (0 + 1)).2.2 = false by rw [hstp]) (n.2.2.1.length - 1)
      rw [show 0 + 1 + (n.2.2.1.length - 1) = n.2.2.1.length by omega, hR, hstp] at hRR
      subst hRR
      obtain rfl : c = false := by rw [hc]; simp
      simp [hv, decide_eq_true hv, show ¬ 0 ≤ v by omega]
      exact ⟨[0, 1, 2, 3], by simp⟩
    rw [if_neg hv] at hstp
    simp [hv, decide_eq_false hv, show 0 ≤ v by omega]
    refine app_data vt_el_24 rfl (by simp) rfl (by simp) (by simp) (by first | (simp; done) | (simp; omega)) (by simp [flatP, flatD]) ?_
    simp [w1, show IntKind.i64.wrap 1 = 1 from rfl]
    exact round_of hJ hS hμ 1 ⟨by omega, by rw [show (1 : Nat) = 0 + 1 from rfl, hstp]⟩ (by omega) ⟨[0, 1, 2, 3, 4, 5, 6, 9, 10, 11, 14], by rw [show (1 : Nat) = 0 + 1 from rfl, hstp]; simp [oaSr, oaVr, e1, eInt]⟩
  · simp [oaSr, oaVr, hi0, decide_eq_true hlt, hsk, hskb]
    refine drawD_of 16 (by kernel_rfl) ?_
    simp [hA, hL, enAnd]
    refine call_step (kM) ?_
    simp
    refine drawE_of [(12, [10]), (13, [])] (by kernel_rfl) ?_
    simp
    refine call_step (kD) ?_
    simp [enGr]
    by_cases hv : v < 0
    · rw [if_pos hv] at hstp
      have hRR := impR_false (show (impR n fm (-1) 0 to0 an0 (i + 1)).2.2 = false by rw [hstp]) (n.2.2.1.length - (i + 1))
      rw [show i + 1 + (n.2.2.1.length - (i + 1)) = n.2.2.1.length by omega, hR, hstp] at hRR
      subst hRR
      obtain rfl : c = true := by rw [hc]; simp; omega
      simp [hv, decide_eq_true hv, show ¬ 0 ≤ v by omega]
      exact ⟨[0, 1, 2, 3, 7, 8, 9, 10], by simp⟩
    rw [if_neg hv] at hstp
    simp [hv, decide_eq_false hv, show 0 ≤ v by omega]
    refine app_data vt_el_24 rfl (by simp) rfl (by simp) (by simp) (by first | (simp; done) | (simp; omega)) (by simp [flatP, flatD]) ?_
    simp [w1]
    exact round_of hJ hS hμ (i + 1) ⟨by omega, by rw [hstp]⟩ (by omega) ⟨[0, 1, 2, 3, 4, 5, 6, 13, 14, 15, 18], by simp [hstp, oaSr, oaVr, e1, eInt]⟩
set_option maxRecDepth 100000 in
set_option maxHeartbeats 2000000 in
theorem l24Import_own_n (I : Int)  (n : GrD) (hm : netOkB ((I, [], [], []) : GrD) = true) (hn : netOkB n = true) (hF0 : firstG n = firstG ((I, [], [], []) : GrD)) (hm0 : ImpOk (firstG ((I, [], [], []) : GrD)) (firstG n) (leafL (firstG n), [], true)) :
    ConT Try.prog 102 [nilN I, dgr n] [] (.tup [(if decide ((impB ((I, [], [], []) : GrD) n).1.length ≠ (leafL (firstG n)).length) = true then refN I 0 else nilN I), .d (eSl 3 (e1 eInt) (impRoots ((I, [], [], []) : GrD) n)), .d (.bool (impB ((I, [], [], []) : GrD) n).2.2)]) (if decide ((impB ((I, [], [], []) : GrD) n).1.length ≠ (leafL (firstG n)).length) = true then rowsN (impB ((I, [], [], []) : GrD) n).2.1 else []) := by
  obtain ⟨⟨n1, n2, n3, n4, n5, n6⟩, -, -, -⟩ := netOk_of hn
  obtain ⟨hF, hgl, hNi, hno⟩ := ok_sizes hn
  obtain ⟨hFm, hglm, hNim, hnom⟩ := ok_sizes hm
  have hN := grN_eq n
  have kI := l15Ands_own_n I  n (leafL (firstG n)) _ hm hn hm0 rfl
  have hB : impB ((I, [], [], []) : GrD) n = impR n (firstG ((I, [], [], []) : GrD)) (-1) 0 (leafL (firstG n)) [] n.2.2.1.length := rfl
  have hII := impR_ok hn (fa := firstG ((I, [], [], []) : GrD)) (skip := -1) (inst := 0) (by omega) (by omega) hm0 n.2.2.1.length (Nat.le_refl _)
  have hRt : impRoots ((I, [], [], []) : GrD) n = if (impB ((I, [], [], []) : GrD) n).2.2 = true then rootsM n (impB ((I, [], [], []) : GrD) n).1 else [] := rfl
  rw [← hB] at kI hII
  have hroots := sRoots_con n (fitGr_netOk hn) n3
  have hrlen := grK_len (x := n) (k := n.2.1.length) (M := 4) (fun s hs => seqOk_len ((netOk_of hn).2.1 s hs))
  rw [grK_all] at hrlen
  generalize impRoots ((I, [], [], []) : GrD) n = rt at *
  obtain ⟨⟨to, an, ok⟩, hq⟩ : ∃ q, impB ((I, [], [], []) : GrD) n = q := ⟨_, rfl⟩
  rw [hq] at kI hII hRt
  rw [hq]
  obtain ⟨q1, -⟩ := hII
  have hlen := q1.len
  simp only at kI hRt hlen
  have hmap := fun h : ok = true => l10Map_con to (grRoots n) (by have := hlen h; omega) (by omega) (fun l hl => by
    have := root_lt hn hl
    have := hlen h
    unfold litN at *
    omega)
  have hrM : (grRoots n).map (mapV to) = rootsM n to := rfl
  rw [hrM] at hmap
  simp only
  generalize hcd : decide (to.length ≠ (leafL (firstG n)).length) = cc at *
  refine conT_ofD (by kernel_rfl) Try.func102 rfl rfl rfl (by cases cc <;> simp [laters, Later]) (by simp [lives, Slot.live]) ?_
  simp
  refine aw_loopU [false, false, true, true, true, false, false, true, true, false, false, false, false, false, false, false, false, false, false, false, false, false, false, false, false, false, false, false, false, false, false, false, false, false, false, false, false, false, false] (fun i : Nat => i ≤ firstG n) (fun i : Nat => [(8, .d (.int .i64 i))]) (fun i : Nat => [(3, .arr 3 true ((leafL i).map (e1 eInt)))]) (fun i : Nat => firstG n - i) 0 ?_ ?_ ?_
  · exact Nat.zero_le _
  · exact ⟨[0, 1, 2, 3], by simp [leafL]⟩
  rintro J S μ hI hS hμ i hi
  by_cases hlt : i < firstG n
  · have w1 : IntKind.i64.wrap ((i : Int) + 1) = (i : Int) + 1 := wrap_id (by omega) (by omega)
    have w2 : IntKind.i64.wrap (2 * (i : Int)) = 2 * (i : Int) := wrap_id (by omega) (by omega)
    have hll := leafL_len (n := i)
    have hsn := leafL_snoc (n := i)
    generalize leafL i = p at *
    simp [enGr]
    refine call_step (sFirst_con n ⟨n1, n2⟩ n3) ?_
    simp [enGr, show (i : Int) < 1 + n.1 + n.2.1.length by omega, w2]
    refine app_data vt_el_24 rfl (by simp) rfl (by simp) (by simp) (by first | (simp; done) | (simp; omega)) (by simp [flatP, flatD]) ?_
    simp [w1]
    exact round_of hI hS hμ (i + 1) (by omega) (by omega) ⟨[0, 1, 2, 5], by simp [hsn, e1, eInt]⟩
  obtain rfl : i = firstG n := by omega
  simp [enGr]
  refine call_step (sFirst_con n ⟨n1, n2⟩ n3) ?_
  simp [enGr, show ¬ ((firstG n : Nat) : Int) < 1 + n.1 + n.2.1.length by omega]
  cases cc with
  | true =>
    simp only [if_true] at kI
    refine callT_step (kI) [] [3] (by simp) ?_
    simp
    cases ok with
    | false =>
      rw [if_neg (by simp)] at hRt
      subst hRt
      simp
      exact ⟨[4, 5, 6], by simp⟩
    | true =>
      rw [if_pos rfl] at hRt
      subst hRt
      have hmm := hmap rfl
      simp
      refine drawE_of [(5, []), (6, []), (7, [])] (by kernel_rfl) ?_
      simp [enGr]
      refine call_step (hroots) ?_
      simp [enGr]
      refine call_step (hmm) ?_
      simp
      exact ⟨[4, 5, 6], by simp⟩
  | false =>
    simp only [Bool.false_eq_true, if_false] at kI
    have htl : to.length = (leafL (firstG n)).length := by simpa using hcd
    obtain ⟨r, hpre⟩ := impR_pre (x := n) (fa := firstG ((I, [], [], []) : GrD)) (skip := -1) (inst := 0) (to0 := leafL (firstG n)) (an0 := []) n.2.2.1.length
    rw [← hB, hq] at hpre
    simp only at hpre
    obtain rfl : r = [] := by
      rw [hpre, List.length_append] at htl
      exact List.eq_nil_of_length_eq_zero (by omega)
    rw [List.append_nil] at hpre
    subst hpre
    refine callT_step (kI) [] [3] (by simp) ?_
    simp
    cases ok with
    | false =>
      rw [if_neg (by simp)] at hRt
      subst hRt
      simp
      exact ⟨[], by simp⟩
    | true =>
      rw [if_pos rfl] at hRt
      subst hRt
      have hmm := hmap rfl
      simp
      refine drawE_of [(5, []), (6, []), (7, [])] (by kernel_rfl) ?_
      simp [enGr]
      refine call_step (hroots) ?_
      simp [enGr]
      refine call_step (hmm) ?_
      simp
      exact ⟨[], by simp⟩
set_option maxRecDepth 100000 in
set_option maxHeartbeats 2000000 in
theorem l24Import_own_r (I : Int) (an0 : List AndD) (n : GrD) (hm : netOkB ((I, [], an0, []) : GrD) = true) (hn : netOkB n = true) (hF0 : firstG n = firstG ((I, [], an0, []) : GrD)) (hm0 : ImpOk (firstG ((I, [], an0, []) : GrD)) (firstG n) (leafL (firstG n), an0, true)) :
    ConT Try.prog 102 [refN I 0, dgr n] (rowsN an0) (.tup [(if decide ((impB ((I, [], an0, []) : GrD) n).1.length ≠ (leafL (firstG n)).length) = true then refN I 3 else refN I 0), .d (eSl 3 (e1 eInt) (impRoots ((I, [], an0, []) : GrD) n)), .d (.bool (impB ((I, [], an0, []) : GrD) n).2.2)]) (if decide ((impB ((I, [], an0, []) : GrD) n).1.length ≠ (leafL (firstG n)).length) = true then rowsN an0 ++ rowsN (impB ((I, [], an0, []) : GrD) n).2.1 else (rowsN an0)) := by
  obtain ⟨⟨n1, n2, n3, n4, n5, n6⟩, -, -, -⟩ := netOk_of hn
  obtain ⟨hF, hgl, hNi, hno⟩ := ok_sizes hn
  obtain ⟨hFm, hglm, hNim, hnom⟩ := ok_sizes hm
  have hN := grN_eq n
  have kI := l15Ands_own_r I an0 n (leafL (firstG n)) _ hm hn hm0 rfl
  have hB : impB ((I, [], an0, []) : GrD) n = impR n (firstG ((I, [], an0, []) : GrD)) (-1) 0 (leafL (firstG n)) an0 n.2.2.1.length := rfl
  have hII := impR_ok hn (fa := firstG ((I, [], an0, []) : GrD)) (skip := -1) (inst := 0) (by omega) (by omega) hm0 n.2.2.1.length (Nat.le_refl _)
  have hRt : impRoots ((I, [], an0, []) : GrD) n = if (impB ((I, [], an0, []) : GrD) n).2.2 = true then rootsM n (impB ((I, [], an0, []) : GrD) n).1 else [] := rfl
  rw [← hB] at kI hII
  have hroots := sRoots_con n (fitGr_netOk hn) n3
  have hrlen := grK_len (x := n) (k := n.2.1.length) (M := 4) (fun s hs => seqOk_len ((netOk_of hn).2.1 s hs))
  rw [grK_all] at hrlen
  generalize impRoots ((I, [], an0, []) : GrD) n = rt at *
  obtain ⟨⟨to, an, ok⟩, hq⟩ : ∃ q, impB ((I, [], an0, []) : GrD) n = q := ⟨_, rfl⟩
  rw [hq] at kI hII hRt
  rw [hq]
  obtain ⟨q1, -⟩ := hII
  have hlen := q1.len
  simp only at kI hRt hlen
  have hmap := fun h : ok = true => l10Map_con to (grRoots n) (by have := hlen h; omega) (by omega) (fun l hl => by
    have := root_lt hn hl
    have := hlen h
    unfold litN at *
    omega)
  have hrM : (grRoots n).map (mapV to) = rootsM n to := rfl
  rw [hrM] at hmap
  simp only
  generalize hcd : decide (to.length ≠ (leafL (firstG n)).length) = cc at *
  refine conT_ofD (by kernel_rfl) Try.func102 rfl rfl rfl (by cases cc <;> simp [laters, Later]) (by simp [lives, Slot.live]) ?_
  simp
  refine aw_loopU [false, false, true, true, true, false, false, true, true, false, false, false, false, false, false, false, false, false, false, false, false, false, false, false, false, false, false, false, false, false, false, false, false, false, false, false, false, false, false] (fun i : Nat => i ≤ firstG n) (fun i : Nat => [(8, .d (.int .i64 i))]) (fun i : Nat => [(6, .arr 3 true ((leafL i).map (e1 eInt)))]) (fun i : Nat => firstG n - i) 0 ?_ ?_ ?_
  · exact Nat.zero_le _
  · exact ⟨[0, 1, 2, 3, 4, 5, 6], by simp [leafL]⟩
  rintro J S μ hI hS hμ i hi
  by_cases hlt : i < firstG n
  · have w1 : IntKind.i64.wrap ((i : Int) + 1) = (i : Int) + 1 := wrap_id (by omega) (by omega)
    have w2 : IntKind.i64.wrap (2 * (i : Int)) = 2 * (i : Int) := wrap_id (by omega) (by omega)
    have hll := leafL_len (n := i)
    have hsn := leafL_snoc (n := i)
    generalize leafL i = p at *
    simp [enGr]
    refine call_step (sFirst_con n ⟨n1, n2⟩ n3) ?_
    simp [enGr, show (i : Int) < 1 + n.1 + n.2.1.length by omega, w2]
    refine app_data vt_el_24 rfl (by simp) rfl (by simp) (by simp) (by first | (simp; done) | (simp; omega)) (by simp [flatP, flatD]) ?_
    simp [w1]
    exact round_of hI hS hμ (i + 1) (by omega) (by omega) ⟨[0, 1, 2, 3, 4, 5, 8], by simp [hsn, e1, eInt]⟩
  obtain rfl : i = firstG n := by omega
  simp [enGr]
  refine call_step (sFirst_con n ⟨n1, n2⟩ n3) ?_
  simp [enGr, show ¬ ((firstG n : Nat) : Int) < 1 + n.1 + n.2.1.length by omega]
  cases cc with
  | true =>
    simp only [if_true] at kI
    refine callT_step (kI) [] [0, 1, 2, 6] (by simp) ?_
    simp
    cases ok with
    | false =>
      rw [if_neg (by simp)] at hRt
      subst hRt
      simp
      exact ⟨[0, 1, 2, 7, 8, 9], by simp⟩
    | true =>
      rw [if_pos rfl] at hRt
      subst hRt
      have hmm := hmap rfl
      simp
      refine drawE_of [(5, []), (6, []), (7, [])] (by kernel_rfl) ?_
      simp [enGr]
      refine call_step (hroots) ?_
      simp [enGr]
      refine call_step (hmm) ?_
      simp
      exact ⟨[0, 1, 2, 7, 8, 9], by simp⟩
  | false =>
    simp only [Bool.false_eq_true, if_false] at kI
    have htl : to.length = (leafL (firstG n)).length := by simpa using hcd
    obtain ⟨r, hpre⟩ := impR_pre (x := n) (fa := firstG ((I, [], an0, []) : GrD)) (skip := -1) (inst := 0) (to0 := leafL (firstG n)) (an0 := an0) n.2.2.1.length
    rw [← hB, hq] at hpre
    simp only at hpre
    obtain rfl : r = [] := by
      rw [hpre, List.length_append] at htl
      exact List.eq_nil_of_length_eq_zero (by omega)
    rw [List.append_nil] at hpre
    subst hpre
    refine callT_step (kI) [] [0, 1, 2, 6] (by simp) ?_
    simp
    cases ok with
    | false =>
      rw [if_neg (by simp)] at hRt
      subst hRt
      simp
      exact ⟨[0, 1, 2], by simp⟩
    | true =>
      rw [if_pos rfl] at hRt
      subst hRt
      have hmm := hmap rfl
      simp
      refine drawE_of [(5, []), (6, []), (7, [])] (by kernel_rfl) ?_
      simp [enGr]
      refine call_step (hroots) ?_
      simp [enGr]
      refine call_step (hmm) ?_
      simp
      exact ⟨[0, 1, 2], by simp⟩
end Go.Proofs.Ytoppcdccplgalaa
