/-
  Solve on both sides.
  Conditions: those typed in each theorem.
-/
import Derived.Test.YtoppcdccplgalaaQg
namespace Go.Proofs.Ytoppcdccplgalaa
open Go.RowKit Go.ChangeShapes Go.WideShapes
set_option linter.unusedVariables false
set_option linter.unusedSimpArgs false
attribute [local simp ↓] condG_true condG_false condB_true condB_false
attribute [local simp] AWp_skip AWp_region_t AWp_region_d AWp_region_f still_mk AWp_seq AWp_cond condV_bool condB AWp_block AWp_exit AWp_ret
attribute [local simp] AOps_nil AOp_move AOp_assign AOp_pick AOp_binOp AOp_unOp AOp_convert AOp_len AOp_max AOp_min AOp_indexAddr AOp_load
attribute [local simp] AOp_fieldAddr AOp_field AOp_extract AOp_nilCheck AOp_build AOp_alloc AOp_box AOp_call AOp_store AOp_append AOp_buildSlice nextB_some
attribute [local simp] nextB_none adoptO adoptC AOp_makeSlice AOp_slice AOp_makeFunc AOp_guard guardD_some guardG_bool guardG_undef nextO_some nextS_some
attribute [local simp] nextZ_some nextL_some nextM_some nextT_some sliceO sliceL sliceT partO partV boundV funcO pickO
attribute [local simp] convO lenO maxO minO idxO extO nilO buildO litO litC makeO chunks
attribute [local simp] fillV placeOf thenA inBlockA St.get St.put St.eval ofCell evalT abin_add abin_sub abin_mul
attribute [local simp] abin_quo abin_rem abin_and abin_or abin_xor abin_andNot abin_shl abin_shr abin_shlu abin_eql abin_eqp abin_neq
attribute [local simp] abin_lss abin_leq abin_gtr abin_geq abin_eqlb abin_neqb aun pickV lenV intOf? indexV takeD
attribute [local simp] takeV loadV fieldAddrV fieldV ofX presD presDs pres presAll cellsV V.cell storeV
attribute [local simp] freezeC putAt kill takeC plains plainV scalarV nat_neg keepT sets eSl e1
attribute [local simp] e2 e3 e4 eInt eBool afterCall inst inst1 inst1s instD instDs RetA
attribute [local simp] resVs resV gives give1 give1s Le isPin leSlots leS leTmps leV le0
attribute [local simp] le0s ren ren0 renS ren0s frame enterT afterT_some afterC_some lives Slot.live arrsOk
attribute [local simp] viewV view0 renT rens renSs setAll List.range'_succ RetT RetW joinV leT AOpsE_nil
attribute [local simp] AOpsE_cons AOpsT_nil AOpsT_cons isCallT callOf condC_true condC_false beginT_mk thenT_mk pickE pickT isT
attribute [local simp] loose namesOf namesV names1 names0 stableN sameAt Op.operands Call.operands
/-- A contract at empty data holds at the nil slice. -/
theorem conT_nil {P : Program} {f : FuncId} {xs ys : List V} {t t' : TypeId} {sl sl' : List Slot} {r : V} (h : ConT P f (xs ++ .d (.sl t []) :: ys) sl r sl') : ConT P f (xs ++ .nil t' :: ys) sl r sl' := by
  refine ⟨h.1, h.2.1, fun w φ Fs R hR vs hm hl hv => h.2.2 w φ Fs R hR vs hm (by simpa using hl) fun i x v hx hv' => ?_⟩
  by_cases hi : i = xs.length
  · subst hi
    simp at hx
    subst hx
    have := hv xs.length (.nil t') v (by simp) hv'
    cases this
    exact .d (.nil _ _ _)
  · refine hv i x v ?_ hv'
    rw [← hx]
    rcases Nat.lt_or_ge i xs.length with h' | h'
    · rw [List.getElem?_append_left h', List.getElem?_append_left h']
    · obtain ⟨j, rfl⟩ : ∃ j, i = xs.length + (j + 1) := ⟨i - xs.length - 1, by omega⟩
      simp [List.getElem?_append_right]
def ones (q : List Int) : List Bool := q.map fun x => x == 1
def solveL (v : Int) (cls : List RowD) (B : Int) : Int × List Bool × List RowD :=
  if cnfOkL v cls = true ∧ rng B 1 600 = true then
    (fun r : SRes => if r.code = 1 then (1, ones r.model, []) else if r.code = 2 then (2, [], r.pf) else (3, [], [])) (srch cls B.toNat B.toNat (List.replicate v.toNat 0) [] [])
  else (0, [], [])
abbrev solX (r : Int × List Bool × List RowD) : X := .tup [.d (.int .i64 r.1), .d (eSl 4 (e1 eBool) r.2.1), irows r.2.2]
def nilB (k s : Nat) : V := if k = 0 then .nil 4 else .ref s
def nilBS (k : Nat) (xs : List Bool) (sl : List Slot) : List Slot := if k = 0 then sl else sl ++ [.arr 4 true (xs.map (e1 eBool))]
theorem ones_take {q : List Int} {k : Nat} {x : Int} (hx : q[k]? = some x) : ones (q.take (k + 1)) = ones (q.take k) ++ [x == 1] := by
  unfold ones; rw [take_snoc' hx, List.map_append]; rfl
theorem ones_len (q : List Int) : (ones q).length = q.length := by simp [ones]
set_option maxRecDepth 100000 in
set_option maxHeartbeats 4000000 in
theorem iSolve_con (x : CnfD) (B : Int) (hx : fitCn 1048576 x) : ConC Try.prog 117 [icnf x, .d (.int .i64 B)] (solX (solveL x.1 x.2 B)) := by
  obtain ⟨v, cls⟩ := x
  have hB : solveL v cls B = solveL v cls B := rfl
  conv at hB => lhs; unfold solveL
  simp only
  generalize solveL v cls B = R at *
  refine con_ofD (by kernel_rfl) Try.func117 rfl rfl rfl ?_
  simp [enCnf]
  refine call_step (iCnfOk_con (v, cls) hx) ?_
  simp
  cases hok : cnfOkL v cls with
  | false =>
    rw [hok] at hB
    simp only [Bool.false_eq_true, false_and, if_false] at hB
    subst hB
    simp [hok]
  | true =>
  simp [hok]
  refine call_step (inr_con _ _ _) ?_
  simp
  rcases Bool.eq_false_or_eq_true (rng B 1 600) with hr | hr
  case inr =>
    rw [hok, hr] at hB
    simp only [Bool.false_eq_true, and_false, if_false] at hB
    subst hB
    simp [hr]
  rw [hok, hr] at hB
  simp only [and_self, if_true] at hB
  have hr2 := rng_iff.1 hr
  have hv4 := clauseOk_of_cnf hok
  obtain ⟨n, rfl⟩ : ∃ n : Nat, v = n := ⟨v.toNat, by omega⟩
  obtain ⟨b, rfl⟩ : ∃ b : Nat, B = b := ⟨B.toNat, by omega⟩
  have hci : clausesIn n cls := cnfOk_clauses hok
  have hcc := iVisit_conT n cls b (by omega) (by omega) hx hci b b (List.replicate n 0) [] (List.replicate n 0) [] (Nat.le_refl _) (Int.le_refl _) (by simp) (trits_rep n) (.inl ⟨rfl, rfl⟩) (by simp) (by simp; omega) (by simp; omega) (by simp)
  have hsf := srch_facts hci b b (List.replicate n 0) [] [] (by simp) (trits_rep n)
  simp only [Int.toNat_natCast] at hB
  generalize srch cls b b (List.replicate n 0) [] [] = r at *
  obtain ⟨f1, f2, f3, f4⟩ := hsf
  simp [hr, show (0 : Int) ≤ n by omega, show (n : Int) ≤ 1099511627776 by omega]
  have hcn := conT_nil (xs := [.ptr 0 0]) (t' := 0) hcc
  simp only [List.cons_append, List.nil_append, visIn, if_true] at hcn
  by_cases h1 : r.code = 1
  · have hR2 : R = (1, ones r.model, []) := by rw [← hB, if_pos h1]
    subst hR2
    simp only [visOut, visNo, h1, if_true, if_false, show ((1 : Int) = 2) = False by simp] at hcn
    refine callT_step (hcn) [2] [1] (by simp) ?_
    simp
    have hml := (f4 h1).1
    refine aw_loopN [false, false, false, false, false, false, false, false, true, true, false, false, false, false, false, false, false, false, false, false, false, false, false, false, false, false, false, false, false, false, false, false, false, false, false, true, true, true, false, false, false, false, false, false, false, false, false, false, false, false, false, false, false, false, false, false, false] (fun k : Nat => k ≤ r.model.length) (fun k : Nat => [(9, nilB k 3), (37, .d (.int .i64 k))]) (fun k : Nat => nilBS k (ones (r.model.take k))) (fun k : Nat => r.model.length - k) 0 ?_ ?_ ?_
    · simp
    · exact ⟨[0, 1, 2], by simp [nilB, nilBS]⟩
    rintro I Z μ hI hZ hμ k hk
    by_cases hlt : k < r.model.length
    · have hx1 : r.model[k]? = some r.model[k] := List.getElem?_eq_getElem hlt
      have w2 : IntKind.i64.wrap ((k : Int) + 1) = (k : Int) + 1 := wrap_id (by omega) (by omega)
      have hd : decide (k < r.model.length) = true := decide_eq_true hlt
      have hn := ones_take hx1
      have hl : (ones (r.model.take k)).length = k := by rw [ones_len, List.length_take]; omega
      generalize r.model[k] = y at *
      generalize ones (r.model.take k) = ms at *
      by_cases hk0 : k = 0
      · subst hk0
        have hm : ms = [] := List.eq_nil_of_length_eq_zero hl
        subst hm
        simp [nilB, nilBS, hd, hx1]
        refine app_data vt_el_120 rfl (by simp) rfl (by simp) (by simp) (by first | (simp; done) | (simp; omega)) (by simp [flatP, flatD]) ?_
        simp [w2, show IntKind.i64.wrap 1 = 1 from rfl]
        exact round_of hI hZ hμ 1 (by omega) (by omega) ⟨[0, 1, 2, 4], by simp [nilB, nilBS, hn, e1, eBool]⟩
      · simp [nilB, nilBS, hd, hx1, hk0]
        refine app_data vt_el_120 rfl (by simp) rfl (by simp) (by simp) (by first | (simp; done) | (simp; omega)) (by simp [flatP, flatD]) ?_
        simp [w2]
        exact round_of hI hZ hμ (k + 1) (by omega) (by omega) ⟨[0, 1, 2, 5], by simp [nilB, nilBS, hn, e1, eBool]⟩
    · have hk' : k = r.model.length := by omega
      subst hk'
      rw [List.take_length]
      have hl := ones_len r.model
      generalize ones r.model = ms at *
      by_cases hk0 : r.model.length = 0
      · have hm : ms = [] := List.eq_nil_of_length_eq_zero (by omega)
        subst hm
        simp [nilB, nilBS, hk0, hlt]
      · simp [nilB, nilBS, hlt, decide_eq_false hlt, hk0]
  · by_cases h2 : r.code = 2
    · have hR2 : R = (2, [], r.pf) := by rw [← hB, if_neg h1, if_pos h2]
      subst hR2
      simp only [visOut, visOk, h2, if_true] at hcn
      refine callT_step (hcn) [2] [1] (by simp) ?_
      simp
      refine drawD_of 8 (by kernel_rfl) ?_
      simp
    · have h3 : r.code = 3 := by omega
      have hR2 : R = (3, [], []) := by rw [← hB, if_neg h1, if_neg h2]
      subst hR2
      simp only [visOut, visNo, h1, h2, if_true, if_false] at hcn
      rw [h3] at hcn
      refine callT_step (hcn) [2] [1] (by simp) ?_
      simp
set_option maxRecDepth 100000 in
set_option maxHeartbeats 4000000 in
theorem sSolve_con (x : CnfD) (B : Int) (hx : fitCn 1048576 x) : ConC Try.prog 115 [icnf x, .d (.int .i64 B)] (solX (solveL x.1 x.2 B)) := by
  obtain ⟨v, cls⟩ := x
  have hB : solveL v cls B = solveL v cls B := rfl
  conv at hB => lhs; unfold solveL
  simp only
  generalize solveL v cls B = R at *
  refine con_ofD (by kernel_rfl) Try.func115 rfl rfl rfl ?_
  simp [enCnf]
  refine call_step (sCnfOk_con (v, cls) hx) ?_
  simp
  cases hok : cnfOkL v cls with
  | false =>
    rw [hok] at hB
    simp only [Bool.false_eq_true, false_and, if_false] at hB
    subst hB
    simp [hok]
  | true =>
  simp [hok]
  refine call_step (sInr_con _ _ _) ?_
  simp
  rcases Bool.eq_false_or_eq_true (rng B 1 600) with hr | hr
  case inr =>
    rw [hok, hr] at hB
    simp only [Bool.false_eq_true, and_false, if_false] at hB
    subst hB
    simp [hr]
  rw [hok, hr] at hB
  simp only [and_self, if_true] at hB
  have hr2 := rng_iff.1 hr
  have hv4 := clauseOk_of_cnf hok
  obtain ⟨n, rfl⟩ : ∃ n : Nat, v = n := ⟨v.toNat, by omega⟩
  obtain ⟨b, rfl⟩ : ∃ b : Nat, B = b := ⟨B.toNat, by omega⟩
  have hci : clausesIn n cls := cnfOk_clauses hok
  have hcc := sVisit_conT n cls (by omega) hx hci b b (List.replicate n 0) [] [] (Nat.le_refl _) (by simp) (trits_rep n) (by simp) (by simp; omega) (by simp; omega) (by simp)
  have hsf := srch_facts hci b b (List.replicate n 0) [] [] (by simp) (trits_rep n)
  simp only [Int.toNat_natCast] at hB
  generalize srch cls b b (List.replicate n 0) [] [] = r at *
  obtain ⟨f1, f2, f3, f4⟩ := hsf
  simp [hr, show (0 : Int) ≤ n by omega, show (n : Int) ≤ 1099511627776 by omega]
  simp only [sisT, sisIn, if_true] at hcc
  by_cases h1 : r.code = 1
  · have hR2 : R = (1, ones r.model, []) := by rw [← hB, if_pos h1]
    subst hR2
    simp only [sisOut, sisNo, h1, if_true, if_false, show ((1 : Int) = 2) = False by simp] at hcc
    refine callT_step (hcc) [3, 4] [2] (by simp) ?_
    simp
    have hml := (f4 h1).1
    refine aw_loopU [false, false, false, false, false, false, false, true, true, true, true, false, false, false, false, false, false, false, false, false, false, false, false, false, false, false, false, false, false, false, false, false, false, false, false, false, false, false, false, false, false, false, false, false, false, false, false, false, false, false, false, false, false, false, false, false, false, false, false, false, false, false, false, false, false] (fun k : Nat => k ≤ r.model.length) (fun k : Nat => [(10, .d (.int .i64 k))]) (fun k : Nat => [(1, .arr 4 true ((ones (r.model.take k)).map (e1 eBool)))]) (fun k : Nat => r.model.length - k) 0 ?_ ?_ ?_
    · exact Nat.zero_le _
    · exact ⟨[0, 1, 2, 3, 4], by simp [ones]⟩
    rintro I Z μ hI hZ hμ k hk
    by_cases hlt : k < r.model.length
    · have hx1 : r.model[k]? = some r.model[k] := List.getElem?_eq_getElem hlt
      have w2 : IntKind.i64.wrap ((k : Int) + 1) = (k : Int) + 1 := wrap_id (by omega) (by omega)
      have hd : decide (k < r.model.length) = true := decide_eq_true hlt
      have hn := ones_take hx1
      have hl : (ones (r.model.take k)).length = k := by rw [ones_len, List.length_take]; omega
      generalize r.model[k] = y at *
      generalize ones (r.model.take k) = ms at *
      simp [hd, hx1]
      refine app_data vt_el_120 rfl (by simp) rfl (by simp) (by simp) (by first | (simp; done) | (simp; omega)) (by simp [flatP, flatD]) ?_
      simp [w2]
      exact round_of hI hZ hμ (k + 1) (by omega) (by omega) ⟨[0, 6, 2, 3, 4], by simp [hn, e1, eBool]⟩
    · have hk' : k = r.model.length := by omega
      subst hk'
      rw [List.take_length]
      have hl := ones_len r.model
      generalize ones r.model = ms at *
      simp [hlt, decide_eq_false hlt]
  · by_cases h2 : r.code = 2
    · have hR2 : R = (2, [], r.pf) := by rw [← hB, if_neg h1, if_pos h2]
      subst hR2
      simp only [sisOut, sisOk, h2, if_true] at hcc
      refine callT_step (hcc) [3, 4] [2] (by simp) ?_
      simp
      refine drawD_of 9 (by kernel_rfl) ?_
      simp
    · have h3 : r.code = 3 := by omega
      have hR2 : R = (3, [], []) := by rw [← hB, if_neg h1, if_neg h2]
      subst hR2
      simp only [sisOut, sisNo, h1, h2, if_true, if_false] at hcc
      rw [h3] at hcc
      refine callT_step (hcc) [3, 4] [2] (by simp) ?_
      simp
end Go.Proofs.Ytoppcdccplgalaa
