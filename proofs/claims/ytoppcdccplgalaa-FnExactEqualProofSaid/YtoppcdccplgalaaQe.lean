/-
  Proofs by propagation, checked: both sides.
  Conditions: those typed in each theorem.
-/
import Derived.Test.YtoppcdccplgalaaQd
namespace Go.Proofs.Ytoppcdccplgalaa
open Go.RowKit Go.ChangeShapes Go.WideShapes
set_option linter.unusedVariables false
set_option linter.unusedSimpArgs false
attribute [local simp ↓] condG_true condG_false condB_true condB_false
attribute [local simp] AWp_skip AWp_region_t AWp_region_d AWp_region_f still_mk AWp_seq AWp_cond condV_bool condB AWp_block AWp_exit AWp_ret
attribute [local simp] AOps_nil AOp_move AOp_assign AOp_pick AOp_binOp AOp_unOp AOp_convert AOp_len AOp_max AOp_min AOp_indexAddr AOp_load
attribute [local simp] AOp_fieldAddr AOp_field AOp_extract AOp_nilCheck AOp_build AOp_alloc AOp_box AOp_call AOp_store AOp_append AOp_buildSlice nextB_some
attribute [local simp] nextB_none adoptO adoptC AOp_makeSlice AOp_slice AOp_makeFunc AOp_guard guardD_some guardG_bool guardG_undef nextO_some nextS_some
attribute [local simp] nextZ_some nextL_some nextM_some nextT_some sliceO sliceL sliceT partO partV boundV funcO pickO
attribute [local simp] convO lenO maxO minO idxO extO nilO buildO litO litC makeO chunks
attribute [local simp] fillV placeOf thenA inBlockA St.get St.put St.eval ofCell evalT abin_add abin_sub abin_mul
attribute [local simp] abin_quo abin_rem abin_and abin_or abin_xor abin_andNot abin_shl abin_shr abin_shlu abin_eql abin_eqp abin_neq
attribute [local simp] abin_lss abin_leq abin_gtr abin_geq abin_eqlb abin_neqb aun pickV lenV intOf? indexV takeD
attribute [local simp] takeV loadV fieldAddrV fieldV ofX presD presDs pres presAll cellsV V.cell storeV
attribute [local simp] freezeC putAt kill takeC plains plainV scalarV nat_neg keepT sets eSl e1
attribute [local simp] e2 e3 e4 eInt eBool afterCall inst inst1 inst1s instD instDs RetA
attribute [local simp] resVs resV gives give1 give1s Le isPin leSlots leS leTmps leV le0
attribute [local simp] le0s ren ren0 renS ren0s frame enterT afterT_some afterC_some lives Slot.live arrsOk
attribute [local simp] viewV view0 renT rens renSs setAll List.range'_succ RetT RetW joinV leT AOpsE_nil
attribute [local simp] AOpsE_cons AOpsT_nil AOpsT_cons isCallT callOf condC_true condC_false beginT_mk thenT_mk pickE pickT isT
attribute [local simp] loose namesOf namesV names1 names0 stableN sameAt Op.operands Call.operands
/-- Each clause follows from those ahead. -/
def chkGo (v : Int) : List RowD → List RowD → Bool
  | _, [] => true
  | all, c :: cs => clauseOkL v c && followsL v.toNat all c && chkGo v (all ++ [c]) cs
def checkL (v : Int) (cls pf : List RowD) : Bool :=
  cnfOkL v cls && rng pf.length 1 600 && decide (cls.length + pf.length ≤ 1600) && decide ((pf.getD (pf.length - 1) []).length = 0) && chkGo v cls pf
theorem chkGo_at {v : Int} {pf all : List RowD} {k : Nat} {x : RowD} (hx : pf[k]? = some x) : chkGo v all (pf.drop k) = (clauseOkL v x && followsL v.toNat all x && chkGo v (all ++ [x]) (pf.drop (k + 1))) := by
  obtain ⟨hk, rfl⟩ := List.getElem?_eq_some_iff.1 hx
  rw [List.drop_eq_getElem_cons hk, chkGo]
set_option maxRecDepth 100000 in
set_option maxHeartbeats 1000000 in
theorem iCheck_con (x : CnfD) (pf : List RowD) (hx : fitCn 1048576 x) (hp : fitRw 1048576 pf) : ConC Try.prog 135 [icnf x, irows pf] (.d (.bool (checkL x.1 x.2 pf))) := by
  obtain ⟨v, cls⟩ := x
  have hx0 := hx
  obtain ⟨hx1', hx2⟩ := hx
  obtain ⟨hp1, hp2⟩ := hp
  simp only at hx1' hx2
  have hB : checkL v cls pf = (cnfOkL v cls && rng pf.length 1 600 && decide (cls.length + pf.length ≤ 1600) && decide ((pf.getD (pf.length - 1) []).length = 0) && chkGo v cls pf) := rfl
  simp only
  generalize hF : checkL v cls pf = F at *
  refine con_ofD (by kernel_rfl) Try.func135 rfl rfl rfl ?_
  simp [enCnf]
  refine call_step (iCnfOk_con (v, cls) hx0) ?_
  simp
  cases hok : cnfOkL v cls with
  | false =>
    rw [hok] at hB
    simp only [Bool.false_and] at hB
    simp [hok, hB]
  | true =>
  simp [hok]
  refine call_step (inr_con _ _ _) ?_
  simp
  have w1 : IntKind.i64.wrap ((cls.length : Int) + pf.length) = (cls.length : Int) + pf.length := wrap_id (by omega) (by omega)
  rcases Bool.eq_false_or_eq_true (rng pf.length 1 600) with hr | hr
  case inr =>
    rw [hok, hr] at hB
    simp only [Bool.and_false, Bool.false_and] at hB
    simp [hr, hB]
  have hr2 := rng_iff.1 hr
  by_cases hs : cls.length + pf.length ≤ 1600
  case neg =>
    rw [hok, hr, decide_eq_false hs] at hB
    simp only [Bool.and_false, Bool.false_and] at hB
    simp [hr, hB, w1, show (1600 : Int) < (cls.length : Int) + pf.length by omega, show ¬ ((cls.length : Int) + pf.length ≤ 1600) by omega]
  have hm1 : pf[pf.length - 1]? = some (pf.getD (pf.length - 1) []) := by
    rw [List.getD_eq_getElem?_getD, List.getElem?_eq_getElem (by omega)]; rfl
  have w2 : IntKind.i64.wrap ((pf.length : Int) - 1) = (pf.length : Int) - 1 := wrap_id (by omega) (by omega)
  have w3 : ((pf.length : Int) - 1).toNat = pf.length - 1 := by omega
  have hfl : (pf.getD (pf.length - 1) []).length ≤ 1048576 := hp2 _ (List.mem_of_getElem? hm1)
  generalize pf.getD (pf.length - 1) [] = y at *
  have hL : (enRow y).length = 1 := rfl
  by_cases hy : y.length = 0
  case neg =>
    rw [hok, hr, decide_eq_true hs, decide_eq_false hy] at hB
    simp only [Bool.and_false, Bool.false_and] at hB
    simp [hr, hB, w1, show ¬ (1600 : Int) < (cls.length : Int) + pf.length by omega, show ((cls.length : Int) + pf.length ≤ 1600) by omega, w2, w3, hm1, hL, show ¬ (pf.length : Int) - 1 < 0 by omega, show ¬ (pf.length : Int) < 1 by omega, show (1 : Int) ≤ pf.length by omega, enRow, show 0 < y.length by omega, hy]
  have hyn : y = [] := List.eq_nil_of_length_eq_zero hy
  rw [hok, hr, decide_eq_true hs, decide_eq_true hy] at hB
  simp only [Bool.true_and] at hB
  simp [hr, w1, show ¬ (1600 : Int) < (cls.length : Int) + pf.length by omega, show ((cls.length : Int) + pf.length ≤ 1600) by omega, w2, w3, hm1, hL, show ¬ (pf.length : Int) - 1 < 0 by omega, show ¬ (pf.length : Int) < 1 by omega, show (1 : Int) ≤ pf.length by omega, enRow, hyn]
  refine drawE_of [(5, [0, 1, 7]), (6, [7]), (8, [])] (by kernel_rfl) ?_
  simp [enCnf]
  refine app_frozen (by exact rfl) vt_el_40 (by exact rfl) (by simp) (by simp [enRow, e1]) (by first | (simp; done) | (simp; omega)) ?_
  simp [enCnf]
  have hv4 : rng v 0 400 = true := by
    have : cnfOkL v cls = (rng v 0 400 && decide (cls.length ≤ 1600) && clsB v cls) := rfl
    rw [hok] at this
    cases h : rng v 0 400 with
    | true => rfl
    | false => rw [h] at this; simp at this
  obtain ⟨n, rfl⟩ : ∃ n : Nat, v = n := ⟨v.toNat, by have := rng_iff.1 hv4; omega⟩
  have hn4 := rng_iff.1 hv4
  have hci : clausesIn n cls := cnfOk_clauses hok
  refine aw_loopU [false, false, true, false, false, true, false, false, false, false, false, false, false, false, false, false, false, false, false, false, false, false, false, false, false, false, false, false, false, false, false, false, false, false, false, false, false, false, false, false, false, false, false, true, true, true, false, false, false, false, false, false, false, false, false, false, false, false, false, false, false, false, false, false, false, false, false] (fun i : Nat × List RowD => i.1 ≤ pf.length ∧ chkGo n i.2 (pf.drop i.1) = F ∧ i.2.length = cls.length + i.1 ∧ (∀ c ∈ i.2, c.length ≤ 1048576) ∧ clausesIn n i.2) (fun i : Nat × List RowD => [(45, .d (.int .i64 i.1))]) (fun i : Nat × List RowD => [(3, .arr 24 false (i.2.map enRow))]) (fun i : Nat × List RowD => pf.length - i.1) (0, cls) ?_ ?_ ?_
  · exact ⟨by omega, hB.symm, by simp, hx2, hci⟩
  · exact ⟨[0, 1, 2, 3], by simp⟩
  rintro I S μ hI hS hμ ⟨k, all⟩ ⟨hk, hg, hal, hac, hin⟩
  simp only at hk hg hal hac hin
  by_cases hlt : k < pf.length
  · have hx1 : pf[k]? = some pf[k] := List.getElem?_eq_getElem hlt
    have w5 : IntKind.i64.wrap ((k : Int) + 1) = (k : Int) + 1 := wrap_id (by omega) (by omega)
    have hd : decide (k < pf.length) = true := decide_eq_true hlt
    rw [chkGo_at hx1] at hg
    have hcl := hp2 _ (List.getElem_mem hlt)
    generalize pf[k] = c at *
    have hLc : (enRow c).length = 1 := rfl
    simp [hd, hx1, hLc, enRow]
    refine call_step (iClauseOk_con c n (by omega) hcl) ?_
    simp
    rcases Bool.eq_false_or_eq_true (clauseOkL n c) with hr1 | hr1
    case inr =>
      rw [hr1] at hg
      simp only [Bool.false_and] at hg
      simp [hr1, ← hg]
    have hcon := iCons_con all n c (by omega) ⟨by omega, hac⟩ hin hcl (clauseOk_lits hr1)
    simp [hr1]
    refine call_step (hcon) ?_
    simp
    rcases Bool.eq_false_or_eq_true (followsL n all c) with hr3 | hr3
    case inr =>
      rw [hr1, show (n : Int).toNat = n from Int.toNat_natCast n, hr3] at hg
      simp only [Bool.true_and, Bool.false_and] at hg
      simp [hr3, ← hg]
    rw [hr1, show (n : Int).toNat = n from Int.toNat_natCast n, hr3] at hg
    simp only [Bool.true_and] at hg
    simp [hr3]
    have hsn : all.map enRow ++ [[D.sl 3 (c.map (e1 eInt))]] = (all ++ [c]).map enRow := by simp [enRow, e1]
    refine app_frozen (es := all.map enRow) (es2 := [[D.sl 3 (c.map (e1 eInt))]]) (by exact rfl) vt_el_40 (by exact rfl) (by simp) (by simp) (by simp; omega) ?_
    rw [hsn]
    have hcl2 : ∀ q ∈ all ++ [c], q.length ≤ 1048576 := fun q hq => by
      rcases List.mem_append.1 hq with h | h
      · exact hac q h
      · rw [List.mem_singleton.1 h]; exact hcl
    have hin2 : clausesIn n (all ++ [c]) := fun q hq => by
      rcases List.mem_append.1 hq with h | h
      · exact hin q h
      · rw [List.mem_singleton.1 h]; exact clauseOk_lits hr1
    have hlen2 : (all ++ [c]).length = cls.length + (k + 1) := by simp; omega
    generalize all ++ [c] = all2 at *
    simp [w5]
    exact round_of hI hS hμ (k + 1, all2) ⟨by simp; omega, hg, hlen2, hcl2, hin2⟩ (by simp; omega) ⟨[0, 1, 2, 5], by simp⟩
  · have hk' : k = pf.length := by omega
    subst hk'
    rw [List.drop_length, chkGo] at hg
    simp [hlt, decide_eq_false hlt, ← hg]
set_option maxRecDepth 100000 in
set_option maxHeartbeats 1000000 in
theorem sCheck_con (x : CnfD) (pf : List RowD) (hx : fitCn 1048576 x) (hp : fitRw 1048576 pf) : ConC Try.prog 134 [icnf x, irows pf] (.d (.bool (checkL x.1 x.2 pf))) := by
  obtain ⟨v, cls⟩ := x
  have hx0 := hx
  obtain ⟨hx1', hx2⟩ := hx
  obtain ⟨hp1, hp2⟩ := hp
  simp only at hx1' hx2
  have hB : checkL v cls pf = (cnfOkL v cls && rng pf.length 1 600 && decide (cls.length + pf.length ≤ 1600) && decide ((pf.getD (pf.length - 1) []).length = 0) && chkGo v cls pf) := rfl
  simp only
  generalize hF : checkL v cls pf = F at *
  refine con_of (by kernel_rfl) Try.func134 rfl rfl rfl ?_
  simp [enCnf]
  refine call_step (sCnfOk_con (v, cls) hx0) ?_
  simp
  cases hok : cnfOkL v cls with
  | false =>
    rw [hok] at hB
    simp only [Bool.false_and] at hB
    simp [hok, hB]
  | true =>
  simp [hok]
  have w1 : IntKind.i64.wrap ((cls.length : Int) + pf.length) = (cls.length : Int) + pf.length := wrap_id (by omega) (by omega)
  rcases Bool.eq_false_or_eq_true (rng pf.length 1 600) with hr | hr
  case inr =>
    rw [hok, hr] at hB
    simp only [Bool.and_false, Bool.false_and] at hB
    have hr9 : ¬ (1 ≤ (pf.length : Int) ∧ (pf.length : Int) ≤ 600) := fun h => by rw [rng_iff.2 h] at hr; cases hr
    by_cases h00 : pf.length = 0
    · simp [h00, show ((pf.length : Int) == 0) = true by simp [h00], hB]
    · simp [h00, show ((pf.length : Int) == 0) = false by simp [h00], show (600 : Int) < pf.length by omega, hB]
  have hr2 := rng_iff.1 hr
  have hz0 : ((pf.length : Int) == 0) = false := beq_eq_false_iff_ne.2 (by omega)
  have hz1 : ¬ (600 : Int) < pf.length := by omega
  have hz2 : ¬ pf = [] := by intro h; rw [h] at hr2; simp at hr2
  by_cases hs : cls.length + pf.length ≤ 1600
  case neg =>
    rw [hok, hr, decide_eq_false hs] at hB
    simp only [Bool.and_false, Bool.false_and] at hB
    simp [hr, hz0, hz1, hz2, hB, w1, show (1600 : Int) < (cls.length : Int) + pf.length by omega, show ¬ ((cls.length : Int) + pf.length ≤ 1600) by omega]
  have hm1 : pf[pf.length - 1]? = some (pf.getD (pf.length - 1) []) := by
    rw [List.getD_eq_getElem?_getD, List.getElem?_eq_getElem (by omega)]; rfl
  have w2 : IntKind.i64.wrap ((pf.length : Int) - 1) = (pf.length : Int) - 1 := wrap_id (by omega) (by omega)
  have w3 : ((pf.length : Int) - 1).toNat = pf.length - 1 := by omega
  have hfl : (pf.getD (pf.length - 1) []).length ≤ 1048576 := hp2 _ (List.mem_of_getElem? hm1)
  generalize pf.getD (pf.length - 1) [] = y at *
  have hL : (enRow y).length = 1 := rfl
  by_cases hy : y.length = 0
  case neg =>
    rw [hok, hr, decide_eq_true hs, decide_eq_false hy] at hB
    simp only [Bool.and_false, Bool.false_and] at hB
    simp [hr, hz0, hz1, hz2, hB, w1, show ¬ (1600 : Int) < (cls.length : Int) + pf.length by omega, show ((cls.length : Int) + pf.length ≤ 1600) by omega, w2, w3, hm1, hL, show ¬ (pf.length : Int) - 1 < 0 by omega, show ¬ (pf.length : Int) < 1 by omega, show (1 : Int) ≤ pf.length by omega, enRow, show 0 < y.length by omega, hy]
  have hyn : y = [] := List.eq_nil_of_length_eq_zero hy
  rw [hok, hr, decide_eq_true hs, decide_eq_true hy] at hB
  simp only [Bool.true_and] at hB
  simp [hr, hz0, hz1, hz2, w1, show ¬ (1600 : Int) < (cls.length : Int) + pf.length by omega, show ((cls.length : Int) + pf.length ≤ 1600) by omega, w2, w3, hm1, hL, show ¬ (pf.length : Int) - 1 < 0 by omega, show ¬ (pf.length : Int) < 1 by omega, show (1 : Int) ≤ pf.length by omega, enRow, hyn]
  refine app_frozen (by exact rfl) vt_el_40 (by exact rfl) (by simp) (by simp [enRow, e1]) (by first | (simp; done) | (simp; omega)) ?_
  simp [enCnf]
  have hv4 : rng v 0 400 = true := by
    have : cnfOkL v cls = (rng v 0 400 && decide (cls.length ≤ 1600) && clsB v cls) := rfl
    rw [hok] at this
    cases h : rng v 0 400 with
    | true => rfl
    | false => rw [h] at this; simp at this
  obtain ⟨n, rfl⟩ : ∃ n : Nat, v = n := ⟨v.toNat, by have := rng_iff.1 hv4; omega⟩
  have hn4 := rng_iff.1 hv4
  have hci : clausesIn n cls := cnfOk_clauses hok
  refine aw_loopU [false, true, true, false, false, true, true, false, false, false, false, false, false, false, false, false, false, false, false, false, false, false, false, false, false, false, false, false, false, false, false, false, false, false, false, false, false, false, false, false, false, false, false, false, false, false, false, false, false, false, false, false, false, false, false, false, false, false, false, false, false, false, false, false, false, false, false, false, false, false, false, false, false, false, false] (fun i : Nat × List RowD => i.1 ≤ pf.length ∧ chkGo n i.2 (pf.drop i.1) = F ∧ i.2.length = cls.length + i.1 ∧ (∀ c ∈ i.2, c.length ≤ 1048576) ∧ clausesIn n i.2) (fun i : Nat × List RowD => [(6, .d (.int .i64 i.1))]) (fun i : Nat × List RowD => [(2, .arr 24 false (i.2.map enRow))]) (fun i : Nat × List RowD => pf.length - i.1) (0, cls) ?_ ?_ ?_
  · exact ⟨by omega, hB.symm, by simp, hx2, hci⟩
  · exact ⟨[0, 1, 2], by simp⟩
  rintro I S μ hI hS hμ ⟨k, all⟩ ⟨hk, hg, hal, hac, hin⟩
  simp only at hk hg hal hac hin
  by_cases hlt : k < pf.length
  · have hx1 : pf[k]? = some pf[k] := List.getElem?_eq_getElem hlt
    have w5 : IntKind.i64.wrap ((k : Int) + 1) = (k : Int) + 1 := wrap_id (by omega) (by omega)
    have hd : decide (k < pf.length) = true := decide_eq_true hlt
    rw [chkGo_at hx1] at hg
    have hcl := hp2 _ (List.getElem_mem hlt)
    generalize pf[k] = c at *
    have hLc : (enRow c).length = 1 := rfl
    simp [hd, hx1, hLc, enRow]
    refine ⟨by kernel_rfl, ?_⟩
    refine call_step (sClauseOk_con c n (by omega) hcl) ?_
    simp
    rcases Bool.eq_false_or_eq_true (clauseOkL n c) with hr1 | hr1
    case inr =>
      rw [hr1] at hg
      simp only [Bool.false_and] at hg
      simp [hr1, ← hg]
    have hcon := sCons_con all n c (by omega) ⟨by omega, hac⟩ hin hcl (clauseOk_lits hr1)
    simp [hr1, hd, hx1, hLc, enRow]
    refine call_step (hcon) ?_
    simp
    rcases Bool.eq_false_or_eq_true (followsL n all c) with hr3 | hr3
    case inr =>
      rw [hr1, show (n : Int).toNat = n from Int.toNat_natCast n, hr3] at hg
      simp only [Bool.true_and, Bool.false_and] at hg
      simp [hr3, ← hg]
    rw [hr1, show (n : Int).toNat = n from Int.toNat_natCast n, hr3] at hg
    simp only [Bool.true_and] at hg
    simp [hr3, hd, hx1, hLc, enRow]
    have hsn : all.map enRow ++ [[D.sl 3 (c.map (e1 eInt))]] = (all ++ [c]).map enRow := by simp [enRow, e1]
    refine app_frozen (es := all.map enRow) (es2 := [[D.sl 3 (c.map (e1 eInt))]]) (by exact rfl) vt_el_40 (by exact rfl) (by simp) (by simp) (by simp; omega) ?_
    rw [hsn]
    have hcl2 : ∀ q ∈ all ++ [c], q.length ≤ 1048576 := fun q hq => by
      rcases List.mem_append.1 hq with h | h
      · exact hac q h
      · rw [List.mem_singleton.1 h]; exact hcl
    have hin2 : clausesIn n (all ++ [c]) := fun q hq => by
      rcases List.mem_append.1 hq with h | h
      · exact hin q h
      · rw [List.mem_singleton.1 h]; exact clauseOk_lits hr1
    have hlen2 : (all ++ [c]).length = cls.length + (k + 1) := by simp; omega
    generalize all ++ [c] = all2 at *
    simp [w5]
    exact round_of hI hS hμ (k + 1, all2) ⟨by simp; omega, hg, hlen2, hcl2, hin2⟩ (by simp; omega) ⟨[0, 1, 4], by simp⟩
  · have hk' : k = pf.length := by omega
    subst hk'
    rw [List.drop_length, chkGo] at hg
    simp [hlt, decide_eq_false hlt, ← hg]
end Go.Proofs.Ytoppcdccplgalaa
