/-
  Valid networks of look-up tables, by abstract walks.
  Conditions: those typed in each theorem.
-/
import Derived.Test.YtklhofpjjbfckaaWb
namespace Go.Proofs.Ytklhofpjjbfckaa
open Go.RowKit Go.ChangeShapes Go.WideShapes
set_option linter.unusedVariables false
set_option linter.unusedSimpArgs false
def seqFits (n : Int) (x : SeqD) : Bool := seqOkB x && belowB x.2.2 n
def lutFits (n : Int) (x : LutD) : Bool := tableOkB x.1.length x.2 && belowB x.1 n
def lutsFit (f : Int) : Nat → List LutD → Bool
  | _, [] => true
  | k, x :: xs => lutFits (f + k) x && lutsFit f (k + 1) xs
def lutNetOkB (x : NetD) : Bool := decide (nodesL x ≠ 0) && belowB x.2.2.2 (nodesL x) && x.2.1.all (seqFits (nodesL x)) && lutsFit (1 + x.1 + x.2.1.length) 0 x.2.2.1
theorem lutsFit_drop {f : Int} : ∀ {xs : List LutD} {k j : Nat}, lutsFit f j xs = (lutsFit f j (xs.take k) && lutsFit f (j + k) (xs.drop k))
  | [], k, j => by simp [lutsFit]
  | x :: xs, 0, j => by simp [lutsFit]
  | x :: xs, k + 1, j => by
    simp only [List.take_succ_cons, List.drop_succ_cons, lutsFit]
    rw [lutsFit_drop (xs := xs) (k := k), Bool.and_assoc, show j + 1 + k = j + (k + 1) by omega]
theorem lutsFit_snoc {f : Int} {xs : List LutD} {k : Nat} {x : LutD} (hx : xs[k]? = some x) : lutsFit f 0 (xs.take (k + 1)) = (lutsFit f 0 (xs.take k) && lutFits (f + k) x) := by
  rw [lutsFit_drop (xs := xs.take (k + 1)) (k := k), take_snoc' hx]
  have hk : (xs.take k).length = k := by have := (List.getElem?_eq_some_iff.1 hx).1; simp; omega
  rw [List.take_append_of_le_length (by omega), List.take_of_length_le (by omega), List.drop_append_of_le_length (by omega), List.drop_of_length_le (by omega)]
  simp [lutsFit]
theorem lutsFit_not {f : Int} {xs : List LutD} {k : Nat} {x : LutD} (hx : xs[k]? = some x) (h : lutFits (f + k) x = false) : lutsFit f 0 xs = false := by
  rw [lutsFit_drop (k := k + 1), lutsFit_snoc hx, h]
  simp
theorem firstLut_con (x : NetD) (h1 : 0 ≤ x.1 ∧ x.1 ≤ 20) (h2 : x.2.1.length ≤ 12) : ConC Try.prog 155 [inet x] (.d (.int .i64 (1 + x.1 + x.2.1.length))) := by
  refine con_of (by kernel_rfl) Try.func155 rfl rfl rfl ?_
  have w1 : IntKind.i64.wrap (1 + x.1) = 1 + x.1 := wrap_id (by omega) (by omega)
  have w2 : IntKind.i64.wrap (1 + x.1 + x.2.1.length) = 1 + x.1 + x.2.1.length := wrap_id (by omega) (by omega)
  simp [AWp_region_f, AWp_seq, AWp_ret, AOps_nil, AOp_assign, AOp_binOp, AOp_len, AOp_load, AOp_fieldAddr, AOp_box, nextO_some, lenO, thenA, St.get, St.put, St.eval, ofCell, evalT, abin_add, lenV, takeV, loadV, fieldAddrV, ofX, cellsV, V.cell, takeC, eSl, e4, eInt, enNet, w1, w2, RetA, resVs, resV, gives, give1, takeC, St.get]
theorem iLutNetOk_con (x : NetD) (hx : fitNet 1048576 x) : ConC Try.prog 66 [inet x] (.d (.bool (lutNetOkB x))) := by
  obtain ⟨f1, f2, f3, f4, f5⟩ := hx
  refine con_of (by kernel_rfl) Try.func66 rfl rfl rfl ?_
  simp [AWp_region_f, AWp_seq, AOps_nil, AOp_assign, AOp_load, AOp_box, AOp_call, nextO_some, thenA, St.get, St.put, St.eval, ofCell, evalT, takeV, loadV, ofX, presD, presDs, pres, presAll, cellsV, V.cell, eSl, e4, eInt, enNet]
  refine call_step (iLutNodes_con x) ?_
  simp only [afterCall, inst, inst1, instD]
  simp [AWp_region_f, AWp_seq, AWp_cond, condV_bool, ↓condG_true, ↓condG_false, condG_true, condG_false, ↓condB_true, AWp_ret, AOps_nil, AOp_move, AOp_assign, AOp_pick, AOp_binOp, AOp_load, AOp_fieldAddr, AOp_call, AOp_guard, guardD_some, guardG_bool, nextO_some, pickO, thenA, St.get, St.put, St.eval, ofCell, evalT, abin_eql, pickV, takeV, loadV, fieldAddrV, presD, pres, presAll]
  by_cases hn : nodesL x = 0
  · simp [↓condG_false, condG_false, St.get, takeC, hn, RetA, resVs, resV, gives, give1, takeC, St.get, lutNetOkB]
  obtain ⟨n1, n2, n3, n4, n5, n6⟩ := nodesL_pos hn
  have hn' : (nodesL x == 0) = false := by simpa using hn
  simp [↓condG_true, condG_true, hn']
  refine call_step (nodesBelow_con' x.2.2.2 (nodesL x) (by omega) (by omega)) ?_
  simp only [afterCall, inst, inst1, instD]
  simp [AWp_skip, AWp_region_f, AWp_seq, AWp_cond, condV_bool, ↓condG_true, condG_true, condB, AWp_block, AWp_ret, AOps_nil, AOp_move, AOp_assign, AOp_pick, AOp_unOp, AOp_len, AOp_load, AOp_fieldAddr, AOp_guard, guardD_some, guardG_bool, nextO_some, pickO, lenO, thenA, St.get, St.put, St.eval, ofCell, evalT, aun, pickV, lenV, takeV, loadV, fieldAddrV]
  rcases Bool.eq_false_or_eq_true (belowB x.2.2.2 (nodesL x)) with hb | hb
  case inr => simp [St.get, takeC, hb, RetA, resVs, resV, gives, give1, takeC, St.get, lutNetOkB]
  simp [hb]
  refine aw_loopU [false, true, false, true, false, false, false, false, false, false, false, false, false, false, false, false, false, false, false, false, true, true, true, false, false, false, false, false, false, false, false, false, false, false, false, false, false, false, false, false, false, false, false, false, false, false, false, false, false, false, false, false, false, false, false, false, false, false, false, false, false, false, false, false, false, false, false, false, false, false] (fun k : Nat => k ≤ x.2.1.length ∧ (x.2.1.take k).all (seqFits (nodesL x)) = true) (fun k : Nat => [(22, .d (.int .i64 k))]) (fun k : Nat => []) (fun k : Nat => x.2.1.length - k) 0 ?_ ?_ ?_
  · exact ⟨by simp, rfl⟩
  · exact ⟨[0], by simp [isPin, leSlots, leS, leTmps, leV, le0, le0s, presD, ren0, keepT, sets]⟩
  · rintro I S μ hI hS hμ k ⟨hk, ha⟩
    by_cases hlt : k < x.2.1.length
    · have hx1 : x.2.1[k]? = some x.2.1[k] := List.getElem?_eq_getElem hlt
      have hL : (enSeq x.2.1[k]).length = 3 := rfl
      have w2 : IntKind.i64.wrap ((k : Int) + 1) = (k : Int) + 1 := wrap_id (by omega) (by omega)
      have hl := f2 _ (List.getElem_mem hlt)
      generalize x.2.1[k] = s at *
      have hd : decide (k < x.2.1.length) = true := decide_eq_true hlt
      simp [AWp_skip, AWp_region_f, AWp_seq, AWp_cond, condV_bool, ↓condB_true, AWp_block, AOps_nil, AOp_binOp, AOp_indexAddr, AOp_load, AOp_alloc, AOp_call, AOp_store, nextO_some, nextS_some, nextZ_some, idxO, thenA, St.get, St.put, St.eval, evalT, abin_lss, intOf?, indexV, takeD, takeV, loadV, presD, presDs, pres, presAll, cellsV, V.cell, storeV, putAt, nat_neg, keepT, sets, eSl, e3, eInt, hd, hx1, enSeq]
      refine call_step (seqOk_con s) ?_
      simp only [afterCall, inst, inst1, instD]
      simp [AWp_region_f, AWp_seq, AWp_cond, condV_bool, ↓condG_true, ↓condG_false, condG_true, condG_false, ↓condB_true, AWp_ret, AOps_nil, AOp_move, AOp_assign, AOp_pick, AOp_unOp, AOp_load, AOp_fieldAddr, AOp_call, AOp_guard, guardD_some, guardG_bool, nextO_some, pickO, thenA, inBlockA, St.get, St.put, St.eval, ofCell, evalT, aun, pickV, takeV, loadV, fieldAddrV, presD, pres, presAll]
      rcases Bool.eq_false_or_eq_true (seqOkB s) with h1 | h1
      case inr => simp [↓condG_false, condG_false, St.get, takeC, h1, RetA, resVs, resV, gives, give1, takeC, St.get, lutNetOkB, all_not' (p := seqFits (nodesL x)) hx1 (by simp [seqFits, h1])]
      simp [↓condG_true, condG_true, h1]
      refine call_step (nodesBelow_con' s.2.2 (nodesL x) (by omega) (by omega)) ?_
      simp only [afterCall, inst, inst1, instD]
      simp [AWp_skip, AWp_region_f, AWp_seq, AWp_cond, condV_bool, ↓condG_true, condG_true, condB, AWp_ret, AOps_nil, AOp_move, AOp_assign, AOp_pick, AOp_binOp, AOp_unOp, AOp_guard, guardD_some, guardG_bool, nextO_some, pickO, thenA, inBlockA, St.get, St.put, St.eval, ofCell, evalT, abin_add, aun, pickV]
      rcases Bool.eq_false_or_eq_true (belowB s.2.2 (nodesL x)) with h2 | h2
      case inr => simp [St.get, takeC, h2, RetA, resVs, resV, gives, give1, takeC, St.get, lutNetOkB, all_not' (p := seqFits (nodesL x)) hx1 (by simp [seqFits, h2])]
      simp [h2, w2]
      exact round_of hI hS hμ (k + 1) ⟨by omega, by rw [all_snoc' hx1, ha]; simp [seqFits, h1, h2]⟩ (by omega) ⟨[0], by simp [isPin, leSlots, leS, leTmps, leV, le0, le0s, presD, ren0, keepT, sets]⟩
    · have hk' : k = x.2.1.length := by omega
      rw [hk', List.take_length] at ha
      simp [AWp_region_f, AWp_seq, AWp_cond, condV_bool, ↓condB_false, AWp_block, AWp_exit, AOps_nil, AOp_move, AOp_binOp, AOp_len, AOp_load, AOp_fieldAddr, nextO_some, lenO, thenA, inBlockA, St.get, St.put, St.eval, ofCell, evalT, abin_lss, lenV, takeV, loadV, fieldAddrV, keepT, sets, hlt]
      refine aw_loopU [false, true, false, false, false, false, false, false, false, false, false, false, false, false, false, false, false, false, false, false, false, false, false, false, false, false, false, false, false, false, false, false, false, false, false, false, false, false, true, true, true, false, false, false, false, false, false, false, false, false, false, false, false, false, false, false, false, false, false, false, false, false, false, false, false, false, false, false, false, false] (fun k : Nat => k ≤ x.2.2.1.length ∧ lutsFit (1 + x.1 + x.2.1.length) 0 (x.2.2.1.take k) = true) (fun k : Nat => [(40, .d (.int .i64 k))]) (fun k : Nat => []) (fun k : Nat => x.2.2.1.length - k) 0 ?_ ?_ ?_
      · exact ⟨by simp, rfl⟩
      · exact ⟨[0], by simp [isPin, leSlots, leS, leTmps, leV, le0, le0s, presD, ren0, keepT, sets]⟩
      · rintro I S μ hI hS hμ k ⟨hk, hc⟩
        by_cases hlt : k < x.2.2.1.length
        · have hx1 : x.2.2.1[k]? = some x.2.2.1[k] := List.getElem?_eq_getElem hlt
          have hL : (enLut x.2.2.1[k]).length = 2 := rfl
          have w2 : IntKind.i64.wrap ((k : Int) + 1) = (k : Int) + 1 := wrap_id (by omega) (by omega)
          have w3 : IntKind.i64.wrap (1 + x.1 + x.2.1.length + k) = 1 + x.1 + x.2.1.length + k := wrap_id (by omega) (by omega)
          have hl := f4 _ (List.getElem_mem hlt)
          generalize x.2.2.1[k] = s at *
          have hz : lutFits (1 + x.1 + x.2.1.length + k) s = false → lutsFit (1 + x.1 + x.2.1.length) 0 x.2.2.1 = false := lutsFit_not hx1
          have hd : decide (k < x.2.2.1.length) = true := decide_eq_true hlt
          simp [AWp_skip, AWp_region_t, AWp_region_f, AWp_seq, AWp_cond, condV_bool, ↓condG_true, ↓condG_false, condG_true, condG_false, ↓condB_true, AWp_block, AWp_ret, AOps_nil, AOp_move, AOp_assign, AOp_pick, AOp_binOp, AOp_len, AOp_indexAddr, AOp_load, AOp_fieldAddr, AOp_alloc, AOp_call, AOp_store, AOp_guard, guardD_some, guardG_bool, nextO_some, nextS_some, nextZ_some, pickO, lenO, idxO, thenA, inBlockA, St.get, St.put, St.eval, ofCell, evalT, abin_lss, abin_gtr, pickV, lenV, intOf?, indexV, takeD, takeV, loadV, fieldAddrV, presD, presDs, pres, presAll, cellsV, V.cell, storeV, putAt, nat_neg, keepT, sets, eSl, e2, eInt, hd, hx1, enLut]
          refine ⟨by kernel_rfl, ?_⟩
          by_cases h4 : s.1.length ≤ 4
          case neg =>
            have ht : tableOkB s.1.length s.2 = false := by
              cases h : tableOkB s.1.length s.2 with
              | false => rfl
              | true => exact absurd (tableOk_le h) h4
            simp [↓condG_false, condG_false, St.get, takeC, show (4 : Int) < s.1.length by omega, RetA, resVs, resV, gives, give1, takeC, St.get, lutNetOkB, hz (by simp [lutFits, ht])]
          simp [↓condG_true, condG_true, show ¬ (4 : Int) < s.1.length by omega]
          refine call_step (firstLut_con x ⟨n1, n2⟩ n3) ?_
          simp only [afterCall, inst, inst1, instD]
          simp [↓condG_true, condG_true, AOp_move, AOp_binOp, AOp_call, AOp_guard, guardD_some, guardG_bool, nextO_some, St.get, St.put, St.eval, evalT, abin_add, presD, pres, presAll, w3]
          refine call_step (nodesBelow_con' s.1 (1 + x.1 + x.2.1.length + k) (by omega) (by omega)) ?_
          simp only [afterCall, inst, inst1, instD]
          simp [AWp_region_f, AWp_seq, AWp_cond, condV_bool, ↓condG_true, ↓condG_false, condG_true, condG_false, ↓condB_true, AWp_ret, AOps_nil, AOp_move, AOp_assign, AOp_pick, AOp_unOp, AOp_len, AOp_load, AOp_fieldAddr, AOp_build, AOp_call, AOp_guard, guardD_some, guardG_bool, nextO_some, pickO, lenO, buildO, fillV, placeOf, thenA, inBlockA, St.get, St.put, St.eval, ofCell, evalT, aun, pickV, lenV, takeV, loadV, fieldAddrV, presD, presDs, pres, presAll, cellsV, V.cell, putAt]
          rcases Bool.eq_false_or_eq_true (belowB s.1 (1 + x.1 + x.2.1.length + k)) with h2 | h2
          case inr => simp [↓condG_false, condG_false, St.get, takeC, h2, RetA, resVs, resV, gives, give1, takeC, St.get, lutNetOkB, hz (by simp [lutFits, h2])]
          simp [↓condG_true, condG_true, h2]
          refine call_step (iTableOk_con _ _) ?_
          simp only [afterCall, inst, inst1, instD]
          simp [AWp_skip, AWp_region_f, AWp_seq, AWp_cond, condV_bool, ↓condG_true, condG_true, condB, AWp_ret, AOps_nil, AOp_move, AOp_assign, AOp_pick, AOp_binOp, AOp_unOp, AOp_guard, guardD_some, guardG_bool, nextO_some, pickO, thenA, inBlockA, St.get, St.put, St.eval, ofCell, evalT, abin_add, aun, pickV]
          rcases Bool.eq_false_or_eq_true (tableOkB s.1.length s.2) with h1 | h1
          case inr => simp [St.get, takeC, h1, RetA, resVs, resV, gives, give1, takeC, St.get, lutNetOkB, hz (by simp [lutFits, h1])]
          simp [h1, w2]
          exact round_of hI hS hμ (k + 1) ⟨by omega, by rw [lutsFit_snoc hx1, hc]; simp [lutFits, h1, h2]⟩ (by omega) ⟨[0], by simp [isPin, leSlots, leS, leTmps, leV, le0, le0s, presD, ren0, keepT, sets]⟩
        · have hk' : k = x.2.2.1.length := by omega
          rw [hk', List.take_length] at hc
          simp [AWp_region_f, AWp_seq, AWp_cond, condV_bool, ↓condB_false, AWp_exit, AWp_ret, AOps_nil, AOp_assign, AOp_binOp, nextO_some, thenA, inBlockA, St.get, St.put, St.eval, ofCell, evalT, abin_lss, takeC, keepT, sets, hlt, RetA, resVs, resV, gives, give1, takeC, St.get, lutNetOkB, ha, hb, hc, hn]
end Go.Proofs.Ytklhofpjjbfckaa
