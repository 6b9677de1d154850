/-
  First contracts by abstract walks.
  Conditions: those typed in each theorem.
-/
import Derived.Test.YtbmapbbjbdpbcaaV5
/-
  First contracts by abstract walks.
  Conditions: those typed in each theorem.
-/
namespace Go.Proofs.Ytbmapbbjbdpbcaa
open Go.RowKit Go.ChangeShapes Go.WideShapes
set_option linter.unusedVariables false
set_option linter.unusedSimpArgs false
theorem inr_con (n lo hi : Int) : ConC Try.prog 53 [.d (.int .i64 n), .d (.int .i64 lo), .d (.int .i64 hi)] (.d (.bool (rng n lo hi))) := by
  refine con_of (by kernel_rfl) Try.func53 rfl rfl rfl ?_
  simp [AWp_skip, AWp_region_t, AWp_region_d, AWp_region_f, still_mk, AWp_seq, AWp_cond, condV_bool, ↓condG_true, ↓condG_false, condG_true, condG_false, ↓condB_true, ↓condB_false, condB, AWp_block, AWp_exit, AWp_ret, AOps_nil, AOp_move, AOp_assign, AOp_pick, AOp_binOp, AOp_unOp, AOp_convert, AOp_len, AOp_max, AOp_min, AOp_indexAddr, AOp_load, AOp_fieldAddr, AOp_field, AOp_extract, AOp_nilCheck, AOp_build, AOp_alloc, AOp_box, AOp_call, AOp_store, AOp_append, AOp_buildSlice, nextB_some, nextB_none, adoptO, adoptC, AOp_makeSlice, AOp_slice, AOp_makeFunc, AOp_guard, guardD_some, guardG_bool, guardG_undef, nextO_some, nextS_some, nextZ_some, nextL_some, nextM_some, nextT_some, sliceO, sliceL, sliceT, partO, partV, boundV, funcO, pickO, convO, lenO, maxO, minO, idxO, extO, nilO, buildO, litO, litC, makeO, chunks, fillV, placeOf, thenA, inBlockA, St.get, St.put, St.eval, ofCell, evalT, abin_add, abin_sub, abin_mul, abin_quo, abin_rem, abin_and, abin_or, abin_xor, abin_andNot, abin_shl, abin_shr, abin_shlu, abin_eql, abin_neq, abin_lss, abin_leq, abin_gtr, abin_geq, abin_eqlb, abin_neqb, aun, pickV, lenV, intOf?, indexV, takeD, takeV, loadV, fieldAddrV, fieldV, ofX, presD, presDs, pres, presAll, cellsV, V.cell, storeV, freezeC, putAt, kill, takeC, plains, plainV, scalarV, nat_neg, keepT, sets, eSl, e1, e2, e3, e4, eInt, eBool, rng]
  constructor <;> intro h <;> simp [RetA, resVs, resV, gives, give1, give1s, takeC, St.get, h] <;> omega
end Go.Proofs.Ytbmapbbjbdpbcaa

/-
  Contracts of the laws' helpers over []int and sequential elements, by abstract walks.
  Conditions: those typed in each theorem.
-/
namespace Go.Proofs.Ytbmapbbjbdpbcaa
open Go.RowKit Go.ChangeShapes Go.WideShapes
set_option linter.unusedVariables false
set_option linter.unusedSimpArgs false
def szL (n : Nat) (l : Int) : Int := if l - n < 0 then -1 else l - n
theorem szInts_con (xs : List Int) (l : Int) (hx : xs.length ≤ 9223372036854775807) (hl : 0 ≤ l ∧ l ≤ 1048576) :
    ConC Try.prog 62 [.d (eSl 3 (e1 eInt) xs), .d (.int .i64 l)] (.d (.int .i64 (szL xs.length l))) := by
  refine con_of (by kernel_rfl) Try.func62 rfl rfl rfl ?_
  have w1 : IntKind.i64.wrap (l - xs.length) = l - xs.length := wrap_id (by omega) (by omega)
  simp [AWp_skip, AWp_region_t, AWp_region_d, AWp_region_f, still_mk, AWp_seq, AWp_cond, condV_bool, ↓condG_true, ↓condG_false, condG_true, condG_false, ↓condB_true, ↓condB_false, condB, AWp_block, AWp_exit, AWp_ret, AOps_nil, AOp_move, AOp_assign, AOp_pick, AOp_binOp, AOp_unOp, AOp_convert, AOp_len, AOp_max, AOp_min, AOp_indexAddr, AOp_load, AOp_fieldAddr, AOp_field, AOp_extract, AOp_nilCheck, AOp_build, AOp_alloc, AOp_box, AOp_call, AOp_store, AOp_append, AOp_buildSlice, nextB_some, nextB_none, adoptO, adoptC, AOp_makeSlice, AOp_slice, AOp_makeFunc, AOp_guard, guardD_some, guardG_bool, guardG_undef, nextO_some, nextS_some, nextZ_some, nextL_some, nextM_some, nextT_some, sliceO, sliceL, sliceT, partO, partV, boundV, funcO, pickO, convO, lenO, maxO, minO, idxO, extO, nilO, buildO, litO, litC, makeO, chunks, fillV, placeOf, thenA, inBlockA, St.get, St.put, St.eval, ofCell, evalT, abin_add, abin_sub, abin_mul, abin_quo, abin_rem, abin_and, abin_or, abin_xor, abin_andNot, abin_shl, abin_shr, abin_shlu, abin_eql, abin_neq, abin_lss, abin_leq, abin_gtr, abin_geq, abin_eqlb, abin_neqb, aun, pickV, lenV, intOf?, indexV, takeD, takeV, loadV, fieldAddrV, fieldV, ofX, presD, presDs, pres, presAll, cellsV, V.cell, storeV, freezeC, putAt, kill, takeC, plains, plainV, scalarV, nat_neg, keepT, sets, eSl, e1, e2, e3, e4, eInt, eBool, w1]
  constructor <;> intro h <;> simp [RetA, resVs, resV, gives, give1, give1s, takeC, St.get, szL, h] <;> omega
/-- The first k, and z for each of the others. -/
def mix {β : Type} (ys : List β) (z : β) (k : Nat) : List β := ys.take k ++ List.replicate (ys.length - k) z
section
variable {β : Type} {ys : List β} {y z : β} {k : Nat}
theorem mix_len (h : k ≤ ys.length) : (mix ys z k).length = ys.length := by simp [mix]; omega
theorem mix_at (h : k < ys.length) : (mix ys z k)[k]? = some z := by
  unfold mix
  rw [List.getElem?_append_right (by simp; omega), List.length_take, Nat.min_eq_left (by omega), Nat.sub_self, List.getElem?_replicate, if_pos (by omega)]
theorem mix_get {h : k < (mix ys z k).length} : (mix ys z k)[k] = z := by
  have hk : k < ys.length := by
    have h' := h
    simp only [mix, List.length_append, List.length_take, List.length_replicate] at h'
    omega
  have h2 := mix_at (z := z) hk
  rw [List.getElem?_eq_getElem h] at h2
  exact Option.some.inj h2
theorem mix_set (h : ys[k]? = some y) : (mix ys z k).set k y = mix ys z (k + 1) := by
  obtain ⟨hk, rfl⟩ := List.getElem?_eq_some_iff.1 h
  unfold mix
  rw [List.set_append_right _ _ (by simp; omega), List.length_take, Nat.min_eq_left (by omega), Nat.sub_self, take_snoc' h]
  obtain ⟨m, hm⟩ : ∃ m, ys.length - k = m + 1 := ⟨ys.length - k - 1, by omega⟩
  rw [hm, List.replicate_succ, List.set_cons_zero, show ys.length - (k + 1) = m by omega, List.append_assoc]
  rfl
theorem mix_zero : mix ys z 0 = List.replicate ys.length z := by simp [mix]
theorem mix_all : mix ys z ys.length = ys := by simp [mix]
end
theorem toInts_con (xs : List Int) (hx : xs.length ≤ 1048576) :
    ConC Try.prog 15 [.d (eSl 3 (e1 eInt) xs)] (.d (eSl 3 (e1 eInt) xs)) := by
  refine con_of (by kernel_rfl) Try.func15 rfl rfl rfl ?_
  simp [AWp_skip, AWp_region_t, AWp_region_d, AWp_region_f, still_mk, AWp_seq, AWp_cond, condV_bool, ↓condG_true, ↓condG_false, condG_true, condG_false, ↓condB_true, ↓condB_false, condB, AWp_block, AWp_exit, AWp_ret, AOps_nil, AOp_move, AOp_assign, AOp_pick, AOp_binOp, AOp_unOp, AOp_convert, AOp_len, AOp_max, AOp_min, AOp_indexAddr, AOp_load, AOp_fieldAddr, AOp_field, AOp_extract, AOp_nilCheck, AOp_build, AOp_alloc, AOp_box, AOp_call, AOp_store, AOp_append, AOp_buildSlice, nextB_some, nextB_none, adoptO, adoptC, AOp_makeSlice, AOp_slice, AOp_makeFunc, AOp_guard, guardD_some, guardG_bool, guardG_undef, nextO_some, nextS_some, nextZ_some, nextL_some, nextM_some, nextT_some, sliceO, sliceL, sliceT, partO, partV, boundV, funcO, pickO, convO, lenO, maxO, minO, idxO, extO, nilO, buildO, litO, litC, makeO, chunks, fillV, placeOf, thenA, inBlockA, St.get, St.put, St.eval, ofCell, evalT, abin_add, abin_sub, abin_mul, abin_quo, abin_rem, abin_and, abin_or, abin_xor, abin_andNot, abin_shl, abin_shr, abin_shlu, abin_eql, abin_neq, abin_lss, abin_leq, abin_gtr, abin_geq, abin_eqlb, abin_neqb, aun, pickV, lenV, intOf?, indexV, takeD, takeV, loadV, fieldAddrV, fieldV, ofX, presD, presDs, pres, presAll, cellsV, V.cell, storeV, freezeC, putAt, kill, takeC, plains, plainV, scalarV, nat_neg, keepT, sets, eSl, e1, e2, e3, e4, eInt, eBool]
  refine ⟨by omega, ?_⟩
  refine aw_loop' (fun k : Nat => k ≤ xs.length) (fun k => ⟨frame 22 [(0, .d (eSl 3 (e1 eInt) xs)), (3, .ref 0), (4, .d (.int .i64 k))], [.arr 3 true (mix (xs.map (e1 eInt)) [.int .i64 0] k)]⟩) (fun k => xs.length - k) 0 (by simp) ?_ ?_
  · exact ⟨[0], by simp [Le, isPin, leSlots, leS, leTmps, leV, le0, le0s, presD, ren, ren0, renS, ren0s, frame, keepT, sets, eSl, e1, e2, e3, e4, eInt, eBool, mix_zero]⟩
  rintro I S μ hI hS hμ k hk
  by_cases hlt : k < xs.length
  · have hx1 : xs[k]? = some xs[k] := List.getElem?_eq_getElem hlt
    have w2 : IntKind.i64.wrap ((k : Int) + 1) = (k : Int) + 1 := wrap_id (by omega) (by omega)
    have m1 := mix_len (ys := xs.map (e1 eInt)) (z := [.int .i64 0]) (k := k) (by simp; omega)
    have m2 := mix_at (ys := xs.map (e1 eInt)) (z := [.int .i64 0]) (k := k) (by simp; omega)
    have m3 := mix_set (ys := xs.map (e1 eInt)) (z := [.int .i64 0]) (k := k) (y := [.int .i64 xs[k]]) (by simp [hx1, e1, eInt])
    rw [List.length_map] at m1
    simp [AWp_skip, AWp_region_t, AWp_region_d, AWp_region_f, still_mk, AWp_seq, AWp_cond, condV_bool, ↓condG_true, ↓condG_false, condG_true, condG_false, ↓condB_true, ↓condB_false, condB, AWp_block, AWp_exit, AWp_ret, AOps_nil, AOp_move, AOp_assign, AOp_pick, AOp_binOp, AOp_unOp, AOp_convert, AOp_len, AOp_max, AOp_min, AOp_indexAddr, AOp_load, AOp_fieldAddr, AOp_field, AOp_extract, AOp_nilCheck, AOp_build, AOp_alloc, AOp_box, AOp_call, AOp_store, AOp_append, AOp_buildSlice, nextB_some, nextB_none, adoptO, adoptC, AOp_makeSlice, AOp_slice, AOp_makeFunc, AOp_guard, guardD_some, guardG_bool, guardG_undef, nextO_some, nextS_some, nextZ_some, nextL_some, nextM_some, nextT_some, sliceO, sliceL, sliceT, partO, partV, boundV, funcO, pickO, convO, lenO, maxO, minO, idxO, extO, nilO, buildO, litO, litC, makeO, chunks, fillV, placeOf, thenA, inBlockA, St.get, St.put, St.eval, ofCell, evalT, abin_add, abin_sub, abin_mul, abin_quo, abin_rem, abin_and, abin_or, abin_xor, abin_andNot, abin_shl, abin_shr, abin_shlu, abin_eql, abin_neq, abin_lss, abin_leq, abin_gtr, abin_geq, abin_eqlb, abin_neqb, aun, pickV, lenV, intOf?, indexV, takeD, takeV, loadV, fieldAddrV, fieldV, ofX, presD, presDs, pres, presAll, cellsV, V.cell, storeV, freezeC, putAt, kill, takeC, plains, plainV, scalarV, nat_neg, keepT, sets, eSl, e1, e2, e3, e4, eInt, eBool, frame, hlt, hx1, w2, m1, mix_get, m3]
    exact round_of hI hS hμ (k + 1) (by omega) (by omega) ⟨[0], by simp [Le, isPin, leSlots, leS, leTmps, leV, le0, le0s, presD, ren, ren0, renS, ren0s, frame, keepT, sets, eSl, e1, e2, e3, e4, eInt, eBool]⟩
  · have hk' : k = xs.length := by omega
    subst hk'
    have m4 := mix_all (ys := xs.map (e1 eInt)) (z := [.int .i64 0])
    rw [List.length_map] at m4
    simp [AWp_skip, AWp_region_t, AWp_region_d, AWp_region_f, still_mk, AWp_seq, AWp_cond, condV_bool, ↓condG_true, ↓condG_false, condG_true, condG_false, ↓condB_true, ↓condB_false, condB, AWp_block, AWp_exit, AWp_ret, AOps_nil, AOp_move, AOp_assign, AOp_pick, AOp_binOp, AOp_unOp, AOp_convert, AOp_len, AOp_max, AOp_min, AOp_indexAddr, AOp_load, AOp_fieldAddr, AOp_field, AOp_extract, AOp_nilCheck, AOp_build, AOp_alloc, AOp_box, AOp_call, AOp_store, AOp_append, AOp_buildSlice, nextB_some, nextB_none, adoptO, adoptC, AOp_makeSlice, AOp_slice, AOp_makeFunc, AOp_guard, guardD_some, guardG_bool, guardG_undef, nextO_some, nextS_some, nextZ_some, nextL_some, nextM_some, nextT_some, sliceO, sliceL, sliceT, partO, partV, boundV, funcO, pickO, convO, lenO, maxO, minO, idxO, extO, nilO, buildO, litO, litC, makeO, chunks, fillV, placeOf, thenA, inBlockA, St.get, St.put, St.eval, ofCell, evalT, abin_add, abin_sub, abin_mul, abin_quo, abin_rem, abin_and, abin_or, abin_xor, abin_andNot, abin_shl, abin_shr, abin_shlu, abin_eql, abin_neq, abin_lss, abin_leq, abin_gtr, abin_geq, abin_eqlb, abin_neqb, aun, pickV, lenV, intOf?, indexV, takeD, takeV, loadV, fieldAddrV, fieldV, ofX, presD, presDs, pres, presAll, cellsV, V.cell, storeV, freezeC, putAt, kill, takeC, plains, plainV, scalarV, nat_neg, keepT, sets, eSl, e1, e2, e3, e4, eInt, eBool, frame, RetA, resVs, resV, gives, give1, give1s, takeC, St.get, m4]
theorem eqInts_con (xs : List Int) (hx : xs.length ≤ 1048576) :
    ConC Try.prog 18 [.d (eSl 3 (e1 eInt) xs), .d (eSl 3 (e1 eInt) xs)] (.d (.bool true)) := by
  refine con_of (by kernel_rfl) Try.func18 rfl rfl rfl ?_
  simp [AWp_skip, AWp_region_t, AWp_region_d, AWp_region_f, still_mk, AWp_seq, AWp_cond, condV_bool, ↓condG_true, ↓condG_false, condG_true, condG_false, ↓condB_true, ↓condB_false, condB, AWp_block, AWp_exit, AWp_ret, AOps_nil, AOp_move, AOp_assign, AOp_pick, AOp_binOp, AOp_unOp, AOp_convert, AOp_len, AOp_max, AOp_min, AOp_indexAddr, AOp_load, AOp_fieldAddr, AOp_field, AOp_extract, AOp_nilCheck, AOp_build, AOp_alloc, AOp_box, AOp_call, AOp_store, AOp_append, AOp_buildSlice, nextB_some, nextB_none, adoptO, adoptC, AOp_makeSlice, AOp_slice, AOp_makeFunc, AOp_guard, guardD_some, guardG_bool, guardG_undef, nextO_some, nextS_some, nextZ_some, nextL_some, nextM_some, nextT_some, sliceO, sliceL, sliceT, partO, partV, boundV, funcO, pickO, convO, lenO, maxO, minO, idxO, extO, nilO, buildO, litO, litC, makeO, chunks, fillV, placeOf, thenA, inBlockA, St.get, St.put, St.eval, ofCell, evalT, abin_add, abin_sub, abin_mul, abin_quo, abin_rem, abin_and, abin_or, abin_xor, abin_andNot, abin_shl, abin_shr, abin_shlu, abin_eql, abin_neq, abin_lss, abin_leq, abin_gtr, abin_geq, abin_eqlb, abin_neqb, aun, pickV, lenV, intOf?, indexV, takeD, takeV, loadV, fieldAddrV, fieldV, ofX, presD, presDs, pres, presAll, cellsV, V.cell, storeV, freezeC, putAt, kill, takeC, plains, plainV, scalarV, nat_neg, keepT, sets, eSl, e1, e2, e3, e4, eInt, eBool]
  refine aw_loop' (fun k : Nat => k ≤ xs.length) (fun k => ⟨frame 26 [(0, .d (eSl 3 (e1 eInt) xs)), (1, .d (eSl 3 (e1 eInt) xs)), (5, .d (.int .i64 k))], []⟩) (fun k => xs.length - k) 0 (by simp) ?_ ?_
  · exact ⟨[], by simp [Le, isPin, leSlots, leS, leTmps, leV, le0, le0s, presD, ren, ren0, renS, ren0s, frame, keepT, sets, eSl, e1, e2, e3, e4, eInt, eBool]⟩
  rintro I S μ hI hS hμ k hk
  by_cases hlt : k < xs.length
  · have hx1 : xs[k]? = some xs[k] := List.getElem?_eq_getElem hlt
    have w2 : IntKind.i64.wrap ((k : Int) + 1) = (k : Int) + 1 := wrap_id (by omega) (by omega)
    simp [AWp_skip, AWp_region_t, AWp_region_d, AWp_region_f, still_mk, AWp_seq, AWp_cond, condV_bool, ↓condG_true, ↓condG_false, condG_true, condG_false, ↓condB_true, ↓condB_false, condB, AWp_block, AWp_exit, AWp_ret, AOps_nil, AOp_move, AOp_assign, AOp_pick, AOp_binOp, AOp_unOp, AOp_convert, AOp_len, AOp_max, AOp_min, AOp_indexAddr, AOp_load, AOp_fieldAddr, AOp_field, AOp_extract, AOp_nilCheck, AOp_build, AOp_alloc, AOp_box, AOp_call, AOp_store, AOp_append, AOp_buildSlice, nextB_some, nextB_none, adoptO, adoptC, AOp_makeSlice, AOp_slice, AOp_makeFunc, AOp_guard, guardD_some, guardG_bool, guardG_undef, nextO_some, nextS_some, nextZ_some, nextL_some, nextM_some, nextT_some, sliceO, sliceL, sliceT, partO, partV, boundV, funcO, pickO, convO, lenO, maxO, minO, idxO, extO, nilO, buildO, litO, litC, makeO, chunks, fillV, placeOf, thenA, inBlockA, St.get, St.put, St.eval, ofCell, evalT, abin_add, abin_sub, abin_mul, abin_quo, abin_rem, abin_and, abin_or, abin_xor, abin_andNot, abin_shl, abin_shr, abin_shlu, abin_eql, abin_neq, abin_lss, abin_leq, abin_gtr, abin_geq, abin_eqlb, abin_neqb, aun, pickV, lenV, intOf?, indexV, takeD, takeV, loadV, fieldAddrV, fieldV, ofX, presD, presDs, pres, presAll, cellsV, V.cell, storeV, freezeC, putAt, kill, takeC, plains, plainV, scalarV, nat_neg, keepT, sets, eSl, e1, e2, e3, e4, eInt, eBool, frame, hlt, hx1, w2]
    refine ⟨by kernel_rfl, ?_⟩
    exact round_of hI hS hμ (k + 1) (by omega) (by omega) ⟨[], by simp [Le, isPin, leSlots, leS, leTmps, leV, le0, le0s, presD, ren, ren0, renS, ren0s, frame, keepT, sets, eSl, e1, e2, e3, e4, eInt, eBool]⟩
  · have hk' : k = xs.length := by omega
    subst hk'
    simp [AWp_skip, AWp_region_t, AWp_region_d, AWp_region_f, still_mk, AWp_seq, AWp_cond, condV_bool, ↓condG_true, ↓condG_false, condG_true, condG_false, ↓condB_true, ↓condB_false, condB, AWp_block, AWp_exit, AWp_ret, AOps_nil, AOp_move, AOp_assign, AOp_pick, AOp_binOp, AOp_unOp, AOp_convert, AOp_len, AOp_max, AOp_min, AOp_indexAddr, AOp_load, AOp_fieldAddr, AOp_field, AOp_extract, AOp_nilCheck, AOp_build, AOp_alloc, AOp_box, AOp_call, AOp_store, AOp_append, AOp_buildSlice, nextB_some, nextB_none, adoptO, adoptC, AOp_makeSlice, AOp_slice, AOp_makeFunc, AOp_guard, guardD_some, guardG_bool, guardG_undef, nextO_some, nextS_some, nextZ_some, nextL_some, nextM_some, nextT_some, sliceO, sliceL, sliceT, partO, partV, boundV, funcO, pickO, convO, lenO, maxO, minO, idxO, extO, nilO, buildO, litO, litC, makeO, chunks, fillV, placeOf, thenA, inBlockA, St.get, St.put, St.eval, ofCell, evalT, abin_add, abin_sub, abin_mul, abin_quo, abin_rem, abin_and, abin_or, abin_xor, abin_andNot, abin_shl, abin_shr, abin_shlu, abin_eql, abin_neq, abin_lss, abin_leq, abin_gtr, abin_geq, abin_eqlb, abin_neqb, aun, pickV, lenV, intOf?, indexV, takeD, takeV, loadV, fieldAddrV, fieldV, ofX, presD, presDs, pres, presAll, cellsV, V.cell, storeV, freezeC, putAt, kill, takeC, plains, plainV, scalarV, nat_neg, keepT, sets, eSl, e1, e2, e3, e4, eInt, eBool, frame, RetA, resVs, resV, gives, give1, give1s, takeC, St.get]
end Go.Proofs.Ytbmapbbjbdpbcaa

/-
  Contracts of the laws' helpers over sequential elements, by abstract walks.
  Conditions: those typed in each theorem.
-/
namespace Go.Proofs.Ytbmapbbjbdpbcaa
open Go.RowKit Go.ChangeShapes Go.WideShapes
set_option linter.unusedVariables false
set_option linter.unusedSimpArgs false
abbrev SeqD : Type := Int × Int × List Int
def enSeq (x : SeqD) : List D := e3 eInt eInt (eSl 3 (e1 eInt)) x
def szGo {α : Type} (f : α → Int → Int) : List α → Int → Int
  | [], l => l
  | x :: xs, l => if f x l < 0 then -1 else szGo f xs (f x l)
def szS {α : Type} (f : α → Int → Int) (xs : List α) (l : Int) : Int := if l - xs.length < 0 then -1 else szGo f xs (l - xs.length)
def szSeqL (x : SeqD) (l : Int) : Int := szL x.2.2.length l
theorem szL_or (n : Nat) (l : Int) : szL n l = -1 ∨ (0 ≤ szL n l ∧ szL n l = l - n) := by unfold szL; split <;> omega
end Go.Proofs.Ytbmapbbjbdpbcaa

/-
  Contracts of the laws' helpers over slices of sequential elements, by abstract walks.
  Conditions: those typed in each theorem.
-/
namespace Go.Proofs.Ytbmapbbjbdpbcaa
open Go.RowKit Go.ChangeShapes Go.WideShapes
set_option linter.unusedVariables false
set_option linter.unusedSimpArgs false
theorem szGo_drop {α : Type} {f : α → Int → Int} {xs : List α} {k : Nat} {x : α} {l : Int} (hx : xs[k]? = some x) : szGo f (xs.drop k) l = if f x l < 0 then -1 else szGo f (xs.drop (k + 1)) (f x l) := by
  obtain ⟨hk, rfl⟩ := List.getElem?_eq_some_iff.1 hx
  rw [List.drop_eq_getElem_cons hk]
  rfl
end Go.Proofs.Ytbmapbbjbdpbcaa
