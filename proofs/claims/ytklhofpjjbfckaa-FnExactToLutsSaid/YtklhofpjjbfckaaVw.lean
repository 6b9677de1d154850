/-
  LutNodes, by abstract walks.
  Conditions: those typed in each theorem.
-/
import Derived.Test.YtklhofpjjbfckaaVu
import Derived.Test.YtklhofpjjbfckaaNt
namespace Go.Proofs.Ytklhofpjjbfckaa
open Go.RowKit Go.ChangeShapes Go.WideShapes
set_option linter.unusedVariables false
set_option linter.unusedSimpArgs false
abbrev inet (x : NetD) : X := .agg (enNet 31 132 x)
theorem iNodes_con (x : NetD) (h1 : 0 ≤ x.1 ∧ x.1 ≤ 20) (h2 : x.2.1.length ≤ 12) (h3 : x.2.2.1.length ≤ 400) :
    ConC Try.prog 154 [inet x] (.d (.int .i64 (1 + x.1 + x.2.1.length + x.2.2.1.length))) := by
  refine con_of (by kernel_rfl) Try.func154 rfl rfl rfl ?_
  have w1 : IntKind.i64.wrap (1 + x.1) = 1 + x.1 := wrap_id (by omega) (by omega)
  have w2 : IntKind.i64.wrap (1 + x.1 + x.2.1.length) = 1 + x.1 + x.2.1.length := wrap_id (by omega) (by omega)
  have w3 : IntKind.i64.wrap (1 + x.1 + x.2.1.length + x.2.2.1.length) = 1 + x.1 + x.2.1.length + x.2.2.1.length := wrap_id (by omega) (by omega)
  simp [AWp_skip, AWp_region_t, AWp_region_d, AWp_region_f, still_mk, AWp_seq, AWp_cond, condV_bool, ↓condG_true, ↓condG_false, condG_true, condG_false, ↓condB_true, ↓condB_false, condB, AWp_block, AWp_exit, AWp_ret, AOps_nil, AOp_move, AOp_assign, AOp_pick, AOp_binOp, AOp_unOp, AOp_convert, AOp_len, AOp_max, AOp_min, AOp_indexAddr, AOp_load, AOp_fieldAddr, AOp_field, AOp_extract, AOp_nilCheck, AOp_build, AOp_alloc, AOp_box, AOp_call, AOp_store, AOp_append, AOp_buildSlice, nextB_some, nextB_none, adoptO, adoptC, AOp_makeSlice, AOp_slice, AOp_makeFunc, AOp_guard, guardD_some, guardG_bool, guardG_undef, nextO_some, nextS_some, nextZ_some, nextL_some, nextM_some, nextT_some, sliceO, sliceL, sliceT, partO, partV, boundV, funcO, pickO, convO, lenO, maxO, minO, idxO, extO, nilO, buildO, litO, litC, makeO, chunks, fillV, placeOf, thenA, inBlockA, St.get, St.put, St.eval, ofCell, evalT, abin_add, abin_sub, abin_mul, abin_quo, abin_rem, abin_and, abin_or, abin_xor, abin_andNot, abin_shl, abin_shr, abin_shlu, abin_eql, abin_eqp, abin_neq, abin_lss, abin_leq, abin_gtr, abin_geq, abin_eqlb, abin_neqb, aun, pickV, lenV, intOf?, indexV, takeD, takeV, loadV, fieldAddrV, fieldV, ofX, presD, presDs, pres, presAll, cellsV, V.cell, storeV, freezeC, putAt, kill, takeC, plains, plainV, scalarV, nat_neg, keepT, sets, eSl, e1, e2, e3, e4, eInt, eBool, enNet, w1, w2, w3, RetA, resVs, resV, gives, give1, give1s, takeC, St.get]
end Go.Proofs.Ytklhofpjjbfckaa
