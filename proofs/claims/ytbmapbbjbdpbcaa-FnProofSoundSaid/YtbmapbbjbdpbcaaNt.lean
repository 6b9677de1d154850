/-
  Ranges, tables and sequential elements, by abstract walks.
  Conditions: those typed in each theorem.
-/
import Derived.Test.YtbmapbbjbdpbcaaV6
import Derived.Test.YtbmapbbjbdpbcaaBit
namespace Go.Proofs.Ytbmapbbjbdpbcaa
open Go.RowKit Go.ChangeShapes Go.WideShapes
set_option linter.unusedVariables false
set_option linter.unusedSimpArgs false
theorem szGo_le {α : Type} {f : α → Int → Int} (hf : ∀ x l, 0 ≤ l → f x l ≤ l) : ∀ (xs : List α) (l : Int), 0 ≤ l → szGo f xs l ≤ l
  | [], l, h => Int.le_refl _
  | x :: xs, l, h => by
    show (if f x l < 0 then -1 else szGo f xs (f x l)) ≤ l
    split
    · omega
    · exact Int.le_trans (szGo_le hf xs _ (by omega)) (hf x l h)
theorem szS_le {α : Type} {f : α → Int → Int} (hf : ∀ x l, 0 ≤ l → f x l ≤ l) (xs : List α) (l : Int) (h : 0 ≤ l) : szS f xs l ≤ l := by
  unfold szS
  split
  · omega
  · exact Int.le_trans (szGo_le hf xs _ (by omega)) (by omega)
theorem szSeqL_le (x : SeqD) (l : Int) (h : 0 ≤ l) : szSeqL x l ≤ l := by unfold szSeqL szL; split <;> omega
theorem sInr_con (n lo hi : Int) : ConC Try.prog 55 [.d (.int .i64 n), .d (.int .i64 lo), .d (.int .i64 hi)] (.d (.bool (rng n lo hi))) := by
  refine con_of (by kernel_rfl) Try.func55 rfl rfl rfl ?_
  simp [AWp_skip, AWp_region_t, AWp_region_d, AWp_region_f, still_mk, AWp_seq, AWp_cond, condV_bool, ↓condG_true, ↓condG_false, condG_true, condG_false, ↓condB_true, ↓condB_false, condB, AWp_block, AWp_exit, AWp_ret, AOps_nil, AOp_move, AOp_assign, AOp_pick, AOp_binOp, AOp_unOp, AOp_convert, AOp_len, AOp_max, AOp_min, AOp_indexAddr, AOp_load, AOp_fieldAddr, AOp_field, AOp_extract, AOp_nilCheck, AOp_build, AOp_alloc, AOp_box, AOp_call, AOp_store, AOp_append, AOp_buildSlice, nextB_some, nextB_none, adoptO, adoptC, AOp_makeSlice, AOp_slice, AOp_makeFunc, AOp_guard, guardD_some, guardG_bool, guardG_undef, nextO_some, nextS_some, nextZ_some, nextL_some, nextM_some, nextT_some, sliceO, sliceL, sliceT, partO, partV, boundV, funcO, pickO, convO, lenO, maxO, minO, idxO, extO, nilO, buildO, litO, litC, makeO, chunks, fillV, placeOf, thenA, inBlockA, St.get, St.put, St.eval, ofCell, evalT, abin_add, abin_sub, abin_mul, abin_quo, abin_rem, abin_and, abin_or, abin_xor, abin_andNot, abin_shl, abin_shr, abin_shlu, abin_eql, abin_neq, abin_lss, abin_leq, abin_gtr, abin_geq, abin_eqlb, abin_neqb, aun, pickV, lenV, intOf?, indexV, takeD, takeV, loadV, fieldAddrV, fieldV, ofX, presD, presDs, pres, presAll, cellsV, V.cell, storeV, freezeC, putAt, kill, takeC, plains, plainV, scalarV, nat_neg, keepT, sets, eSl, e1, e2, e3, e4, eInt, eBool, rng]
  constructor <;> intro h <;> simp [RetA, resVs, resV, gives, give1, give1s, takeC, St.get, h] <;> omega
theorem rng_iff {n lo hi : Int} : rng n lo hi = true ↔ lo ≤ n ∧ n ≤ hi := by simp [rng]
/-- All of a list's elements lie from 0 to n - 1. -/
def belowB (xs : List Int) (n : Int) : Bool := xs.all fun x => rng x 0 (n - 1)
def fullT (n : Int) : Int := if n = 0 then 1 else if n = 1 then 3 else if n = 2 then 15 else if n = 3 then 255 else 65535
def tableOkB (n b : Int) : Bool := rng n 0 4 && rng b 0 (fullT n)
theorem five {n : Int} (h : rng n 0 4 = true) : n = 0 ∨ n = 1 ∨ n = 2 ∨ n = 3 ∨ n = 4 := by have := rng_iff.1 h; omega
theorem tableOk_le {n : Nat} {b : Int} (h : tableOkB n b = true) : n ≤ 4 := by
  simp only [tableOkB, Bool.and_eq_true] at h
  have := rng_iff.1 h.1
  omega
def seqOkB (x : SeqD) : Bool :=
  if x.1 = 0 then rng x.2.1 0 1 && decide (x.2.2.length = 1) else if x.1 = 1 then rng x.2.1 0 31 && decide (x.2.2.length = 4) else false
end Go.Proofs.Ytbmapbbjbdpbcaa
