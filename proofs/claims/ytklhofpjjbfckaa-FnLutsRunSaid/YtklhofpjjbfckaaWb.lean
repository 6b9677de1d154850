/-
  Contracts of the laws' helpers over look-up tables, by abstract walks. Written by mk_vt.py from those over sequential elements.
  Conditions: those typed in each theorem.
-/
import Derived.Test.YtklhofpjjbfckaaV6
import Derived.Test.YtklhofpjjbfckaaNa
namespace Go.Proofs.Ytklhofpjjbfckaa
open Go.RowKit Go.ChangeShapes Go.WideShapes
set_option linter.unusedVariables false
set_option linter.unusedSimpArgs false
abbrev LutD : Type := List Int × Int
def enLut (x : LutD) : List D := e2 (eSl 3 (e1 eInt)) eInt x
end Go.Proofs.Ytklhofpjjbfckaa
/-
  Contracts of the laws' helpers over networks of look-up tables, by abstract walks.
  Conditions: those typed in each theorem.
-/
namespace Go.Proofs.Ytklhofpjjbfckaa
open Go.RowKit Go.ChangeShapes Go.WideShapes
set_option linter.unusedVariables false
set_option linter.unusedSimpArgs false
abbrev NetD : Type := Int × List SeqD × List LutD × List Int
def enNet (s l : TypeId) (x : NetD) : List D := e4 eInt (eSl s enSeq) (eSl l enLut) (eSl 3 (e1 eInt)) x
def fitNet (m : Nat) (x : NetD) : Prop := x.2.1.length ≤ m ∧ (∀ s ∈ x.2.1, s.2.2.length ≤ m) ∧ x.2.2.1.length ≤ m ∧ (∀ s ∈ x.2.2.1, s.1.length ≤ m) ∧ x.2.2.2.length ≤ m
end Go.Proofs.Ytklhofpjjbfckaa
/-
  LutNodes, by abstract walks.
  Conditions: those typed in each theorem.
-/
namespace Go.Proofs.Ytklhofpjjbfckaa
open Go.RowKit Go.ChangeShapes Go.WideShapes
set_option linter.unusedVariables false
set_option linter.unusedSimpArgs false
abbrev inet (x : NetD) : X := .agg (enNet 31 132 x)
theorem iNodes_con (x : NetD) (h1 : 0 ≤ x.1 ∧ x.1 ≤ 20) (h2 : x.2.1.length ≤ 12) (h3 : x.2.2.1.length ≤ 400) :
    ConC Try.prog 154 [inet x] (.d (.int .i64 (1 + x.1 + x.2.1.length + x.2.2.1.length))) := by
  refine con_of (by kernel_rfl) Try.func154 rfl rfl rfl ?_
  have w1 : IntKind.i64.wrap (1 + x.1) = 1 + x.1 := wrap_id (by omega) (by omega)
  have w2 : IntKind.i64.wrap (1 + x.1 + x.2.1.length) = 1 + x.1 + x.2.1.length := wrap_id (by omega) (by omega)
  have w3 : IntKind.i64.wrap (1 + x.1 + x.2.1.length + x.2.2.1.length) = 1 + x.1 + x.2.1.length + x.2.2.1.length := wrap_id (by omega) (by omega)
  simp [AWp_region_f, AWp_seq, AWp_ret, AOps_nil, AOp_assign, AOp_binOp, AOp_len, AOp_load, AOp_fieldAddr, AOp_box, nextO_some, lenO, thenA, St.get, St.put, St.eval, ofCell, evalT, abin_add, lenV, takeV, loadV, fieldAddrV, ofX, cellsV, V.cell, takeC, eSl, e4, eInt, enNet, w1, w2, w3, RetA, resVs, resV, gives, give1, takeC, St.get]
end Go.Proofs.Ytklhofpjjbfckaa
/-
  LutNodes, by abstract walks.
  Conditions: those typed in each theorem.
-/
namespace Go.Proofs.Ytklhofpjjbfckaa
open Go.RowKit Go.ChangeShapes Go.WideShapes
set_option linter.unusedVariables false
set_option linter.unusedSimpArgs false
def nodesL (x : NetD) : Int := if rng x.1 0 20 = true ∧ x.2.1.length ≤ 12 ∧ x.2.2.1.length ≤ 400 ∧ x.2.2.2.length ≤ 16 then 1 + x.1 + x.2.1.length + x.2.2.1.length else 0
theorem iLutNodes_con (x : NetD) : ConC Try.prog 158 [inet x] (.d (.int .i64 (nodesL x))) := by
  refine con_of (by kernel_rfl) Try.func158 rfl rfl rfl ?_
  simp [AWp_region_f, AWp_seq, AOps_nil, AOp_assign, AOp_load, AOp_fieldAddr, AOp_box, AOp_call, nextO_some, thenA, St.get, St.put, St.eval, ofCell, evalT, takeV, loadV, fieldAddrV, ofX, presD, pres, presAll, cellsV, V.cell, eSl, e4, eInt, enNet]
  refine call_step (inr_con _ _ _) ?_
  simp only [afterCall, inst, inst1, instD]
  unfold nodesL
  rcases Bool.eq_false_or_eq_true (rng x.1 0 20) with h1 | h1
  case inr => simp [AWp_region_f, AWp_seq, AWp_cond, condV_bool, ↓condG_false, condG_false, ↓condB_true, AWp_ret, AOps_nil, AOp_move, AOp_assign, AOp_pick, AOp_unOp, AOp_guard, guardD_some, guardG_bool, nextO_some, pickO, thenA, St.get, St.put, St.eval, ofCell, evalT, aun, pickV, takeC, h1, RetA, resVs, resV, gives, give1, takeC, St.get]
  by_cases h2 : x.2.1.length ≤ 12
  case neg => simp [AWp_region_f, AWp_seq, AWp_cond, condV_bool, ↓condG_true, ↓condG_false, condG_true, condG_false, ↓condB_true, AWp_ret, AOps_nil, AOp_move, AOp_assign, AOp_pick, AOp_binOp, AOp_unOp, AOp_len, AOp_load, AOp_fieldAddr, AOp_guard, guardD_some, guardG_bool, nextO_some, pickO, lenO, thenA, St.get, St.put, St.eval, ofCell, evalT, abin_gtr, aun, pickV, lenV, takeV, loadV, fieldAddrV, takeC, h1, h2, show (12 : Int) < x.2.1.length by omega, RetA, resVs, resV, gives, give1, takeC, St.get]
  by_cases h3 : x.2.2.1.length ≤ 400
  case neg => simp [AWp_region_f, AWp_seq, AWp_cond, condV_bool, ↓condG_true, ↓condG_false, condG_true, condG_false, ↓condB_true, AWp_ret, AOps_nil, AOp_move, AOp_assign, AOp_pick, AOp_binOp, AOp_unOp, AOp_len, AOp_load, AOp_fieldAddr, AOp_guard, guardD_some, guardG_bool, nextO_some, pickO, lenO, thenA, St.get, St.put, St.eval, ofCell, evalT, abin_gtr, aun, pickV, lenV, takeV, loadV, fieldAddrV, takeC, h1, h2, h3, show ¬ (12 : Int) < x.2.1.length by omega, show (400 : Int) < x.2.2.1.length by omega, RetA, resVs, resV, gives, give1, takeC, St.get]
  by_cases h4 : x.2.2.2.length ≤ 16
  case neg => simp [AWp_region_f, AWp_seq, AWp_cond, condV_bool, ↓condG_true, condG_true, ↓condB_true, AWp_ret, AOps_nil, AOp_move, AOp_assign, AOp_pick, AOp_binOp, AOp_unOp, AOp_len, AOp_load, AOp_fieldAddr, AOp_guard, guardD_some, guardG_bool, nextO_some, pickO, lenO, thenA, St.get, St.put, St.eval, ofCell, evalT, abin_gtr, aun, pickV, lenV, takeV, loadV, fieldAddrV, takeC, h1, h2, h3, h4, show ¬ (12 : Int) < x.2.1.length by omega, show ¬ (400 : Int) < x.2.2.1.length by omega, show (16 : Int) < x.2.2.2.length by omega, RetA, resVs, resV, gives, give1, takeC, St.get]
  simp [AWp_skip, AWp_region_f, AWp_seq, AWp_cond, condV_bool, ↓condG_true, condG_true, ↓condB_false, AOps_nil, AOp_move, AOp_pick, AOp_binOp, AOp_unOp, AOp_len, AOp_load, AOp_fieldAddr, AOp_call, AOp_guard, guardD_some, guardG_bool, nextO_some, pickO, lenO, thenA, St.get, St.put, St.eval, ofCell, evalT, abin_gtr, aun, pickV, lenV, takeV, loadV, fieldAddrV, presD, presDs, pres, presAll, h1, h2, h3, h4, show ¬ (12 : Int) < x.2.1.length by omega, show ¬ (400 : Int) < x.2.2.1.length by omega, show ¬ (16 : Int) < x.2.2.2.length by omega]
  refine call_step (iNodes_con x (by simpa [rng] using h1) h2 h3) ?_
  simp only [afterCall, inst, inst1, instD]
  simp [AWp_ret, AOps_nil, AOp_assign, thenA, St.get, St.put, St.eval, evalT, takeC, RetA, resVs, resV, gives, give1, takeC, St.get]
end Go.Proofs.Ytklhofpjjbfckaa
/-
  LutNodes and LutNetOk, by abstract walks.
  Conditions: those typed in each theorem.
-/
namespace Go.Proofs.Ytklhofpjjbfckaa
open Go.RowKit Go.ChangeShapes Go.WideShapes
set_option linter.unusedVariables false
set_option linter.unusedSimpArgs false
theorem nodesL_pos {x : NetD} (h : nodesL x ≠ 0) : 0 ≤ x.1 ∧ x.1 ≤ 20 ∧ x.2.1.length ≤ 12 ∧ x.2.2.1.length ≤ 400 ∧ x.2.2.2.length ≤ 16 ∧ nodesL x = 1 + x.1 + x.2.1.length + x.2.2.1.length := by
  unfold nodesL at h ⊢
  split
  · rename_i hc
    have := rng_iff.1 hc.1
    exact ⟨this.1, this.2, hc.2.1, hc.2.2.1, hc.2.2.2, rfl⟩
  · rename_i hc; rw [if_neg hc] at h; exact absurd rfl h
end Go.Proofs.Ytklhofpjjbfckaa
/-
  Tables and sequential elements, by abstract walks.
  Conditions: those typed in each theorem.
-/
namespace Go.Proofs.Ytklhofpjjbfckaa
open Go.RowKit Go.ChangeShapes Go.WideShapes
set_option linter.unusedVariables false
set_option linter.unusedSimpArgs false
end Go.Proofs.Ytklhofpjjbfckaa
