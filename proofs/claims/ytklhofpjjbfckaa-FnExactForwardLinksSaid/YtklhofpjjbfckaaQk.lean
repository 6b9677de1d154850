/-
  Contracts of the laws' helpers over formulas, by abstract walks.
  Conditions: those typed in each theorem.
-/
import Derived.Test.YtklhofpjjbfckaaNi
import Derived.Test.YtklhofpjjbfckaaQa
namespace Go.Proofs.Ytklhofpjjbfckaa
open Go.RowKit Go.ChangeShapes Go.WideShapes
set_option linter.unusedVariables false
set_option linter.unusedSimpArgs false
attribute [local simp ↓] condG_true condG_false condB_true condB_false
attribute [local simp] AWp_skip AWp_region_t AWp_region_d AWp_region_f still_mk AWp_seq AWp_cond condV_bool condB AWp_block AWp_exit AWp_ret
attribute [local simp] AOps_nil AOp_move AOp_assign AOp_pick AOp_binOp AOp_unOp AOp_convert AOp_len AOp_max AOp_min AOp_indexAddr AOp_load
attribute [local simp] AOp_fieldAddr AOp_field AOp_extract AOp_nilCheck AOp_build AOp_alloc AOp_box AOp_call AOp_store AOp_append AOp_buildSlice nextB_some
attribute [local simp] nextB_none adoptO adoptC AOp_makeSlice AOp_slice AOp_makeFunc AOp_guard guardD_some guardG_bool guardG_undef nextO_some nextS_some
attribute [local simp] nextZ_some nextL_some nextM_some nextT_some sliceO sliceL sliceT partO partV boundV funcO pickO
attribute [local simp] convO lenO maxO minO idxO extO nilO buildO litO litC makeO chunks
attribute [local simp] fillV placeOf thenA inBlockA St.get St.put St.eval ofCell evalT abin_add abin_sub abin_mul
attribute [local simp] abin_quo abin_rem abin_and abin_or abin_xor abin_andNot abin_shl abin_shr abin_shlu abin_eql abin_eqp abin_neq
attribute [local simp] abin_lss abin_leq abin_gtr abin_geq abin_eqlb abin_neqb aun pickV lenV intOf? indexV takeD
attribute [local simp] takeV loadV fieldAddrV fieldV ofX presD presDs pres presAll cellsV V.cell storeV
attribute [local simp] freezeC putAt kill takeC plains plainV scalarV nat_neg keepT sets eSl e1
attribute [local simp] e2 e3 e4 eInt eBool afterCall inst inst1 inst1s instD instDs RetA
attribute [local simp] resVs resV gives give1 give1s Le isPin leSlots leS leTmps leV le0
attribute [local simp] le0s ren ren0 renS ren0s frame enterT afterT_some afterC_some lives Slot.live arrsOk
attribute [local simp] viewV view0 renT rens renSs setAll List.range'_succ RetT RetW joinV leT AOpsE_nil
attribute [local simp] AOpsE_cons AOpsT_nil AOpsT_cons isCallT isFnO callOf callVC_fn condC_true condC_false beginT_mk thenT_mk pickE
attribute [local simp] pickT isT loose namesOf namesV names1 names0 stableN sameAt Op.operands Call.operands
abbrev CnfD : Type := Int × List RowD
def enCnf (x : CnfD) : List D := e2 eInt (eSl 26 enRow) x
abbrev icnf (x : CnfD) : X := .agg (enCnf x)
def fitCn (m : Nat) (x : CnfD) : Prop := fitRw m x.2
def szCnfL (x : CnfD) (l : Int) : Int := szS szRowL x.2 l
theorem szS_or {α : Type} {f : α → Int → Int} (hf : ∀ x l, 0 ≤ l → f x l ≤ l) (xs : List α) (l : Int) (h : 0 ≤ l) : szS f xs l = -1 ∨ 0 ≤ szS f xs l := by
  have go : ∀ (xs : List α) (l : Int), 0 ≤ l → szGo f xs l = -1 ∨ 0 ≤ szGo f xs l := by
    intro xs
    induction xs with
    | nil => intro l h; exact .inr h
    | cons x xs ih =>
      intro l h
      show (if f x l < 0 then -1 else szGo f xs (f x l)) = -1 ∨ 0 ≤ (if f x l < 0 then -1 else szGo f xs (f x l))
      split
      · exact .inl rfl
      · exact ih _ (by omega)
  unfold szS
  split
  · exact .inl rfl
  · exact go xs _ (by omega)
theorem fitCn_of {w : World} {G : Nat → Prop} {x : CnfD} {v : Value} (h : XRd w G (icnf x) v) : fitCn 9223372036854775807 x := by
  cases h with
  | agg h =>
    obtain ⟨v, _, hr⟩ := h.2.2 1 (eSl 26 enRow x.2) rfl
    exact fitRw_of hr
end Go.Proofs.Ytklhofpjjbfckaa
