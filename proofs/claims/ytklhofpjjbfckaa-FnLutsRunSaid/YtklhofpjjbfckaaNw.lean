/-
  Values of a graph's nodes; states; a cycle, by abstract walks.
  Conditions: those typed in each theorem.
-/
import Derived.Test.YtklhofpjjbfckaaNd
import Derived.Test.YtklhofpjjbfckaaNp
namespace Go.Proofs.Ytklhofpjjbfckaa
open Go.RowKit Go.ChangeShapes Go.WideShapes
set_option linter.unusedVariables false
set_option linter.unusedSimpArgs false
attribute [local simp ↓] condG_true condG_false condB_true condB_false
attribute [local simp] AWp_skip AWp_region_t AWp_region_d AWp_region_f still_mk AWp_seq AWp_cond condV_bool condB AWp_block AWp_exit AWp_ret
attribute [local simp] AOps_nil AOp_move AOp_assign AOp_pick AOp_binOp AOp_unOp AOp_convert AOp_len AOp_max AOp_min AOp_indexAddr AOp_load
attribute [local simp] AOp_fieldAddr AOp_field AOp_extract AOp_nilCheck AOp_build AOp_alloc AOp_box AOp_call AOp_store AOp_append AOp_buildSlice nextB_some
attribute [local simp] nextB_none adoptO adoptC AOp_makeSlice AOp_slice AOp_makeFunc AOp_guard guardD_some guardG_bool guardG_undef nextO_some nextS_some
attribute [local simp] nextZ_some nextL_some nextM_some nextT_some sliceO sliceL sliceT partO partV boundV funcO pickO
attribute [local simp] convO lenO maxO minO idxO extO nilO buildO litO litC makeO chunks
attribute [local simp] fillV placeOf thenA inBlockA St.get St.put St.eval ofCell evalT abin_add abin_sub abin_mul
attribute [local simp] abin_quo abin_rem abin_and abin_or abin_xor abin_andNot abin_shl abin_shr abin_shlu abin_eql abin_eqp abin_neq
attribute [local simp] abin_lss abin_leq abin_gtr abin_geq abin_eqlb abin_neqb aun pickV lenV intOf? indexV takeD
attribute [local simp] takeV loadV fieldAddrV fieldV ofX presD presDs pres presAll cellsV V.cell storeV
attribute [local simp] freezeC putAt kill takeC plains plainV scalarV nat_neg keepT sets eSl e1
attribute [local simp] e2 e3 e4 eInt eBool afterCall inst inst1 inst1s instD instDs RetA
attribute [local simp] resVs resV gives give1 give1s Le isPin leSlots leS leTmps leV le0
attribute [local simp] le0s ren ren0 renS ren0s frame enterT afterT_some afterC_some lives Slot.live arrsOk
attribute [local simp] viewV view0 renT rens renSs setAll List.range'_succ RetT RetW joinV leT AOpsE_nil
attribute [local simp] AOpsE_cons AOpsT_nil AOpsT_cons isCallT isFnO callOf callVC_fn condC_true condC_false beginT_mk thenT_mk pickE
attribute [local simp] pickT isT loose namesOf namesV names1 names0 stableN sameAt Op.operands Call.operands
def anK (v0 : List Int) (f : Nat) (ns : List AndD) : Nat → List Int
  | 0 => v0
  | k + 1 => (anK v0 f ns k).set (f + k) (litL (anK v0 f ns k) ((ns[k]?).getD (0, 0)).1 * litL (anK v0 f ns k) ((ns[k]?).getD (0, 0)).2)
theorem anK_len {v0 : List Int} {f : Nat} {ns : List AndD} : ∀ k, (anK v0 f ns k).length = v0.length
  | 0 => rfl
  | k + 1 => by simp [anK, anK_len k]
theorem anK_bits {v0 : List Int} {f : Nat} {ns : List AndD} (h : bitsI v0) : ∀ k, bitsI (anK v0 f ns k)
  | 0 => h
  | k + 1 => bitsI_set (anK_bits h k) (mul_bit (litL_01 _ _) (litL_01 _ _))
def grN (x : GrD) : Nat := 1 + x.1.toNat + x.2.1.length + x.2.2.1.length
def inV (x : GrD) (inp : Int) : List Int := inK (grN x) inp x.1.toNat
def stV (x : GrD) (st : List Int) (inp : Int) : List Int := stK (inV x inp) (1 + x.1.toNat) st st.length
def valsL (x : GrD) (st : List Int) (inp : Int) : List Int := anK (stV x st inp) (1 + x.1.toNat + x.2.1.length) x.2.2.1 x.2.2.1.length
theorem inV_len {x : GrD} {i : Int} : (inV x i).length = grN x := inK_len _
theorem stV_len {x : GrD} {st : List Int} {i : Int} : (stV x st i).length = grN x := by unfold stV; rw [stK_len, inV_len]
theorem valsL_len {x : GrD} {st : List Int} {i : Int} : (valsL x st i).length = grN x := by unfold valsL; rw [anK_len, stV_len]
theorem inV_bits {x : GrD} {i : Int} : bitsI (inV x i) := inK_bits _
theorem stV_bits {x : GrD} {st : List Int} {i : Int} : bitsI (stV x st i) := stK_bits inV_bits _
theorem valsL_bits {x : GrD} {st : List Int} {i : Int} : bitsI (valsL x st i) := anK_bits stV_bits _
theorem netOk_of {x : GrD} (h : netOkB x = true) : (0 ≤ x.1 ∧ x.1 ≤ 20 ∧ x.2.1.length ≤ 12 ∧ x.2.2.1.length ≤ 300 ∧ x.2.2.2.length ≤ 16 ∧ nodesG x = 1 + x.1 + x.2.1.length + x.2.2.1.length) ∧
    (∀ s ∈ x.2.1, seqOkB s = true) ∧ (∀ y ∈ grRoots x, 0 ≤ y ∧ y < 2 * (grN x : Int)) ∧
    ∀ (k : Nat) (a : AndD), x.2.2.1[k]? = some a → (0 ≤ a.1 ∧ a.1 < 2 * (1 + x.1 + x.2.1.length + k)) ∧ 0 ≤ a.2 ∧ a.2 < 2 * (1 + x.1 + x.2.1.length + k) := by
  simp only [netOkB, Bool.and_eq_true, decide_eq_true_eq] at h
  obtain ⟨⟨⟨h1, h2⟩, h3⟩, h4⟩ := h
  have hp := nodesG_pos h1
  refine ⟨hp, List.all_eq_true.1 h2, fun y hy => ?_, fun k a ha => ?_⟩
  · have := rng_iff.1 (List.all_eq_true.1 h3 y hy)
    unfold grN
    omega
  · cases hf : andFits (1 + x.1 + x.2.1.length + k) a with
    | false => rw [andsFit_not ha hf] at h4; cases h4
    | true =>
      simp only [andFits, Bool.and_eq_true] at hf
      have a1 := rng_iff.1 hf.1
      have a2 := rng_iff.1 hf.2
      omega
end Go.Proofs.Ytklhofpjjbfckaa
/-
  States and cycles of a graph, by abstract walks.
  Conditions: those typed in each theorem.
-/
namespace Go.Proofs.Ytklhofpjjbfckaa
open Go.RowKit Go.ChangeShapes Go.WideShapes
set_option linter.unusedVariables false
set_option linter.unusedSimpArgs false
attribute [local simp ↓] condG_true condG_false condB_true condB_false
attribute [local simp] AWp_skip AWp_region_t AWp_region_d AWp_region_f still_mk AWp_seq AWp_cond condV_bool condB AWp_block AWp_exit AWp_ret
attribute [local simp] AOps_nil AOp_move AOp_assign AOp_pick AOp_binOp AOp_unOp AOp_convert AOp_len AOp_max AOp_min AOp_indexAddr AOp_load
attribute [local simp] AOp_fieldAddr AOp_field AOp_extract AOp_nilCheck AOp_build AOp_alloc AOp_box AOp_call AOp_store AOp_append AOp_buildSlice nextB_some
attribute [local simp] nextB_none adoptO adoptC AOp_makeSlice AOp_slice AOp_makeFunc AOp_guard guardD_some guardG_bool guardG_undef nextO_some nextS_some
attribute [local simp] nextZ_some nextL_some nextM_some nextT_some sliceO sliceL sliceT partO partV boundV funcO pickO
attribute [local simp] convO lenO maxO minO idxO extO nilO buildO litO litC makeO chunks
attribute [local simp] fillV placeOf thenA inBlockA St.get St.put St.eval ofCell evalT abin_add abin_sub abin_mul
attribute [local simp] abin_quo abin_rem abin_and abin_or abin_xor abin_andNot abin_shl abin_shr abin_shlu abin_eql abin_eqp abin_neq
attribute [local simp] abin_lss abin_leq abin_gtr abin_geq abin_eqlb abin_neqb aun pickV lenV intOf? indexV takeD
attribute [local simp] takeV loadV fieldAddrV fieldV ofX presD presDs pres presAll cellsV V.cell storeV
attribute [local simp] freezeC putAt kill takeC plains plainV scalarV nat_neg keepT sets eSl e1
attribute [local simp] e2 e3 e4 eInt eBool afterCall inst inst1 inst1s instD instDs RetA
attribute [local simp] resVs resV gives give1 give1s Le isPin leSlots leS leTmps leV le0
attribute [local simp] le0s ren ren0 renS ren0s frame enterT afterT_some afterC_some lives Slot.live arrsOk
attribute [local simp] viewV view0 renT rens renSs setAll List.range'_succ RetT RetW joinV leT AOpsE_nil
attribute [local simp] AOpsE_cons AOpsT_nil AOpsT_cons isCallT isFnO callOf callVC_fn condC_true condC_false beginT_mk thenT_mk pickE
attribute [local simp] pickT isT loose namesOf namesV names1 names0 stableN sameAt Op.operands Call.operands
def startL (x : GrD) : List Int := x.2.1.map (·.2.1)
theorem sNetStart_con (x : GrD) (hx : fitGr 1048576 x) (hg : okGr x) (hok : netOkB x = true) : ConC Try.prog 47 [igr x] (ints (startL x)) := by
  have hx' := hx
  obtain ⟨f1, f2, f3, f5⟩ := hx'
  have hsl : startL x = (startL x).take x.2.1.length := by rw [List.take_of_length_le (by simp [startL])]
  rw [hsl]
  refine con_of (by kernel_rfl) Try.func47 rfl rfl rfl ?_
  simp [enGr]
  refine call_step (sNetOk_con x hx hg) ?_
  simp [hok]
  refine aw_loopU [false, true, false, true, true, false, false, false, false, false, false, false, false, false, false, false, false, false, false, false, false, false, false, false, false, false, false] (fun k : Nat => k ≤ x.2.1.length) (fun k : Nat => [(3, .ref 1), (4, .d (.int .i64 k))]) (fun k : Nat => [(1, .arr 3 true (((startL x).take k).map (e1 eInt)))]) (fun k : Nat => x.2.1.length - k) 0 ?_ ?_ ?_
  · simp
  · exact ⟨[0, 1], by simp⟩
  rintro I S μ hI hS hμ k hk
  by_cases hlt : k < x.2.1.length
  · have hx1 : x.2.1[k]? = some x.2.1[k] := List.getElem?_eq_getElem hlt
    have hL : (enSeq x.2.1[k]).length = 3 := rfl
    have hnx : (startL x).take (k + 1) = (startL x).take k ++ [x.2.1[k].2.1] := take_snoc' (by simp [startL, hx1])
    have w2 : IntKind.i64.wrap ((k : Int) + 1) = (k : Int) + 1 := wrap_id (by omega) (by omega)
    generalize x.2.1[k] = s at *
    have hd : decide (k < x.2.1.length) = true := decide_eq_true hlt
    simp [hd, hx1, hL, enSeq]
    refine app_data vt_el_26 rfl (by simp) rfl (by simp) (by simp) (by first | (simp; done) | (simp; omega)) (by simp [flatP, flatD]) ?_
    simp [w2]
    exact round_of hI hS hμ (k + 1) (by omega) (by omega) ⟨[0, 3], by simp [hnx]⟩
  · have hk' : k = x.2.1.length := by omega
    subst hk'
    simp [hlt]
end Go.Proofs.Ytklhofpjjbfckaa
