/-
  Values of a graph's nodes; states; a cycle, by abstract walks.
  Conditions: those typed in each theorem.
-/
import Derived.Test.YtojhjcgalmaljaaNd
import Derived.Test.YtojhjcgalmaljaaNp
namespace Go.Proofs.Ytojhjcgalmaljaa
open Go.RowKit Go.ChangeShapes Go.WideShapes
set_option linter.unusedVariables false
set_option linter.unusedSimpArgs false
attribute [local simp ↓] condG_true condG_false condB_true condB_false
attribute [local simp] AWp_skip AWp_region_t AWp_region_d AWp_region_f still_mk AWp_seq AWp_cond condV_bool condB AWp_block AWp_exit AWp_ret
attribute [local simp] AOps_nil AOp_move AOp_assign AOp_pick AOp_binOp AOp_unOp AOp_convert AOp_len AOp_max AOp_min AOp_indexAddr AOp_load
attribute [local simp] AOp_fieldAddr AOp_field AOp_extract AOp_nilCheck AOp_build AOp_alloc AOp_box AOp_call AOp_store AOp_append AOp_buildSlice AOp_makeSlice
attribute [local simp] AOp_slice AOp_makeFunc AOp_guard guardD_some guardG_bool guardG_undef nextO_some nextS_some nextZ_some nextL_some nextM_some nextT_some
attribute [local simp] sliceO sliceL sliceT partO partV boundV funcO pickO convO lenO maxO minO
attribute [local simp] idxO extO nilO buildO litO litC makeO chunks fillV placeOf thenA inBlockA
attribute [local simp] St.get St.put St.eval ofCell evalT abin_add abin_sub abin_mul abin_quo abin_rem abin_and abin_or
attribute [local simp] abin_xor abin_andNot abin_shl abin_shr abin_shlu abin_eql abin_neq abin_lss abin_leq abin_gtr abin_geq abin_eqlb
attribute [local simp] abin_neqb aun pickV lenV intOf? indexV takeD takeV loadV fieldAddrV fieldV ofX
attribute [local simp] presD presDs pres presAll cellsV V.cell storeV freezeC putAt kill takeC plains
attribute [local simp] plainV scalarV nat_neg keepT sets eSl e1 e2 e3 e4 eInt eBool
attribute [local simp] afterCall inst inst1 inst1s instD instDs RetA resVs resV gives give1 give1s
attribute [local simp] Le isPin leSlots leS leTmps leV le0 le0s ren ren0 renS ren0s
attribute [local simp] frame enterT afterT_some lives Slot.live arrsOk viewV view0 renT rens renSs setAll
attribute [local simp] List.range'_succ RetT RetW joinV leT
def anK (v0 : List Int) (f : Nat) (ns : List AndD) : Nat → List Int
  | 0 => v0
  | k + 1 => (anK v0 f ns k).set (f + k) (litL (anK v0 f ns k) ((ns[k]?).getD (0, 0)).1 * litL (anK v0 f ns k) ((ns[k]?).getD (0, 0)).2)
theorem anK_len {v0 : List Int} {f : Nat} {ns : List AndD} : ∀ k, (anK v0 f ns k).length = v0.length
  | 0 => rfl
  | k + 1 => by simp [anK, anK_len k]
theorem anK_bits {v0 : List Int} {f : Nat} {ns : List AndD} (h : bitsI v0) : ∀ k, bitsI (anK v0 f ns k)
  | 0 => h
  | k + 1 => bitsI_set (anK_bits h k) (mul_bit (litL_01 _ _) (litL_01 _ _))
def grN (x : GrD) : Nat := 1 + x.1.toNat + x.2.1.length + x.2.2.1.length
def inV (x : GrD) (inp : Int) : List Int := inK (grN x) inp x.1.toNat
def stV (x : GrD) (st : List Int) (inp : Int) : List Int := stK (inV x inp) (1 + x.1.toNat) st st.length
def valsL (x : GrD) (st : List Int) (inp : Int) : List Int := anK (stV x st inp) (1 + x.1.toNat + x.2.1.length) x.2.2.1 x.2.2.1.length
theorem inV_len {x : GrD} {i : Int} : (inV x i).length = grN x := inK_len _
theorem stV_len {x : GrD} {st : List Int} {i : Int} : (stV x st i).length = grN x := by unfold stV; rw [stK_len, inV_len]
theorem valsL_len {x : GrD} {st : List Int} {i : Int} : (valsL x st i).length = grN x := by unfold valsL; rw [anK_len, stV_len]
theorem inV_bits {x : GrD} {i : Int} : bitsI (inV x i) := inK_bits _
theorem stV_bits {x : GrD} {st : List Int} {i : Int} : bitsI (stV x st i) := stK_bits inV_bits _
theorem valsL_bits {x : GrD} {st : List Int} {i : Int} : bitsI (valsL x st i) := anK_bits stV_bits _
/-- What a valid graph's parts obey. -/
theorem netOk_of {x : GrD} (h : netOkB x = true) : (0 ≤ x.1 ∧ x.1 ≤ 20 ∧ x.2.1.length ≤ 12 ∧ x.2.2.1.length ≤ 300 ∧ x.2.2.2.length ≤ 16 ∧ nodesG x = 1 + x.1 + x.2.1.length + x.2.2.1.length) ∧
    (∀ s ∈ x.2.1, seqOkB s = true) ∧ (∀ y ∈ grRoots x, 0 ≤ y ∧ y < 2 * (grN x : Int)) ∧
    ∀ (k : Nat) (a : AndD), x.2.2.1[k]? = some a → (0 ≤ a.1 ∧ a.1 < 2 * (1 + x.1 + x.2.1.length + k)) ∧ 0 ≤ a.2 ∧ a.2 < 2 * (1 + x.1 + x.2.1.length + k) := by
  simp only [netOkB, Bool.and_eq_true, decide_eq_true_eq] at h
  obtain ⟨⟨⟨h1, h2⟩, h3⟩, h4⟩ := h
  have hp := nodesG_pos h1
  refine ⟨hp, List.all_eq_true.1 h2, fun y hy => ?_, fun k a ha => ?_⟩
  · have := rng_iff.1 (List.all_eq_true.1 h3 y hy)
    unfold grN
    omega
  · cases hf : andFits (1 + x.1 + x.2.1.length + k) a with
    | false => rw [andsFit_not ha hf] at h4; cases h4
    | true =>
      simp only [andFits, Bool.and_eq_true] at hf
      have a1 := rng_iff.1 hf.1
      have a2 := rng_iff.1 hf.2
      omega
end Go.Proofs.Ytojhjcgalmaljaa
