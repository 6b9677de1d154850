/-
  Steps of sequential elements, by abstract walks.
  Conditions: those typed in each theorem.
-/
import Derived.Test.YtklhofpjjbfckaaNa
import Derived.Test.YtklhofpjjbfckaaNd
namespace Go.Proofs.Ytklhofpjjbfckaa
open Go.RowKit Go.ChangeShapes Go.WideShapes
set_option linter.unusedVariables false
set_option linter.unusedSimpArgs false
attribute [local simp ↓] condG_true condG_false condB_true condB_false
attribute [local simp] AWp_skip AWp_region_t AWp_region_d AWp_region_f still_mk AWp_seq AWp_cond condV_bool condB AWp_block AWp_exit AWp_ret
attribute [local simp] AOps_nil AOp_move AOp_assign AOp_pick AOp_binOp AOp_unOp AOp_convert AOp_len AOp_max AOp_min AOp_indexAddr AOp_load
attribute [local simp] AOp_fieldAddr AOp_field AOp_extract AOp_nilCheck AOp_build AOp_alloc AOp_box AOp_call AOp_store AOp_append AOp_buildSlice nextB_some
attribute [local simp] nextB_none adoptO adoptC AOp_makeSlice AOp_slice AOp_makeFunc AOp_guard guardD_some guardG_bool guardG_undef nextO_some nextS_some
attribute [local simp] nextZ_some nextL_some nextM_some nextT_some sliceO sliceL sliceT partO partV boundV funcO pickO
attribute [local simp] convO lenO maxO minO idxO extO nilO buildO litO litC makeO chunks
attribute [local simp] fillV placeOf thenA inBlockA St.get St.put St.eval ofCell evalT abin_add abin_sub abin_mul
attribute [local simp] abin_quo abin_rem abin_and abin_or abin_xor abin_andNot abin_shl abin_shr abin_shlu abin_eql abin_eqp abin_neq
attribute [local simp] abin_lss abin_leq abin_gtr abin_geq abin_eqlb abin_neqb aun pickV lenV intOf? indexV takeD
attribute [local simp] takeV loadV fieldAddrV fieldV ofX presD presDs pres presAll cellsV V.cell storeV
attribute [local simp] freezeC putAt kill takeC plains plainV scalarV nat_neg keepT sets eSl e1
attribute [local simp] e2 e3 e4 eInt eBool afterCall inst inst1 inst1s instD instDs RetA
attribute [local simp] resVs resV gives give1 give1s Le isPin leSlots leS leTmps leV le0
attribute [local simp] le0s ren ren0 renS ren0s frame enterT afterT_some afterC_some lives Slot.live arrsOk
attribute [local simp] viewV view0 renT rens renSs setAll List.range'_succ RetT RetW joinV leT AOpsE_nil
attribute [local simp] AOpsE_cons AOpsT_nil AOpsT_cons isCallT isFnO callOf callVC_fn condC_true condC_false beginT_mk thenT_mk pickE
attribute [local simp] pickT isT loose namesOf namesV names1 names0 stableN sameAt Op.operands Call.operands
end Go.Proofs.Ytklhofpjjbfckaa
/-
  Values of nodes, and numbers of bits; small contracts, by abstract walks.
  Conditions: those typed in each theorem.
-/
namespace Go.Proofs.Ytklhofpjjbfckaa
open Go.RowKit Go.ChangeShapes Go.WideShapes
set_option linter.unusedVariables false
set_option linter.unusedSimpArgs false
attribute [local simp ↓] condG_true condG_false condB_true condB_false
attribute [local simp] AWp_skip AWp_region_t AWp_region_d AWp_region_f still_mk AWp_seq AWp_cond condV_bool condB AWp_block AWp_exit AWp_ret
attribute [local simp] AOps_nil AOp_move AOp_assign AOp_pick AOp_binOp AOp_unOp AOp_convert AOp_len AOp_max AOp_min AOp_indexAddr AOp_load
attribute [local simp] AOp_fieldAddr AOp_field AOp_extract AOp_nilCheck AOp_build AOp_alloc AOp_box AOp_call AOp_store AOp_append AOp_buildSlice nextB_some
attribute [local simp] nextB_none adoptO adoptC AOp_makeSlice AOp_slice AOp_makeFunc AOp_guard guardD_some guardG_bool guardG_undef nextO_some nextS_some
attribute [local simp] nextZ_some nextL_some nextM_some nextT_some sliceO sliceL sliceT partO partV boundV funcO pickO
attribute [local simp] convO lenO maxO minO idxO extO nilO buildO litO litC makeO chunks
attribute [local simp] fillV placeOf thenA inBlockA St.get St.put St.eval ofCell evalT abin_add abin_sub abin_mul
attribute [local simp] abin_quo abin_rem abin_and abin_or abin_xor abin_andNot abin_shl abin_shr abin_shlu abin_eql abin_eqp abin_neq
attribute [local simp] abin_lss abin_leq abin_gtr abin_geq abin_eqlb abin_neqb aun pickV lenV intOf? indexV takeD
attribute [local simp] takeV loadV fieldAddrV fieldV ofX presD presDs pres presAll cellsV V.cell storeV
attribute [local simp] freezeC putAt kill takeC plains plainV scalarV nat_neg keepT sets eSl e1
attribute [local simp] e2 e3 e4 eInt eBool afterCall inst inst1 inst1s instD instDs RetA
attribute [local simp] resVs resV gives give1 give1s Le isPin leSlots leS leTmps leV le0
attribute [local simp] le0s ren ren0 renS ren0s frame enterT afterT_some afterC_some lives Slot.live arrsOk
attribute [local simp] viewV view0 renT rens renSs setAll List.range'_succ RetT RetW joinV leT AOpsE_nil
attribute [local simp] AOpsE_cons AOpsT_nil AOpsT_cons isCallT isFnO callOf callVC_fn condC_true condC_false beginT_mk thenT_mk pickE
attribute [local simp] pickT isT loose namesOf namesV names1 names0 stableN sameAt Op.operands Call.operands
abbrev ints (xs : List Int) : X := .d (eSl 3 (e1 eInt) xs)
def atI (lv : List Int) (k : Int) : Int := (lv[k.toNat]?).getD 0
theorem at_read {lv : List Int} {k : Int} (h : 0 ≤ k ∧ k < lv.length) : lv[k.toNat]? = some (atI lv k) := by
  unfold atI
  rw [List.getElem?_eq_getElem (by omega)]
  rfl
def bitsI (vs : List Int) : Prop := ∀ v ∈ vs, 0 ≤ v ∧ v ≤ 1
/-- The number of the first k bits. -/
def packK (vs : List Int) : Nat → Int
  | 0 => 0
  | k + 1 => packK vs k + (vs[k]?).getD 0 * 2 ^ k
def packL (vs : List Int) : Int := packK vs vs.length
theorem packK_lt {vs : List Int} (h : bitsI vs) : ∀ k, 0 ≤ packK vs k ∧ packK vs k < 2 ^ k
  | 0 => by simp [packK]
  | k + 1 => by
    have ih := packK_lt h k
    have hb : 0 ≤ (vs[k]?).getD 0 ∧ (vs[k]?).getD 0 ≤ 1 := by
      cases hk : vs[k]? with
      | none => simp
      | some v => exact h v (List.mem_of_getElem? hk)
    have hp : (2 : Int) ^ (k + 1) = 2 ^ k * 2 := Int.pow_succ 2 k
    unfold packK
    rcases bit_cases hb with h0 | h0 <;> rw [h0, hp] <;> constructor <;> omega
theorem packK_or {vs : List Int} {v : Int} {k : Nat} (h : bitsI vs) (hx : vs[k]? = some v) (hk : k ≤ 60) : or64 (packK vs k) (shl64 v k) = packK vs (k + 1) := by
  have hv := h v (List.mem_of_getElem? hx)
  rw [shl64_bit hv (by omega), or64_bit (packK_lt h k) hv (by omega)]
  simp [packK, hx]
theorem bitsI_map {α : Type} {f : α → Int} {xs : List α} (h : ∀ x ∈ xs, 0 ≤ f x ∧ f x ≤ 1) : bitsI (xs.map f) := by
  intro v hv
  obtain ⟨x, hx, rfl⟩ := List.mem_map.1 hv
  exact h x hx
/-- A literal's value. -/
def litL (lv : List Int) (l : Int) : Int := (atI lv (l / 2) + l % 2) % 2
theorem litL_01 (lv : List Int) (l : Int) : 0 ≤ litL lv l ∧ litL lv l ≤ 1 := by unfold litL; omega
theorem setI {lv : List Int} {i : Nat} {v : Int} : (lv.map (e1 eInt)).set i [.int .i64 v] = (lv.set i v).map (e1 eInt) := by rw [List.map_set]; rfl
/-- A loop with any states. -/
theorem aw_loopN {P : Program} {m : Mode} {Q : Exit → St → Prop} {c : Code} {T : List V} {sl0 : List Slot} {ι : Type} (mask : List Bool) (I : ι → Prop) (upd : ι → List (Nat × V)) (fsl : ι → List Slot → List Slot) (μ : ι → Nat) (i0 : ι) (h0 : I i0)
    (hle : Le m ⟨T, sl0⟩ ⟨sets (keepT mask T) (upd i0), fsl i0 sl0⟩)
    (hr : ∀ (I' : ι → Prop) (S' : ι → St) (μ' : ι → Nat), (∀ i, I' i ↔ I i) → (∀ i, S' i = ⟨sets (keepT mask T) (upd i), fsl i sl0⟩) → (∀ i, μ' i = μ i) → ∀ i, I i → AWp P m c (thenA (Round m I' S' μ' i) Q) ⟨sets (keepT mask T) (upd i), fsl i sl0⟩) : AWp P m (.loop c) Q ⟨T, sl0⟩ :=
  aw_loop' I (fun i => ⟨sets (keepT mask T) (upd i), fsl i sl0⟩) μ i0 h0 hle hr
/-- A slice variable that begins as nil. -/
def nilR (k s : Nat) : V := if k = 0 then .nil 3 else .ref s
def nilS (k : Nat) (xs : List Int) (sl : List Slot) : List Slot := if k = 0 then sl else sl ++ [.arr 3 true (xs.map (e1 eInt))]
theorem seqOk_len {s : SeqD} (h : seqOkB s = true) : s.2.2.length ≤ 4 := by
  unfold seqOkB at h
  split at h
  · simp at h; omega
  · split at h
    · simp at h; omega
    · cases h
end Go.Proofs.Ytklhofpjjbfckaa
/-
  Values of a graph's nodes; states; a cycle, by abstract walks.
  Conditions: those typed in each theorem.
-/
namespace Go.Proofs.Ytklhofpjjbfckaa
open Go.RowKit Go.ChangeShapes Go.WideShapes
set_option linter.unusedVariables false
set_option linter.unusedSimpArgs false
attribute [local simp ↓] condG_true condG_false condB_true condB_false
attribute [local simp] AWp_skip AWp_region_t AWp_region_d AWp_region_f still_mk AWp_seq AWp_cond condV_bool condB AWp_block AWp_exit AWp_ret
attribute [local simp] AOps_nil AOp_move AOp_assign AOp_pick AOp_binOp AOp_unOp AOp_convert AOp_len AOp_max AOp_min AOp_indexAddr AOp_load
attribute [local simp] AOp_fieldAddr AOp_field AOp_extract AOp_nilCheck AOp_build AOp_alloc AOp_box AOp_call AOp_store AOp_append AOp_buildSlice nextB_some
attribute [local simp] nextB_none adoptO adoptC AOp_makeSlice AOp_slice AOp_makeFunc AOp_guard guardD_some guardG_bool guardG_undef nextO_some nextS_some
attribute [local simp] nextZ_some nextL_some nextM_some nextT_some sliceO sliceL sliceT partO partV boundV funcO pickO
attribute [local simp] convO lenO maxO minO idxO extO nilO buildO litO litC makeO chunks
attribute [local simp] fillV placeOf thenA inBlockA St.get St.put St.eval ofCell evalT abin_add abin_sub abin_mul
attribute [local simp] abin_quo abin_rem abin_and abin_or abin_xor abin_andNot abin_shl abin_shr abin_shlu abin_eql abin_eqp abin_neq
attribute [local simp] abin_lss abin_leq abin_gtr abin_geq abin_eqlb abin_neqb aun pickV lenV intOf? indexV takeD
attribute [local simp] takeV loadV fieldAddrV fieldV ofX presD presDs pres presAll cellsV V.cell storeV
attribute [local simp] freezeC putAt kill takeC plains plainV scalarV nat_neg keepT sets eSl e1
attribute [local simp] e2 e3 e4 eInt eBool afterCall inst inst1 inst1s instD instDs RetA
attribute [local simp] resVs resV gives give1 give1s Le isPin leSlots leS leTmps leV le0
attribute [local simp] le0s ren ren0 renS ren0s frame enterT afterT_some afterC_some lives Slot.live arrsOk
attribute [local simp] viewV view0 renT rens renSs setAll List.range'_succ RetT RetW joinV leT AOpsE_nil
attribute [local simp] AOpsE_cons AOpsT_nil AOpsT_cons isCallT isFnO callOf callVC_fn condC_true condC_false beginT_mk thenT_mk pickE
attribute [local simp] pickT isT loose namesOf namesV names1 names0 stableN sameAt Op.operands Call.operands
def grN (x : GrD) : Nat := 1 + x.1.toNat + x.2.1.length + x.2.2.1.length
/-- What a valid graph's parts obey. -/
theorem netOk_of {x : GrD} (h : netOkB x = true) : (0 ≤ x.1 ∧ x.1 ≤ 20 ∧ x.2.1.length ≤ 12 ∧ x.2.2.1.length ≤ 300 ∧ x.2.2.2.length ≤ 16 ∧ nodesG x = 1 + x.1 + x.2.1.length + x.2.2.1.length) ∧
    (∀ s ∈ x.2.1, seqOkB s = true) ∧ (∀ y ∈ grRoots x, 0 ≤ y ∧ y < 2 * (grN x : Int)) ∧
    ∀ (k : Nat) (a : AndD), x.2.2.1[k]? = some a → (0 ≤ a.1 ∧ a.1 < 2 * (1 + x.1 + x.2.1.length + k)) ∧ 0 ≤ a.2 ∧ a.2 < 2 * (1 + x.1 + x.2.1.length + k) := by
  simp only [netOkB, Bool.and_eq_true, decide_eq_true_eq] at h
  obtain ⟨⟨⟨h1, h2⟩, h3⟩, h4⟩ := h
  have hp := nodesG_pos h1
  refine ⟨hp, List.all_eq_true.1 h2, fun y hy => ?_, fun k a ha => ?_⟩
  · have := rng_iff.1 (List.all_eq_true.1 h3 y hy)
    unfold grN
    omega
  · cases hf : andFits (1 + x.1 + x.2.1.length + k) a with
    | false => rw [andsFit_not ha hf] at h4; cases h4
    | true =>
      simp only [andFits, Bool.and_eq_true] at hf
      have a1 := rng_iff.1 hf.1
      have a2 := rng_iff.1 hf.2
      omega
end Go.Proofs.Ytklhofpjjbfckaa
