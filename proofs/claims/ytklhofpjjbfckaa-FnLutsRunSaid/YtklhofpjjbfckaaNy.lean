/-
  A cycle of a graph; states by links, by abstract walks.
  Conditions: those typed in each theorem.
-/
import Derived.Test.YtklhofpjjbfckaaNx
namespace Go.Proofs.Ytklhofpjjbfckaa
open Go.RowKit Go.ChangeShapes Go.WideShapes
set_option linter.unusedVariables false
set_option linter.unusedSimpArgs false
attribute [local simp ↓] condG_true condG_false condB_true condB_false
attribute [local simp] AWp_skip AWp_region_t AWp_region_d AWp_region_f still_mk AWp_seq AWp_cond condV_bool condB AWp_block AWp_exit AWp_ret
attribute [local simp] AOps_nil AOp_move AOp_assign AOp_pick AOp_binOp AOp_unOp AOp_convert AOp_len AOp_max AOp_min AOp_indexAddr AOp_load
attribute [local simp] AOp_fieldAddr AOp_field AOp_extract AOp_nilCheck AOp_build AOp_alloc AOp_box AOp_call AOp_store AOp_append AOp_buildSlice nextB_some
attribute [local simp] nextB_none adoptO adoptC AOp_makeSlice AOp_slice AOp_makeFunc AOp_guard guardD_some guardG_bool guardG_undef nextO_some nextS_some
attribute [local simp] nextZ_some nextL_some nextM_some nextT_some sliceO sliceL sliceT partO partV boundV funcO pickO
attribute [local simp] convO lenO maxO minO idxO extO nilO buildO litO litC makeO chunks
attribute [local simp] fillV placeOf thenA inBlockA St.get St.put St.eval ofCell evalT abin_add abin_sub abin_mul
attribute [local simp] abin_quo abin_rem abin_and abin_or abin_xor abin_andNot abin_shl abin_shr abin_shlu abin_eql abin_eqp abin_neq
attribute [local simp] abin_lss abin_leq abin_gtr abin_geq abin_eqlb abin_neqb aun pickV lenV intOf? indexV takeD
attribute [local simp] takeV loadV fieldAddrV fieldV ofX presD presDs pres presAll cellsV V.cell storeV
attribute [local simp] freezeC putAt kill takeC plains plainV scalarV nat_neg keepT sets eSl e1
attribute [local simp] e2 e3 e4 eInt eBool afterCall inst inst1 inst1s instD instDs RetA
attribute [local simp] resVs resV gives give1 give1s Le isPin leSlots leS leTmps leV le0
attribute [local simp] le0s ren ren0 renS ren0s frame enterT afterT_some afterC_some lives Slot.live arrsOk
attribute [local simp] viewV view0 renT rens renSs setAll List.range'_succ RetT RetW joinV leT AOpsE_nil
attribute [local simp] AOpsE_cons AOpsT_nil AOpsT_cons isCallT isFnO callOf callVC_fn condC_true condC_false beginT_mk thenT_mk pickE
attribute [local simp] pickT isT loose namesOf namesV names1 names0 stableN sameAt Op.operands Call.operands
def nxF (vals : List Int) (p : SeqD × Int) : Int := seqNextL p.1.1 p.2 (packL (p.1.2.2.map (litL vals)))
def nxtG (x : GrD) (st vals : List Int) : List Int := (x.2.1.zip st).map (nxF vals)
def outG (x : GrD) (vals : List Int) : Int := packL (x.2.2.2.map (litL vals))
def stepG (x : GrD) (st : List Int) (inp : Int) : List Int × Int := (nxtG x st (valsL x st inp), outG x (valsL x st inp))
theorem litsIn_outs {x : GrD} {vals : List Int} (h : ∀ y ∈ grRoots x, 0 ≤ y ∧ y < 2 * (grN x : Int)) (hl : vals.length = grN x) : litsIn vals x.2.2.2 := fun y hy => by
  rw [hl]
  exact h y (List.mem_append.2 (.inl hy))
theorem litsIn_seq {x : GrD} {vals : List Int} (h : ∀ y ∈ grRoots x, 0 ≤ y ∧ y < 2 * (grN x : Int)) (hl : vals.length = grN x) {s : SeqD} (hs : s ∈ x.2.1) : litsIn vals s.2.2 := fun y hy => by
  rw [hl]
  exact h y (List.mem_append.2 (.inr (List.mem_flatten.2 ⟨s.2.2, List.mem_map_of_mem hs, hy⟩)))
set_option maxRecDepth 100000 in
set_option maxHeartbeats 1000000 in
theorem sNetStep_con (x : GrD) (st : List Int) (inp : Int) (hx : fitGr 1048576 x) (hg : okGr x) (hso : stOkGB x st = true) : ConC Try.prog 50 [igr x, ints st, .d (.int .i64 inp)] (.tup [ints (stepG x st inp).1, .d (.int .i64 (stepG x st inp).2)]) := by
  have hso' := hso
  simp only [stOkGB, Bool.and_eq_true, decide_eq_true_eq] at hso'
  obtain ⟨⟨hok, hs⟩, -⟩ := hso'
  obtain ⟨⟨n1, n2, n3, n4, n5, n6⟩, o1, o2, o3⟩ := netOk_of hok
  have hN : grN x = 1 + x.1.toNat + x.2.1.length + x.2.2.1.length := rfl
  show ConC Try.prog 50 [igr x, ints st, .d (.int .i64 inp)] (.tup [ints (nxtG x st (valsL x st inp)), .d (.int .i64 (outG x (valsL x st inp)))])
  refine con_of (by kernel_rfl) Try.func50 rfl rfl rfl ?_
  simp [enGr]
  refine call_step (sStateOkG_con x st hx hg (by omega)) ?_
  simp [hso]
  refine call_step (sNodeValues_con x st inp hx hg hso) ?_
  simp
  have hvl : (valsL x st inp).length = grN x := valsL_len
  have hvb : bitsI (valsL x st inp) := valsL_bits
  generalize valsL x st inp = vals at *
  have hsl : nxtG x st vals = (nxtG x st vals).take x.2.1.length := by rw [List.take_of_length_le (by simp [nxtG]; omega)]
  rw [hsl]
  refine aw_loopU [false, true, false, true, false, false, false, false, true, true, true, false, false, false, false, false, false, false, false, false, false, false, false, false, false, false, false, false, false, false, false, false, false, false, false, false, false, false, false, false, false, false, false, false, false, false, false, false, false, false, false, false, false, false, false] (fun k : Nat => k ≤ x.2.1.length) (fun k : Nat => [(8, .ref 1), (10, .d (.int .i64 k))]) (fun k : Nat => [(1, .arr 3 true (((nxtG x st vals).take k).map (e1 eInt)))]) (fun k : Nat => x.2.1.length - k) 0 ?_ ?_ ?_
  · simp
  · exact ⟨[0, 1, 2], by simp⟩
  rintro I S μ hI hS hμ k hk
  by_cases hlt : k < x.2.1.length
  · have hx1 : x.2.1[k]? = some x.2.1[k] := List.getElem?_eq_getElem hlt
    have hx2 : st[k]? = some (st[k]'(by omega)) := List.getElem?_eq_getElem _
    have hL : (enSeq x.2.1[k]).length = 3 := rfl
    have hzz : (x.2.1.zip st)[k]? = some (x.2.1[k], st[k]'(by omega)) := by simp [List.getElem?_zip_eq_some]
    have hnx : (nxtG x st vals).take (k + 1) = (nxtG x st vals).take k ++ [nxF vals (x.2.1[k], st[k]'(by omega))] := take_snoc' (by simp only [nxtG, List.getElem?_map, hzz]; rfl)
    have w2 : IntKind.i64.wrap ((k : Int) + 1) = (k : Int) + 1 := wrap_id (by omega) (by omega)
    have hli := litsIn_seq o2 hvl (List.getElem_mem hlt)
    have hl4 := seqOk_len (o1 _ (List.getElem_mem hlt))
    generalize x.2.1[k] = s at *
    generalize st[k]'(by omega) = v at *
    have hd : decide (k < x.2.1.length) = true := decide_eq_true hlt
    have hd' : decide (k < st.length) = true := decide_eq_true (by omega)
    have hf : seqNextL s.1 v (packL (s.2.2.map (litL vals))) = nxF vals (s, v) := rfl
    simp [hd, hd', hx1, hx2, hL, enSeq]
    refine ⟨by kernel_rfl, ?_⟩
    refine call_step (l09Mask_con vals s.2.2 hvb hli (by omega) (by omega)) ?_
    simp
    refine call_step (sSeqNext_con _ _ _) ?_
    simp [hf]
    refine app_data vt_el_26 rfl (by simp) rfl (by simp) (by simp) (by first | (simp; done) | (simp; omega)) (by simp [flatP, flatD]) ?_
    simp [w2]
    exact round_of hI hS hμ (k + 1) (by omega) (by omega) ⟨[0, 4, 2], by simp [hnx]⟩
  · have hk' : k = x.2.1.length := by omega
    subst hk'
    simp [hlt]
    refine call_step (l09Mask_con vals x.2.2.2 hvb (litsIn_outs o2 hvl) n5 (by omega)) ?_
    simp [outG]
end Go.Proofs.Ytklhofpjjbfckaa
