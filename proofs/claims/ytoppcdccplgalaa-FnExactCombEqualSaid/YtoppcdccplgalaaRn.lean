/-
  The net that compares two nets, by an abstract walk: the program.
  Conditions: those typed in each theorem.
-/
import Derived.Test.YtoppcdccplgalaaRk
import Derived.Test.YtoppcdccplgalaaRl
import Derived.Test.YtoppcdccplgalaaRm
namespace Go.Proofs.Ytoppcdccplgalaa
open Go.RowKit Go.ChangeShapes Go.WideShapes
set_option linter.unusedVariables false
set_option linter.unusedSimpArgs false
attribute [local simp ↓] condG_true condG_false condB_true condB_false
attribute [local simp] AWp_skip AWp_region_t AWp_region_d AWp_region_f still_mk AWp_seq AWp_cond condV_bool condB AWp_block AWp_exit AWp_ret
attribute [local simp] AOps_nil AOp_move AOp_assign AOp_pick AOp_binOp AOp_unOp AOp_convert AOp_len AOp_max AOp_min AOp_indexAddr AOp_load
attribute [local simp] AOp_fieldAddr AOp_field AOp_extract AOp_nilCheck AOp_build AOp_alloc AOp_box AOp_call AOp_store AOp_append AOp_buildSlice nextB_some
attribute [local simp] nextB_none adoptO adoptC AOp_makeSlice AOp_slice AOp_makeFunc AOp_guard guardD_some guardG_bool guardG_undef nextO_some nextS_some
attribute [local simp] nextZ_some nextL_some nextM_some nextT_some sliceO sliceL sliceT partO partV boundV funcO pickO
attribute [local simp] convO lenO maxO minO idxO extO nilO buildO litO litC makeO chunks
attribute [local simp] fillV placeOf thenA inBlockA St.get St.put St.eval ofCell evalT abin_add abin_sub abin_mul
attribute [local simp] abin_quo abin_rem abin_and abin_or abin_xor abin_andNot abin_shl abin_shr abin_shlu abin_eql abin_eqp abin_neq
attribute [local simp] abin_lss abin_leq abin_gtr abin_geq abin_eqlb abin_neqb aun pickV lenV intOf? indexV takeD
attribute [local simp] takeV loadV fieldAddrV fieldV ofX presD presDs pres presAll cellsV V.cell storeV
attribute [local simp] freezeC putAt kill takeC plains plainV scalarV nat_neg keepT sets eSl e1
attribute [local simp] e2 e3 e4 eInt eBool afterCall inst inst1 inst1s instD instDs RetA
attribute [local simp] resVs resV gives give1 give1s Le isPin leSlots leS leTmps leV le0
attribute [local simp] le0s ren ren0 renS ren0s frame enterT afterT_some afterC_some lives Slot.live arrsOk
attribute [local simp] viewV view0 renT rens renSs setAll List.range'_succ RetT RetW joinV leT AOpsE_nil
attribute [local simp] AOpsE_cons AOpsT_nil AOpsT_cons isCallT callOf condC_true condC_false beginT_mk thenT_mk pickE pickT isT
attribute [local simp] loose namesOf namesV names1 names0 stableN sameAt Op.operands Call.operands
set_option maxRecDepth 100000 in
set_option maxHeartbeats 4000000 in
theorem comparable_con (a b : GrD) (ha : fitGr 1048576 a) (hb : fitGr 1048576 b) : ConC Try.prog 105 [igr a, igr b] (.d (.bool (compB a b))) := by
  have hB : compB a b = (netOkB a && netOkB b && decide (a.1 = b.1) && decide (a.2.1.length = b.2.1.length) && decide (a.2.2.2.length = b.2.2.2.length) && decide (a.1 + (a.2.1.length : Int) ≤ 20) && (a.2.1.zip b.2.1).all fun p => decide (p.1.1 = p.2.1)) := rfl
  have ka := iNetOk_con a ha
  have kb := iNetOk_con b hb
  generalize compB a b = R at *
  refine con_ofD (by kernel_rfl) Try.func105 rfl rfl rfl ?_
  simp [enGr]
  cases hoa : netOkB a with
  | false =>
    rw [hoa] at ka hB
    simp only [Bool.false_and] at hB
    refine call_step (ka) ?_
    simp [enGr, hB]
  | true =>
  rw [hoa] at ka hB
  simp only [Bool.true_and] at hB
  obtain ⟨⟨n1, n2, n3, n4, n5, n6⟩, -, -, -⟩ := netOk_of hoa
  refine call_step (ka) ?_
  simp [enGr]
  cases hob : netOkB b with
  | false =>
    rw [hob] at kb hB
    simp only [Bool.false_and] at hB
    refine call_step (kb) ?_
    simp [enGr, hB]
  | true =>
  rw [hob] at kb hB
  simp only [Bool.true_and] at hB
  obtain ⟨⟨m1, m2, m3, m4, m5, m6⟩, -, -, -⟩ := netOk_of hob
  by_cases h1 : a.1 = b.1
  case neg =>
    rw [decide_eq_false h1] at hB
    simp only [Bool.false_and] at hB
    refine call_step (kb) ?_
    simp [enGr, hB, h1, show (a.1 != b.1) = true by simpa using h1]
  rw [decide_eq_true h1] at hB
  simp only [Bool.true_and] at hB
  by_cases h2 : a.2.1.length = b.2.1.length
  case neg =>
    rw [decide_eq_false h2] at hB
    simp only [Bool.false_and] at hB
    refine call_step (kb) ?_
    simp [enGr, hB, h1, h2, show ((a.2.1.length : Int) != (b.2.1.length : Int)) = true by simpa using (by omega : ¬ (a.2.1.length : Int) = b.2.1.length)]
  rw [decide_eq_true h2] at hB
  simp only [Bool.true_and] at hB
  by_cases h3 : a.2.2.2.length = b.2.2.2.length
  case neg =>
    rw [decide_eq_false h3] at hB
    simp only [Bool.false_and] at hB
    refine call_step (kb) ?_
    simp [enGr, hB, h1, h2, h3, show ((a.2.2.2.length : Int) != (b.2.2.2.length : Int)) = true by simpa using (by omega : ¬ (a.2.2.2.length : Int) = b.2.2.2.length)]
  rw [decide_eq_true h3] at hB
  simp only [Bool.true_and] at hB
  have w1 : IntKind.i64.wrap (b.1 + (b.2.1.length : Int)) = b.1 + b.2.1.length := wrap_id (by omega) (by omega)
  by_cases h4 : a.1 + (a.2.1.length : Int) ≤ 20
  case neg =>
    rw [decide_eq_false h4] at hB
    simp only [Bool.false_and] at hB
    refine call_step (kb) ?_
    simp [enGr, hB, h1, h2, h3, w1, show (20 : Int) < b.1 + b.2.1.length by omega, show ¬ b.1 + (b.2.1.length : Int) ≤ 20 by omega]
  rw [decide_eq_true h4] at hB
  simp only [Bool.true_and] at hB
  refine call_step (kb) ?_
  simp [enGr, h1, h2, h3, w1, show ¬ (20 : Int) < b.1 + b.2.1.length by omega, show b.1 + (b.2.1.length : Int) ≤ 20 by omega]
  obtain ⟨zs, hzs⟩ : ∃ zs, a.2.1.zip b.2.1 = zs := ⟨_, rfl⟩
  rw [hzs] at hB
  have hzl : zs.length = b.2.1.length := by rw [← hzs]; simp; omega
  refine aw_loopU [false, false, true, true, false, false, false, false, false, false, false, false, false, false, false, false, false, false, false, false, false, false, false, false, false, false, false, false, false, false, false, false, false, false, false, false, false, false, false, false, false, false, false, false, false, false, false, false, false, false, true, true, false, false, false, false, false, false, false, false, false, false, false, false, false, false, false, false] (fun i : Nat => i ≤ zs.length ∧ ((zs.take i).all fun p => decide (p.1.1 = p.2.1)) = true) (fun i : Nat => [(51, .d (.int .i64 i))]) (fun i : Nat => []) (fun i : Nat => zs.length - i) 0 ?_ ?_ ?_
  · exact ⟨Nat.zero_le _, rfl⟩
  · exact ⟨[0, 1], by simp⟩
  rintro I S μ hI hS hμ i ⟨hi, hal⟩
  by_cases hlt : i < zs.length
  · have hz1 : zs[i]? = some zs[i] := List.getElem?_eq_getElem hlt
    have hsn := all_snoc' (p := fun p : SeqD × SeqD => decide (p.1.1 = p.2.1)) hz1
    rw [hal, Bool.true_and] at hsn
    have hno : decide ((zs[i]).1.1 = (zs[i]).2.1) = false → (zs.all fun p => decide (p.1.1 = p.2.1)) = false := fun h => by
      rw [List.all_eq_false]
      exact ⟨_, List.mem_of_getElem? hz1, by simpa using h⟩
    have hz2 : (a.2.1.zip b.2.1)[i]? = some zs[i] := (congrArg (fun q : List (SeqD × SeqD) => q[i]?) hzs).trans hz1
    rw [List.getElem?_zip_eq_some] at hz2
    obtain ⟨z1, z2⟩ := hz2
    have w2 : IntKind.i64.wrap ((i : Int) + 1) = (i : Int) + 1 := wrap_id (by omega) (by omega)
    generalize zs[i] = z at *
    obtain ⟨sa, sb⟩ := z
    simp only at z1 z2 hsn hno
    have hLa : (enSeq sa).length = 3 := rfl
    have hLb : (enSeq sb).length = 3 := rfl
    have hd : decide (i < b.2.1.length) = true := decide_eq_true (by omega)
    by_cases hk : sa.1 = sb.1
    · rw [decide_eq_true hk] at hsn
      simp [h2, hd]
      refine drawD_of 13 (by kernel_rfl) ?_
      simp [z1, z2, hLa, hLb, enSeq, hk, w2]
      exact round_of hI hS hμ (i + 1) ⟨by omega, hsn⟩ (by omega) ⟨[0, 1], by simp⟩
    · rw [hno (decide_eq_false hk)] at hB
      simp [h2, hd]
      refine drawD_of 13 (by kernel_rfl) ?_
      simp [z1, z2, hLa, hLb, enSeq, hk, show (sa.1 != sb.1) = true by simpa using hk, hB]
  · obtain rfl : i = zs.length := by omega
    rw [List.take_length] at hal
    rw [hal] at hB
    simp [h2, hzl, hB]
end Go.Proofs.Ytoppcdccplgalaa
