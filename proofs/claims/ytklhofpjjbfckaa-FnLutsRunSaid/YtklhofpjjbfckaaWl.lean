/-
  Places of a net's nodes, by abstract walks: the program.
  Conditions: those typed in each theorem.
-/
import Derived.Test.YtklhofpjjbfckaaRa
import Derived.Test.YtklhofpjjbfckaaNp
import Derived.Test.YtklhofpjjbfckaaWi
namespace Go.Proofs.Ytklhofpjjbfckaa
open Go.RowKit Go.ChangeShapes Go.WideShapes
set_option linter.unusedVariables false
set_option linter.unusedSimpArgs false
attribute [local simp ↓] condG_true condG_false condB_true condB_false
attribute [local simp] AWp_skip AWp_region_t AWp_region_d AWp_region_f still_mk AWp_seq AWp_cond condV_bool condB AWp_block AWp_exit AWp_ret
attribute [local simp] AOps_nil AOp_move AOp_assign AOp_pick AOp_binOp AOp_unOp AOp_convert AOp_len AOp_max AOp_min AOp_indexAddr AOp_load
attribute [local simp] AOp_fieldAddr AOp_field AOp_extract AOp_nilCheck AOp_build AOp_alloc AOp_box AOp_call AOp_store AOp_append AOp_buildSlice nextB_some
attribute [local simp] nextB_none adoptO adoptC AOp_makeSlice AOp_slice AOp_makeFunc AOp_guard guardD_some guardG_bool guardG_undef nextO_some nextS_some
attribute [local simp] nextZ_some nextL_some nextM_some nextT_some sliceO sliceL sliceT partO partV boundV funcO pickO
attribute [local simp] convO lenO maxO minO idxO extO nilO buildO litO litC makeO chunks
attribute [local simp] fillV placeOf thenA inBlockA St.get St.put St.eval ofCell evalT abin_add abin_sub abin_mul
attribute [local simp] abin_quo abin_rem abin_and abin_or abin_xor abin_andNot abin_shl abin_shr abin_shlu abin_eql abin_eqp abin_neq
attribute [local simp] abin_lss abin_leq abin_gtr abin_geq abin_eqlb abin_neqb aun pickV lenV intOf? indexV takeD
attribute [local simp] takeV loadV fieldAddrV fieldV ofX presD presDs pres presAll cellsV V.cell storeV
attribute [local simp] freezeC putAt kill takeC plains plainV scalarV nat_neg keepT sets eSl e1
attribute [local simp] e2 e3 e4 eInt eBool afterCall inst inst1 inst1s instD instDs RetA
attribute [local simp] resVs resV gives give1 give1s Le isPin leSlots leS leTmps leV le0
attribute [local simp] le0s ren ren0 renS ren0s frame enterT afterT_some afterC_some lives Slot.live arrsOk
attribute [local simp] viewV view0 renT rens renSs setAll List.range'_succ RetT RetW joinV leT AOpsE_nil
attribute [local simp] AOpsE_cons AOpsT_nil AOpsT_cons isCallT isFnO callOf callVC_fn condC_true condC_false beginT_mk thenT_mk pickE
attribute [local simp] pickT isT loose namesOf namesV names1 names0 stableN sameAt Op.operands Call.operands
end Go.Proofs.Ytklhofpjjbfckaa
/-
  A cycle of a network of look-up tables; runs, by abstract walks.
  Conditions: those typed in each theorem.
-/
namespace Go.Proofs.Ytklhofpjjbfckaa
open Go.RowKit Go.ChangeShapes Go.WideShapes
set_option linter.unusedVariables false
set_option linter.unusedSimpArgs false
attribute [local simp ↓] condG_true condG_false condB_true condB_false
attribute [local simp] AWp_skip AWp_region_t AWp_region_d AWp_region_f still_mk AWp_seq AWp_cond condV_bool condB AWp_block AWp_exit AWp_ret
attribute [local simp] AOps_nil AOp_move AOp_assign AOp_pick AOp_binOp AOp_unOp AOp_convert AOp_len AOp_max AOp_min AOp_indexAddr AOp_load
attribute [local simp] AOp_fieldAddr AOp_field AOp_extract AOp_nilCheck AOp_build AOp_alloc AOp_box AOp_call AOp_store AOp_append AOp_buildSlice nextB_some
attribute [local simp] nextB_none adoptO adoptC AOp_makeSlice AOp_slice AOp_makeFunc AOp_guard guardD_some guardG_bool guardG_undef nextO_some nextS_some
attribute [local simp] nextZ_some nextL_some nextM_some nextT_some sliceO sliceL sliceT partO partV boundV funcO pickO
attribute [local simp] convO lenO maxO minO idxO extO nilO buildO litO litC makeO chunks
attribute [local simp] fillV placeOf thenA inBlockA St.get St.put St.eval ofCell evalT abin_add abin_sub abin_mul
attribute [local simp] abin_quo abin_rem abin_and abin_or abin_xor abin_andNot abin_shl abin_shr abin_shlu abin_eql abin_eqp abin_neq
attribute [local simp] abin_lss abin_leq abin_gtr abin_geq abin_eqlb abin_neqb aun pickV lenV intOf? indexV takeD
attribute [local simp] takeV loadV fieldAddrV fieldV ofX presD presDs pres presAll cellsV V.cell storeV
attribute [local simp] freezeC putAt kill takeC plains plainV scalarV nat_neg keepT sets eSl e1
attribute [local simp] e2 e3 e4 eInt eBool afterCall inst inst1 inst1s instD instDs RetA
attribute [local simp] resVs resV gives give1 give1s Le isPin leSlots leS leTmps leV le0
attribute [local simp] le0s ren ren0 renS ren0s frame enterT afterT_some afterC_some lives Slot.live arrsOk
attribute [local simp] viewV view0 renT rens renSs setAll List.range'_succ RetT RetW joinV leT AOpsE_nil
attribute [local simp] AOpsE_cons AOpsT_nil AOpsT_cons isCallT isFnO callOf callVC_fn condC_true condC_false beginT_mk thenT_mk pickE
attribute [local simp] pickT isT loose namesOf namesV names1 names0 stableN sameAt Op.operands Call.operands
end Go.Proofs.Ytklhofpjjbfckaa
/-
  Cycles of networks of look-up tables, by abstract walks.
  Conditions: those typed in each theorem.
-/
namespace Go.Proofs.Ytklhofpjjbfckaa
open Go.RowKit Go.ChangeShapes Go.WideShapes
set_option linter.unusedVariables false
set_option linter.unusedSimpArgs false
attribute [local simp ↓] condG_true condG_false condB_true condB_false
attribute [local simp] AWp_skip AWp_region_t AWp_region_d AWp_region_f still_mk AWp_seq AWp_cond condV_bool condB AWp_block AWp_exit AWp_ret
attribute [local simp] AOps_nil AOp_move AOp_assign AOp_pick AOp_binOp AOp_unOp AOp_convert AOp_len AOp_max AOp_min AOp_indexAddr AOp_load
attribute [local simp] AOp_fieldAddr AOp_field AOp_extract AOp_nilCheck AOp_build AOp_alloc AOp_box AOp_call AOp_store AOp_append AOp_buildSlice nextB_some
attribute [local simp] nextB_none adoptO adoptC AOp_makeSlice AOp_slice AOp_makeFunc AOp_guard guardD_some guardG_bool guardG_undef nextO_some nextS_some
attribute [local simp] nextZ_some nextL_some nextM_some nextT_some sliceO sliceL sliceT partO partV boundV funcO pickO
attribute [local simp] convO lenO maxO minO idxO extO nilO buildO litO litC makeO chunks
attribute [local simp] fillV placeOf thenA inBlockA St.get St.put St.eval ofCell evalT abin_add abin_sub abin_mul
attribute [local simp] abin_quo abin_rem abin_and abin_or abin_xor abin_andNot abin_shl abin_shr abin_shlu abin_eql abin_eqp abin_neq
attribute [local simp] abin_lss abin_leq abin_gtr abin_geq abin_eqlb abin_neqb aun pickV lenV intOf? indexV takeD
attribute [local simp] takeV loadV fieldAddrV fieldV ofX presD presDs pres presAll cellsV V.cell storeV
attribute [local simp] freezeC putAt kill takeC plains plainV scalarV nat_neg keepT sets eSl e1
attribute [local simp] e2 e3 e4 eInt eBool afterCall inst inst1 inst1s instD instDs RetA
attribute [local simp] resVs resV gives give1 give1s Le isPin leSlots leS leTmps leV le0
attribute [local simp] le0s ren ren0 renS ren0s frame enterT afterT_some afterC_some lives Slot.live arrsOk
attribute [local simp] viewV view0 renT rens renSs setAll List.range'_succ RetT RetW joinV leT AOpsE_nil
attribute [local simp] AOpsE_cons AOpsT_nil AOpsT_cons isCallT isFnO callOf callVC_fn condC_true condC_false beginT_mk thenT_mk pickE
attribute [local simp] pickT isT loose namesOf namesV names1 names0 stableN sameAt Op.operands Call.operands
def nxUF (vals : List Int) (p : SeqD × Int) : Int := seqNextL p.1.1 p.2 (packL (p.1.2.2.map (atI vals)))
def nxtU (x : NetD) (st vals : List Int) : List Int := (x.2.1.zip st).map (nxUF vals)
def outU (x : NetD) (vals : List Int) : Int := packL (x.2.2.2.map (atI vals))
def stepU (x : NetD) (st : List Int) (inp : Int) : List Int × Int := (nxtU x st (valsU x st inp), outU x (valsU x st inp))
def startU (x : NetD) : List Int := x.2.1.map (·.2.1)
set_option maxRecDepth 100000 in
set_option maxHeartbeats 1000000 in
theorem lutStep_con (x : NetD) (st : List Int) (inp : Int) (hx : fitNet 1048576 x) (hok : lutNetOkB x = true) (hs : st.length = x.2.1.length) : ConC Try.prog 161 [inet x, ints st, .d (.int .i64 inp)] (.tup [ints (stepU x st inp).1, .d (.int .i64 (stepU x st inp).2)]) := by
  obtain ⟨⟨n1, n2, n3, n4, n5, n6⟩, o1, o2, o3⟩ := lutOk_of hok
  have hN : luN x = 1 + x.1.toNat + x.2.1.length + x.2.2.1.length := rfl
  show ConC Try.prog 161 [inet x, ints st, .d (.int .i64 inp)] (.tup [ints (nxtU x st (valsU x st inp)), .d (.int .i64 (outU x (valsU x st inp)))])
  refine con_of (by kernel_rfl) Try.func161 rfl rfl rfl ?_
  simp [enNet]
  refine call_step (lutValues_con x st inp hx hok hs) ?_
  simp
  have hvl : (valsU x st inp).length = luN x := valsU_len
  have hvb : bitsI (valsU x st inp) := valsU_bits
  generalize valsU x st inp = vals at *
  have hsl : nxtU x st vals = (nxtU x st vals).take x.2.1.length := by rw [List.take_of_length_le (by simp [nxtU]; omega)]
  rw [hsl]
  refine aw_loopN [false, true, false, true, false, false, false, false, true, true, false, false, false, false, false, false, false, true, true, true, false, false, false, false, false, false, false, false, false, false, false, false, false, false, false, false, false, false, false, false, false, false, false, false] (fun k : Nat => k ≤ x.2.1.length) (fun k : Nat => [(9, nilR k 2), (19, .d (.int .i64 k))]) (fun k : Nat => nilS k ((nxtU x st vals).take k)) (fun k : Nat => x.2.1.length - k) 0 ?_ ?_ ?_
  · simp
  · exact ⟨[0, 1], by simp [nilR, nilS]⟩
  rintro I S μ hI hS hμ k hk
  by_cases hlt : k < x.2.1.length
  · have hx1 : x.2.1[k]? = some x.2.1[k] := List.getElem?_eq_getElem hlt
    have hx2 : st[k]? = some (st[k]'(by omega)) := List.getElem?_eq_getElem _
    have hL : (enSeq x.2.1[k]).length = 3 := rfl
    have hzz : (x.2.1.zip st)[k]? = some (x.2.1[k], st[k]'(by omega)) := by simp [List.getElem?_zip_eq_some]
    have hnx : (nxtU x st vals).take (k + 1) = (nxtU x st vals).take k ++ [nxUF vals (x.2.1[k], st[k]'(by omega))] := take_snoc' (by simp only [nxtU, List.getElem?_map, hzz]; rfl)
    have w2 : IntKind.i64.wrap ((k : Int) + 1) = (k : Int) + 1 := wrap_id (by omega) (by omega)
    have hli : nodesIn vals x.2.1[k].2.2 := fun y hy => by have := (o2 _ (List.getElem_mem hlt)).2 y hy; omega
    have hl4 := seqOk_len (o2 _ (List.getElem_mem hlt)).1
    generalize x.2.1[k] = s at *
    generalize st[k]'(by omega) = v at *
    have hd : decide (k < x.2.1.length) = true := decide_eq_true hlt
    have hd' : decide (k < st.length) = true := decide_eq_true (by omega)
    have hf : seqNextL s.1 v (packL (s.2.2.map (atI vals))) = nxUF vals (s, v) := rfl
    by_cases hk0 : k = 0
    · subst hk0
      have w20 : IntKind.i64.wrap 1 = 1 := by decide
      simp [nilR, nilS, hd, hd', hx1, hx2, hL, enSeq]
      refine ⟨by kernel_rfl, ?_⟩
      refine call_step (packNodes_con vals s.2.2 hvb hli (by omega) (by omega)) ?_
      simp
      refine call_step (iSeqNext_con _ _ _) ?_
      simp [hf]
      refine app_data vt_el_26 rfl (by simp) rfl (by simp) (by simp) (by first | (simp; done) | (simp; omega)) (by simp [flatP, flatD]) ?_
      simp [w20]
      exact round_of hI hS hμ 1 (by omega) (by omega) ⟨[0, 1, 4], by simp [nilR, nilS, hnx]⟩
    · simp [nilR, nilS, hd, hd', hx1, hx2, hL, enSeq, hk0]
      refine ⟨by kernel_rfl, ?_⟩
      refine call_step (packNodes_con vals s.2.2 hvb hli (by omega) (by omega)) ?_
      simp
      refine call_step (iSeqNext_con _ _ _) ?_
      simp [hf]
      refine app_data vt_el_26 rfl (by simp) rfl (by simp) (by simp) (by first | (simp; done) | (simp; omega)) (by simp [flatP, flatD]) ?_
      simp [w2]
      exact round_of hI hS hμ (k + 1) (by omega) (by omega) ⟨[0, 1, 5], by simp [nilR, nilS, hnx]⟩
  · have hk' : k = x.2.1.length := by omega
    subst hk'
    by_cases hk0 : x.2.1.length = 0
    · simp [nilR, nilS, hk0]
      refine call_step (packNodes_con vals x.2.2.2 hvb (fun y hy => by have := o1 y hy; omega) n5 (by omega)) ?_
      simp [outU]
    · simp [nilR, nilS, hk0]
      refine call_step (packNodes_con vals x.2.2.2 hvb (fun y hy => by have := o1 y hy; omega) n5 (by omega)) ?_
      simp [outU]
theorem lutStart_con (x : NetD) (hx : fitNet 1048576 x) : ConC Try.prog 160 [inet x] (ints (startU x)) := by
  obtain ⟨f1, f2, f3, f4, f5⟩ := hx
  have hsl : startU x = (startU x).take x.2.1.length := by rw [List.take_of_length_le (by simp [startU])]
  rw [hsl]
  refine con_of (by kernel_rfl) Try.func160 rfl rfl rfl ?_
  simp [enNet]
  refine aw_loopN [false, false, false, true, false, false, false, true, true, true, false, false, false, false, false, false, false, false, false, false] (fun k : Nat => k ≤ x.2.1.length) (fun k : Nat => [(3, nilR k 1), (9, .d (.int .i64 k))]) (fun k : Nat => nilS k ((startU x).take k)) (fun k : Nat => x.2.1.length - k) 0 ?_ ?_ ?_
  · simp
  · exact ⟨[0], by simp [nilR, nilS]⟩
  rintro I S μ hI hS hμ k hk
  by_cases hlt : k < x.2.1.length
  · have hx1 : x.2.1[k]? = some x.2.1[k] := List.getElem?_eq_getElem hlt
    have hL : (enSeq x.2.1[k]).length = 3 := rfl
    have hnx : (startU x).take (k + 1) = (startU x).take k ++ [x.2.1[k].2.1] := take_snoc' (by simp [startU, hx1])
    have w2 : IntKind.i64.wrap ((k : Int) + 1) = (k : Int) + 1 := wrap_id (by omega) (by omega)
    generalize x.2.1[k] = s at *
    have hd : decide (k < x.2.1.length) = true := decide_eq_true hlt
    by_cases hk0 : k = 0
    · subst hk0
      have w20 : IntKind.i64.wrap 1 = 1 := by decide
      simp [nilR, nilS, hd, hx1, hL, enSeq]
      refine app_data vt_el_26 rfl (by simp) rfl (by simp) (by simp) (by first | (simp; done) | (simp; omega)) (by simp [flatP, flatD]) ?_
      simp [w20]
      exact round_of hI hS hμ 1 (by omega) (by omega) ⟨[0, 3], by simp [nilR, nilS, hnx]⟩
    · simp [nilR, nilS, hd, hx1, hL, enSeq, hk0]
      refine app_data vt_el_26 rfl (by simp) rfl (by simp) (by simp) (by first | (simp; done) | (simp; omega)) (by simp [flatP, flatD]) ?_
      simp [w2]
      exact round_of hI hS hμ (k + 1) (by omega) (by omega) ⟨[0, 4], by simp [nilR, nilS, hnx]⟩
  · have hk' : k = x.2.1.length := by omega
    subst hk'
    by_cases hk0 : x.2.1.length = 0
    · simp [nilR, nilS, hk0]
    · simp [nilR, nilS, hk0]
end Go.Proofs.Ytklhofpjjbfckaa
