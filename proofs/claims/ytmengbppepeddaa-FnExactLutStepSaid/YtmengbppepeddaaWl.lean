/-
  Cycles of networks of look-up tables, by abstract walks.
  Conditions: those typed in each theorem.
-/
import Derived.Test.YtmengbppepeddaaWj
namespace Go.Proofs.Ytmengbppepeddaa
open Go.RowKit Go.ChangeShapes Go.WideShapes
set_option linter.unusedVariables false
set_option linter.unusedSimpArgs false
attribute [local simp ↓] condG_true condG_false condB_true condB_false
attribute [local simp] AWp_skip AWp_region_t AWp_region_f still_mk AWp_seq AWp_cond condV_bool condB AWp_block AWp_exit AWp_ret AOps_nil
attribute [local simp] AOp_move AOp_assign AOp_pick AOp_binOp AOp_unOp AOp_convert AOp_len AOp_max AOp_min AOp_indexAddr AOp_load AOp_fieldAddr
attribute [local simp] AOp_field AOp_extract AOp_nilCheck AOp_build AOp_alloc AOp_box AOp_call AOp_store AOp_append AOp_buildSlice AOp_makeSlice AOp_slice
attribute [local simp] AOp_makeFunc AOp_guard guardD_some guardG_bool guardG_undef nextO_some nextS_some nextZ_some nextL_some nextM_some nextT_some sliceO
attribute [local simp] sliceL sliceT partO partV boundV funcO pickO convO lenO maxO minO idxO
attribute [local simp] extO nilO buildO litO litC makeO chunks fillV placeOf thenA inBlockA St.get
attribute [local simp] St.put St.eval ofCell evalT abin_add abin_sub abin_mul abin_quo abin_rem abin_and abin_or abin_xor
attribute [local simp] abin_andNot abin_shl abin_shr abin_shlu abin_eql abin_neq abin_lss abin_leq abin_gtr abin_geq abin_eqlb abin_neqb
attribute [local simp] aun pickV lenV intOf? indexV takeD takeV loadV fieldAddrV fieldV ofX presD
attribute [local simp] presDs pres presAll cellsV V.cell storeV freezeC putAt kill takeC plains plainV
attribute [local simp] scalarV nat_neg keepT sets eSl e1 e2 e3 e4 eInt eBool afterCall
attribute [local simp] inst inst1 inst1s instD instDs RetA resVs resV gives give1 give1s Le
attribute [local simp] isPin leSlots leS leTmps leV le0 le0s ren ren0 renS ren0s frame
attribute [local simp] enterT afterT_some lives Slot.live arrsOk viewV view0 renT rens renSs setAll List.range'_succ
attribute [local simp] RetT RetW joinV leT
def nxUF (vals : List Int) (p : SeqD × Int) : Int := seqNextL p.1.1 p.2 (packL (p.1.2.2.map (atI vals)))
def nxtU (x : NetD) (st vals : List Int) : List Int := (x.2.1.zip st).map (nxUF vals)
def outU (x : NetD) (vals : List Int) : Int := packL (x.2.2.2.map (atI vals))
def stepU (x : NetD) (st : List Int) (inp : Int) : List Int × Int := (nxtU x st (valsU x st inp), outU x (valsU x st inp))
def startU (x : NetD) : List Int := x.2.1.map (·.2.1)
set_option maxRecDepth 100000 in
set_option maxHeartbeats 1000000 in
theorem lutStep_con (x : NetD) (st : List Int) (inp : Int) (hx : fitNet 1048576 x) (hok : lutNetOkB x = true) (hs : st.length = x.2.1.length) : ConC Try.prog 55 [inet x, ints st, .d (.int .i64 inp)] (.tup [ints (stepU x st inp).1, .d (.int .i64 (stepU x st inp).2)]) := by
  obtain ⟨⟨n1, n2, n3, n4, n5, n6⟩, o1, o2, o3⟩ := lutOk_of hok
  have hN : luN x = 1 + x.1.toNat + x.2.1.length + x.2.2.1.length := rfl
  show ConC Try.prog 55 [inet x, ints st, .d (.int .i64 inp)] (.tup [ints (nxtU x st (valsU x st inp)), .d (.int .i64 (outU x (valsU x st inp)))])
  refine con_of (by kernel_rfl) Try.func55 rfl rfl rfl ?_
  simp [enNet]
  refine call_step (lutValues_con x st inp hx hok hs) ?_
  simp
  have hvl : (valsU x st inp).length = luN x := valsU_len
  have hvb : bitsI (valsU x st inp) := valsU_bits
  generalize valsU x st inp = vals at *
  have hsl : nxtU x st vals = (nxtU x st vals).take x.2.1.length := by rw [List.take_of_length_le (by simp [nxtU]; omega)]
  rw [hsl]
  refine aw_loopN [false, true, false, true, false, false, false, false, true, true, false, false, false, false, false, false, false, true, true, true, false, false, false, false, false, false, false, false, false, false, false, false, false, false, false, false, false, false, false, false, false, false, false, false] (fun k : Nat => k ≤ x.2.1.length) (fun k : Nat => [(9, nilR k 2), (19, .d (.int .i64 k))]) (fun k : Nat => nilS k ((nxtU x st vals).take k)) (fun k : Nat => x.2.1.length - k) 0 ?_ ?_ ?_
  · simp
  · exact ⟨[0, 1], by simp [nilR, nilS]⟩
  rintro I S μ hI hS hμ k hk
  by_cases hlt : k < x.2.1.length
  · have hx1 : x.2.1[k]? = some x.2.1[k] := List.getElem?_eq_getElem hlt
    have hx2 : st[k]? = some (st[k]'(by omega)) := List.getElem?_eq_getElem _
    have hL : (enSeq x.2.1[k]).length = 3 := rfl
    have hzz : (x.2.1.zip st)[k]? = some (x.2.1[k], st[k]'(by omega)) := by simp [List.getElem?_zip_eq_some]
    have hnx : (nxtU x st vals).take (k + 1) = (nxtU x st vals).take k ++ [nxUF vals (x.2.1[k], st[k]'(by omega))] := take_snoc' (by simp only [nxtU, List.getElem?_map, hzz]; rfl)
    have w2 : IntKind.i64.wrap ((k : Int) + 1) = (k : Int) + 1 := wrap_id (by omega) (by omega)
    have hli : nodesIn vals x.2.1[k].2.2 := fun y hy => by have := (o2 _ (List.getElem_mem hlt)).2 y hy; omega
    have hl4 := seqOk_len (o2 _ (List.getElem_mem hlt)).1
    generalize x.2.1[k] = s at *
    generalize st[k]'(by omega) = v at *
    have hd : decide (k < x.2.1.length) = true := decide_eq_true hlt
    have hd' : decide (k < st.length) = true := decide_eq_true (by omega)
    have hf : seqNextL s.1 v (packL (s.2.2.map (atI vals))) = nxUF vals (s, v) := rfl
    by_cases hk0 : k = 0
    · subst hk0
      have w20 : IntKind.i64.wrap 1 = 1 := by decide
      simp [nilR, nilS, hd, hd', hx1, hx2, hL, enSeq]
      refine ⟨by kernel_rfl, ?_⟩
      refine call_step (packNodes_con vals s.2.2 hvb hli (by omega) (by omega)) ?_
      simp
      refine call_step (iSeqNext_con _ _ _) ?_
      simp [hf]
      refine app_data vt_el_24 rfl (by simp) rfl (by simp) (by simp) (by first | (simp; done) | (simp; omega)) (by simp [flatP, flatD]) ?_
      simp [w20]
      exact round_of hI hS hμ 1 (by omega) (by omega) ⟨[0, 1, 4], by simp [nilR, nilS, hnx]⟩
    · simp [nilR, nilS, hd, hd', hx1, hx2, hL, enSeq, hk0]
      refine ⟨by kernel_rfl, ?_⟩
      refine call_step (packNodes_con vals s.2.2 hvb hli (by omega) (by omega)) ?_
      simp
      refine call_step (iSeqNext_con _ _ _) ?_
      simp [hf]
      refine app_data vt_el_24 rfl (by simp) rfl (by simp) (by simp) (by first | (simp; done) | (simp; omega)) (by simp [flatP, flatD]) ?_
      simp [w2]
      exact round_of hI hS hμ (k + 1) (by omega) (by omega) ⟨[0, 1, 5], by simp [nilR, nilS, hnx]⟩
  · have hk' : k = x.2.1.length := by omega
    subst hk'
    by_cases hk0 : x.2.1.length = 0
    · simp [nilR, nilS, hk0]
      refine call_step (packNodes_con vals x.2.2.2 hvb (fun y hy => by have := o1 y hy; omega) n5 (by omega)) ?_
      simp [outU]
    · simp [nilR, nilS, hk0]
      refine call_step (packNodes_con vals x.2.2.2 hvb (fun y hy => by have := o1 y hy; omega) n5 (by omega)) ?_
      simp [outU]
set_option maxRecDepth 100000 in
set_option maxHeartbeats 1000000 in
theorem sLutStep_con (x : NetD) (st : List Int) (inp : Int) (hx : fitNet 1048576 x) (hso : stateOkB x st = true) : ConC Try.prog 28 [inet x, ints st, .d (.int .i64 inp)] (.tup [ints (stepU x st inp).1, .d (.int .i64 (stepU x st inp).2)]) := by
  obtain ⟨hok, hs⟩ := stateOk_net hso
  have hlv : lutValuesL x st inp = valsU x st inp := by simp [lutValuesL, hso]
  obtain ⟨⟨n1, n2, n3, n4, n5, n6⟩, o1, o2, o3⟩ := lutOk_of hok
  have hN : luN x = 1 + x.1.toNat + x.2.1.length + x.2.2.1.length := rfl
  show ConC Try.prog 28 [inet x, ints st, .d (.int .i64 inp)] (.tup [ints (nxtU x st (valsU x st inp)), .d (.int .i64 (outU x (valsU x st inp)))])
  refine con_of (by kernel_rfl) Try.func28 rfl rfl rfl ?_
  simp [enNet]
  refine call_step (sStateOk_con x st hx (by omega)) ?_
  simp [hso]
  refine call_step (sLutValues_con x st inp hx (by omega)) ?_
  simp [hlv]
  have hvl : (valsU x st inp).length = luN x := valsU_len
  have hvb : bitsI (valsU x st inp) := valsU_bits
  generalize valsU x st inp = vals at *
  have hsl : nxtU x st vals = (nxtU x st vals).take x.2.1.length := by rw [List.take_of_length_le (by simp [nxtU]; omega)]
  rw [hsl]
  refine aw_loopU [false, true, false, true, false, false, false, false, true, true, true, false, false, false, false, false, false, false, false, false, false, false, false, false, false, false, false, false, false, false, false, false, false, false, false, false, false, false, false, false, false, false, false, false, false, false, false, false, false, false, false, false, false, false, false] (fun k : Nat => k ≤ x.2.1.length) (fun k : Nat => [(8, .ref 1), (10, .d (.int .i64 k))]) (fun k : Nat => [(1, .arr 3 true (((nxtU x st vals).take k).map (e1 eInt)))]) (fun k : Nat => x.2.1.length - k) 0 ?_ ?_ ?_
  · simp
  · exact ⟨[0, 1, 2], by simp⟩
  rintro I S μ hI hS hμ k hk
  by_cases hlt : k < x.2.1.length
  · have hx1 : x.2.1[k]? = some x.2.1[k] := List.getElem?_eq_getElem hlt
    have hx2 : st[k]? = some (st[k]'(by omega)) := List.getElem?_eq_getElem _
    have hL : (enSeq x.2.1[k]).length = 3 := rfl
    have hzz : (x.2.1.zip st)[k]? = some (x.2.1[k], st[k]'(by omega)) := by simp [List.getElem?_zip_eq_some]
    have hnx : (nxtU x st vals).take (k + 1) = (nxtU x st vals).take k ++ [nxUF vals (x.2.1[k], st[k]'(by omega))] := take_snoc' (by simp only [nxtU, List.getElem?_map, hzz]; rfl)
    have w2 : IntKind.i64.wrap ((k : Int) + 1) = (k : Int) + 1 := wrap_id (by omega) (by omega)
    have hli : nodesIn vals x.2.1[k].2.2 := fun y hy => by have := (o2 _ (List.getElem_mem hlt)).2 y hy; omega
    have hl4 := seqOk_len (o2 _ (List.getElem_mem hlt)).1
    generalize x.2.1[k] = s at *
    generalize st[k]'(by omega) = v at *
    have hd : decide (k < x.2.1.length) = true := decide_eq_true hlt
    have hd' : decide (k < st.length) = true := decide_eq_true (by omega)
    have hf : seqNextL s.1 v (packL (s.2.2.map (atI vals))) = nxUF vals (s, v) := rfl
    simp [hd, hd', hx1, hx2, hL, enSeq]
    refine ⟨by kernel_rfl, ?_⟩
    refine call_step (l20Pack_con vals s.2.2 hvb hli (by omega) (by omega)) ?_
    simp
    refine call_step (sSeqNext_con _ _ _) ?_
    simp [hf]
    refine app_data vt_el_24 rfl (by simp) rfl (by simp) (by simp) (by first | (simp; done) | (simp; omega)) (by simp [flatP, flatD]) ?_
    simp [w2]
    exact round_of hI hS hμ (k + 1) (by omega) (by omega) ⟨[0, 4, 2], by simp [hnx]⟩
  · have hk' : k = x.2.1.length := by omega
    subst hk'
    simp [hlt]
    refine call_step (l20Pack_con vals x.2.2.2 hvb (fun y hy => by have := o1 y hy; omega) n5 (by omega)) ?_
    simp [outU]
theorem lutStart_con (x : NetD) (hx : fitNet 1048576 x) : ConC Try.prog 57 [inet x] (ints (startU x)) := by
  obtain ⟨f1, f2, f3, f4, f5⟩ := hx
  have hsl : startU x = (startU x).take x.2.1.length := by rw [List.take_of_length_le (by simp [startU])]
  rw [hsl]
  refine con_of (by kernel_rfl) Try.func57 rfl rfl rfl ?_
  simp [enNet]
  refine aw_loopN [false, false, false, true, false, false, false, true, true, true, false, false, false, false, false, false, false, false, false, false] (fun k : Nat => k ≤ x.2.1.length) (fun k : Nat => [(3, nilR k 1), (9, .d (.int .i64 k))]) (fun k : Nat => nilS k ((startU x).take k)) (fun k : Nat => x.2.1.length - k) 0 ?_ ?_ ?_
  · simp
  · exact ⟨[0], by simp [nilR, nilS]⟩
  rintro I S μ hI hS hμ k hk
  by_cases hlt : k < x.2.1.length
  · have hx1 : x.2.1[k]? = some x.2.1[k] := List.getElem?_eq_getElem hlt
    have hL : (enSeq x.2.1[k]).length = 3 := rfl
    have hnx : (startU x).take (k + 1) = (startU x).take k ++ [x.2.1[k].2.1] := take_snoc' (by simp [startU, hx1])
    have w2 : IntKind.i64.wrap ((k : Int) + 1) = (k : Int) + 1 := wrap_id (by omega) (by omega)
    generalize x.2.1[k] = s at *
    have hd : decide (k < x.2.1.length) = true := decide_eq_true hlt
    by_cases hk0 : k = 0
    · subst hk0
      have w20 : IntKind.i64.wrap 1 = 1 := by decide
      simp [nilR, nilS, hd, hx1, hL, enSeq]
      refine app_data vt_el_24 rfl (by simp) rfl (by simp) (by simp) (by first | (simp; done) | (simp; omega)) (by simp [flatP, flatD]) ?_
      simp [w20]
      exact round_of hI hS hμ 1 (by omega) (by omega) ⟨[0, 3], by simp [nilR, nilS, hnx]⟩
    · simp [nilR, nilS, hd, hx1, hL, enSeq, hk0]
      refine app_data vt_el_24 rfl (by simp) rfl (by simp) (by simp) (by first | (simp; done) | (simp; omega)) (by simp [flatP, flatD]) ?_
      simp [w2]
      exact round_of hI hS hμ (k + 1) (by omega) (by omega) ⟨[0, 4], by simp [nilR, nilS, hnx]⟩
  · have hk' : k = x.2.1.length := by omega
    subst hk'
    by_cases hk0 : x.2.1.length = 0
    · simp [nilR, nilS, hk0]
    · simp [nilR, nilS, hk0]
theorem l20Start_con (x : NetD) (hx : fitNet 1048576 x) : ConC Try.prog 56 [inet x] (ints (startU x)) := by
  have hx' := hx
  obtain ⟨f1, f2, f3, f4, f5⟩ := hx'
  have hsl : startU x = (startU x).take x.2.1.length := by rw [List.take_of_length_le (by simp [startU])]
  rw [hsl]
  refine con_of (by kernel_rfl) Try.func56 rfl rfl rfl ?_
  simp [enNet]
  refine aw_loopU [false, true, false, true, true, false, false, false, false, false, false, false, false, false, false, false, false, false, false, false, false, false, false] (fun k : Nat => k ≤ x.2.1.length) (fun k : Nat => [(3, .ref 1), (4, .d (.int .i64 k))]) (fun k : Nat => [(1, .arr 3 true (((startU x).take k).map (e1 eInt)))]) (fun k : Nat => x.2.1.length - k) 0 ?_ ?_ ?_
  · simp
  · exact ⟨[0, 1], by simp⟩
  rintro I S μ hI hS hμ k hk
  by_cases hlt : k < x.2.1.length
  · have hx1 : x.2.1[k]? = some x.2.1[k] := List.getElem?_eq_getElem hlt
    have hL : (enSeq x.2.1[k]).length = 3 := rfl
    have hnx : (startU x).take (k + 1) = (startU x).take k ++ [x.2.1[k].2.1] := take_snoc' (by simp [startU, hx1])
    have w2 : IntKind.i64.wrap ((k : Int) + 1) = (k : Int) + 1 := wrap_id (by omega) (by omega)
    generalize x.2.1[k] = s at *
    have hd : decide (k < x.2.1.length) = true := decide_eq_true hlt
    simp [hd, hx1, hL, enSeq]
    refine app_data vt_el_24 rfl (by simp) rfl (by simp) (by simp) (by first | (simp; done) | (simp; omega)) (by simp [flatP, flatD]) ?_
    simp [w2]
    exact round_of hI hS hμ (k + 1) (by omega) (by omega) ⟨[0, 3], by simp [hnx]⟩
  · have hk' : k = x.2.1.length := by omega
    subst hk'
    simp [hlt]
end Go.Proofs.Ytmengbppepeddaa
