/-
  The exported functions on mappings, by abstract walks: both sides.
  Conditions: those typed in each theorem.
-/
import Derived.Test.YtojhjcgalmaljaaMa
namespace Go.Proofs.Ytojhjcgalmaljaa
open Go.RowKit Go.ChangeShapes Go.WideShapes
set_option linter.unusedVariables false
set_option linter.unusedSimpArgs false
attribute [local simp ↓] condG_true condG_false condB_true condB_false
attribute [local simp] AWp_skip AWp_region_t AWp_region_d AWp_region_f still_mk AWp_seq AWp_cond condV_bool condB AWp_block AWp_exit AWp_ret
attribute [local simp] AOps_nil AOp_move AOp_assign AOp_pick AOp_binOp AOp_unOp AOp_convert AOp_len AOp_max AOp_min AOp_indexAddr AOp_load
attribute [local simp] AOp_fieldAddr AOp_field AOp_extract AOp_nilCheck AOp_build AOp_alloc AOp_box AOp_call AOp_store AOp_append AOp_buildSlice AOp_makeSlice
attribute [local simp] AOp_slice AOp_makeFunc AOp_guard guardD_some guardG_bool guardG_undef nextO_some nextS_some nextZ_some nextL_some nextM_some nextT_some
attribute [local simp] sliceO sliceL sliceT partO partV boundV funcO pickO convO lenO maxO minO
attribute [local simp] idxO extO nilO buildO litO litC makeO chunks fillV placeOf thenA inBlockA
attribute [local simp] St.get St.put St.eval ofCell evalT abin_add abin_sub abin_mul abin_quo abin_rem abin_and abin_or
attribute [local simp] abin_xor abin_andNot abin_shl abin_shr abin_shlu abin_eql abin_neq abin_lss abin_leq abin_gtr abin_geq abin_eqlb
attribute [local simp] abin_neqb aun pickV lenV intOf? indexV takeD takeV loadV fieldAddrV fieldV ofX
attribute [local simp] presD presDs pres presAll cellsV V.cell storeV freezeC putAt kill takeC plains
attribute [local simp] plainV scalarV nat_neg keepT sets eSl e1 e2 e3 e4 eInt eBool
attribute [local simp] afterCall inst inst1 inst1s instD instDs RetA resVs resV gives give1 give1s
attribute [local simp] Le isPin leSlots leS leTmps leV le0 le0s ren ren0 renS ren0s
attribute [local simp] frame enterT afterT_some lives Slot.live arrsOk viewV view0 renT rens renSs setAll
attribute [local simp] List.range'_succ RetT RetW joinV leT
attribute [local simp] mcone_len esc_len
def ifMap {α : Type} (x : GrD) (cs : List RowD) (a b : α) : α := if mapOkB x cs = true then a else b
def betterB (x : GrD) (a b : List RowD) : Bool := decide (depthL x a ≤ depthL x b) && (decide ((costL x a).1 < (costL x b).1) || decide ((costL x a).1 = (costL x b).1) && decide ((costL x a).2.1 < (costL x b).2.1))
theorem iMapDepth_con (x : GrD) (cs : List RowD) (hx : fitGr 1048576 x) (hc : fitRw 1048576 cs) : ConC Try.prog 20 [igr x, irows cs] (.d (.int .i64 (ifMap x cs (depthL x cs) (-1)))) := by
  refine con_of (by kernel_rfl) Try.func20 rfl rfl rfl ?_
  simp [enGr]
  refine call_step (iMapOk_con x cs hx hc) ?_
  simp
  rcases Bool.eq_false_or_eq_true (mapOkB x cs) with h | h
  case inr => simp [h, ifMap]
  have hd : (costL x cs).2.2 = depthL x cs := rfl
  simp [h, ifMap]
  refine call_step (iCost_con x cs hx hc h) ?_
  simp [hd]
theorem sMapDepth_con (x : GrD) (cs : List RowD) (hx : fitGr 1048576 x) (hg : okGr x) (hc : fitRw 1048576 cs) : ConC Try.prog 19 [igr x, irows cs] (.d (.int .i64 (ifMap x cs (depthL x cs) (-1)))) := by
  refine con_of (by kernel_rfl) Try.func19 rfl rfl rfl ?_
  simp [enGr]
  refine call_step (sMapOk_con x cs hx hg hc) ?_
  simp
  rcases Bool.eq_false_or_eq_true (mapOkB x cs) with h | h
  case inr => simp [h, ifMap]
  simp [h, ifMap]
  refine call_step (sDepth_con x cs hx hc h) ?_
  simp
theorem iMapCount_con (x : GrD) (cs : List RowD) (hx : fitGr 1048576 x) (hc : fitRw 1048576 cs) : ConC Try.prog 22 [igr x, irows cs] (.d (.int .i64 (ifMap x cs (costL x cs).1 (-1)))) := by
  refine con_of (by kernel_rfl) Try.func22 rfl rfl rfl ?_
  simp [enGr]
  refine call_step (iMapOk_con x cs hx hc) ?_
  simp
  rcases Bool.eq_false_or_eq_true (mapOkB x cs) with h | h
  case inr => simp [h, ifMap]
  simp [h, ifMap]
  refine call_step (iCost_con x cs hx hc h) ?_
  simp
theorem sMapCount_con (x : GrD) (cs : List RowD) (hx : fitGr 1048576 x) (hg : okGr x) (hc : fitRw 1048576 cs) : ConC Try.prog 21 [igr x, irows cs] (.d (.int .i64 (ifMap x cs (costL x cs).1 (-1)))) := by
  refine con_of (by kernel_rfl) Try.func21 rfl rfl rfl ?_
  simp [enGr]
  refine call_step (sMapOk_con x cs hx hg hc) ?_
  simp
  rcases Bool.eq_false_or_eq_true (mapOkB x cs) with h | h
  case inr => simp [h, ifMap]
  simp [h, ifMap]
  refine call_step (sCount_con x cs hx hc h) ?_
  simp
theorem iMapEdges_con (x : GrD) (cs : List RowD) (hx : fitGr 1048576 x) (hc : fitRw 1048576 cs) : ConC Try.prog 24 [igr x, irows cs] (.d (.int .i64 (ifMap x cs (costL x cs).2.1 (-1)))) := by
  refine con_of (by kernel_rfl) Try.func24 rfl rfl rfl ?_
  simp [enGr]
  refine call_step (iMapOk_con x cs hx hc) ?_
  simp
  rcases Bool.eq_false_or_eq_true (mapOkB x cs) with h | h
  case inr => simp [h, ifMap]
  simp [h, ifMap]
  refine call_step (iCost_con x cs hx hc h) ?_
  simp
theorem sMapEdges_con (x : GrD) (cs : List RowD) (hx : fitGr 1048576 x) (hg : okGr x) (hc : fitRw 1048576 cs) : ConC Try.prog 23 [igr x, irows cs] (.d (.int .i64 (ifMap x cs (costL x cs).2.1 (-1)))) := by
  refine con_of (by kernel_rfl) Try.func23 rfl rfl rfl ?_
  simp [enGr]
  refine call_step (sMapOk_con x cs hx hg hc) ?_
  simp
  rcases Bool.eq_false_or_eq_true (mapOkB x cs) with h | h
  case inr => simp [h, ifMap]
  simp [h, ifMap]
  refine call_step (sCount_con x cs hx hc h) ?_
  simp
theorem iMapLevels_con (x : GrD) (cs : List RowD) (hx : fitGr 1048576 x) (hc : fitRw 1048576 cs) : ConC Try.prog 26 [igr x, irows cs] (ints (ifMap x cs (levelsL x cs) [])) := by
  refine con_of (by kernel_rfl) Try.func26 rfl rfl rfl ?_
  simp [enGr]
  refine call_step (iMapOk_con x cs hx hc) ?_
  simp
  rcases Bool.eq_false_or_eq_true (mapOkB x cs) with h | h
  case inr => simp [h, ifMap]
  simp [h, ifMap]
  refine call_step (iLevels_con x cs hx hc h) ?_
  simp
theorem sMapLevels_con (x : GrD) (cs : List RowD) (hx : fitGr 1048576 x) (hg : okGr x) (hc : fitRw 1048576 cs) : ConC Try.prog 25 [igr x, irows cs] (ints (ifMap x cs (levelsL x cs) [])) := by
  refine con_of (by kernel_rfl) Try.func25 rfl rfl rfl ?_
  simp [enGr]
  refine call_step (sMapOk_con x cs hx hg hc) ?_
  simp
  rcases Bool.eq_false_or_eq_true (mapOkB x cs) with h | h
  case inr => simp [h, ifMap]
  simp [h, ifMap]
  refine call_step (sLevels_con x cs hx hc h) ?_
  simp
theorem iMapUsed_con (x : GrD) (cs : List RowD) (hx : fitGr 1048576 x) (hc : fitRw 1048576 cs) : ConC Try.prog 35 [igr x, irows cs] (bools (ifMap x cs (usedL x cs) [])) := by
  refine con_of (by kernel_rfl) Try.func35 rfl rfl rfl ?_
  simp [enGr]
  refine call_step (iMapOk_con x cs hx hc) ?_
  simp
  rcases Bool.eq_false_or_eq_true (mapOkB x cs) with h | h
  case inr => simp [h, ifMap]
  obtain ⟨hok, hl, hcs⟩ := mapOk_of h
  obtain ⟨⟨n1, n2, n3, n4, n5, n6⟩, -, -, -⟩ := netOk_of hok
  have hul := usedL_len (x := x) (cs := cs)
  simp [h, ifMap]
  refine callT_step (iUsed_con x cs hx hc h) [] [] (by simp) ?_
  simp
  refine app_data vt_el_47 rfl (by simp) rfl (by simp) (fun c hc => by obtain ⟨b, _, rfl⟩ := List.mem_map.1 hc; simp) (by simp; omega) (fun _ => flatP_bools) ?_
  simp
theorem sMapUsed_con (x : GrD) (cs : List RowD) (hx : fitGr 1048576 x) (hg : okGr x) (hc : fitRw 1048576 cs) : ConC Try.prog 34 [igr x, irows cs] (bools (ifMap x cs (usedL x cs) [])) := by
  refine con_of (by kernel_rfl) Try.func34 rfl rfl rfl ?_
  simp [enGr]
  refine call_step (sMapOk_con x cs hx hg hc) ?_
  simp
  rcases Bool.eq_false_or_eq_true (mapOkB x cs) with h | h
  case inr => simp [h, ifMap]
  obtain ⟨hok, hl, hcs⟩ := mapOk_of h
  obtain ⟨⟨n1, n2, n3, n4, n5, n6⟩, -, -, -⟩ := netOk_of hok
  have hul := usedL_len (x := x) (cs := cs)
  simp [h, ifMap]
  refine callT_step (sUsed_con x cs hx hc h) [] [] (by simp) ?_
  simp
  refine app_data vt_el_47 rfl (by simp) rfl (by simp) (fun c hc => by obtain ⟨b, _, rfl⟩ := List.mem_map.1 hc; simp) (by simp; omega) (fun _ => flatP_bools) ?_
  simp
def bmB (x : GrD) (a b : List RowD) : Bool := mapOkB x a && mapOkB x b && betterB x a b
theorem ibetter_con (x : GrD) (a b : List RowD) (hx : fitGr 1048576 x) (ha : fitRw 1048576 a) (hb : fitRw 1048576 b) (ma : mapOkB x a = true) (mb : mapOkB x b = true) : ConC Try.prog 68 [igr x, irows a, irows b] (.d (.bool (betterB x a b))) := by
  have hda : (costL x a).2.2 = depthL x a := rfl
  have hdb : (costL x b).2.2 = depthL x b := rfl
  refine con_of (by kernel_rfl) Try.func68 rfl rfl rfl ?_
  simp [enGr]
  refine call_step (iCost_con x a hx ha ma) ?_
  simp [hda]
  refine call_step (iCost_con x b hx hb mb) ?_
  simp [hdb]
  unfold betterB
  generalize depthL x a = da
  generalize depthL x b = db
  generalize (costL x a).1 = ca
  generalize (costL x b).1 = cb
  generalize (costL x a).2.1 = ea
  generalize (costL x b).2.1 = eb
  have hbe : (ca == cb) = decide (ca = cb) := rfl
  by_cases h1 : da ≤ db <;> by_cases h2 : ca < cb <;> by_cases h3 : ca = cb <;> simp [h1, h2, h3, hbe]
theorem iBetter_con (x : GrD) (a b : List RowD) (hx : fitGr 1048576 x) (ha : fitRw 1048576 a) (hb : fitRw 1048576 b) : ConC Try.prog 33 [igr x, irows a, irows b] (.d (.bool (bmB x a b))) := by
  refine con_of (by kernel_rfl) Try.func33 rfl rfl rfl ?_
  simp [enGr]
  refine call_step (iMapOk_con x a hx ha) ?_
  simp
  rcases Bool.eq_false_or_eq_true (mapOkB x a) with ma | ma
  case inr => simp [ma, bmB]
  simp [ma]
  refine call_step (iMapOk_con x b hx hb) ?_
  simp
  rcases Bool.eq_false_or_eq_true (mapOkB x b) with mb | mb
  case inr => simp [mb, bmB]
  simp [mb]
  refine call_step (ibetter_con x a b hx ha hb ma mb) ?_
  simp [bmB, ma, mb]
theorem l19Better_con (x : GrD) (a b : List RowD) (hx : fitGr 1048576 x) (ha : fitRw 1048576 a) (hb : fitRw 1048576 b) (ma : mapOkB x a = true) (mb : mapOkB x b = true) : ConC Try.prog 67 [igr x, irows a, irows b] (.d (.bool (betterB x a b))) := by
  refine con_of (by kernel_rfl) Try.func67 rfl rfl rfl ?_
  have c1 := sDepth_con x a hx ha ma
  have c2 := sDepth_con x b hx hb mb
  have c3 := sCount_con x a hx ha ma
  have c4 := sCount_con x b hx hb mb
  simp [enGr]
  refine ⟨by kernel_rfl, ?_⟩
  refine call_step (c1) ?_
  simp
  refine call_step (c2) ?_
  simp
  unfold betterB
  generalize depthL x a = da at *
  generalize depthL x b = db at *
  by_cases h1 : da ≤ db
  case neg => simp [h1, show db < da by omega]
  simp [h1, show ¬ db < da by omega]
  refine call_step (c3) ?_
  simp
  refine call_step (c4) ?_
  simp
  generalize (costL x a).1 = ca at *
  generalize (costL x b).1 = cb at *
  generalize (costL x a).2.1 = ea at *
  generalize (costL x b).2.1 = eb at *
  have hbe : (ca == cb) = decide (ca = cb) := rfl
  by_cases h2 : ca < cb <;> by_cases h3 : ca = cb <;> first | (simp [h1, h2, h3, hbe]; done) | (simp [h1, h2, h3, hbe]; omega)
theorem sBetter_con (x : GrD) (a b : List RowD) (hx : fitGr 1048576 x) (hg : okGr x) (ha : fitRw 1048576 a) (hb : fitRw 1048576 b) : ConC Try.prog 32 [igr x, irows a, irows b] (.d (.bool (bmB x a b))) := by
  refine con_of (by kernel_rfl) Try.func32 rfl rfl rfl ?_
  simp [enGr]
  refine call_step (sMapOk_con x a hx hg ha) ?_
  simp
  rcases Bool.eq_false_or_eq_true (mapOkB x a) with ma | ma
  case inr => simp [ma, bmB]
  simp [ma]
  refine call_step (sMapOk_con x b hx hg hb) ?_
  simp
  rcases Bool.eq_false_or_eq_true (mapOkB x b) with mb | mb
  case inr => simp [mb, bmB]
  simp [mb]
  refine call_step (l19Better_con x a b hx ha hb ma mb) ?_
  simp [bmB, ma, mb]
end Go.Proofs.Ytojhjcgalmaljaa
