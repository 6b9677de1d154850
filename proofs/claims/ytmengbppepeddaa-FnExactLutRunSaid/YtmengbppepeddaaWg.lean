/-
  Depths of networks of look-up tables: the reference, by an abstract walk.
  Conditions: those typed in each theorem.
-/
import Derived.Test.YtmengbppepeddaaWf
namespace Go.Proofs.Ytmengbppepeddaa
open Go.RowKit Go.ChangeShapes Go.WideShapes
set_option linter.unusedVariables false
set_option linter.unusedSimpArgs false
attribute [local simp ↓] condG_true condG_false condB_true condB_false
attribute [local simp] AWp_skip AWp_region_t AWp_region_f still_mk AWp_seq AWp_cond condV_bool condB AWp_block AWp_exit AWp_ret AOps_nil
attribute [local simp] AOp_move AOp_assign AOp_pick AOp_binOp AOp_unOp AOp_convert AOp_len AOp_max AOp_min AOp_indexAddr AOp_load AOp_fieldAddr
attribute [local simp] AOp_field AOp_extract AOp_nilCheck AOp_build AOp_alloc AOp_box AOp_call AOp_store AOp_append AOp_buildSlice AOp_makeSlice AOp_slice
attribute [local simp] AOp_makeFunc AOp_guard guardD_some guardG_bool guardG_undef nextO_some nextS_some nextZ_some nextL_some nextM_some nextT_some sliceO
attribute [local simp] sliceL sliceT partO partV boundV funcO pickO convO lenO maxO minO idxO
attribute [local simp] extO nilO buildO litO litC makeO chunks fillV placeOf thenA inBlockA St.get
attribute [local simp] St.put St.eval ofCell evalT abin_add abin_sub abin_mul abin_quo abin_rem abin_and abin_or abin_xor
attribute [local simp] abin_andNot abin_shl abin_shr abin_shlu abin_eql abin_neq abin_lss abin_leq abin_gtr abin_geq abin_eqlb abin_neqb
attribute [local simp] aun pickV lenV intOf? indexV takeD takeV loadV fieldAddrV fieldV ofX presD
attribute [local simp] presDs pres presAll cellsV V.cell storeV freezeC putAt kill takeC plains plainV
attribute [local simp] scalarV nat_neg keepT sets eSl e1 e2 e3 e4 eInt eBool afterCall
attribute [local simp] inst inst1 inst1s instD instDs RetA resVs resV gives give1 give1s Le
attribute [local simp] isPin leSlots leS leTmps leV le0 le0s ren ren0 renS ren0s frame
attribute [local simp] enterT afterT_some lives Slot.live arrsOk viewV view0 renT rens renSs setAll List.range'_succ
attribute [local simp] RetT RetW joinV leT
def rootsK (x : NetD) (k : Nat) : List Int := x.2.2.2 ++ ((x.2.1.map (·.2.2)).take k).flatten
theorem rootsK_snoc {x : NetD} {k : Nat} {s : SeqD} (h : x.2.1[k]? = some s) : rootsK x (k + 1) = rootsK x k ++ s.2.2 := by
  unfold rootsK
  rw [take_snoc' (x := s.2.2) (by rw [List.getElem?_map, h]; rfl), List.flatten_append, List.append_assoc]
  simp
theorem rootsK_all {x : NetD} : rootsK x x.2.1.length = lutRoots x := by
  unfold rootsK lutRoots
  rw [List.take_of_length_le (by simp)]
theorem flat_take_len {ls : List (List Int)} {M : Nat} (h : ∀ l ∈ ls, l.length ≤ M) : ∀ k : Nat, ((ls.take k).flatten).length ≤ k * M
  | 0 => by simp
  | k + 1 => by
    have ih := flat_take_len h k
    cases hk : ls[k]? with
    | none =>
      have := List.getElem?_eq_none_iff.1 hk
      rw [List.take_of_length_le (by omega)]
      rw [List.take_of_length_le (by omega)] at ih
      rw [Nat.succ_mul]; omega
    | some l =>
      rw [take_snoc' hk, List.flatten_append, List.length_append, Nat.succ_mul]
      have := h l (List.mem_of_getElem? hk)
      have e : [l].flatten.length = l.length := by simp
      omega
theorem rootsK_len {x : NetD} {k M : Nat} (h : ∀ s ∈ x.2.1, s.2.2.length ≤ M) : (rootsK x k).length ≤ x.2.2.2.length + k * M := by
  unfold rootsK
  rw [List.length_append]
  have := flat_take_len (ls := x.2.1.map (·.2.2)) (M := M) (by intro l hl; obtain ⟨s, hs, rfl⟩ := List.mem_map.1 hl; exact h s hs) k
  omega
set_option maxRecDepth 100000 in
set_option maxHeartbeats 1000000 in
theorem sLutDepth_con (x : NetD) (hx : fitNet 1048576 x) : ConC Try.prog 17 [inet x] (.d (.int .i64 (lutDepthL x))) := by
  have hx' := hx
  obtain ⟨f1, f2, f3, f4, f5⟩ := hx'
  refine con_of (by kernel_rfl) Try.func17 rfl rfl rfl ?_
  simp [enNet]
  refine call_step (sLutNetOk_con x hx) ?_
  simp
  rcases Bool.eq_false_or_eq_true (lutNetOkB x) with hok | hok
  case inr => simp [hok, lutDepthL]
  obtain ⟨⟨n1, n2, n3, n4, n5, n6⟩, o1, o2, o3⟩ := lutOk_of hok
  obtain ⟨N, hN⟩ : ∃ N : Nat, N = 1 + x.1.toNat + x.2.1.length + x.2.2.1.length := ⟨_, rfl⟩
  have hfin : lutDepthL x = mxFrom (lutLv x) 0 (lutRoots x) := by simp [lutDepthL, hok]
  rw [hfin]
  clear hfin
  simp [hok]
  refine call_step (sLutNodes_con x) ?_
  simp
  refine ⟨⟨by omega, by omega⟩, ?_⟩
  have hNn : (nodesL x).toNat = N := by omega
  rw [hNn]
  refine aw_loopU [false, true, false, true, true, false, false, false, false, false, false, false, false, false, false, false, false, false, false, false, false, false, false, false, false, false, false, false, false, false, false, false, false, false, false, false, false, false, false, false, false, false, false, false, false, false, false, false, false, false, false, false, false, false, false, false, false, false, false, false, false, false, false, false, false, false, false, false, false, false, false, false, false, false, false, false, false, false, false, false, false, false, false, false, false, false, false, false, false, false, false, false] (fun k : Nat => k ≤ x.2.2.1.length) (fun k : Nat => [(4, .d (.int .i64 k))]) (fun k : Nat => [(1, .arr 3 true ((lvlK (1 + x.1.toNat + x.2.1.length) x.2.2.1 N k).map (e1 eInt)))]) (fun k : Nat => x.2.2.1.length - k) 0 ?_ ?_ ?_
  · simp
  · exact ⟨[0, 1], by simp [lvlK]⟩
  rintro I S μ hI hS hμ k hk
  by_cases hlt : k < x.2.2.1.length
  · have hx1 : x.2.2.1[k]? = some x.2.2.1[k] := List.getElem?_eq_getElem hlt
    have hL : (enLut x.2.2.1[k]).length = 2 := rfl
    have w2 : IntKind.i64.wrap ((k : Int) + 1) = (k : Int) + 1 := wrap_id (by omega) (by omega)
    have w3 : IntKind.i64.wrap (1 + x.1 + x.2.1.length + k) = 1 + x.1 + x.2.1.length + k := wrap_id (by omega) (by omega)
    have hl := f4 _ (List.getElem_mem hlt)
    generalize x.2.2.1[k] = s at *
    have hd : decide (k < x.2.2.1.length) = true := decide_eq_true hlt
    have hb := (o3 k s hx1).2
    obtain ⟨lv, hlv⟩ : ∃ lv, lv = lvlK (1 + x.1.toNat + x.2.1.length) x.2.2.1 N k := ⟨_, rfl⟩
    have hlen : lv.length = N := by rw [hlv, lvlK_len]
    have hle : ∀ v ∈ lv, 0 ≤ v ∧ v ≤ k := by rw [hlv]; exact lvlK_le k
    have hnext : lvlK (1 + x.1.toNat + x.2.1.length) x.2.2.1 N (k + 1) = lv.set (1 + x.1.toNat + x.2.1.length + k) (1 + mxFrom lv 0 s.1) := by rw [lvlK_snoc hx1, ← hlv]
    rw [← hlv]
    simp [hd]
    refine aw_loopU [false, true, false, true, true, true, true, false, false, false, false, false, false, false, false, false, false, false, false, false, false, false, false, false, false, false, false, false, false, false, false, false, false, false, false, false, false, false, false, false, false, false, false, false, false, false, false, false, false, false, false, false, false, false, false, false, false, false, false, false, false, false, false, false, false, false, false, false, false, false, false, false, false, false, false, false, false, false, false, false, false, false, false, false, false, false, false, false, false, false, false, false] (fun j : Nat => j ≤ s.1.length) (fun j : Nat => [(5, .d (.int .i64 (mxFrom lv 0 (s.1.take j)))), (6, .d (.int .i64 j))]) (fun j : Nat => []) (fun j : Nat => s.1.length - j) 0 ?_ ?_ ?_
    · simp
    · exact ⟨[0, 1], by simp [mxFrom]⟩
    rintro I2 S2 μ2 hI2 hS2 hμ2 j hj
    by_cases hlt2 : j < s.1.length
    · have hx2 : s.1[j]? = some s.1[j] := List.getElem?_eq_getElem hlt2
      have w4 : IntKind.i64.wrap ((j : Int) + 1) = (j : Int) + 1 := wrap_id (by omega) (by omega)
      have hb2 := hb _ (List.getElem_mem hlt2)
      generalize s.1[j] = y at *
      have hd2 : decide (j < s.1.length) = true := decide_eq_true hlt2
      have hr := lv_read (lv := lv) (k := y) (by omega) hb2.1
      simp [hd2, hx1, hL, enLut, hx2, hr, show ¬ y < 0 by omega, w4]
      exact round_of hI2 hS2 hμ2 (j + 1) (by omega) (by omega) ⟨[0, 1], by simp [mxFrom_snoc hx2, gmax]⟩
    · have hj' : j = s.1.length := by omega
      subst hj'
      have hq1 := mxFrom_le hle (xs := s.1) (m := 0) (by omega) (by omega)
      have w5 : IntKind.i64.wrap (mxFrom lv 0 s.1 + 1) = 1 + mxFrom lv 0 s.1 := by rw [Int.add_comm]; exact wrap_id (by omega) (by omega)
      simp [hlt2, hx1, hL, enLut]
      refine call_step (sFirst_con x ⟨n1, n2⟩ n3) ?_
      simp [w3, w5]
      have ht : (1 + x.1 + (x.2.1.length : Int) + (k : Int)).toNat = 1 + x.1.toNat + x.2.1.length + k := by omega
      have hr : lv[1 + x.1.toNat + x.2.1.length + k]? = some (lvAt lv (1 + x.1 + x.2.1.length + k)) := by rw [← ht]; exact lv_read (by omega) (by omega)
      simp [ht, hr, show ¬ 1 + x.1 + (x.2.1.length : Int) + (k : Int) < 0 by omega, w2]
      exact round_of hI hS hμ (k + 1) (by omega) (by omega) ⟨[0, 1], by simp [hnext, ← set_ints]⟩
  · have hk' : k = x.2.2.1.length := by omega
    subst hk'
    obtain ⟨lv, hlv⟩ : ∃ lv, lv = lvlK (1 + x.1.toNat + x.2.1.length) x.2.2.1 N x.2.2.1.length := ⟨_, rfl⟩
    have hlen : lv.length = N := by rw [hlv, lvlK_len]
    have hlu : lutLv x = lv := by rw [hlv, hN]; rfl
    rw [← hlv, hlu]
    simp [hlt]
    refine app_data vt_el_24 rfl (by simp) rfl (by simp) (by simp) (by first | (simp; done) | (simp; omega)) (by simp [flatP, flatD]) ?_
    simp
    refine aw_loopU [false, true, false, true, false, false, false, true, true, false, false, false, false, false, false, false, false, false, false, false, false, false, false, false, false, false, false, false, false, false, false, false, false, false, false, false, false, false, false, false, false, false, false, false, false, false, false, false, false, false, false, false, false, false, false, false, false, false, false, false, false, false, false, false, false, false, false, false, false, false, false, false, false, false, false, false, false, false, false, false, false, false, false, false, false, false, false, false, false, false, false, false] (fun k : Nat => k ≤ x.2.1.length) (fun k : Nat => [(7, .ref 3), (8, .d (.int .i64 k))]) (fun k : Nat => [(2, .dead), (3, .arr 3 true ((rootsK x k).map (e1 eInt)))]) (fun k : Nat => x.2.1.length - k) 0 ?_ ?_ ?_
    · simp
    · exact ⟨[0, 1, 2, 3], by simp [rootsK]⟩
    clear hI hS hμ
    rintro I S μ hI hS hμ k hk
    by_cases hlt : k < x.2.1.length
    · have hx1 : x.2.1[k]? = some x.2.1[k] := List.getElem?_eq_getElem hlt
      have hL : (enSeq x.2.1[k]).length = 3 := rfl
      have w2 : IntKind.i64.wrap ((k : Int) + 1) = (k : Int) + 1 := wrap_id (by omega) (by omega)
      have hl := f2 _ (List.getElem_mem hlt)
      have hnext := rootsK_snoc hx1
      have hrl := rootsK_len (x := x) (k := k) (M := 1048576) f2
      generalize x.2.1[k] = s at *
      have hd : decide (k < x.2.1.length) = true := decide_eq_true hlt
      simp [hd, hx1, hL, enSeq]
      refine app_data vt_el_24 rfl (by simp) rfl (by simp) (by simp) (by first | (simp; done) | (simp; omega)) (by simp [flatP, flatD]) ?_
      simp [w2]
      exact round_of hI hS hμ (k + 1) (by omega) (by omega) ⟨[0, 1, 2, 4], by simp [hnext]⟩
    · have hk' : k = x.2.1.length := by omega
      subst hk'
      have hr : rootsK x x.2.1.length = lutRoots x := rootsK_all
      have ho : ∀ y ∈ lutRoots x, 0 ≤ y ∧ y < nodesL x := by
        intro y hy
        rcases List.mem_append.1 hy with h | h
        · exact o1 y h
        · obtain ⟨l, hl, hy⟩ := List.mem_flatten.1 h
          obtain ⟨s, hs, rfl⟩ := List.mem_map.1 hl
          exact (o2 s hs).2 y hy
      rw [hr]
      have hrl := rootsK_len (x := x) (k := x.2.1.length) (M := 1048576) f2
      rw [hr] at hrl
      clear hr
      generalize lutRoots x = R at *
      simp [hlt]
      refine aw_loopU [false, false, false, true, false, false, false, true, false, true, true, false, false, false, false, false, false, false, false, false, false, false, false, false, false, false, false, false, false, false, false, false, false, false, false, false, false, false, false, false, false, false, false, false, false, false, false, false, false, false, false, false, false, false, false, false, false, false, false, false, false, false, false, false, false, false, false, false, false, false, false, false, false, false, false, false, false, false, false, false, false, false, false, false, false, false, false, false, false, false, false, false] (fun k : Nat => k ≤ R.length) (fun k : Nat => [(9, .d (.int .i64 (mxFrom lv 0 (R.take k)))), (10, .d (.int .i64 k))]) (fun k : Nat => []) (fun k : Nat => R.length - k) 0 ?_ ?_ ?_
      · simp
      · exact ⟨[0, 1, 2, 3], by simp [mxFrom]⟩
      clear hI hS hμ
      rintro I S μ hI hS hμ k hk
      by_cases hlt : k < R.length
      · have hx1 : R[k]? = some R[k] := List.getElem?_eq_getElem hlt
        have w2 : IntKind.i64.wrap ((k : Int) + 1) = (k : Int) + 1 := wrap_id (by omega) (by omega)
        have hb2 := ho _ (List.getElem_mem hlt)
        generalize R[k] = y at *
        have hd : decide (k < R.length) = true := decide_eq_true hlt
        have hrd := lv_read (lv := lv) (k := y) (by omega) hb2.1
        simp [hd, hx1, hrd, show ¬ y < 0 by omega, w2]
        exact round_of hI hS hμ (k + 1) (by omega) (by omega) ⟨[0, 1, 2, 3], by simp [mxFrom_snoc hx1, gmax]⟩
      · have hk' : k = R.length := by omega
        subst hk'
        simp [hlt]
end Go.Proofs.Ytmengbppepeddaa
