/-
  A cycle of a network of look-up tables; runs, by abstract walks.
  Conditions: those typed in each theorem.
-/
import Derived.Test.YtmengbppepeddaaWi
namespace Go.Proofs.Ytmengbppepeddaa
open Go.RowKit Go.ChangeShapes Go.WideShapes
set_option linter.unusedVariables false
set_option linter.unusedSimpArgs false
attribute [local simp ↓] condG_true condG_false condB_true condB_false
attribute [local simp] AWp_skip AWp_region_t AWp_region_f still_mk AWp_seq AWp_cond condV_bool condB AWp_block AWp_exit AWp_ret AOps_nil
attribute [local simp] AOp_move AOp_assign AOp_pick AOp_binOp AOp_unOp AOp_convert AOp_len AOp_max AOp_min AOp_indexAddr AOp_load AOp_fieldAddr
attribute [local simp] AOp_field AOp_extract AOp_nilCheck AOp_build AOp_alloc AOp_box AOp_call AOp_store AOp_append AOp_buildSlice AOp_makeSlice AOp_slice
attribute [local simp] AOp_makeFunc AOp_guard guardD_some guardG_bool guardG_undef nextO_some nextS_some nextZ_some nextL_some nextM_some nextT_some sliceO
attribute [local simp] sliceL sliceT partO partV boundV funcO pickO convO lenO maxO minO idxO
attribute [local simp] extO nilO buildO litO litC makeO chunks fillV placeOf thenA inBlockA St.get
attribute [local simp] St.put St.eval ofCell evalT abin_add abin_sub abin_mul abin_quo abin_rem abin_and abin_or abin_xor
attribute [local simp] abin_andNot abin_shl abin_shr abin_shlu abin_eql abin_neq abin_lss abin_leq abin_gtr abin_geq abin_eqlb abin_neqb
attribute [local simp] aun pickV lenV intOf? indexV takeD takeV loadV fieldAddrV fieldV ofX presD
attribute [local simp] presDs pres presAll cellsV V.cell storeV freezeC putAt kill takeC plains plainV
attribute [local simp] scalarV nat_neg keepT sets eSl e1 e2 e3 e4 eInt eBool afterCall
attribute [local simp] inst inst1 inst1s instD instDs RetA resVs resV gives give1 give1s Le
attribute [local simp] isPin leSlots leS leTmps leV le0 le0s ren ren0 renS ren0s frame
attribute [local simp] enterT afterT_some lives Slot.live arrsOk viewV view0 renT rens renSs setAll List.range'_succ
attribute [local simp] RetT RetW joinV leT
set_option maxRecDepth 100000 in
set_option maxHeartbeats 1000000 in
theorem sLutValues_con (x : NetD) (st : List Int) (inp : Int) (hx : fitNet 1048576 x) (hs0 : st.length ≤ 1048576) : ConC Try.prog 23 [inet x, ints st, .d (.int .i64 inp)] (ints (lutValuesL x st inp)) := by
  refine con_of (by kernel_rfl) Try.func23 rfl rfl rfl ?_
  simp [enNet]
  refine call_step (sStateOk_con x st hx hs0) ?_
  simp
  rcases Bool.eq_false_or_eq_true (stateOkB x st) with hso | hso
  case inr => simp [hso, lutValuesL]
  obtain ⟨hok, hs⟩ := stateOk_net hso
  obtain ⟨⟨n1, n2, n3, n4, n5, n6⟩, -, -, o3⟩ := lutOk_of hok
  have hN : luN x = 1 + x.1.toNat + x.2.1.length + x.2.2.1.length := rfl
  have hNi : (nodesL x).toNat = luN x := by omega
  have hres : lutValuesL x st inp = valsU x st inp := by simp [lutValuesL, hso]
  rw [hres]
  simp [hso]
  refine call_step (sLutNodes_con x) ?_
  simp
  refine ⟨⟨by omega, by omega⟩, ?_⟩
  rw [hNi]
  refine aw_loopU [false, true, true, true, false, false, false, true, true, false, false, false, false, false, false, false, false, false, false, false, false, false, false, false, false, false, false, false, false, false, false, false, false, false, false, false, false, false, false, false, false, false, false, false, false, false, false, false, false, false, false, false, false, false, false, false, false, false, false, false, false, false, false, false, false, false, false, false, false, false, false, false, false, false, false, false, false, false, false, false, false] (fun k : Nat => k ≤ x.1.toNat) (fun k : Nat => [(8, .d (.int .i64 k))]) (fun k : Nat => [(1, .arr 3 true ((inK (luN x) inp k).map (e1 eInt)))]) (fun k : Nat => x.1.toNat - k) 0 ?_ ?_ ?_
  · simp
  · exact ⟨[0, 1], by simp [inK]⟩
  · rintro I S μ hI hS hμ k hk
    obtain ⟨lv, hlv⟩ : ∃ lv, lv = inK (luN x) inp k := ⟨_, rfl⟩
    have hlen : lv.length = luN x := by rw [hlv, inK_len]
    have hnext : inK (luN x) inp (k + 1) = lv.set (1 + k) (bit inp k) := by rw [hlv]; rfl
    rw [← hlv]
    by_cases hlt : k < x.1.toNat
    · have w2 : IntKind.i64.wrap ((k : Int) + 1) = (k : Int) + 1 := wrap_id (by omega) (by omega)
      have w3 : IntKind.i64.wrap (1 + (k : Int)) = 1 + (k : Int) := wrap_id (by omega) (by omega)
      have ht : (1 + (k : Int)).toNat = 1 + k := by omega
      have hr : lv[1 + k]? = some (atI lv (1 + k)) := by rw [← ht]; exact at_read (by omega)
      simp [show (k : Int) < x.1 by omega, w3, and_shr, ht, hr, show ¬ 1 + (k : Int) < 0 by omega, w2]
      exact round_of hI hS hμ (k + 1) (by omega) (by omega) ⟨[0, 1], by simp [hnext, ← setI]⟩
    · have hk' : k = x.1.toNat := by omega
      have hv : lv = inU x inp := by rw [hlv, hk']; rfl
      clear hlv hnext hI hS hμ
      have hb0 : bitsI lv := by rw [hv]; exact inU_bits
      simp [show ¬ ((k : Int) < x.1) by omega]
      refine aw_loopU [false, true, false, true, false, false, false, true, false, true, false, false, false, false, false, false, false, false, false, false, false, false, false, false, false, false, false, false, false, false, false, false, false, false, false, false, false, false, false, false, false, false, false, false, false, false, false, false, false, false, false, false, false, false, false, false, false, false, false, false, false, false, false, false, false, false, false, false, false, false, false, false, false, false, false, false, false, false, false, false, false] (fun k : Nat => k ≤ st.length) (fun k : Nat => [(9, .d (.int .i64 k))]) (fun k : Nat => [(1, .arr 3 true ((stK lv (1 + x.1.toNat) st k).map (e1 eInt)))]) (fun k : Nat => st.length - k) 0 ?_ ?_ ?_
      · simp
      · exact ⟨[0, 1], by simp [stK]⟩
      rintro I S μ hI hS hμ k hk
      obtain ⟨lw, hlw⟩ : ∃ lw, lw = stK lv (1 + x.1.toNat) st k := ⟨_, rfl⟩
      have hlen2 : lw.length = luN x := by rw [hlw, stK_len, hlen]
      by_cases hlt : k < st.length
      · have hx1 : st[k]? = some st[k] := List.getElem?_eq_getElem hlt
        have hnext : stK lv (1 + x.1.toNat) st (k + 1) = lw.set (1 + x.1.toNat + k) (st[k] % 2) := by rw [hlw]; simp [stK, hx1]
        rw [← hlw]
        generalize st[k] = v at *
        have w2 : IntKind.i64.wrap ((k : Int) + 1) = (k : Int) + 1 := wrap_id (by omega) (by omega)
        have w3 : IntKind.i64.wrap (1 + x.1 + (k : Int)) = 1 + x.1 + (k : Int) := wrap_id (by omega) (by omega)
        have w4 : IntKind.i64.wrap (1 + x.1) = 1 + x.1 := wrap_id (by omega) (by omega)
        have ht : (1 + x.1 + (k : Int)).toNat = 1 + x.1.toNat + k := by omega
        have hr : lw[1 + x.1.toNat + k]? = some (atI lw (1 + x.1 + k)) := by rw [← ht]; exact at_read (by omega)
        have hd : decide (k < st.length) = true := decide_eq_true hlt
        simp [hd, hx1, w4, w3, and64_one, ht, hr, show ¬ 1 + x.1 + (k : Int) < 0 by omega, w2]
        exact ⟨by kernel_rfl, round_of hI hS hμ (k + 1) (by omega) (by omega) ⟨[0, 1], by simp [hnext, ← setI]⟩⟩
      · have hk' : k = st.length := by omega
        subst hk'
        have hv2 : lw = stU x st inp := by rw [hlw, hv]; rfl
        rw [← hlw]
        clear hlw hI hS hμ
        have hb1 : bitsI lw := by rw [hv2]; exact stU_bits
        simp [hlt]
        refine aw_loopU [false, false, false, true, false, false, false, true, false, false, true, false, false, false, false, false, false, false, false, false, false, false, false, false, false, false, false, false, false, false, false, false, false, false, false, false, false, false, false, false, false, false, false, false, false, false, false, false, false, false, false, false, false, false, false, false, false, false, false, false, false, false, false, false, false, false, false, false, false, false, false, false, false, false, false, false, false, false, false, false, false] (fun k : Nat => k ≤ x.2.2.1.length) (fun k : Nat => [(10, .d (.int .i64 k))]) (fun k : Nat => [(1, .arr 3 true ((luK lw (1 + x.1.toNat + x.2.1.length) x.2.2.1 k).map (e1 eInt)))]) (fun k : Nat => x.2.2.1.length - k) 0 ?_ ?_ ?_
        · simp
        · exact ⟨[0, 1], by simp [luK]⟩
        rintro I S μ hI hS hμ k hk
        obtain ⟨lu, hlu⟩ : ∃ lu, lu = luK lw (1 + x.1.toNat + x.2.1.length) x.2.2.1 k := ⟨_, rfl⟩
        have hlen3 : lu.length = luN x := by rw [hlu, luK_len, hlen2]
        have hb2 : bitsI lu := by rw [hlu]; exact luK_bits hb1 k
        by_cases hlt : k < x.2.2.1.length
        · have hx1 : x.2.2.1[k]? = some x.2.2.1[k] := List.getElem?_eq_getElem hlt
          have hL : (enLut x.2.2.1[k]).length = 2 := rfl
          have hnext : luK lw (1 + x.1.toNat + x.2.1.length) x.2.2.1 (k + 1) = lu.set (1 + x.1.toNat + x.2.1.length + k) (luF lu x.2.2.1[k]) := by rw [hlu]; simp [luK, hx1]
          have ho := o3 k _ hx1
          rw [← hlu]
          generalize x.2.2.1[k] = s at *
          have h4 := tableOk_le ho.1
          have hin : nodesIn lu s.1 := fun y hy => by have := ho.2 y hy; omega
          have hp := packL_le (vs := s.1.map (atI lu)) (bitsI_map fun y _ => atI_bit hb2 y) (by simpa using h4)
          have hf : shr64 s.2 (packL (s.1.map (atI lu))) % 2 = luF lu s := rfl
          have hc := l20Pack_con lu s.1 hb2 hin (by omega) (by omega)
          obtain ⟨p, hpp⟩ : ∃ p, p = packL (s.1.map (atI lu)) := ⟨_, rfl⟩
          rw [← hpp] at hp hf hc
          have w2 : IntKind.i64.wrap ((k : Int) + 1) = (k : Int) + 1 := wrap_id (by omega) (by omega)
          have w3 : IntKind.i64.wrap (1 + x.1 + (x.2.1.length : Int) + (k : Int)) = 1 + x.1 + (x.2.1.length : Int) + (k : Int) := wrap_id (by omega) (by omega)
          have ht : (1 + x.1 + (x.2.1.length : Int) + (k : Int)).toNat = 1 + x.1.toNat + x.2.1.length + k := by omega
          have hr : lu[1 + x.1.toNat + x.2.1.length + k]? = some (atI lu (1 + x.1 + x.2.1.length + k)) := by rw [← ht]; exact at_read (by omega)
          have hd : decide (k < x.2.2.1.length) = true := decide_eq_true hlt
          simp [hd, hx1, hL, enLut]
          refine ⟨by kernel_rfl, ?_⟩
          refine call_step (sFirst_con x ⟨n1, n2⟩ n3) ?_
          simp [w3, hx1, hL, enLut]
          refine call_step (hc) ?_
          simp [hp.1, and64_one, hf, ht, hr, show ¬ 1 + x.1 + (x.2.1.length : Int) + (k : Int) < 0 by omega, w2]
          exact round_of hI hS hμ (k + 1) (by omega) (by omega) ⟨[0, 1], by simp [hnext, ← setI]⟩
        · have hk' : k = x.2.2.1.length := by omega
          subst hk'
          have hv3 : lu = valsU x st inp := by rw [hlu, hv2]; rfl
          rw [← hlu]
          simp [hlt, hv3]
end Go.Proofs.Ytmengbppepeddaa
