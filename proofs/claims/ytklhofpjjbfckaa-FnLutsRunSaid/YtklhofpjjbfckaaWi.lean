/-
  Values of networks of look-up tables; a cycle, by abstract walks.
  Conditions: those typed in each theorem.
-/
import Derived.Test.YtklhofpjjbfckaaWh
import Derived.Test.YtklhofpjjbfckaaNp
namespace Go.Proofs.Ytklhofpjjbfckaa
open Go.RowKit Go.ChangeShapes Go.WideShapes
set_option linter.unusedVariables false
set_option linter.unusedSimpArgs false
attribute [local simp ↓] condG_true condG_false condB_true condB_false
attribute [local simp] AWp_skip AWp_region_t AWp_region_d AWp_region_f still_mk AWp_seq AWp_cond condV_bool condB AWp_block AWp_exit AWp_ret
attribute [local simp] AOps_nil AOp_move AOp_assign AOp_pick AOp_binOp AOp_unOp AOp_convert AOp_len AOp_max AOp_min AOp_indexAddr AOp_load
attribute [local simp] AOp_fieldAddr AOp_field AOp_extract AOp_nilCheck AOp_build AOp_alloc AOp_box AOp_call AOp_store AOp_append AOp_buildSlice nextB_some
attribute [local simp] nextB_none adoptO adoptC AOp_makeSlice AOp_slice AOp_makeFunc AOp_guard guardD_some guardG_bool guardG_undef nextO_some nextS_some
attribute [local simp] nextZ_some nextL_some nextM_some nextT_some sliceO sliceL sliceT partO partV boundV funcO pickO
attribute [local simp] convO lenO maxO minO idxO extO nilO buildO litO litC makeO chunks
attribute [local simp] fillV placeOf thenA inBlockA St.get St.put St.eval ofCell evalT abin_add abin_sub abin_mul
attribute [local simp] abin_quo abin_rem abin_and abin_or abin_xor abin_andNot abin_shl abin_shr abin_shlu abin_eql abin_eqp abin_neq
attribute [local simp] abin_lss abin_leq abin_gtr abin_geq abin_eqlb abin_neqb aun pickV lenV intOf? indexV takeD
attribute [local simp] takeV loadV fieldAddrV fieldV ofX presD presDs pres presAll cellsV V.cell storeV
attribute [local simp] freezeC putAt kill takeC plains plainV scalarV nat_neg keepT sets eSl e1
attribute [local simp] e2 e3 e4 eInt eBool afterCall inst inst1 inst1s instD instDs RetA
attribute [local simp] resVs resV gives give1 give1s Le isPin leSlots leS leTmps leV le0
attribute [local simp] le0s ren ren0 renS ren0s frame enterT afterT_some afterC_some lives Slot.live arrsOk
attribute [local simp] viewV view0 renT rens renSs setAll List.range'_succ RetT RetW joinV leT AOpsE_nil
attribute [local simp] AOpsE_cons AOpsT_nil AOpsT_cons isCallT isFnO callOf callVC_fn condC_true condC_false beginT_mk thenT_mk pickE
attribute [local simp] pickT isT loose namesOf namesV names1 names0 stableN sameAt Op.operands Call.operands
def luF (lv : List Int) (l : LutD) : Int := shr64 l.2 (packL (l.1.map (atI lv))) % 2
def luK (v0 : List Int) (f : Nat) (ls : List LutD) : Nat → List Int
  | 0 => v0
  | k + 1 => (luK v0 f ls k).set (f + k) (luF (luK v0 f ls k) ((ls[k]?).getD ([], 0)))
theorem luK_len {v0 : List Int} {f : Nat} {ls : List LutD} : ∀ k, (luK v0 f ls k).length = v0.length
  | 0 => rfl
  | k + 1 => by simp [luK, luK_len k]
theorem luF_01 {lv : List Int} {l : LutD} : 0 ≤ luF lv l ∧ luF lv l ≤ 1 := by unfold luF; omega
theorem luK_bits {v0 : List Int} {f : Nat} {ls : List LutD} (h : bitsI v0) : ∀ k, bitsI (luK v0 f ls k)
  | 0 => h
  | k + 1 => bitsI_set (luK_bits h k) luF_01
def luN (x : NetD) : Nat := 1 + x.1.toNat + x.2.1.length + x.2.2.1.length
def inU (x : NetD) (inp : Int) : List Int := inK (luN x) inp x.1.toNat
def stU (x : NetD) (st : List Int) (inp : Int) : List Int := stK (inU x inp) (1 + x.1.toNat) st st.length
def valsU (x : NetD) (st : List Int) (inp : Int) : List Int := luK (stU x st inp) (1 + x.1.toNat + x.2.1.length) x.2.2.1 x.2.2.1.length
theorem inU_len {x : NetD} {i : Int} : (inU x i).length = luN x := inK_len _
theorem stU_len {x : NetD} {st : List Int} {i : Int} : (stU x st i).length = luN x := by unfold stU; rw [stK_len, inU_len]
theorem valsU_len {x : NetD} {st : List Int} {i : Int} : (valsU x st i).length = luN x := by unfold valsU; rw [luK_len, stU_len]
theorem inU_bits {x : NetD} {i : Int} : bitsI (inU x i) := inK_bits _
theorem stU_bits {x : NetD} {st : List Int} {i : Int} : bitsI (stU x st i) := stK_bits inU_bits _
theorem valsU_bits {x : NetD} {st : List Int} {i : Int} : bitsI (valsU x st i) := luK_bits stU_bits _
theorem packW_le {vs : List Int} (h : bitsI vs) (hl : vs.length ≤ 4) : 0 ≤ packL vs ∧ packL vs < 16 := by
  have := packK_lt h vs.length
  have hp := pow_le hl
  unfold packL
  omega
set_option maxRecDepth 100000 in
set_option maxHeartbeats 1000000 in
theorem lutValues_con (x : NetD) (st : List Int) (inp : Int) (hx : fitNet 1048576 x) (hok : lutNetOkB x = true) (hs : st.length = x.2.1.length) : ConC Try.prog 229 [inet x, ints st, .d (.int .i64 inp)] (ints (valsU x st inp)) := by
  obtain ⟨⟨n1, n2, n3, n4, n5, n6⟩, -, -, o3⟩ := lutOk_of hok
  have hN : luN x = 1 + x.1.toNat + x.2.1.length + x.2.2.1.length := rfl
  have hNi : (1 + x.1 + (x.2.1.length : Int) + (x.2.2.1.length : Int)).toNat = luN x := by omega
  refine con_of (by kernel_rfl) Try.func229 rfl rfl rfl ?_
  simp [enNet]
  refine call_step (iNodes_con x ⟨n1, n2⟩ n3 n4) ?_
  simp
  refine ⟨⟨by omega, by omega⟩, ?_⟩
  rw [hNi]
  refine aw_loopU [false, true, true, true, false, false, false, true, true, false, false, false, false, false, false, false, false, false, false, false, false, false, false, false, false, false, false, false, false, false, false, false, false, false, false, false, false, false, false, false, false, false, false, false, false, false, false, false, false, false, false, false, false, false, false, false, false, false, false, false, false, false, false, false, false, false, false, false, false, false, false, false, false] (fun k : Nat => k ≤ x.1.toNat) (fun k : Nat => [(8, .d (.int .i64 k))]) (fun k : Nat => [(1, .arr 3 true ((inK (luN x) inp k).map (e1 eInt)))]) (fun k : Nat => x.1.toNat - k) 0 ?_ ?_ ?_
  · simp
  · exact ⟨[0, 1], by simp [inK]⟩
  · rintro I S μ hI hS hμ k hk
    obtain ⟨lv, hlv⟩ : ∃ lv, lv = inK (luN x) inp k := ⟨_, rfl⟩
    have hlen : lv.length = luN x := by rw [hlv, inK_len]
    have hnext : inK (luN x) inp (k + 1) = lv.set (1 + k) (bit inp k) := by rw [hlv]; rfl
    rw [← hlv]
    by_cases hlt : k < x.1.toNat
    · have w2 : IntKind.i64.wrap ((k : Int) + 1) = (k : Int) + 1 := wrap_id (by omega) (by omega)
      have w3 : IntKind.i64.wrap (1 + (k : Int)) = 1 + (k : Int) := wrap_id (by omega) (by omega)
      have wk : IntKind.u64.wrap (k : Int) = k := u64_id (by omega) (by omega)
      have ht : (1 + (k : Int)).toNat = 1 + k := by omega
      have hr : lv[1 + k]? = some (atI lv (1 + k)) := by rw [← ht]; exact at_read (by omega)
      simp [show (k : Int) < x.1 by omega, w3, wk, and_shr, ht, hr, show ¬ 1 + (k : Int) < 0 by omega, w2]
      exact round_of hI hS hμ (k + 1) (by omega) (by omega) ⟨[0, 1], by simp [hnext, ← setI]⟩
    · have hk' : k = x.1.toNat := by omega
      have hv : lv = inU x inp := by rw [hlv, hk']; rfl
      clear hlv hnext hI hS hμ
      have hb0 : bitsI lv := by rw [hv]; exact inU_bits
      simp [show ¬ ((k : Int) < x.1) by omega]
      refine aw_loopU [false, false, false, true, false, false, false, true, false, false, false, false, false, false, false, false, false, false, false, false, false, false, false, false, false, false, false, false, false, false, false, true, true, true, false, false, false, false, false, false, false, false, false, false, false, false, false, false, false, false, false, false, false, false, false, false, false, false, false, false, false, false, false, false, false, false, false, false, false, false, false, false, false] (fun k : Nat => k ≤ st.length) (fun k : Nat => [(33, .d (.int .i64 k))]) (fun k : Nat => [(1, .arr 3 true ((stK lv (1 + x.1.toNat) st k).map (e1 eInt)))]) (fun k : Nat => st.length - k) 0 ?_ ?_ ?_
      · simp
      · exact ⟨[0, 1], by simp [stK]⟩
      rintro I S μ hI hS hμ k hk
      obtain ⟨lw, hlw⟩ : ∃ lw, lw = stK lv (1 + x.1.toNat) st k := ⟨_, rfl⟩
      have hlen2 : lw.length = luN x := by rw [hlw, stK_len, hlen]
      by_cases hlt : k < st.length
      · have hx1 : st[k]? = some st[k] := List.getElem?_eq_getElem hlt
        have hnext : stK lv (1 + x.1.toNat) st (k + 1) = lw.set (1 + x.1.toNat + k) (st[k] % 2) := by rw [hlw]; simp [stK, hx1]
        rw [← hlw]
        generalize st[k] = v at *
        have w2 : IntKind.i64.wrap ((k : Int) + 1) = (k : Int) + 1 := wrap_id (by omega) (by omega)
        have w3 : IntKind.i64.wrap (1 + x.1 + (k : Int)) = 1 + x.1 + (k : Int) := wrap_id (by omega) (by omega)
        have w4 : IntKind.i64.wrap (1 + x.1) = 1 + x.1 := wrap_id (by omega) (by omega)
        have ht : (1 + x.1 + (k : Int)).toNat = 1 + x.1.toNat + k := by omega
        have hr : lw[1 + x.1.toNat + k]? = some (atI lw (1 + x.1 + k)) := by rw [← ht]; exact at_read (by omega)
        have hd : decide (k < st.length) = true := decide_eq_true hlt
        simp [hd, hx1, w4, w3, and64_one, ht, hr, show ¬ 1 + x.1 + (k : Int) < 0 by omega, w2]
        exact round_of hI hS hμ (k + 1) (by omega) (by omega) ⟨[0, 1], by simp [hnext, ← setI]⟩
      · have hk' : k = st.length := by omega
        subst hk'
        have hv2 : lw = stU x st inp := by rw [hlw, hv]; rfl
        rw [← hlw]
        clear hlw hI hS hμ
        have hb1 : bitsI lw := by rw [hv2]; exact stU_bits
        simp [hlt]
        refine aw_loopU [false, false, false, true, false, false, false, true, false, false, false, false, false, false, false, false, false, false, false, false, false, false, false, false, false, false, false, false, false, false, false, false, false, false, false, false, false, false, false, false, false, false, false, false, false, false, false, false, false, true, true, true, false, false, false, false, false, false, false, false, false, false, false, false, false, false, false, false, false, false, false, false, false] (fun k : Nat => k ≤ x.2.2.1.length) (fun k : Nat => [(51, .d (.int .i64 k))]) (fun k : Nat => [(1, .arr 3 true ((luK lw (1 + x.1.toNat + x.2.1.length) x.2.2.1 k).map (e1 eInt)))]) (fun k : Nat => x.2.2.1.length - k) 0 ?_ ?_ ?_
        · simp
        · exact ⟨[0, 1], by simp [luK]⟩
        rintro I S μ hI hS hμ k hk
        obtain ⟨lu, hlu⟩ : ∃ lu, lu = luK lw (1 + x.1.toNat + x.2.1.length) x.2.2.1 k := ⟨_, rfl⟩
        have hlen3 : lu.length = luN x := by rw [hlu, luK_len, hlen2]
        have hb2 : bitsI lu := by rw [hlu]; exact luK_bits hb1 k
        by_cases hlt : k < x.2.2.1.length
        · have hx1 : x.2.2.1[k]? = some x.2.2.1[k] := List.getElem?_eq_getElem hlt
          have hL : (enLut x.2.2.1[k]).length = 2 := rfl
          have hnext : luK lw (1 + x.1.toNat + x.2.1.length) x.2.2.1 (k + 1) = lu.set (1 + x.1.toNat + x.2.1.length + k) (luF lu x.2.2.1[k]) := by rw [hlu]; simp [luK, hx1]
          have ho := o3 k _ hx1
          rw [← hlu]
          generalize x.2.2.1[k] = s at *
          have h4 := tableOk_le ho.1
          have hin : nodesIn lu s.1 := fun y hy => by have := ho.2 y hy; omega
          have hp := packW_le (vs := s.1.map (atI lu)) (bitsI_map fun y _ => atI_bit hb2 y) (by simpa using h4)
          have hf : shr64 s.2 (packL (s.1.map (atI lu))) % 2 = luF lu s := rfl
          have hc := packNodes_con lu s.1 hb2 hin (by omega) (by omega)
          obtain ⟨p, hpp⟩ : ∃ p, p = packL (s.1.map (atI lu)) := ⟨_, rfl⟩
          rw [← hpp] at hp hf hc
          have wp : IntKind.u64.wrap p = p := u64_id hp.1 (by omega)
          have w2 : IntKind.i64.wrap ((k : Int) + 1) = (k : Int) + 1 := wrap_id (by omega) (by omega)
          have w3 : IntKind.i64.wrap (1 + x.1 + (x.2.1.length : Int) + (k : Int)) = 1 + x.1 + (x.2.1.length : Int) + (k : Int) := wrap_id (by omega) (by omega)
          have ht : (1 + x.1 + (x.2.1.length : Int) + (k : Int)).toNat = 1 + x.1.toNat + x.2.1.length + k := by omega
          have hr : lu[1 + x.1.toNat + x.2.1.length + k]? = some (atI lu (1 + x.1 + x.2.1.length + k)) := by rw [← ht]; exact at_read (by omega)
          have hd : decide (k < x.2.2.1.length) = true := decide_eq_true hlt
          simp [hd, hx1, hL, enLut]
          refine ⟨by kernel_rfl, ?_⟩
          refine call_step (firstLut_con x ⟨n1, n2⟩ n3) ?_
          simp [w3]
          refine call_step (hc) ?_
          simp [wp, hp.1, and64_one, hf, ht, hr, show ¬ 1 + x.1 + (x.2.1.length : Int) + (k : Int) < 0 by omega, w2]
          exact round_of hI hS hμ (k + 1) (by omega) (by omega) ⟨[0, 1], by simp [hnext, ← setI]⟩
        · have hk' : k = x.2.2.1.length := by omega
          subst hk'
          have hv3 : lu = valsU x st inp := by rw [hlu, hv2]; rfl
          rw [← hlu]
          simp [hlt, hv3]
theorem stateOk_net {x : NetD} {st : List Int} (h : stateOkB x st = true) : lutNetOkB x = true ∧ st.length = x.2.1.length := by
  simp only [stateOkB, Bool.and_eq_true, decide_eq_true_eq] at h
  exact h.1
end Go.Proofs.Ytklhofpjjbfckaa
