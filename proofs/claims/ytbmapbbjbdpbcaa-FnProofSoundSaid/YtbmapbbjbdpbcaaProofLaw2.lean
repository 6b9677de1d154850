/-
  The law of accepted proofs: each call returns true, at every input.
  Conditions: none.
-/
import Derived.Test.YtbmapbbjbdpbcaaQe
import Derived.Test.YtbmapbbjbdpbcaaQn
import Derived.Test.YtbmapbbjbdpbcaaQi
import Derived.Test.YtbmapbbjbdpbcaaQs
import Derived.Test.YtbmapbbjbdpbcaaDd
namespace Go.Proofs.Ytbmapbbjbdpbcaa
open Go.RowKit Go.ChangeShapes Go.WideShapes Go.ChangeAt
set_option linter.unusedVariables false
set_option linter.unusedSimpArgs false
attribute [local simp ↓] condG_true condG_false condB_true condB_false
attribute [local simp] AWp_skip AWp_region_t AWp_region_d AWp_region_f still_mk AWp_seq AWp_cond condV_bool condB AWp_block AWp_exit AWp_ret
attribute [local simp] AOps_nil AOp_move AOp_assign AOp_pick AOp_binOp AOp_unOp AOp_convert AOp_len AOp_max AOp_min AOp_indexAddr AOp_load
attribute [local simp] AOp_fieldAddr AOp_field AOp_extract AOp_nilCheck AOp_build AOp_alloc AOp_box AOp_call AOp_store AOp_append AOp_buildSlice nextB_some
attribute [local simp] nextB_none adoptO adoptC AOp_makeSlice AOp_slice AOp_makeFunc AOp_guard guardD_some guardG_bool guardG_undef nextO_some nextS_some
attribute [local simp] nextZ_some nextL_some nextM_some nextT_some sliceO sliceL sliceT partO partV boundV funcO pickO
attribute [local simp] convO lenO maxO minO idxO extO nilO buildO litO litC makeO chunks
attribute [local simp] fillV placeOf thenA inBlockA St.get St.put St.eval ofCell evalT abin_add abin_sub abin_mul
attribute [local simp] abin_quo abin_rem abin_and abin_or abin_xor abin_andNot abin_shl abin_shr abin_shlu abin_eql abin_neq abin_lss
attribute [local simp] abin_leq abin_gtr abin_geq abin_eqlb abin_neqb aun pickV lenV intOf? indexV takeD takeV
attribute [local simp] loadV fieldAddrV fieldV ofX presD presDs pres presAll cellsV V.cell storeV freezeC
attribute [local simp] putAt kill takeC plains plainV scalarV nat_neg keepT sets eSl e1 e2
attribute [local simp] e3 e4 eInt eBool afterCall inst inst1 inst1s instD instDs RetA resVs
attribute [local simp] resV gives give1 give1s Le isPin leSlots leS leTmps leV le0 le0s
attribute [local simp] ren ren0 renS ren0s frame enterT afterT_some afterC_some lives Slot.live arrsOk viewV
attribute [local simp] view0 renT rens renSs setAll List.range'_succ RetT RetW joinV leT AOpsE_nil AOpsE_cons
attribute [local simp] AOpsT_nil AOpsT_cons isCallT callOf condC_true condC_false beginT_mk thenT_mk pickE pickT isT loose
attribute [local simp] namesOf namesV names1 names0 stableN sameAt Op.operands Call.operands
theorem big_con (bs : List Int) (h : bs.length ≤ 9223372036854775807) : ConC Try.prog 25 [ibytes bs] (.d (.bool (decide (1048576 < bs.length)))) := by
  refine con_of (by kernel_rfl) Try.func25 rfl rfl rfl ?_
  simp
  omega
theorem opd_byte : OpD Try.prog eByte 5 := fun h _ => by
  obtain ⟨n, rfl, _, hw⟩ := DataW.trod_int Try.underlying5 h
  exact ⟨n, _, rfl, .int _ _, .int _ _ hw⟩
theorem bytes_len {w : World} {G : Nat → Prop} {bs : List Int} {v : Value} (h : Rd w G (eSl 5 (e1 eByte) bs) v) : bs.length ≤ 9223372036854775807 := by
  obtain ⟨_, _, _, h⟩ := Rd.len h
  simpa using h
theorem op_bytes : OpD Try.prog (eSl 5 (e1 eByte)) 33 := opd_sl Try.underlying33 (by simp) (fun x => by simp [e1]) (ope_1 opd_byte)
theorem iIsCons_con (v : Int) (cls : List RowD) (cl : List Int) (hx : fitCn 1048576 (v, cls)) (hl : cl.length ≤ 1048576) (hc : consL v cls cl = true) : ConC Try.prog 35 [icnf (v, cls), ints cl] (.d (.bool true)) := by
  have h1 : cnfOkL v cls = true := by unfold consL at hc; simp only [Bool.and_eq_true] at hc; exact hc.1.1
  have h2 : clauseOkL v cl = true := by unfold consL at hc; simp only [Bool.and_eq_true] at hc; exact hc.1.2
  have h3 : followsL v.toNat cls cl = true := by unfold consL at hc; simp only [Bool.and_eq_true] at hc; exact hc.2
  have hv := clauseOk_of_cnf h1
  have k1 := iCnfOk_con (v, cls) hx
  simp only [h1] at k1
  have k2 := iClauseOk_con cl v hv hl
  rw [h2] at k2
  obtain ⟨n, rfl⟩ : ∃ n : Nat, v = n := ⟨v.toNat, by omega⟩
  simp only [Int.toNat_natCast] at h3
  have k3 := iCons_con cls n cl (by omega) hx (cnfOk_clauses h1) hl (clauseOk_lits h2)
  rw [h3] at k3
  refine con_of (by kernel_rfl) Try.func35 rfl rfl rfl ?_
  simp [enCnf]
  refine call_step (k1) ?_
  simp [enCnf]
  refine call_step (k2) ?_
  simp [enCnf]
  refine call_step (k3) ?_
  simp [enCnf]
set_option maxRecDepth 100000 in
set_option maxHeartbeats 2000000 in
theorem law_proof (bs : List Int) (hb : bs.length ≤ 9223372036854775807) : ConC Try.prog 12 [ibytes bs] (.d (.bool true)) := by
  have k0 := big_con bs hb
  refine con_of (by kernel_rfl) Try.func12 rfl rfl rfl ?_
  simp
  by_cases hbig : 1048576 < bs.length
  · rw [decide_eq_true hbig] at k0
    refine call_step (k0) ?_
    simp
  rw [decide_eq_false hbig] at k0
  refine call_step (k0) ?_
  simp
  have hb2 : bs.length ≤ 1048576 := by omega
  have k1 := DrawCheckProof_conT bs hb2
  obtain ⟨f1, -, f2⟩ := dcp_facts hb2
  generalize (anyD (cur0 bs)).1 = v at *
  generalize dcpC bs = cls at *
  generalize dcpP bs = pf at *
  have c1 := sCheck_con (v, cls) pf f1 f2
  have c2 := iCheck_con (v, cls) pf f1 f2
  simp only at c1 c2
  have hL : ∀ x : RowD, (enRow x).length = 1 := fun _ => rfl
  refine callT_step (k1) [] [] (by simp) ?_
  simp
  cases hck : checkL v cls pf with
  | false =>
    rw [hck] at c1 c2
    have c3 := iCheck_con (v, cls) [[1]] f1 ⟨by simp, by simp⟩
    have h0 : checkL v cls [[1]] = false := by simp [checkL]
    simp only [h0] at c3
    refine call_step (c1) ?_
    simp [enCnf]
    refine call_step (c2) ?_
    simp [enCnf]
    refine call_step (c3) ?_
    simp [enCnf, enRow, e1]
  | true =>
    rw [hck] at c1 c2
    obtain ⟨s1, c, cs, rfl, s2⟩ := check_sound hck
    have c4 := iIsCons_con v cls c f1 (f2.2 _ (by simp)) s2
    refine call_step (c1) ?_
    simp [enCnf]
    refine call_step (c2) ?_
    simp [enCnf]
    have hok : cnfOkL v cls = true := by unfold checkL at hck; simp only [Bool.and_eq_true] at hck; exact hck.1.1.1.1
    have hv := clauseOk_of_cnf hok
    obtain ⟨n, rfl⟩ : ∃ n : Nat, v = n := ⟨v.toNat, by omega⟩
    refine aw_loopU [false, false, false, true, true, false, true, false, false, false, false, false, false, false, false, false, false, false, false, false, false, false, false, false, false, false, false, false, false, false, false, false, false, false, false, false, false, false, false, false, false, false, false, false, false, false, false, false, false, false, false, false, false, false, false, false, false, false, false, false, false, false, false] (fun x : Nat => x ≤ 64) (fun x : Nat => [(6, .d (.int .i64 x))]) (fun x : Nat => []) (fun x : Nat => 64 - x) 0 ?_ ?_ ?_
    · exact Nat.zero_le _
    · exact ⟨[0], by simp⟩
    rintro I S μ hI hS hμ x hx
    by_cases hlt : x < 64
    case neg =>
      simp [show ¬ (x : Int) < 64 by omega]
      refine ⟨by kernel_rfl, ?_⟩
      simp [enRow, e1]
      refine call_step (c4) ?_
      simp [enCnf]
    by_cases hn6 : n ≤ 6
    case neg =>
      simp [show (x : Int) < 64 by omega, show ¬ (n : Int) ≤ 6 by omega]
      refine ⟨by kernel_rfl, ?_⟩
      simp [enRow, e1]
      refine call_step (c4) ?_
      simp [enCnf]
    have w1 : IntKind.i64.wrap ((x : Int) + 1) = (x : Int) + 1 := wrap_id (by omega) (by omega)
    simp [show (x : Int) < 64 by omega, show (n : Int) ≤ 6 by omega]
    refine aw_loopU [false, false, false, true, true, false, true, true, true, false, false, false, false, false, false, false, false, false, false, false, false, false, false, false, false, false, false, false, false, false, false, false, false, false, false, false, false, false, false, false, false, false, false, false, false, false, false, false, false, false, false, false, false, false, false, false, false, false, false, false, false, false, false] (fun j : Nat × List Bool => j.1 ≤ n ∧ j.2.length = j.1) (fun j : Nat × List Bool => [(8, .d (.int .i64 j.1))]) (fun j : Nat × List Bool => [(1, .arr 4 true (j.2.map (e1 eBool)))]) (fun j : Nat × List Bool => n - j.1) (0, []) ?_ ?_ ?_
    · exact ⟨Nat.zero_le _, rfl⟩
    · exact ⟨[0, 1], by simp⟩
    rintro I2 S2 μ2 hI2 hS2 hμ2 ⟨k, a⟩ ⟨hk, ha⟩
    simp only at hk ha
    by_cases hlk : k < n
    · have w2 : IntKind.i64.wrap ((k : Int) + 1) = (k : Int) + 1 := wrap_id (by omega) (by omega)
      simp [decide_eq_true hlk, hlk, show ¬ (k : Int) < 0 by omega]
      generalize (and64 (shr64 (x : Int) (k : Int)) 1 == 1) = b at *
      refine app_data vt_el_23 rfl (by simp) rfl (by simp) (by simp) (by first | (simp; done) | (simp; omega)) (by simp [flatP, flatD]) ?_
      simp [w2]
      exact round_of hI2 hS2 hμ2 (k + 1, a ++ [b]) ⟨by simp; omega, by simp; omega⟩ (by simp; omega) ⟨[0, 3], by simp [e1, eBool]⟩
    · have c5 := iCnfTrue_con ((n : Int), cls) a f1 (by omega)
      simp only [s1 a] at c5
      simp [decide_eq_false hlk, hlk]
      refine call_step (c5) ?_
      simp [enCnf, w1]
      exact round_of hI hS hμ (x + 1) (by omega) (by omega) ⟨[0], by simp⟩
set_option maxRecDepth 100000 in
theorem FnProofSound_lifted (os : Os) (started : os.Started) (H : Type) (enc : TypeId × Value → H) :
    ReturnsInHanded {} Try.checked os 12 .any (Rows.fnProofSoundSpec.pre6 enc Try.prog Try.f12 Rows.fnProofSoundRow.domain false) (Rows.fnProofSoundSpec.post enc Try.prog Try.f12 false true false false) := by
  refine law_lift (C := Try.checked) Try.own started (by kernel_rfl) Try.func12
    (ChangeSpec.witness6 (enc := enc) (C := Try.checked) false ⟨#[], #[.slice none 0 0], []⟩ 8 (by kernel_rfl) (by kernel_rfl) (by kernel_rfl) (by kernel_rfl))
    Try.laidOut (of_decide_eq_true (by kernel_rfl)) rfl rfl Try.underlying4 ?_
  intro W base args ds ps hval0 hA0 hlt
  have hval : ∀ (j : Nat) t v, Try.f12.params[j]? = some t → args[j]? = some v → Value.okWide Try.prog W .any base t v := hval0
  have hA : DataW.TrodAll enc Try.prog W 0 (fun _ => true) true Try.f12.params.toList args.toList ds ps := hA0
  clear hval0 hA0
  rw [Try.params12] at hA hval
  obtain ⟨v0, vs0, d0, ds0, p0, q0, hargs, rfl, rfl, h0, r0⟩ := trodAll_cons hA
  obtain ⟨rfl, rfl, rfl⟩ := trodAll_nil r0
  obtain rfl : args = #[v0] := by cases args; simp_all
  obtain ⟨bs, hb⟩ := openD_sl Try.underlying33 op_bytes (hval 0 _ v0 rfl rfl) h0 (fun x hx => hlt x (by simp [hx]))
  exact ⟨rfl, law_con (law_proof bs (bytes_len hb)) rfl (args1 (.d hb))⟩

/-- THE STATEMENT, PROVED. -/
theorem FnProofSound_holds : Rows.FnProofSoundSaid :=
  OpenClaim.holds_of_wide 12 Try.f12 rfl rfl rfl rfl rfl rfl rfl ⟨rfl, rfl, rfl, rfl, rfl⟩ rfl rfl rfl rfl rfl (by kernel_rfl) Try.func12 (by kernel_rfl)
    (of_decide_eq_true (by kernel_rfl)) (by unfold Func.isWrapper; first | (rw [if_pos (by decide +kernel)]; kernel_rfl) | (rw [if_neg (by decide +kernel)]; exact ⟨rfl, rfl⟩))
    (fun os started H enc _ => FnProofSound_lifted os started H enc)
#print axioms FnProofSound_holds
end Go.Proofs.Ytbmapbbjbdpbcaa
