/-
  The law of the search: each call returns true, at every input.
  Conditions: none.
-/
import Derived.Test.YtbmapbbjbdpbcaaQt
import Derived.Test.YtbmapbbjbdpbcaaQs
import Derived.Test.YtbmapbbjbdpbcaaQh
import Derived.Test.YtbmapbbjbdpbcaaDb
import Derived.Test.YtbmapbbjbdpbcaaDc
namespace Go.Proofs.Ytbmapbbjbdpbcaa
open Go.RowKit Go.ChangeShapes Go.WideShapes Go.ChangeAt
set_option linter.unusedVariables false
set_option linter.unusedSimpArgs false
attribute [local simp ↓] condG_true condG_false condB_true condB_false
attribute [local simp] AWp_skip AWp_region_t AWp_region_d AWp_region_f still_mk AWp_seq AWp_cond condV_bool condB AWp_block AWp_exit AWp_ret
attribute [local simp] AOps_nil AOp_move AOp_assign AOp_pick AOp_binOp AOp_unOp AOp_convert AOp_len AOp_max AOp_min AOp_indexAddr AOp_load
attribute [local simp] AOp_fieldAddr AOp_field AOp_extract AOp_nilCheck AOp_build AOp_alloc AOp_box AOp_call AOp_store AOp_append AOp_buildSlice AOp_makeSlice
attribute [local simp] AOp_slice AOp_makeFunc AOp_guard guardD_some guardG_bool guardG_undef nextO_some nextS_some nextZ_some nextL_some nextM_some nextT_some
attribute [local simp] sliceO sliceL sliceT partO partV boundV funcO pickO convO lenO maxO minO
attribute [local simp] idxO extO nilO buildO litO litC makeO chunks fillV placeOf thenA inBlockA
attribute [local simp] St.get St.put St.eval ofCell evalT abin_add abin_sub abin_mul abin_quo abin_rem abin_and abin_or
attribute [local simp] abin_xor abin_andNot abin_shl abin_shr abin_shlu abin_eql abin_neq abin_lss abin_leq abin_gtr abin_geq abin_eqlb
attribute [local simp] abin_neqb aun pickV lenV intOf? indexV takeD takeV loadV fieldAddrV fieldV ofX
attribute [local simp] presD presDs pres presAll cellsV V.cell storeV freezeC putAt kill takeC plains
attribute [local simp] plainV scalarV nat_neg keepT sets eSl e1 e2 e3 e4 eInt eBool
attribute [local simp] afterCall inst inst1 inst1s instD instDs RetA resVs resV gives give1 give1s
attribute [local simp] Le isPin leSlots leS leTmps leV le0 le0s ren ren0 renS ren0s
attribute [local simp] frame enterT afterT_some afterC_some lives Slot.live arrsOk viewV view0 renT rens renSs
attribute [local simp] setAll List.range'_succ RetT RetW joinV leT AOpsE_nil AOpsE_cons AOpsT_nil AOpsT_cons isCallT callOf
attribute [local simp] condC_true condC_false beginT_mk thenT_mk pickE pickT isT loose namesOf namesV names1 names0
attribute [local simp] stableN sameAt Op.operands Call.operands
theorem big_con (bs : List Int) (h : bs.length ≤ 9223372036854775807) : ConC Try.prog 25 [ibytes bs] (.d (.bool (decide (1048576 < bs.length)))) := by
  refine con_of (by kernel_rfl) Try.func25 rfl rfl rfl ?_
  simp
  omega
theorem solveL_fit {v : Int} {cls : List RowD} {B : Int} : (solveL v cls B).2.1.length ≤ 400 ∧ fitRw 1048576 (solveL v cls B).2.2 := by
  unfold solveL
  split
  · rename_i h
    have hv4 := clauseOk_of_cnf h.1
    obtain ⟨n, rfl⟩ : ∃ n : Nat, v = n := ⟨v.toNat, by omega⟩
    have hr := rng_iff.1 h.2
    have hsf := srch_facts (cnfOk_clauses h.1) B.toNat B.toNat (List.replicate n 0) [] [] (by simp) (trits_rep n)
    simp only [Int.toNat_natCast]
    generalize srch cls B.toNat B.toNat (List.replicate n 0) [] [] = r at *
    obtain ⟨f1, f2, f3, f4⟩ := hsf
    split
    · rename_i h1
      have := (f4 h1).1
      refine ⟨?_, by simp [fitRw]⟩
      rw [ones_len]; omega
    · split
      · rename_i h2
        obtain ⟨a, b, c⟩ := f3 h2
        refine ⟨by simp, ?_, c (by simp) (by simp; omega)⟩
        simp only [List.length_nil] at a ⊢
        omega
      · exact ⟨by simp, by simp [fitRw]⟩
  · exact ⟨by simp, by simp [fitRw]⟩
theorem opd_byte : OpD Try.prog eByte 5 := fun h _ => by
  obtain ⟨n, rfl, _, hw⟩ := DataW.trod_int Try.underlying5 h
  exact ⟨n, _, rfl, .int _ _, .int _ _ hw⟩
theorem bytes_len {w : World} {G : Nat → Prop} {bs : List Int} {v : Value} (h : Rd w G (eSl 5 (e1 eByte) bs) v) : bs.length ≤ 9223372036854775807 := by
  obtain ⟨_, _, _, h⟩ := Rd.len h
  simpa using h
theorem op_bytes : OpD Try.prog (eSl 5 (e1 eByte)) 33 := opd_sl Try.underlying33 (by simp) (fun x => by simp [e1]) (ope_1 opd_byte)
set_option maxRecDepth 100000 in
set_option maxHeartbeats 2000000 in
theorem law_solved (bs : List Int) (hb : bs.length ≤ 9223372036854775807) : ConC Try.prog 11 [ibytes bs] (.d (.bool true)) := by
  have k0 := big_con bs hb
  refine con_of (by kernel_rfl) Try.func11 rfl rfl rfl ?_
  simp
  by_cases hbig : 1048576 < bs.length
  · rw [decide_eq_true hbig] at k0
    refine call_step (k0) ?_
    simp
  rw [decide_eq_false hbig] at k0
  refine call_step (k0) ?_
  simp
  have k1 := DrawCnf_con bs (by omega)
  obtain ⟨d1, d2, d3⟩ := cnfD_facts (cur0_ok (bs := bs) (by omega))
  have d4 := cnfDV_rng (cur0 bs)
  have d5 := (asgD_facts (cnfDV (cur0 bs)) [] (cnfD (cur0 bs)).2 d2).1
  have e1' : drawnV bs = cnfDV (cur0 bs) := rfl
  have e2' : drawnC bs = (cnfD (cur0 bs)).1 := rfl
  have e3' : drawnA bs = (asgD (cnfDV (cur0 bs)) [] (cnfD (cur0 bs)).2).1 := rfl
  rw [← e1'] at d3 d4 d5 e3'
  rw [← e2'] at d1 d3
  rw [← e3'] at d5
  clear e1' e2' e3'
  generalize drawnV bs = v at *
  generalize drawnC bs = cls at *
  generalize drawnA bs = a at *
  simp only [List.length_nil, Nat.zero_add] at d5
  have hfit : fitCn 1048576 (v, cls) := ⟨by simp; omega, fun r hr => by have := (d3 r hr).1; omega⟩
  have hok : cnfOkL v cls = true := by
    unfold cnfOkL
    rw [rng_iff.2 (by omega), decide_eq_true (by omega)]
    simp only [Bool.true_and, List.all_eq_true]
    intro c hc
    unfold clauseOkL
    rw [decide_eq_true (by have := (d3 c hc).1; omega)]
    simp only [Bool.true_and, List.all_eq_true]
    exact fun l hl => litOk_iff.2 ((d3 c hc).2 l hl)
  have k2 := conT_of_C k1 (by simp [notTup])
  have hsv := solveL_fit (v := (v : Int)) (cls := cls) (B := 600)
  have k3 := conT_of_C (iSolve_con (v, cls) 600 hfit) (by simp [notTup])
  have hso := solveL_says (v := v) (cls := cls) (by omega) hok (by omega)
  have kb := sCnfTrue_con (v, cls) a hfit (by omega)
  refine callT_step (k2) [] [] (by simp) ?_
  simp [enCnf, ofXs, ofX]
  simp only [ofX, icnf, enCnf, e2, List.map_cons, List.map_nil] at k3
  rcases hso with ⟨m, hs, hml, hmt, hmb⟩ | ⟨pf, hs, hmb, hck, hp0, hp6, hcn⟩
  · simp only [hs] at k3
    refine callT_step (k3) [] [] (by simp) ?_
    simp [ofXs, ofX]
    have km := iCnfTrue_con (v, cls) m hfit (by omega)
    simp only [hmt] at km
    have hll : ((m.length : Int) != (a.length : Int)) = false := by rw [hml, d5]; simp
    refine call_step (km) ?_
    simp [enCnf, hml, d5]
    cases hcb : cnfTrueL v cls a with
    | false =>
      simp only [hcb] at kb
      refine call_step (kb) ?_
      simp [enCnf]
    | true =>
      simp only [hcb] at kb
      have hle := hmb a hcb
      refine call_step (kb) ?_
      simp [enCnf]
      refine aw_loopU [false, false, false, false, true, false, true, false, true, false, false, false, false, false, false, false, false, false, false, false, false, false, false, false, false, false, false, false, false, false, false, false, false, false, false, false, false, false, false, false, false, false, false, false, false, false, false, false, false, false, false, false, false, false, false, false, false, false, false, false, false, false, false, false, false, false, false, false, false, false, false, false, false, false, false, false, false, false, false, false, false, false, false, false, false, false, false, false, false, false, false] (fun k : Nat => k ≤ m.length ∧ ∀ j : Nat, j < k → m[j]? = a[j]?) (fun k : Nat => [(8, .d (.int .i64 k))]) (fun k : Nat => []) (fun k : Nat => m.length - k) 0 ?_ ?_ ?_
      · exact ⟨Nat.zero_le _, fun j h => by omega⟩
      · exact ⟨[0], by simp⟩
      rintro I S μ hI hS hμ k ⟨hk, hpre⟩
      by_cases hlt : k < m.length
      · have hx1 : m[k]? = some m[k] := List.getElem?_eq_getElem hlt
        have hy1 : a[k]? = some (a[k]'(by omega)) := List.getElem?_eq_getElem _
        have w2 : IntKind.i64.wrap ((k : Int) + 1) = (k : Int) + 1 := wrap_id (by omega) (by omega)
        have hlk := hle k hpre
        rw [hx1, hy1] at hlk
        generalize m[k] = x at *
        generalize a[k]'(by omega) = y at *
        simp [decide_eq_true hlt]
        refine ⟨by kernel_rfl, ?_⟩
        by_cases hxy : x = y
        · subst hxy
          simp [hx1, hy1, w2]
          exact round_of hI hS hμ (k + 1) ⟨by omega, fun j hj => by
            rcases Nat.lt_or_ge j k with h | h
            · exact hpre j h
            · rw [show j = k by omega, hx1, hy1]⟩ (by omega) ⟨[0], by simp⟩
        · have hyt : y = true := by have := hlk (by simpa using hxy); simpa using this
          subst hyt
          have hxf : x = false := by simpa using hxy
          subst hxf
          simp [hx1, hy1]
      · simp [hlt, decide_eq_false hlt]
  · simp only [hs] at k3
    simp only [hs] at hsv
    have kc := iCheck_con (v, cls) pf hfit hsv.2
    have kd := iCheck_con (v, cls) (pf.take (pf.length - 1)) hfit ⟨by simp; omega, fun r hr => hsv.2.2 r (List.mem_of_mem_take hr)⟩
    simp only [hck] at kc
    simp only [hcn] at kd
    have kd2 : ConC Try.prog 43 [icnf (v, cls), .d (.sl 22 ((pf.map enRow).take (pf.length - 1)))] (.d (.bool false)) := by
      rw [← List.map_take]; exact kd
    simp only [hmb a] at kb
    have w3 : IntKind.i64.wrap ((pf.length : Int) - 1) = ((pf.length - 1 : Nat) : Int) := by rw [wrap_id (by omega) (by omega)]; omega
    have hmx : (if (pf.length : Int) > 1 then (pf.length : Int) else 1) = pf.length := by split <;> omega
    have hmx2 : (if (1 : Int) < pf.length then (pf.length : Int) else 1) = pf.length := by split <;> omega
    have hmx3 : (if 1 < pf.length then (pf.length : Int) else 1) = pf.length := by split <;> omega
    refine callT_step (k3) [] [] (by simp) ?_
    simp [ofXs, ofX]
    refine ⟨by kernel_rfl, ?_⟩
    refine call_step (kb) ?_
    simp [enCnf]
    have hL : ∀ x : RowD, (enRow x).length = 1 := fun _ => rfl
    refine call_step (kc) ?_
    simp [enCnf, hmx, hmx2, hmx3, w3, hL]
    refine call_step (kd2) ?_
    simp [enCnf]
set_option maxRecDepth 100000 in
theorem FnSolved_lifted (os : Os) (started : os.Started) (H : Type) (enc : TypeId × Value → H) :
    ReturnsInHanded {} Try.checked os 11 .any (Rows.fnSolvedSpec.pre6 enc Try.prog Try.f11 Rows.fnSolvedRow.domain false) (Rows.fnSolvedSpec.post enc Try.prog Try.f11 false true false false) := by
  refine law_lift (C := Try.checked) Try.own started (by kernel_rfl) Try.func11
    (ChangeSpec.witness6 (enc := enc) (C := Try.checked) false ⟨#[], #[.slice none 0 0], []⟩ 8 (by kernel_rfl) (by kernel_rfl) (by kernel_rfl) (by kernel_rfl))
    Try.laidOut (of_decide_eq_true (by kernel_rfl)) rfl rfl Try.underlying4 ?_
  intro W base args ds ps hval0 hA0 hlt
  have hval : ∀ (j : Nat) t v, Try.f11.params[j]? = some t → args[j]? = some v → Value.okWide Try.prog W .any base t v := hval0
  have hA : DataW.TrodAll enc Try.prog W 0 (fun _ => true) true Try.f11.params.toList args.toList ds ps := hA0
  clear hval0 hA0
  rw [Try.params11] at hA hval
  obtain ⟨v0, vs0, d0, ds0, p0, q0, hargs, rfl, rfl, h0, r0⟩ := trodAll_cons hA
  obtain ⟨rfl, rfl, rfl⟩ := trodAll_nil r0
  obtain rfl : args = #[v0] := by cases args; simp_all
  obtain ⟨bs, hb⟩ := openD_sl Try.underlying33 op_bytes (hval 0 _ v0 rfl rfl) h0 (fun x hx => hlt x (by simp [hx]))
  exact ⟨rfl, law_con (law_solved bs (bytes_len hb)) rfl (args1 (.d hb))⟩

/-- THE STATEMENT, PROVED. -/
theorem FnSolved_holds : Rows.FnSolvedSaid :=
  OpenClaim.holds_of_wide 11 Try.f11 rfl rfl rfl rfl rfl rfl rfl ⟨rfl, rfl, rfl, rfl, rfl⟩ rfl rfl rfl rfl rfl (by kernel_rfl) Try.func11 (by kernel_rfl)
    (of_decide_eq_true (by kernel_rfl)) (by unfold Func.isWrapper; first | (rw [if_pos (by decide +kernel)]; kernel_rfl) | (rw [if_neg (by decide +kernel)]; exact ⟨rfl, rfl⟩))
    (fun os started H enc _ => FnSolved_lifted os started H enc)
#print axioms FnSolved_holds
end Go.Proofs.Ytbmapbbjbdpbcaa
