/-
  The law of the runs of a mapping's network: each call returns true, at every input.
  Conditions: none.
-/
import Derived.Test.YtklhofpjjbfckaaPe
import Derived.Test.YtklhofpjjbfckaaLp
import Derived.Test.YtklhofpjjbfckaaLi
import Derived.Test.YtklhofpjjbfckaaKfFnLutsRun
namespace Go.Proofs.Ytklhofpjjbfckaa
open Go.RowKit Go.ChangeShapes Go.WideShapes Go.ChangeAt
set_option linter.unusedVariables false
set_option linter.unusedSimpArgs false
attribute [local simp ↓] condG_true condG_false condB_true condB_false
attribute [local simp] AWp_skip AWp_region_t AWp_region_d AWp_region_f still_mk AWp_seq AWp_cond condV_bool condB AWp_block AWp_exit AWp_ret
attribute [local simp] AOps_nil AOp_move AOp_assign AOp_pick AOp_binOp AOp_unOp AOp_convert AOp_len AOp_max AOp_min AOp_indexAddr AOp_load
attribute [local simp] AOp_fieldAddr AOp_field AOp_extract AOp_nilCheck AOp_build AOp_alloc AOp_box AOp_call AOp_store AOp_append AOp_buildSlice nextB_some
attribute [local simp] nextB_none adoptO adoptC AOp_makeSlice AOp_slice AOp_makeFunc AOp_guard guardD_some guardG_bool guardG_undef nextO_some nextS_some
attribute [local simp] nextZ_some nextL_some nextM_some nextT_some sliceO sliceL sliceT partO partV boundV funcO pickO
attribute [local simp] convO lenO maxO minO idxO extO nilO buildO litO litC makeO chunks
attribute [local simp] fillV placeOf thenA inBlockA St.get St.put St.eval ofCell evalT abin_add abin_sub abin_mul
attribute [local simp] abin_quo abin_rem abin_and abin_or abin_xor abin_andNot abin_shl abin_shr abin_shlu abin_eql abin_eqp abin_neq
attribute [local simp] abin_lss abin_leq abin_gtr abin_geq abin_eqlb abin_neqb aun pickV lenV intOf? indexV takeD
attribute [local simp] takeV loadV fieldAddrV fieldV ofX presD presDs pres presAll cellsV V.cell storeV
attribute [local simp] freezeC putAt kill takeC plains plainV scalarV nat_neg keepT sets eSl e1
attribute [local simp] e2 e3 e4 eInt eBool afterCall inst inst1 inst1s instD instDs RetA
attribute [local simp] resVs resV gives give1 give1s Le isPin leSlots leS leTmps leV le0
attribute [local simp] le0s ren ren0 renS ren0s frame enterT afterT_some afterC_some lives Slot.live arrsOk
attribute [local simp] viewV view0 renT rens renSs setAll List.range'_succ RetT RetW joinV leT AOpsE_nil
attribute [local simp] AOpsE_cons AOpsT_nil AOpsT_cons isCallT isFnO callOf callVC_fn condC_true condC_false beginT_mk thenT_mk pickE
attribute [local simp] pickT isT loose namesOf namesV names1 names0 stableN sameAt Op.operands Call.operands
abbrev ibytes (bs : List Int) : X := .d (eSl 5 (e1 eByte) bs)
theorem big_con (bs : List Int) (h : bs.length ≤ 9223372036854775807) : ConC Try.prog 15 [ibytes bs] (.d (.bool (decide (1048576 < bs.length)))) := by
  refine con_of (by kernel_rfl) Try.func15 rfl rfl rfl ?_
  simp
  omega
theorem opd_byte : OpD Try.prog eByte 5 := fun h _ => by
  obtain ⟨n, rfl, _, hw⟩ := DataW.trod_int Try.underlying5 h
  exact ⟨n, _, rfl, .int _ _, .int _ _ hw⟩
theorem bytes_len {w : World} {G : Nat → Prop} {bs : List Int} {v : Value} (h : Rd w G (eSl 5 (e1 eByte) bs) v) : bs.length ≤ 9223372036854775807 := by
  obtain ⟨_, _, _, h⟩ := Rd.len h
  simpa using h
theorem op_bytes : OpD Try.prog (eSl 5 (e1 eByte)) 22 := opd_sl Try.underlying22 (by simp) (fun x => by simp [e1]) (ope_1 opd_byte)
theorem mapOk_rows {x : GrD} {cs : List RowD} (hm : mapOkB x cs = true) : fitRw 1048576 cs := by
  obtain ⟨hok, hl, hcs⟩ := mapOk_of hm
  have h300 := (netOk_of hok).1.2.2.2.1
  refine ⟨by omega, fun r hr => ?_⟩
  obtain ⟨i, hi, rfl⟩ := List.getElem_of_mem hr
  have := (hcs i _ (List.getElem?_eq_getElem hi)).2.1
  omega
theorem lutsOf_fit {x : GrD} {cs : List RowD} (hx : fitGr 1048576 x) (hm : mapOkB x cs = true) : fitNet 1048576 (lutsOf x cs) := by
  obtain ⟨hok, hl, hcs⟩ := mapOk_of hm
  obtain ⟨⟨n1, n2, n3, n4, n5, n6⟩, -, -, -⟩ := netOk_of hok
  obtain ⟨hF, hgl, hNi, hno⟩ := ok_sizes hok
  have hN := ltN_len (x := x) (cs := cs) (grN x)
  refine ⟨by simp [lutsOf]; omega, fun s hs => ?_, by show (ltN x cs (grN x)).length ≤ _; omega, fun l hl' => ?_, by simp [lutsOf]; omega⟩
  · obtain ⟨q, hq, rfl⟩ := List.mem_map.1 (show s ∈ x.2.1.map (sqP x cs) from hs)
    simp only [sqP, List.length_map]
    exact hx.2.1 q hq
  · obtain ⟨q, hq, he⟩ := List.getElem_of_mem (show l ∈ ltN x cs (grN x) from hl')
    have := tableOk_le (lut_fit hm (q := q) (l := l) (by rw [List.getElem?_eq_getElem hq, he])).1
    omega
set_option maxRecDepth 100000 in
set_option maxHeartbeats 10000000 in
theorem law_lutr (bs : List Int) (hb : bs.length ≤ 9223372036854775807) : ConC Try.prog 13 [ibytes bs] (.d (.bool true)) := by
  have k0 := big_con bs hb
  refine con_ofD (by kernel_rfl) Try.func13 rfl rfl rfl ?_
  simp
  by_cases hbig : 1048576 < bs.length
  · rw [decide_eq_true hbig] at k0
    refine call_step (k0) ?_
    simp
  rw [decide_eq_false hbig] at k0
  refine call_step (k0) ?_
  simp
  have kM := DrawMapping_conT bs (by omega)
  have kI := DrawMasks_conT bs (by omega)
  have hil := drMs_len bs
  have hm := drM_ok bs
  generalize drMs bs = ins at *
  generalize drN bs = x at *
  generalize drM bs = cs at *
  obtain ⟨hok, hl, hcs⟩ := mapOk_of hm
  obtain ⟨⟨n1, n2, n3, n4, n5, n6⟩, -, -, -⟩ := netOk_of hok
  have hx := fitGr_netOk hok
  have hg := okGr_netOk hok
  have hc := mapOk_rows hm
  obtain ⟨hlo, -⟩ := lutsOf_ok hm (ltN_small hm)
  have kL := iToLuts_con x cs hx hc
  have hLe : lutsL x cs = lutsOf x cs := by unfold lutsL; rw [if_pos hm]
  rw [hLe, hm] at kL
  have hfit := lutsOf_fit hx hm
  have kO := iLutNetOk_con (lutsOf x cs) hfit
  rw [hlo] at kO
  have kU := iLutRun_con (lutsOf x cs) ins hfit (by omega)
  rw [run_eq hm hlo ins] at kU
  have kR := sNetRun_con x ins hx hg (by omega)
  have hrl : (netRunL x ins).length ≤ 16 := by
    unfold netRunL
    split
    · rename_i h; rw [runOutsG_len]; exact h.2
    · simp
  have e1' : (lutsOf x cs).1 = x.1 := rfl
  have e2' : (lutsOf x cs).2.1.length = x.2.1.length := by simp [lutsOf]
  generalize netRunL x ins = rs at *
  have kS := lSame_con rs (by omega)
  generalize lutsOf x cs = ln at *
  refine callT_step (kM) [] [] (by simp) ?_
  simp
  refine callT_step (kI) [] [] (by simp) ?_
  simp
  refine call_step (kL) ?_
  simp [enGr, enNet]
  refine drawD_of 31 (by kernel_rfl) ?_
  simp [enNet]
  refine call_step (kO) ?_
  simp [enNet, enGr]
  refine call_step (kU) ?_
  simp [enNet, enGr]
  refine call_step (kR) ?_
  simp [enGr, enNet]
  refine call_step (kS) ?_
  simp [e1', e2', enGr, enNet]
set_option maxRecDepth 100000 in
theorem FnLutsRun_lifted (os : Os) (started : os.Started) (H : Type) (enc : TypeId × Value → H) :
    ReturnsInHanded {} Try.checked os 13 .any (Rows.fnLutsRunSpec.pre6 enc Try.prog Try.f13 Rows.fnLutsRunRow.domain false) (Rows.fnLutsRunSpec.post enc Try.prog Try.f13 false true false false) := by
  refine law_lift (C := Try.checked) Try.own started (by kernel_rfl) Try.func13
    (ChangeSpec.witness6 (enc := enc) (C := Try.checked) false ⟨#[], #[.slice none 0 0], []⟩ 8 (by kernel_rfl) (by kernel_rfl) (by kernel_rfl) (by kernel_rfl))
    Try.laidOut (of_decide_eq_true (by kernel_rfl)) rfl rfl Try.underlying4 ?_
  intro W base args ds ps hval0 hA0 hlt
  have hval : ∀ (j : Nat) t v, Try.f13.params[j]? = some t → args[j]? = some v → Value.okWide Try.prog W .any base t v := hval0
  have hA : DataW.TrodAll enc Try.prog W 0 (fun _ => true) true Try.f13.params.toList args.toList ds ps := hA0
  clear hval0 hA0
  rw [Try.params13] at hA hval
  obtain ⟨v0, vs0, d0, ds0, p0, q0, hargs, rfl, rfl, h0, r0⟩ := trodAll_cons hA
  obtain ⟨rfl, rfl, rfl⟩ := trodAll_nil r0
  obtain rfl : args = #[v0] := by cases args; simp_all
  obtain ⟨bs, hb⟩ := openD_sl Try.underlying22 op_bytes (hval 0 _ v0 rfl rfl) h0 (fun x hx => hlt x (by simp [hx]))
  exact ⟨rfl, law_con (law_lutr bs (bytes_len hb)) rfl (args1 (.d hb))⟩

theorem FnLutsRun_holds : Rows.FnLutsRunSaid :=
  OpenClaim.holds_of_wide 13 Try.f13 rfl rfl rfl rfl rfl rfl rfl ⟨rfl, rfl, rfl, rfl, rfl⟩ rfl rfl rfl rfl rfl (by kernel_rfl) Try.func13 FnLutsRun_closed
    (of_decide_eq_true (by kernel_rfl)) (by unfold Func.isWrapper; first | (rw [if_pos (by decide +kernel)]; kernel_rfl) | (rw [if_neg (by decide +kernel)]; exact ⟨rfl, rfl⟩))
    (fun os started H enc _ => FnLutsRun_lifted os started H enc)
#print axioms FnLutsRun_holds
end Go.Proofs.Ytklhofpjjbfckaa
