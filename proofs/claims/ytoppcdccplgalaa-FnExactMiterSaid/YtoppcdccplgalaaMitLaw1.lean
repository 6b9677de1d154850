/-
  The law of Miter: each call returns true, at every input.
  Conditions: none.
-/
import Derived.Test.YtoppcdccplgalaaRo
import Derived.Test.YtoppcdccplgalaaRw
import Derived.Test.YtoppcdccplgalaaRy
import Derived.Test.YtoppcdccplgalaaNf
import Derived.Test.YtoppcdccplgalaaMz
namespace Go.Proofs.Ytoppcdccplgalaa
open Go.RowKit Go.ChangeShapes Go.WideShapes Go.ChangeAt
set_option linter.unusedVariables false
set_option linter.unusedSimpArgs false
attribute [local simp ↓] condG_true condG_false condB_true condB_false
attribute [local simp] AWp_skip AWp_region_t AWp_region_d AWp_region_f still_mk AWp_seq AWp_cond condV_bool condB AWp_block AWp_exit AWp_ret
attribute [local simp] AOps_nil AOp_move AOp_assign AOp_pick AOp_binOp AOp_unOp AOp_convert AOp_len AOp_max AOp_min AOp_indexAddr AOp_load
attribute [local simp] AOp_fieldAddr AOp_field AOp_extract AOp_nilCheck AOp_build AOp_alloc AOp_box AOp_call AOp_store AOp_append AOp_buildSlice nextB_some
attribute [local simp] nextB_none adoptO adoptC AOp_makeSlice AOp_slice AOp_makeFunc AOp_guard guardD_some guardG_bool guardG_undef nextO_some nextS_some
attribute [local simp] nextZ_some nextL_some nextM_some nextT_some sliceO sliceL sliceT partO partV boundV funcO pickO
attribute [local simp] convO lenO maxO minO idxO extO nilO buildO litO litC makeO chunks
attribute [local simp] fillV placeOf thenA inBlockA St.get St.put St.eval ofCell evalT abin_add abin_sub abin_mul
attribute [local simp] abin_quo abin_rem abin_and abin_or abin_xor abin_andNot abin_shl abin_shr abin_shlu abin_eql abin_eqp abin_neq
attribute [local simp] abin_lss abin_leq abin_gtr abin_geq abin_eqlb abin_neqb aun pickV lenV intOf? indexV takeD
attribute [local simp] takeV loadV fieldAddrV fieldV ofX presD presDs pres presAll cellsV V.cell storeV
attribute [local simp] freezeC putAt kill takeC plains plainV scalarV nat_neg keepT sets eSl e1
attribute [local simp] e2 e3 e4 eInt eBool afterCall inst inst1 inst1s instD instDs RetA
attribute [local simp] resVs resV gives give1 give1s Le isPin leSlots leS leTmps leV le0
attribute [local simp] le0s ren ren0 renS ren0s frame enterT afterT_some afterC_some lives Slot.live arrsOk
attribute [local simp] viewV view0 renT rens renSs setAll List.range'_succ RetT RetW joinV leT AOpsE_nil
attribute [local simp] AOpsE_cons AOpsT_nil AOpsT_cons isCallT callOf condC_true condC_false beginT_mk thenT_mk pickE pickT isT
attribute [local simp] loose namesOf namesV names1 names0 stableN sameAt Op.operands Call.operands
/-- con_ofS in the mode of drawn regions whose calls turn slots. -/
theorem con_ofSD {P : Program} {f : FuncId} {fn : Func} {c : Code} {xs : List X} {r : X} (hc : callable P f = true) (hf : P.funcs[f]? = some fn) (hb : fn.body = some c) {n : Nat} {rs : List ResultVar} (hn : fn.ntmps = n) (hrs : fn.results.toList = rs) (h : AWp P ⟨0, true, true, true⟩ c (RetA P true rs r) ⟨xs.map ofX ++ List.replicate (n - xs.length) .any, []⟩) : ConC P f xs r := by
  subst hn hrs
  refine ⟨hc, ?_⟩
  intro w vs hl hv
  have hm : MemR P ⟨w, fun _ => False, fun _ => False, [], (· < w.heap.size), true, by simp⟩ [] [] w [] := by
    refine ⟨Kept.refl _ _, ?_, rfl, rfl, by simp, by simp, by simp, fun s x h F hs => by simp at hs⟩
    rintro b ⟨s, x, c, h, _⟩
    simp at h
  have hr := rel_begin (n := fn.ntmps) ⟨_, hm⟩ (xs := xs.map ofX) (vs := vs) (by simpa using hl) (fun i x v hx hv' => by
    rw [List.getElem?_map, Option.map_eq_some_iff] at hx
    obtain ⟨y, hy, rfl⟩ := hx
    exact ofX_vr (fun b hb => ⟨hb, by rintro ⟨s, x, c, h, _⟩; simp at h, hb⟩) (hv i y v hy hv'))
  rw [List.length_map] at hr
  refine calls_of_wp hf hb (awp_sound (m := ⟨0, true, true, true⟩) rfl (fun _ _ => ⟨fun b hb => ⟨hb, fun h => h⟩, fun b hb => hb⟩) (Nat.le_refl _) c h hr fun e φ' σ' a' w' hq hr' => ?_)
  obtain ⟨he, hq⟩ := hq
  obtain ⟨Fs, hm⟩ := hr'.mem
  have fin : ∃ v, (results fn a'.tmps).run P w' = .ok v w' ∧ ∃ v' F, Ending.returned v = .returned v' ∧ XRes P w' r v' F ∧ F.Nodup ∧ (∀ g ∈ F, w.heap.size ≤ g) ∧ Below w.heap.size w w' := by
    have hbl : Below w.heap.size w w' := hm.only.below (fun _ h => h)
    split at hq
    · rename_i v hvs
      obtain ⟨ks, hg⟩ := hq
      obtain ⟨u, k1, k2⟩ := run_results rfl hr' hvs
      obtain ⟨F, g1, g2, g3⟩ := gives_sound hm hg k2
      exact ⟨u, k1, u, F, rfl, g1, g2, fun g hg => (g3 g hg).resolve_left (fun h => h), hbl⟩
    · rename_i vs hn hvs
      obtain ⟨ks, hg⟩ := hq
      obtain ⟨u, k1, k2⟩ := run_results rfl hr' hvs
      have hj : joinV vs = .tup vs := by
        unfold joinV
        split
        · exact absurd rfl (hn _)
        · rfl
      rw [hj] at k2
      obtain ⟨F, g1, g2, g3⟩ := gives_sound hm hg k2
      exact ⟨u, k1, u, F, rfl, g1, g2, fun g hg => (g3 g hg).resolve_left (fun h => h), hbl⟩
    · exact hq.elim
  rcases he with rfl | rfl
  · obtain ⟨v, h1, h2⟩ := fin
    exact ⟨hr'.defers, v, h1, h2⟩
  · obtain ⟨v, h1, h2⟩ := fin
    exact ⟨hr'.defers, v, h1, h2⟩
set_option maxRecDepth 100000 in
set_option maxHeartbeats 2000000 in
theorem law_miter (x y : GrD) (hx : fitGr 9223372036854775807 x) (hy : fitGr 9223372036854775807 y) (gx : okGr x) (gy : okGr y) :
    ConC Try.prog 6 [.agg (enGr 145 148 x), .agg (enGr 145 148 y)] (.d (.bool true)) := by
  refine con_ofSD (by kernel_rfl) Try.func6 rfl rfl rfl ?_
  simp [enGr]
  refine call_step (szNet_con x 1048576 hx (by omega)) ?_
  simp
  intro h1
  have hf := fitGr_sz h1
  have b1 := szGrL_le x 1048576 (by omega)
  refine call_step (szNet_con y _ hy (by omega)) ?_
  simp [enGr]
  intro h2
  have hg := fitGr_szI h2 (by omega)
  have cx := cGr_le hf
  have cy := cGr_le hg
  have ks := sMiter_con x y hf hg gx gy
  have ki := iMiter_con x y hf hg
  have hr := mitG_fit (a := x) (b := y)
  have cr := cGr_le hr
  generalize mitG x y = r at *
  generalize mitOk x y = ok at *
  have hk : ¬ (1 + (cGr x : Int) < 0) := by omega
  have hk2 : (0 : Int) ≤ 1 + cGr x := by omega
  have hl : ¬ (1 + (cGr x : Int) + cGr y < 0) := by omega
  have hl2 : (0 : Int) ≤ 1 + cGr x + cGr y := by omega
  have hq : (0 : Int) ≤ 1 + cGr r := by omega
  have hq2 : ¬ (1 + (cGr r : Int) < 0) := by omega
  refine drawE_of [(9, [7]), (10, [])] (by kernel_rfl) ?_
  simp [enGr]
  refine call_step (toNet_con x hf) ?_
  simp [enGr]
  refine call_step (toNet_con y hg) ?_
  simp [enGr]
  refine call_step (ks) ?_
  simp [enGr]
  refine call_step (toNet_con x hf) ?_
  simp [enGr]
  refine call_step (toNet_con y hg) ?_
  simp [enGr]
  refine call_step (ki) ?_
  simp [enGr]
  refine call_step (eqNet_con r hr) ?_
  simp [enGr]
  refine drawD_of 5 (by kernel_rfl) ?_
  simp [enGr]
  refine call_step (toNet_con x hf) ?_
  simp [enGr]
  refine call_step (eqNet_con x hf) ?_
  simp
  refine drawD_of 5 (by kernel_rfl) ?_
  simp [enGr]
  refine call_step (toNet_con y hg) ?_
  simp [enGr]
  refine call_step (eqNet_con y hg) ?_
  simp
  refine callW_step (markNet_conW x 1 (by omega) (by omega)) [12, 13, 14] (by simp) (by simp) (by simp) ?_
  simp [setAll, hk, hk2]
  refine callW_step (markNet_conW y (1 + cGr x) (by omega) (by omega)) [16, 17, 18] (by simp) (by simp) (by simp) ?_
  simp [setAll, hl, hl2]
  refine call_step (eqNet_con r hr) ?_
  simp [enGr]
  refine callW_step (markNet_conW r 1 (by omega) (by omega)) [20, 21, 22] (by simp) (by simp) (by simp) ?_
  simp [setAll, hq, hq2]
  refine call_step (heldNet_con r 1 hr (by omega) (by omega)) ?_
  simp [hq, hq2, enGr]
  refine drawE_of [(9, [7]), (10, [])] (by kernel_rfl) ?_
  simp [enGr]
  refine call_step (toNet_con x hf) ?_
  simp [enGr]
  refine call_step (toNet_con y hg) ?_
  simp [enGr]
  refine call_step (ki) ?_
  simp [enGr]
  refine call_step (eqNet_con r hr) ?_
  simp [enGr]
  refine call_step (heldNet_con r 1 hr (by omega) (by omega)) ?_
  simp [hq, hq2, enGr]
set_option maxRecDepth 100000 in
theorem FnExactMiter_lifted (os : Os) (started : os.Started) (H : Type) (enc : TypeId × Value → H) :
    ReturnsInHanded {} Try.checked os 6 .any (Rows.fnExactMiterSpec.pre6 enc Try.prog Try.f6 Rows.fnExactMiterRow.domain false) (Rows.fnExactMiterSpec.post enc Try.prog Try.f6 false true false false) := by
  refine law_lift (C := Try.checked) Try.own started (by kernel_rfl) Try.func6
    (ChangeSpec.witness6 (enc := enc) (C := Try.checked) false ⟨#[], #[.agg #[.int .i64 0, .slice none 0 0, .slice none 0 0, .slice none 0 0], .agg #[.int .i64 0, .slice none 0 0, .slice none 0 0, .slice none 0 0]], []⟩ 8 (by kernel_rfl) (by kernel_rfl) (by kernel_rfl) (by kernel_rfl))
    Try.laidOut (of_decide_eq_true (by kernel_rfl)) rfl rfl Try.underlying4 ?_
  intro W base args ds ps hval0 hA0 hlt
  have hval : ∀ (j : Nat) t v, Try.f6.params[j]? = some t → args[j]? = some v → Value.okWide Try.prog W .any base t v := hval0
  have hA : DataW.TrodAll enc Try.prog W 0 (fun _ => true) true Try.f6.params.toList args.toList ds ps := hA0
  clear hval0 hA0
  rw [Try.params6] at hA hval
  obtain ⟨v0, vs0, d0, ds0, p0, q0, hargs, rfl, rfl, h0, r0⟩ := trodAll_cons hA
  obtain ⟨v1, vs1, d1, ds1, p1, q1, rfl, rfl, rfl, h1, r1⟩ := trodAll_cons r0
  obtain ⟨rfl, rfl, rfl⟩ := trodAll_nil r1
  obtain rfl : args = #[v0, v1] := by cases args; simp_all
  obtain ⟨a, ha, ga⟩ := open_aggR Try.underlying26 opE_net (hval 0 _ v0 rfl rfl) h0 (fun x hx => hlt x (by simp [hx]))
  obtain ⟨b, hb, gb⟩ := open_aggR Try.underlying26 opE_net (hval 1 _ v1 rfl rfl) h1 (fun x hx => hlt x (by simp [hx]))
  exact ⟨rfl, law_con (law_miter a b (fitGr_of ha) (fitGr_of hb) (okGr_of ga) (okGr_of gb)) rfl (args2 ha hb)⟩

/-- THE STATEMENT, PROVED. -/
theorem FnExactMiter_holds : Rows.FnExactMiterSaid :=
  OpenClaim.holds_of_wide 6 Try.f6 rfl rfl rfl rfl rfl rfl rfl ⟨rfl, rfl, rfl, rfl, rfl⟩ rfl rfl rfl rfl rfl (by kernel_rfl) Try.func6 (by kernel_rfl)
    (of_decide_eq_true (by kernel_rfl)) (by unfold Func.isWrapper; first | (rw [if_pos (by decide +kernel)]; kernel_rfl) | (rw [if_neg (by decide +kernel)]; exact ⟨rfl, rfl⟩))
    (fun os started H enc _ => FnExactMiter_lifted os started H enc)
#print axioms FnExactMiter_holds
end Go.Proofs.Ytoppcdccplgalaa
