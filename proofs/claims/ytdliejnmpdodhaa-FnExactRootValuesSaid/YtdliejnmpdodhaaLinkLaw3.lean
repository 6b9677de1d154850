/-
  The laws of RootValues and LinkState: each call returns true, at every input.
  Conditions: none.
-/
import Derived.Test.YtdliejnmpdodhaaNg
import Derived.Test.YtdliejnmpdodhaaMp
namespace Go.Proofs.Ytdliejnmpdodhaa
open Go.RowKit Go.ChangeShapes Go.WideShapes Go.ChangeAt
set_option linter.unusedVariables false
set_option linter.unusedSimpArgs false
attribute [local simp ↓] condG_true condG_false condB_true condB_false
attribute [local simp] AWp_skip AWp_region_t AWp_region_f still_mk AWp_seq AWp_cond condV_bool condB AWp_block AWp_exit AWp_ret AOps_nil
attribute [local simp] AOp_move AOp_assign AOp_pick AOp_binOp AOp_unOp AOp_convert AOp_len AOp_max AOp_min AOp_indexAddr AOp_load AOp_fieldAddr
attribute [local simp] AOp_field AOp_extract AOp_nilCheck AOp_build AOp_alloc AOp_box AOp_call AOp_store AOp_append AOp_buildSlice AOp_makeSlice AOp_slice
attribute [local simp] AOp_makeFunc AOp_guard guardD_some guardG_bool guardG_undef nextO_some nextS_some nextZ_some nextL_some nextM_some nextT_some sliceO
attribute [local simp] sliceL sliceT partO partV boundV funcO pickO convO lenO maxO minO idxO
attribute [local simp] extO nilO buildO litO litC makeO chunks fillV placeOf thenA inBlockA St.get
attribute [local simp] St.put St.eval ofCell evalT abin_add abin_sub abin_mul abin_quo abin_rem abin_and abin_or abin_xor
attribute [local simp] abin_andNot abin_shl abin_shr abin_shlu abin_eql abin_neq abin_lss abin_leq abin_gtr abin_geq abin_eqlb abin_neqb
attribute [local simp] aun pickV lenV intOf? indexV takeD takeV loadV fieldAddrV fieldV ofX presD
attribute [local simp] presDs pres presAll cellsV V.cell storeV freezeC putAt kill takeC plains plainV
attribute [local simp] scalarV nat_neg keepT sets eSl e1 e2 e3 e4 eInt eBool afterCall
attribute [local simp] inst inst1 inst1s instD instDs RetA resVs resV gives give1 give1s Le
attribute [local simp] isPin leSlots leS leTmps leV le0 le0s ren ren0 renS ren0s frame
attribute [local simp] enterT afterT_some lives Slot.live arrsOk viewV view0 renT rens renSs setAll List.range'_succ
attribute [local simp] RetT RetW joinV leT
set_option maxRecDepth 100000 in
theorem law_roots (x : GrD) (b : Int) (hx : fitGr 9223372036854775807 x) (gx : okGr x) : ConC Try.prog 4 [.agg (enGr 105 112 x), .d (.int .i64 b)] (.d (.bool true)) := by
  refine con_ofS (by kernel_rfl) Try.func4 rfl rfl rfl ?_
  simp [enGr]
  refine call_step (szNet_con x 1048576 hx (by omega)) ?_
  simp
  intro h
  have hf := fitGr_sz h
  have hc := cGr_le hf
  have hg : (rootVL x b).length ≤ 1048576 := by
    unfold rootVL
    split
    · rename_i hok
      obtain ⟨⟨n1, n2, n3, n4, n5, n6⟩, o1, -, -⟩ := netOk_of hok
      have h1 := grK_len (x := x) (k := x.2.1.length) (M := 4) (fun s hs => seqOk_len (o1 s hs))
      rw [grK_all] at h1
      rw [rootsV_len]
      omega
    · simp
  have hq : (0 : Int) ≤ 1 + (rootVL x b).length := by omega
  have hq2 : ¬ (1 + ((rootVL x b).length : Int) < 0) := by omega
  have hk : ¬ (1 + (cGr x : Int) < 0) := by omega
  have hk2 : (0 : Int) ≤ 1 + cGr x := by omega
  refine call_step (toNet_con x hf) ?_
  simp [enGr]
  refine call_step (sRootV_con x b hf gx) ?_
  simp
  refine call_step (toNet_con x hf) ?_
  simp [enGr]
  refine call_step (iRootV_con x b hf) ?_
  simp
  refine call_step (eqInts_con _ hg) ?_
  simp
  refine ⟨by kernel_rfl, ?_⟩
  refine call_step (toNet_con x hf) ?_
  simp [enGr]
  refine call_step (eqNet_con x hf) ?_
  simp
  refine callW_step (markNet_conW x 1 (by omega) (by omega)) [5, 6, 7] (by simp) (by simp) (by simp) ?_
  simp [setAll, hk, hk2]
  refine call_step (eqInts_con _ hg) ?_
  simp
  refine callM_step (markIntS_conM (rootVL x b) 1 (by omega) (by omega)) (by rfl) ?_
  simp
  refine call_step (heldIntS_con (rootVL x b) 1 hg (by omega)) ?_
  simp [hq, hq2]
  refine call_step (toNet_con x hf) ?_
  simp [enGr]
  refine call_step (iRootV_con x b hf) ?_
  simp
  refine call_step (eqInts_con _ hg) ?_
  simp
  refine call_step (heldIntS_con (rootVL x b) 1 hg (by omega)) ?_
  simp [hq, hq2]
set_option maxRecDepth 100000 in
set_option maxHeartbeats 1000000 in
theorem law_lkst (a b : GrD) (ls : List LinkD) (st : List Int) (ha : fitGr 9223372036854775807 a) (hb : fitGr 9223372036854775807 b) (hl : fitLk 9223372036854775807 ls) (hs : st.length ≤ 9223372036854775807) (ga : okGr a) (gb : okGr b) :
    ConC Try.prog 7 [.agg (enGr 105 112 a), .agg (enGr 105 112 b), .d (eSl 74 enLink ls), .d (eSl 3 (e1 eInt) st)] (.d (.bool true)) := by
  refine con_ofS (by kernel_rfl) Try.func7 rfl rfl rfl ?_
  by_cases hsl : st.length ≤ 1048576
  case neg => simp [enGr, show ¬ (st.length : Int) ≤ 1048576 by omega]
  simp [enGr, show (st.length : Int) ≤ 1048576 by omega, show ¬ (1048576 : Int) < st.length by omega]
  refine call_step (szNet_con a 1048576 ha (by omega)) ?_
  simp
  intro h1
  have b1 := szGrL_le a 1048576 (by omega)
  have fa := fitGr_sz h1
  refine call_step (szNet_con b _ hb ⟨h1, by omega⟩) ?_
  simp
  intro h2
  have b2 := szGrL_le b _ h1
  have fb := fitGr_szI h2 ⟨h1, by omega⟩
  refine call_step (szLinkS_con ls _ hl.1 hl.2 ⟨h2, by omega⟩) ?_
  simp
  intro h3
  have fl := fitLk_sz h3 ⟨h2, by omega⟩
  have ca := cGr_le fa
  have cb := cGr_le fb
  have cl := cLinks_le fl
  have hg : (lkStL a b ls st).length ≤ 1048576 := by
    unfold lkStL
    split
    · rw [lk_len]; exact fl.1
    · simp
  have hq : (0 : Int) ≤ 1 + (lkStL a b ls st).length := by omega
  have hq2 : ¬ (1 + ((lkStL a b ls st).length : Int) < 0) := by omega
  have hk : ¬ (1 + (cGr a : Int) + cGr b + costs cLink ls + st.length < 0) := by omega
  have hk2 : (0 : Int) ≤ 1 + cGr a + cGr b + costs cLink ls + st.length := by omega
  refine ⟨by kernel_rfl, ?_⟩
  refine call_step (toNet_con a fa) ?_
  simp [enGr]
  refine call_step (toNet_con b fb) ?_
  simp [enGr]
  refine call_step (toLinkS_con ls fl.1 fl.2) ?_
  simp
  refine call_step (toInts_con st hsl) ?_
  simp
  refine call_step (sLinkState_con a b ls st fa fb fl ga gb hsl) ?_
  simp
  refine call_step (toNet_con a fa) ?_
  simp [enGr]
  refine call_step (toNet_con b fb) ?_
  simp [enGr]
  refine call_step (toLinkS_con ls fl.1 fl.2) ?_
  simp
  refine call_step (toInts_con st hsl) ?_
  simp
  refine call_step (iLinkState_con a b ls st fa fb fl hsl) ?_
  simp
  refine call_step (eqInts_con _ hg) ?_
  simp
  refine ⟨by kernel_rfl, ?_⟩
  refine call_step (toNet_con a fa) ?_
  simp [enGr]
  refine call_step (eqNet_con a fa) ?_
  simp
  refine ⟨by kernel_rfl, ?_⟩
  refine call_step (toNet_con b fb) ?_
  simp [enGr]
  refine call_step (eqNet_con b fb) ?_
  simp
  refine call_step (toLinkS_con ls fl.1 fl.2) ?_
  simp
  refine call_step (eqLinkS_con ls fl.1 fl.2) ?_
  simp
  refine call_step (toInts_con st hsl) ?_
  simp
  refine call_step (eqInts_con st hsl) ?_
  simp
  refine callW_step (markNet_conW a 1 (by omega) (by omega)) [11, 12, 13] (by simp) (by simp) (by simp) ?_
  simp [setAll]
  refine callW_step (markNet_conW b (1 + cGr a) (by omega) (by omega)) [15, 16, 17] (by simp) (by simp) (by simp) ?_
  simp [setAll]
  refine callM_step (markLinkS_conM ls (1 + cGr a + cGr b) (by omega) (by omega)) (by rfl) ?_
  simp
  refine callM_step (markIntS_conM st (1 + cGr a + cGr b + costs cLink ls) (by omega) (by omega)) (by rfl) ?_
  simp [hk, hk2]
  refine call_step (eqInts_con _ hg) ?_
  simp
  refine callM_step (markIntS_conM (lkStL a b ls st) 1 (by omega) (by omega)) (by rfl) ?_
  simp
  refine call_step (heldIntS_con (lkStL a b ls st) 1 hg (by omega)) ?_
  simp [hq, hq2]
  refine ⟨by kernel_rfl, ?_⟩
  refine call_step (toNet_con a fa) ?_
  simp [enGr]
  refine call_step (toNet_con b fb) ?_
  simp [enGr]
  refine call_step (toLinkS_con ls fl.1 fl.2) ?_
  simp
  refine call_step (toInts_con st hsl) ?_
  simp
  refine call_step (iLinkState_con a b ls st fa fb fl hsl) ?_
  simp
  refine call_step (eqInts_con _ hg) ?_
  simp
  refine call_step (heldIntS_con (lkStL a b ls st) 1 hg (by omega)) ?_
  simp [hq, hq2]
theorem args4 {w : World} {G : Nat → Prop} {x x2 x3 x4 : X} {v v2 v3 v4 : Value} (h : XRd w G x v) (h2 : XRd w G x2 v2) (h3 : XRd w G x3 v3) (h4 : XRd w G x4 v4) : ∀ (i : Nat) (y : X) (u : Value), [x, x2, x3, x4][i]? = some y → #[v, v2, v3, v4][i]? = some u → XRd w G y u := by
  intro i y u hy hu
  match i with
  | 0 => simp at hy hu; subst hy hu; exact h
  | 1 => simp at hy hu; subst hy hu; exact h2
  | 2 => simp at hy hu; subst hy hu; exact h3
  | 3 => simp at hy hu; subst hy hu; exact h4
  | i + 4 => simp at hy
theorem op_ints' : OpD Try.prog (eSl 3 (e1 eInt)) 24 := opd_sl Try.underlying24 (by simp) (fun x => by simp [e1]) (ope_1 (opd_int Try.underlying3))
set_option maxRecDepth 100000 in
theorem FnExactRootValues_lifted (os : Os) (started : os.Started) (H : Type) (enc : TypeId × Value → H) :
    ReturnsInHanded {} Try.checked os 4 .any (Rows.fnExactRootValuesSpec.pre6 enc Try.prog Try.f4 Rows.fnExactRootValuesRow.domain false) (Rows.fnExactRootValuesSpec.post enc Try.prog Try.f4 false true false false) := by
  refine law_lift (C := Try.checked) Try.own started (by kernel_rfl) Try.func4
    (ChangeSpec.witness6 (enc := enc) (C := Try.checked) false ⟨#[], #[.agg #[.int .i64 0, .slice none 0 0, .slice none 0 0, .slice none 0 0], .int .i64 0], []⟩ 8 (by kernel_rfl) (by kernel_rfl) (by kernel_rfl) (by kernel_rfl))
    Try.laidOut (of_decide_eq_true (by kernel_rfl)) rfl rfl Try.underlying4 ?_
  intro W base args ds ps hval0 hA0 hlt
  have hval : ∀ (j : Nat) t v, Try.f4.params[j]? = some t → args[j]? = some v → Value.okWide Try.prog W .any base t v := hval0
  have hA : DataW.TrodAll enc Try.prog W 0 (fun _ => true) true Try.f4.params.toList args.toList ds ps := hA0
  clear hval0 hA0
  rw [Try.params4] at hA hval
  obtain ⟨v0, vs0, d0, ds0, p0, q0, hargs, rfl, rfl, h0, r0⟩ := trodAll_cons hA
  obtain ⟨v1, vs1, d1, ds1, p1, q1, rfl, rfl, rfl, h1, r1⟩ := trodAll_cons r0
  obtain ⟨rfl, rfl, rfl⟩ := trodAll_nil r1
  obtain rfl : args = #[v0, v1] := by cases args; simp_all
  obtain ⟨a, ha, ga⟩ := open_aggR Try.underlying26 opE_net (hval 0 _ v0 rfl rfl) h0 (fun x hx => hlt x (by simp [hx]))
  obtain ⟨b, rfl, rfl, rfl, wf1⟩ := open_int Try.underlying3 (hval 1 _ v1 rfl rfl) h1
  exact ⟨rfl, law_con (law_roots a b (fitGr_of ha) (okGr_of ga)) rfl (args2 ha (.d (.int _ _)))⟩

/-- THE STATEMENT, PROVED. -/
theorem FnExactRootValues_holds : Rows.FnExactRootValuesSaid :=
  OpenClaim.holds_of_wide 4 Try.f4 rfl rfl rfl rfl rfl rfl rfl ⟨rfl, rfl, rfl, rfl, rfl⟩ rfl rfl rfl rfl rfl (by kernel_rfl) Try.func4 (by kernel_rfl)
    (of_decide_eq_true (by kernel_rfl)) (by unfold Func.isWrapper; first | (rw [if_pos (by decide +kernel)]; kernel_rfl) | (rw [if_neg (by decide +kernel)]; exact ⟨rfl, rfl⟩))
    (fun os started H enc _ => FnExactRootValues_lifted os started H enc)
#print axioms FnExactRootValues_holds
set_option maxRecDepth 100000 in
theorem FnExactLinkState_lifted (os : Os) (started : os.Started) (H : Type) (enc : TypeId × Value → H) :
    ReturnsInHanded {} Try.checked os 7 .any (Rows.fnExactLinkStateSpec.pre6 enc Try.prog Try.f7 Rows.fnExactLinkStateRow.domain false) (Rows.fnExactLinkStateSpec.post enc Try.prog Try.f7 false true false false) := by
  refine law_lift (C := Try.checked) Try.own started (by kernel_rfl) Try.func7
    (ChangeSpec.witness6 (enc := enc) (C := Try.checked) false ⟨#[], #[.agg #[.int .i64 0, .slice none 0 0, .slice none 0 0, .slice none 0 0], .agg #[.int .i64 0, .slice none 0 0, .slice none 0 0, .slice none 0 0], .slice none 0 0, .slice none 0 0], []⟩ 8 (by kernel_rfl) (by kernel_rfl) (by kernel_rfl) (by kernel_rfl))
    Try.laidOut (of_decide_eq_true (by kernel_rfl)) rfl rfl Try.underlying4 ?_
  intro W base args ds ps hval0 hA0 hlt
  have hval : ∀ (j : Nat) t v, Try.f7.params[j]? = some t → args[j]? = some v → Value.okWide Try.prog W .any base t v := hval0
  have hA : DataW.TrodAll enc Try.prog W 0 (fun _ => true) true Try.f7.params.toList args.toList ds ps := hA0
  clear hval0 hA0
  rw [Try.params7] at hA hval
  obtain ⟨v0, vs0, d0, ds0, p0, q0, hargs, rfl, rfl, h0, r0⟩ := trodAll_cons hA
  obtain ⟨v1, vs1, d1, ds1, p1, q1, rfl, rfl, rfl, h1, r1⟩ := trodAll_cons r0
  obtain ⟨v2, vs2, d2, ds2, p2, q2, rfl, rfl, rfl, h2, r2⟩ := trodAll_cons r1
  obtain ⟨v3, vs3, d3, ds3, p3, q3, rfl, rfl, rfl, h3, r3⟩ := trodAll_cons r2
  obtain ⟨rfl, rfl, rfl⟩ := trodAll_nil r3
  obtain rfl : args = #[v0, v1, v2, v3] := by cases args; simp_all
  obtain ⟨a, ha, ga⟩ := open_aggR Try.underlying26 opE_net (hval 0 _ v0 rfl rfl) h0 (fun x hx => hlt x (by simp [hx]))
  obtain ⟨b, hb, gb⟩ := open_aggR Try.underlying26 opE_net (hval 1 _ v1 rfl rfl) h1 (fun x hx => hlt x (by simp [hx]))
  obtain ⟨ls, hl⟩ := openD_sl Try.underlying27 op_links (hval 2 _ v2 rfl rfl) h2 (fun x hx => hlt x (by simp [hx]))
  obtain ⟨st, hs⟩ := openD_sl Try.underlying24 op_ints' (hval 3 _ v3 rfl rfl) h3 (fun x hx => hlt x (by simp [hx]))
  exact ⟨rfl, law_con (law_lkst a b ls st (fitGr_of ha) (fitGr_of hb) (fitLk_of hl) hs.fit (okGr_of ga) (okGr_of gb)) rfl (args4 ha hb (.d hl) (.d hs))⟩

/-- THE STATEMENT, PROVED. -/
theorem FnExactLinkState_holds : Rows.FnExactLinkStateSaid :=
  OpenClaim.holds_of_wide 7 Try.f7 rfl rfl rfl rfl rfl rfl rfl ⟨rfl, rfl, rfl, rfl, rfl⟩ rfl rfl rfl rfl rfl (by kernel_rfl) Try.func7 (by kernel_rfl)
    (of_decide_eq_true (by kernel_rfl)) (by unfold Func.isWrapper; first | (rw [if_pos (by decide +kernel)]; kernel_rfl) | (rw [if_neg (by decide +kernel)]; exact ⟨rfl, rfl⟩))
    (fun os started H enc _ => FnExactLinkState_lifted os started H enc)
#print axioms FnExactLinkState_holds
end Go.Proofs.Ytdliejnmpdodhaa
