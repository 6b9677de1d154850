/-
  The network of tables of a mapping, by the program. By an abstract walk.
  Conditions: those typed in each theorem.
-/
import Derived.Test.YtklhofpjjbfckaaLk
namespace Go.Proofs.Ytklhofpjjbfckaa
open Go.RowKit Go.ChangeShapes Go.WideShapes
set_option linter.unusedVariables false
set_option linter.unusedSimpArgs false
attribute [local simp ↓] condG_true condG_false condB_true condB_false
attribute [local simp] AWp_skip AWp_region_t AWp_region_d AWp_region_f still_mk AWp_seq AWp_cond condV_bool condB AWp_block AWp_exit AWp_ret
attribute [local simp] AOps_nil AOp_move AOp_assign AOp_pick AOp_binOp AOp_unOp AOp_convert AOp_len AOp_max AOp_min AOp_indexAddr AOp_load
attribute [local simp] AOp_fieldAddr AOp_field AOp_extract AOp_nilCheck AOp_build AOp_alloc AOp_box AOp_call AOp_store AOp_append AOp_buildSlice nextB_some
attribute [local simp] nextB_none adoptO adoptC AOp_makeSlice AOp_slice AOp_makeFunc AOp_guard guardD_some guardG_bool guardG_undef nextO_some nextS_some
attribute [local simp] nextZ_some nextL_some nextM_some nextT_some sliceO sliceL sliceT partO partV boundV funcO pickO
attribute [local simp] convO lenO maxO minO idxO extO nilO buildO litO litC makeO chunks
attribute [local simp] fillV placeOf thenA inBlockA St.get St.put St.eval ofCell evalT abin_add abin_sub abin_mul
attribute [local simp] abin_quo abin_rem abin_and abin_or abin_xor abin_andNot abin_shl abin_shr abin_shlu abin_eql abin_eqp abin_neq
attribute [local simp] abin_lss abin_leq abin_gtr abin_geq abin_eqlb abin_neqb aun pickV lenV intOf? indexV takeD
attribute [local simp] takeV loadV fieldAddrV fieldV ofX presD presDs pres presAll cellsV V.cell storeV
attribute [local simp] freezeC putAt kill takeC plains plainV scalarV nat_neg keepT sets eSl e1
attribute [local simp] e2 e3 e4 eInt eBool afterCall inst inst1 inst1s instD instDs RetA
attribute [local simp] resVs resV gives give1 give1s Le isPin leSlots leS leTmps leV le0
attribute [local simp] le0s ren ren0 renS ren0s frame enterT afterT_some afterC_some lives Slot.live arrsOk
attribute [local simp] viewV view0 renT rens renSs setAll List.range'_succ RetT RetW joinV leT AOpsE_nil
attribute [local simp] AOpsE_cons AOpsT_nil AOpsT_cons isCallT isFnO callOf callVC_fn condC_true condC_false beginT_mk thenT_mk pickE
attribute [local simp] pickT isT loose namesOf namesV names1 names0 stableN sameAt Op.operands Call.operands
set_option maxRecDepth 100000 in
set_option maxHeartbeats 40000000 in
theorem iToLuts_con (x : GrD) (cs : List RowD) (hx : fitGr 1048576 x) (hc : fitRw 1048576 cs) : ConC Try.prog 57 [igr x, irows cs] (.tup [inet (lutsL x cs), .d (.bool (mapOkB x cs))]) := by
  have kM := iMapOk_con x cs hx hc
  have hL : lutsL x cs = if mapOkB x cs = true then lutsOf x cs else (0, [], [], []) := rfl
  cases hm : mapOkB x cs with
  | false =>
    rw [hm, if_neg (by simp)] at hL
    rw [hm] at kM
    rw [hL]
    refine con_ofD (by kernel_rfl) Try.func57 rfl rfl rfl ?_
    simp [enGr]
    refine call_step (kM) ?_
    simp [enNet]
  | true =>
  rw [hm, if_pos rfl] at hL
  rw [hm] at kM
  rw [hL]
  obtain ⟨hok, hl, hcs⟩ := mapOk_of hm
  obtain ⟨⟨n1, n2, n3, n4, n5, n6⟩, -, -, -⟩ := netOk_of hok
  obtain ⟨hF, hgl, hNi, hno⟩ := ok_sizes hok
  have hN := grN_eq x
  have hri := rootsN_in hok
  have hF' : (firstG x : Int) = 1 + x.1 + x.2.1.length := hF
  have hp0 : posM x cs 0 = evM (grRoots x) (List.replicate (grN x) false) (grRoots x).length := rfl
  have hg0 : ngM x = odM (grRoots x) (List.replicate (grN x) false) (grRoots x).length := rfl
  have hlr1 : ∀ k, (evM (grRoots x) (List.replicate (grN x) false) k).length = grN x := fun k => by rw [evM_len]; simp
  have hlr2 : ∀ k, (odM (grRoots x) (List.replicate (grN x) false) k).length = grN x := fun k => by rw [odM_len]; simp
  have hpl := fun j => posM_len (x := x) (cs := cs) j
  have hnl := ngM_len (x := x)
  have hrv := fun y hy => rtV_eq hm (y := y) hy
  have hro := fun y hy => root_out (x := x) (y := y) hy
  have hrs := fun s y hs hy => root_seq (x := x) (s := s) (y := y) hs hy
  have hso := (netOk_of hok).2.1
  refine con_ofD (by kernel_rfl) Try.func57 rfl rfl rfl ?_
  simp [enGr]
  refine call_step (kM) ?_
  simp
  refine call_step (iNodeCnt_con x ⟨n1, n2⟩ n3 n4) ?_
  simp [hNi, show (grN x : Int) ≤ 1099511627776 by omega]
  have hrl := rootsN_len hok
  refine call_step (iRoots_con x hx n3) ?_
  simp
  generalize grRoots x = rs at *
  have hr0 : (evM rs (List.replicate (grN x) false) 0).map (e1 eBool) = List.replicate (grN x) [D.bool false] := by rw [rep_bools]; rfl
  have hr1 : (odM rs (List.replicate (grN x) false) 0).map (e1 eBool) = List.replicate (grN x) [D.bool false] := by rw [rep_bools]; rfl
  generalize List.replicate (grN x) false = s0 at *
  refine aw_loopN [false, true, true, false, true, false, true, true, true, false, false, false, false, false, false, false, false, false, false, false, false, false, false, false, false, false, false, false, false, false, false, false, false, false, false, false, false, false, false, false, true, true, true, false, false, false, false, false, false, false, false, false, false, false, false, false, false, false, false, false, false, false, false, false, false, false, false, false, false, false, false, false, false, false, false, false, false, false, false, false, false, false, false, false, false, false, false, false, false, false, false, false, false, false, false, false, false, false, false, false, false, false, false, false, false, false, false, false, false, false, false, false, false, false, false, false, false, false, false, false, false, false, false, false, false, false, false, false, false, false, false, false, false, false, false, false, false, false, false, false, false, false, false, false, false, false, false, false, false, false, false, false, false, false, false, false, false, false, false, false, false, false, false, false, false, false, false, false, false, false, false, false, false, false, false, false, false, false, false, false, false, false, false, false, false, false, false, false, false, false, false, false, false, false, false, false, false, false, false, false, false, false, false, false, false, false, false, false, false, false, false, false, false, false, false, false, false, false, false, false, false, false, false, false, false, false, false, false, false, false, false, false, false, false, false, false, false] (fun j : Nat => j ≤ rs.length) (fun j : Nat => [(40, .d (eSl 3 (e1 eInt) rs)), (42, .d (.int .i64 j))]) (fun j : Nat => fun sl => [bxG x, zNet, bR (evM rs s0 j), bR (odM rs s0 j)]) (fun j : Nat => rs.length - j) 0 ?_ ?_ ?_
  · simp
  · exact ⟨[0, 1, 2, 3], by simp [bxG, zNet, bR, hr0, hr1]⟩
  rintro I S μ hI hS hμ j hj
  have hl1 := hlr1 j
  have hl2 := hlr2 j
  by_cases hlt : j < rs.length
  · skip
    --[dev
    have hx1 : rs[j]? = some rs[j] := List.getElem?_eq_getElem hlt
    have w2 : IntKind.i64.wrap ((j : Int) + 1) = (j : Int) + 1 := wrap_id (by omega) (by omega)
    have hd : decide (j < rs.length) = true := decide_eq_true hlt
    have hyr := hri _ (List.getElem_mem hlt)
    have hev := fun h => evM_even (s := s0) hx1 h
    have hod := fun h => evM_odd (s := s0) hx1 h
    have q2 : (rs[j]).tmod 2 = rs[j] % 2 := Int.tmod_eq_emod_of_nonneg hyr.1
    generalize rs[j] = y at *
    generalize evM rs s0 j = s1 at *
    generalize odM rs s0 j = s2 at *
    obtain ⟨q, hq⟩ : ∃ q : Nat, (q : Int) = y / 2 := ⟨(y / 2).toNat, by omega⟩
    rw [← hq, Int.toNat_natCast] at hev hod
    have q1 : IntKind.i64.wrap (y.tdiv 2) = (q : Int) := by rw [Int.tdiv_eq_ediv_of_nonneg hyr.1, ← hq]; exact wrap_id (by omega) (by omega)
    by_cases he : y % 2 = 0
    · obtain ⟨e1', e2'⟩ := hev he
      have hat := getB_at (s := s1) (v := q) (by omega)
      have hset := map_setB (s := s1) (v := q) (b := true)
      generalize s1.set q true = sq at *
      simp [hd, hx1, q1, q2, he, hat, hset, w2]
      exact round_of hI hS hμ (j + 1) (by omega) (by omega) ⟨[0, 1, 2, 3], by simp [e1', e2']⟩
    · obtain ⟨e1', e2'⟩ := hod he
      have he2 : (y % 2 == 0) = false := by simpa using he
      have hat := getB_at (s := s2) (v := q) (by omega)
      have hset := map_setB (s := s2) (v := q) (b := true)
      generalize s2.set q true = sq at *
      simp [hd, hx1, q1, q2, he, he2, hat, hset, w2]
      exact round_of hI hS hμ (j + 1) (by omega) (by omega) ⟨[0, 1, 2, 3], by simp [e1', e2']⟩
    --]dev
  obtain rfl : j = rs.length := by omega
  rw [← hp0, ← hg0]
  have w0 : IntKind.i64.wrap ((cs.length : Int) - 1) = (cs.length : Int) - 1 := wrap_id (by omega) (by omega)
  clear hI hS hμ
  simp [hlt, w0]
  refine aw_loopN [false, true, true, false, true, false, true, true, true, false, false, true, false, false, false, false, false, false, false, false, false, false, false, false, false, false, false, false, false, false, false, false, false, false, false, false, false, false, false, false, false, false, false, false, false, false, false, false, false, false, false, false, false, false, false, false, false, false, false, false, false, false, false, false, false, false, false, false, false, false, false, false, false, false, false, false, false, false, false, false, false, false, false, false, false, false, false, false, false, false, false, false, false, false, false, false, false, false, false, false, false, false, false, false, false, false, false, false, false, false, false, false, false, false, false, false, false, false, false, false, false, false, false, false, false, false, false, false, false, false, false, false, false, false, false, false, false, false, false, false, false, false, false, false, false, false, false, false, false, false, false, false, false, false, false, false, false, false, false, false, false, false, false, false, false, false, false, false, false, false, false, false, false, false, false, false, false, false, false, false, false, false, false, false, false, false, false, false, false, false, false, false, false, false, false, false, false, false, false, false, false, false, false, false, false, false, false, false, false, false, false, false, false, false, false, false, false, false, false, false, false, false, false, false, false, false, false, false, false, false, false, false, false, false, false, false, false] (fun j : Nat => j ≤ cs.length) (fun j : Nat => [(11, .d (.int .i64 ((cs.length : Int) - 1 - j)))]) (fun j : Nat => fun sl => [bxG x, zNet, bR (posM x cs j), bR (ngM x)]) (fun j : Nat => cs.length - j) 0 ?_ ?_ ?_
  · simp
  · exact ⟨[0, 1, 2, 3], by simp [bxG, zNet, bR]⟩
  rintro I S μ hI hS hμ j hj
  have hlj := hpl j
  obtain ⟨i, hi⟩ : ∃ i : Int, i = (cs.length : Int) - 1 - j := ⟨_, rfl⟩
  rw [← hi]
  by_cases hlt2 : j < cs.length
  · skip
    --[dev
    obtain ⟨p, hp⟩ : ∃ p, p = cs.length - 1 - j := ⟨_, rfl⟩
    obtain ⟨v, hv⟩ : ∃ v, v = grN x - 1 - j := ⟨_, rfl⟩
    obtain ⟨c, hc1⟩ : ∃ c, cs[p]? = some c := ⟨_, List.getElem?_eq_getElem (by omega)⟩
    have hsw : posM x cs (j + 1) = if (getB (posM x cs j) v || getB (ngM x) v) = true then ctM (posM x cs j) c c.length else posM x cs j := by
      show (if (getB (posM x cs j) (grN x - 1 - j) || getB (ngM x) (grN x - 1 - j)) = true then ctM (posM x cs j) ((cs[cs.length - 1 - j]?).getD []) ((cs[cs.length - 1 - j]?).getD []).length else posM x cs j) = _
      rw [← hv, ← hp, hc1]
      rfl
    obtain ⟨-, hc4, hcr⟩ := hcs p c hc1
    generalize posM x cs j = s at *
    have hatG := getB_at (s := ngM x) (v := v) (by omega)
    have hat := getB_at (s := s) (v := v) (by omega)
    generalize ngM x = g at *
    have w1 : IntKind.i64.wrap (1 + x.1 + (x.2.1.length : Int) + i) = (v : Int) := by rw [wrap_id (by omega) (by omega)]; omega
    have w2 : IntKind.i64.wrap (i - 1) = (cs.length : Int) - 1 - ((j : Int) + 1) := by rw [wrap_id (by omega) (by omega)]; omega
    have ht : i.toNat = p := by omega
    have hL : (enRow c).length = 1 := rfl
    simp [show (0 : Int) ≤ i by omega]
    refine call_step (firstAnd_con x ⟨n1, n2⟩ n3) ?_
    simp [w1, hat]
    cases hb0 : (getB s v || getB g v) with
    | false =>
      rw [hb0, if_neg (by simp)] at hsw
      obtain ⟨hb, hb2⟩ := Bool.or_eq_false_iff.1 hb0
      simp [hb, hb2, hatG, w2]
      exact round_of hI hS hμ (j + 1) (by omega) (by omega) ⟨[0, 1, 2, 3], by simp [hsw]⟩
    | true =>
    rw [hb0, if_pos rfl] at hsw
    cases hb : getB s v <;> cases hb2 : getB g v
    · rw [hb, hb2] at hb0; simp at hb0
    all_goals
      simp [hb, hb2, hatG, ht, hc1, hL, enRow, show ¬ i < 0 by omega]
      refine aw_loopN [false, true, true, false, true, false, true, true, true, false, false, true, false, false, false, false, false, false, false, false, false, false, false, false, false, false, false, false, false, false, false, false, false, false, false, false, false, false, false, false, false, false, false, false, false, false, false, false, false, false, false, false, false, false, false, false, false, false, false, false, false, false, false, false, false, false, false, false, false, false, false, false, false, false, false, false, false, false, false, false, false, false, true, true, true, false, false, false, false, false, false, false, false, false, false, false, false, false, false, false, false, false, false, false, false, false, false, false, false, false, false, false, false, false, false, false, false, false, false, false, false, false, false, false, false, false, false, false, false, false, false, false, false, false, false, false, false, false, false, false, false, false, false, false, false, false, false, false, false, false, false, false, false, false, false, false, false, false, false, false, false, false, false, false, false, false, false, false, false, false, false, false, false, false, false, false, false, false, false, false, false, false, false, false, false, false, false, false, false, false, false, false, false, false, false, false, false, false, false, false, false, false, false, false, false, false, false, false, false, false, false, false, false, false, false, false, false, false, false, false, false, false, false, false, false, false, false, false, false, false, false, false, false, false, false, false, false] (fun k : Nat => k ≤ c.length) (fun k : Nat => [(84, .d (.int .i64 k))]) (fun k : Nat => fun sl => [bxG x, zNet, bR (ctM s c k), bR g]) (fun k : Nat => c.length - k) 0 ?_ ?_ ?_
      · simp
      · exact ⟨[0, 1, 2, 3], by simp [bxG, zNet, bR, ctM]⟩
      rintro I2 S2 μ2 hI2 hS2 hμ2 k hk
      have hlk := ctM_len (s := s) (c := c) k
      by_cases hlt3 : k < c.length
      · have hy1 : c[k]? = some c[k] := List.getElem?_eq_getElem hlt3
        have w4 : IntKind.i64.wrap ((k : Int) + 1) = (k : Int) + 1 := wrap_id (by omega) (by omega)
        have hd2 : decide (k < c.length) = true := decide_eq_true hlt3
        have hyr := hcr _ (List.getElem_mem hlt3)
        have hnx : ctM s c (k + 1) = (ctM s c k).set (c[k]).toNat true := by simp [ctM, atI_get hy1]
        generalize c[k] = y at *
        generalize ctM s c k = s2 at *
        obtain ⟨q, rfl⟩ : ∃ q : Nat, y = (q : Int) := ⟨y.toNat, by omega⟩
        rw [Int.toNat_natCast] at hnx
        have hat := getB_at (s := s2) (v := q) (by omega)
        have hset := map_setB (s := s2) (v := q) (b := true)
        generalize s2.set q true = sq at *
        simp [hd2, hy1, hat, hset, w4]
        exact round_of hI2 hS2 hμ2 (k + 1) (by omega) (by omega) ⟨[0, 1, 2, 3], by simp [hnx]⟩
      · have hk' : k = c.length := by omega
        subst hk'
        rw [← hsw]
        simp [hlt3, w2]
        exact round_of hI hS hμ (j + 1) (by omega) (by omega) ⟨[0, 1, 2, 3], by simp⟩
    --]dev
  obtain rfl : j = cs.length := by omega
  clear hI hS hμ
  have hposL : posM x cs cs.length = posL x cs := rfl
  rw [hposL]
  simp [show ¬ (0 : Int) ≤ i by omega, show i < 0 by omega, show (grN x : Int) ≤ 1099511627776 by omega]
  have hi0 : (idK (grN x) 0).map (e1 eInt) = List.replicate (grN x) [D.int .i64 0] := by unfold idK; rw [List.map_replicate]; rfl
  refine aw_loopN [false, true, true, false, true, false, true, true, true, false, false, false, false, false, false, true, true, true, false, false, false, false, false, false, false, false, false, false, false, false, false, false, false, false, false, false, false, false, false, false, false, false, false, false, false, false, false, false, false, false, false, false, false, false, false, false, false, false, false, false, false, false, false, false, false, false, false, false, false, false, false, false, false, false, false, false, false, false, false, false, false, false, false, false, false, false, false, false, false, false, false, false, false, false, false, false, false, false, false, false, false, false, false, false, false, false, false, false, false, false, false, false, false, false, false, false, false, false, false, false, false, false, false, false, false, false, false, false, false, false, false, false, false, false, false, false, false, false, false, false, false, false, false, false, false, false, false, false, false, false, false, false, false, false, false, false, false, false, false, false, false, false, false, false, false, false, false, false, false, false, false, false, false, false, false, false, false, false, false, false, false, false, false, false, false, false, false, false, false, false, false, false, false, false, false, false, false, false, false, false, false, false, false, false, false, false, false, false, false, false, false, false, false, false, false, false, false, false, false, false, false, false, false, false, false, false, false, false, false, false, false, false, false, false, false, false, false] (fun k : Nat => k ≤ firstG x) (fun k : Nat => [(17, .d (.int .i64 k))]) (fun k : Nat => fun sl => [bxG x, zNet, bR (posL x cs), bR (ngM x), .var 80 [.d (.int .i64 x.1), .nil 31, .nil 132, .nil 3], iR (idK (grN x) k), .var 26 [.ref 5]]) (fun k : Nat => firstG x - k) 0 ?_ ?_ ?_
  · simp
  · exact ⟨[0, 1, 2, 3, 4, 5, 6], by simp [bxG, zNet, bR, iR, hi0]⟩
  rintro I S μ hI hS hμ k hk
  have hkl := idK_len (N := grN x) k
  by_cases hlt3 : k < firstG x
  · skip
    --[dev
    have w4 : IntKind.i64.wrap ((k : Int) + 1) = (k : Int) + 1 := wrap_id (by omega) (by omega)
    have hnx : idK (grN x) (k + 1) = (idK (grN x) k).set k (k : Int) := rfl
    generalize idK (grN x) k = s2 at *
    obtain ⟨z, hz⟩ : ∃ z, s2[k]? = some z := ⟨_, List.getElem?_eq_getElem (by omega)⟩
    have hset := map_setI (m := s2) (v := k) (z := (k : Int))
    generalize s2.set k (k : Int) = s3 at *
    simp
    refine call_step (firstAnd_con x ⟨n1, n2⟩ n3) ?_
    simp [show (k : Int) < 1 + x.1 + x.2.1.length by omega, hz, hset, w4]
    exact round_of hI hS hμ (k + 1) (by omega) (by omega) ⟨[0, 1, 2, 3, 4, 5, 6], by simp [hnx]⟩
    --]dev
  obtain rfl : k = firstG x := by omega
  clear hI hS hμ
  simp
  refine call_step (firstAnd_con x ⟨n1, n2⟩ n3) ?_
  simp [show ¬ (firstG x : Int) < 1 + x.1 + x.2.1.length by omega]
  refine call_step (firstAnd_con x ⟨n1, n2⟩ n3) ?_
  simp
  refine aw_loopN [false, true, true, false, true, false, true, true, true, false, false, false, false, false, false, true, true, false, true, false, false, false, false, false, false, false, false, false, false, false, false, false, false, false, false, false, false, false, false, false, false, false, false, false, false, false, false, false, false, false, false, false, false, false, false, false, false, false, false, false, false, false, false, false, false, false, false, false, false, false, false, false, false, false, false, false, false, false, false, false, false, false, false, false, false, false, false, false, false, false, false, false, false, false, false, false, false, false, false, false, false, false, false, false, false, false, false, false, false, true, true, true, false, false, false, false, false, false, false, false, false, false, false, false, false, false, false, false, false, false, false, false, false, false, false, false, false, false, false, false, false, false, false, false, false, false, false, false, false, false, false, false, false, false, false, false, false, false, false, false, false, false, false, false, false, false, false, false, false, false, false, false, false, false, false, false, false, false, false, false, false, false, false, false, false, false, false, false, false, false, false, false, false, false, false, false, false, false, false, false, false, false, false, false, false, false, false, false, false, false, false, false, false, false, false, false, false, false, false, false, false, false, false, false, false, false, false, false, false, false, false, false, false, false, false, false, false] (fun i : Nat => i ≤ cs.length) (fun i : Nat => [(18, .d (.int .i64 ((firstG x + cnP (posL x cs) (firstG x) i : Nat) : Int))), (111, .d (.int .i64 i))]) (fun i : Nat => fun sl => [bxG x, zNet, bR (posL x cs), bR (ngM x), .var 80 [.d (.int .i64 x.1), .nil 31, luC (ltP x cs i) 7, .nil 3], iR (evI (firstG x) (grN x) (posL x cs) i), .var 26 [.ref 5]] ++ luS (ltP x cs i)) (fun i : Nat => cs.length - i) 0 ?_ ?_ ?_
  · simp
  · exact ⟨[0, 1, 2, 3, 4, 5, 6], by simp [bxG, zNet, bR, iR, luC, luS, ltP, evI, cnP, hF']⟩
  rintro I S μ hI hS hμ i hi
  have hel := evI_len (F := firstG x) (N := grN x) (pos := posL x cs) i
  have hcn := cnP_le (pos := posL x cs) (F := firstG x) i
  by_cases hlt4 : i < cs.length
  · skip
    --[dev
    obtain ⟨c, hc1⟩ : ∃ c, cs[i]? = some c := ⟨_, List.getElem?_eq_getElem hlt4⟩
    have hd := decide_eq_true hlt4
    obtain ⟨-, hc4, hcr⟩ := hcs i c hc1
    have hL : (enRow c).length = 1 := rfl
    have w1 : IntKind.i64.wrap (1 + x.1 + (x.2.1.length : Int) + i) = ((firstG x + i : Nat) : Int) := by rw [wrap_id (by omega) (by omega)]; omega
    have w2 : IntKind.i64.wrap ((i : Int) + 1) = (i : Int) + 1 := wrap_id (by omega) (by omega)
    have hat := getB_at (s := posL x cs) (v := firstG x + i) (by rw [posL_len]; omega)
    have hpx : (ltP x cs (i + 1)) = if getB (posL x cs) (firstG x + i) = true then ltP x cs i ++ [(c.map (plN (firstG x) (posL x cs)), tbL x c (firstG x + i))] else ltP x cs i := by
      show (if getB (posL x cs) (firstG x + i) = true then ltP x cs i ++ [(((cs[i]?).getD []).map (plN (firstG x) (posL x cs)), tbL x ((cs[i]?).getD []) (firstG x + i))] else ltP x cs i) = _
      rw [hc1]; rfl
    have hex : evI (firstG x) (grN x) (posL x cs) (i + 1) = if getB (posL x cs) (firstG x + i) = true then (evI (firstG x) (grN x) (posL x cs) i).set (firstG x + i) ((firstG x + cnP (posL x cs) (firstG x) i : Nat) : Int) else evI (firstG x) (grN x) (posL x cs) i := rfl
    have hcx : cnP (posL x cs) (firstG x) (i + 1) = if getB (posL x cs) (firstG x + i) = true then cnP (posL x cs) (firstG x) i + 1 else cnP (posL x cs) (firstG x) i := rfl
    have hme := fun hu => map_ev hm hc1 (n := i + 1) hu (by omega) (by omega)
    have kT := cutTable_con x c (firstG x + i) hx hok hc4 (by omega)
    generalize hv : firstG x + i = v at *
    cases hb : getB (posL x cs) v with
    | false =>
      rw [hb, if_neg (by simp)] at hpx hex hcx
      rw [hb] at hat
      by_cases hn : ltP x cs i = []
      · rw [hn] at hpx ⊢
        simp [hd, hc1, hL, enRow, luC, luS]
        refine call_step (firstAnd_con x ⟨n1, n2⟩ n3) ?_
        simp [w1, hat, w2]
        exact round_of hI hS hμ (i + 1) (by omega) (by omega) ⟨[0, 1, 2, 3, 4, 5, 6], by simp [hpx, hex, hcx, luC, luS]⟩
      · simp [hd, hc1, hL, enRow, luC, luS, hn]
        refine call_step (firstAnd_con x ⟨n1, n2⟩ n3) ?_
        simp [w1, hat, w2]
        exact round_of hI hS hμ (i + 1) (by omega) (by omega) ⟨[0, 1, 2, 3, 4, 5, 6, 7], by simp [hpx, hex, hcx, luC, luS, hn]⟩
    | true =>
      have hme := hme (by rw [hb]; rfl)
      rw [hb, if_pos rfl] at hpx hex hcx
      rw [hb] at hat
      have kN := mapNodes_con (evI (firstG x) (grN x) (posL x cs) (i + 1)) c (by rw [evI_len]; omega) (by omega) (fun y hy => by rw [evI_len]; exact hcr y hy)
      rw [hme] at kN
      generalize c.map (plN (firstG x) (posL x cs)) = mc at *
      generalize tbL x c v = tb at *
      generalize hev2 : evI (firstG x) (grN x) (posL x cs) (i + 1) = ev2 at *
      generalize evI (firstG x) (grN x) (posL x cs) i = ev at *
      generalize hcn2 : cnP (posL x cs) (firstG x) (i + 1) = cn2 at *
      generalize cnP (posL x cs) (firstG x) i = cn at *
      have w3 : IntKind.i64.wrap ((firstG x : Int) + cn + 1) = (firstG x : Int) + cn2 := by rw [wrap_id (by omega) (by omega)]; omega
      obtain ⟨z, hz⟩ : ∃ z, ev[v]? = some z := ⟨_, List.getElem?_eq_getElem (by omega)⟩
      have hset : (ev.map (e1 eInt)).set v [D.int .i64 ((firstG x : Int) + cn)] = ev2.map (e1 eInt) := by rw [map_setI, hex, Int.natCast_add]
      by_cases hn : ltP x cs i = []
      · rw [hn] at hpx ⊢
        simp [hd, hc1, hL, enRow, luC, luS]
        refine call_step (firstAnd_con x ⟨n1, n2⟩ n3) ?_
        simp [w1, hat, hz, hset, w3]
        refine drawD_of 12 (by kernel_rfl) ?_
        simp
        refine call_step (kN) ?_
        simp
        refine call_step (kT) ?_
        simp
        first | refine app_lit (q := 1) vt_el_78 (by exact rfl) (by simp) (by exact rfl) (by exact rfl) (by simp) (by simp) (by first | (simp; done) | (simp; omega)) ?_ | refine app_row vt_el_78 (by exact rfl) (by simp) (by exact rfl) (by simp) (by first | (simp; done) | (simp; omega)) ?_
        simp [w2]
        exact round_of hI hS hμ (i + 1) (by omega) (by omega) ⟨[0, 1, 2, 3, 4, 5, 6, 9], by simp [hpx, hev2, hcn2, luC, luS, enLut, e1, e2, eInt]⟩
      · have hnl : (ltP x cs i).length ≤ 400 := by have := ltP_len (x := x) (cs := cs) i; have := cnP_le (pos := posL x cs) (F := firstG x) i; omega
        generalize ltP x cs i = L at *
        simp [hd, hc1, hL, enRow, luC, luS, hn]
        refine call_step (firstAnd_con x ⟨n1, n2⟩ n3) ?_
        simp [w1, hat, hz, hset, w3]
        refine drawD_of 12 (by kernel_rfl) ?_
        simp
        refine call_step (kN) ?_
        simp
        refine call_step (kT) ?_
        simp
        first | refine app_lit (q := 1) vt_el_78 (by exact rfl) (by simp) (by exact rfl) (by exact rfl) (by simp) (by simp) (by first | (simp; done) | (simp; omega)) ?_ | refine app_row vt_el_78 (by exact rfl) (by simp) (by exact rfl) (by simp) (by first | (simp; done) | (simp; omega)) ?_
        simp [w2]
        exact round_of hI hS hμ (i + 1) (by omega) (by omega) ⟨[0, 1, 2, 3, 4, 5, 6, 10], by simp [hpx, hev2, hcn2, luC, luS, enLut, e1, e2, eInt]⟩
    --]dev
  obtain rfl : i = cs.length := by omega
  clear hI hS hμ
  have hmev := fun (i : Nat) (c : RowD) hc1 hu h => map_ev hm (i := i) (n := cs.length) (c := c) hc1 hu h (Nat.le_refl _)
  have hlp := ltP_len (x := x) (cs := cs) cs.length
  have hL0 : ltN x cs 0 = ltP x cs cs.length := rfl
  have hn0 : (ngP x cs 0).map (e1 eInt) = List.replicate (grN x) [D.int .i64 0] := by unfold ngP; rw [List.map_replicate]; rfl
  generalize evI (firstG x) (grN x) (posL x cs) cs.length = ev at *
  by_cases hn : ltP x cs cs.length = []
  all_goals
    simp [luC, luS, hn, hlt4, hnl, show (grN x : Int) ≤ 1099511627776 by omega]
    refine aw_loopN [false, true, true, false, true, false, false, false, true, false, false, false, false, false, false, true, true, false, true, false, false, false, true, false, false, false, false, false, false, false, false, false, false, false, false, false, false, false, false, false, false, false, false, false, false, false, false, false, false, false, false, false, false, false, false, false, false, false, false, false, false, false, false, false, false, false, false, false, false, false, false, false, false, false, false, false, false, false, false, false, false, false, false, false, false, false, false, false, false, false, false, false, false, false, false, false, false, false, false, false, false, false, false, false, false, false, false, false, false, false, false, false, false, false, false, false, false, false, false, false, false, false, false, false, false, false, false, false, false, false, false, false, false, false, false, false, false, false, false, false, false, false, false, false, false, false, false, false, true, true, false, false, false, false, false, false, false, false, false, false, false, false, false, false, false, false, false, false, false, false, false, false, false, false, false, false, false, false, false, false, false, false, false, false, false, false, false, false, false, false, false, false, false, false, false, false, false, false, false, false, false, false, false, false, false, false, false, false, false, false, false, false, false, false, false, false, false, false, false, false, false, false, false, false, false, false, false, false, false, false, false, false, false, false, false, false, false] (fun k : Nat => k ≤ grN x) (fun k : Nat => [(22, .ptr 8 0), (18, .d (.int .i64 ((firstG x + (ltN x cs k).length : Nat) : Int))), (149, .d (.int .i64 k))]) (fun k : Nat => fun sl => [bxG x, zNet, bR (posL x cs), bR (ngM x), .var 80 [.d (.int .i64 x.1), .nil 31, luC (ltN x cs k) 9, .nil 3], iR ev, .var 26 [.ref 5], iR (ngP x cs k), .var 26 [.ref 7]] ++ luS (ltN x cs k)) (fun k : Nat => grN x - k) 0 ?_ ?_ ?_
    · simp
    · refine ⟨(if ltP x cs cs.length = [] then [0, 1, 2, 3, 4, 5, 6, 7, 8] else [0, 1, 2, 3, 4, 5, 6, 8, 9, 7]), ?_⟩
      simp [bxG, zNet, bR, iR, luC, luS, hL0, hn, hn0, ← hlp]
    rintro I S μ hI hS hμ k hk
    have hkl := ngP_len (x := x) (cs := cs) k
    have hLl := ltN_len (x := x) (cs := cs) k
    have hlx : ltN x cs (k + 1) = if getB (ngM x) k = true then ltN x cs k ++ [ltNeg x cs k] else ltN x cs k := rfl
    have hgx : ngP x cs (k + 1) = if getB (ngM x) k = true then (ngP x cs k).set k ((firstG x + (ltN x cs k).length : Nat) : Int) else ngP x cs k := rfl
    by_cases hlt5 : k < grN x
    · skip
      --[dev
      have hd := decide_eq_true hlt5
      have hat := getB_at (s := ngM x) (v := k) (by omega)
      have w2 : IntKind.i64.wrap ((k : Int) + 1) = (k : Int) + 1 := wrap_id (by omega) (by omega)
      cases hb : getB (ngM x) k with
      | false =>
        rw [hb, if_neg (by simp)] at hlx hgx
        rw [hb] at hat
        by_cases hn5 : ltN x cs k = []
        · simp [hnl, hd, hat, luC, luS, hn5, w2]
          exact round_of hI hS hμ (k + 1) (by omega) (by omega) ⟨[0, 1, 2, 3, 4, 5, 6, 7, 8], by simp [hlx, hgx, luC, luS, hn5]⟩
        · simp [hnl, hd, hat, luC, luS, hn5, w2]
          exact round_of hI hS hμ (k + 1) (by omega) (by omega) ⟨[0, 1, 2, 3, 4, 5, 6, 7, 8, 9], by simp [hlx, hgx, luC, luS, hn5]⟩
      | true =>
        have hused := hb
        rw [hb, if_pos rfl] at hlx hgx
        rw [hb] at hat
        have hsm : (ltN x cs k).length ≤ 800 := by omega
        have w3 : IntKind.i64.wrap ((firstG x : Int) + (ltN x cs k).length + 1) = (firstG x : Int) + ((ltN x cs k).length + 1 : Nat) := by rw [wrap_id (by omega) (by omega)]; omega
        obtain ⟨z, hz⟩ : ∃ z, (ngP x cs k)[k]? = some z := ⟨_, List.getElem?_eq_getElem (by omega)⟩
        have hset : ((ngP x cs k).map (e1 eInt)).set k [D.int .i64 ((firstG x : Int) + (ltN x cs k).length)] = (ngP x cs (k + 1)).map (e1 eInt) := by rw [map_setI, hgx, Int.natCast_add]
        have hll : (ltN x cs (k + 1)).length = (ltN x cs k).length + 1 := by rw [hlx]; simp
        have hneg : ltNeg x cs k = if k = 0 then ([], 1) else if k < firstG x then ([(k : Int)], 1) else (((cs[k - firstG x]?).getD []).map (plN (firstG x) (posL x cs)), tnL x ((cs[k - firstG x]?).getD []) k) := rfl
        by_cases hk0 : k = 0
        · rw [if_pos hk0] at hneg
          rw [hneg] at hlx
          have hkb : ((k : Int) == 0) = true := by simp [hk0]
          by_cases hn5 : ltN x cs k = []
          · rw [hn5] at hlx hset w3 hll ⊢
            simp only [List.length_nil, Nat.zero_add, Int.natCast_zero, Int.add_zero, Int.natCast_one] at hset w3 hll
            simp [hnl, hd, hat, luC, luS, hz, hset, w3, hkb]
            first | refine app_lit (q := 1) vt_el_78 (by exact rfl) (by simp) (by exact rfl) (by exact rfl) (by simp) (by simp) (by first | (simp; done) | (simp; omega)) ?_ | refine app_row vt_el_78 (by exact rfl) (by simp) (by exact rfl) (by simp) (by first | (simp; done) | (simp; omega)) ?_
            simp [w2]
            exact round_of hI hS hμ (k + 1) (by omega) (by omega) ⟨[0, 1, 2, 3, 4, 5, 6, 7, 8, 10], by simp [hlx, hll, luC, luS, enLut, e1, e2, eInt]⟩
          · generalize ltN x cs k = L at *
            simp [hnl, hd, hat, luC, luS, hn5, hz, hset, w3, hkb]
            first | refine app_lit (q := 1) vt_el_78 (by exact rfl) (by simp) (by exact rfl) (by exact rfl) (by simp) (by simp) (by first | (simp; done) | (simp; omega)) ?_ | refine app_row vt_el_78 (by exact rfl) (by simp) (by exact rfl) (by simp) (by first | (simp; done) | (simp; omega)) ?_
            simp [w2]
            exact round_of hI hS hμ (k + 1) (by omega) (by omega) ⟨[0, 1, 2, 3, 4, 5, 6, 7, 8, 11], by simp [hlx, hll, luC, luS, enLut, e1, e2, eInt]⟩
        rw [if_neg hk0] at hneg
        have kA := isAnd_con x k ⟨n1, n2⟩ n3 n4
        by_cases hkf : k < firstG x
        · rw [if_pos hkf] at hneg
          rw [hneg] at hlx
          have hnf : ¬ firstG x ≤ k := by omega
          by_cases hn5 : ltN x cs k = []
          · rw [hn5] at hlx hset w3 hll ⊢
            simp only [List.length_nil, Nat.zero_add, Int.natCast_zero, Int.add_zero, Int.natCast_one] at hset w3 hll
            simp [hnl, hd, hat, luC, luS, hz, hset, w3, hk0]
            refine call_step (kA) ?_
            simp [hnf, hkf]
            first | refine app_lit (q := 1) vt_el_78 (by exact rfl) (by simp) (by exact rfl) (by exact rfl) (by simp) (by simp) (by first | (simp; done) | (simp; omega)) ?_ | refine app_row vt_el_78 (by exact rfl) (by simp) (by exact rfl) (by simp) (by first | (simp; done) | (simp; omega)) ?_
            simp [w2]
            exact round_of hI hS hμ (k + 1) (by omega) (by omega) ⟨[0, 1, 2, 3, 4, 5, 6, 7, 8, 11], by simp [hlx, hll, luC, luS, enLut, e1, e2, eInt]⟩
          · generalize ltN x cs k = L at *
            simp [hnl, hd, hat, luC, luS, hn5, hz, hset, w3, hk0]
            refine call_step (kA) ?_
            simp [hnf, hkf]
            first | refine app_lit (q := 1) vt_el_78 (by exact rfl) (by simp) (by exact rfl) (by exact rfl) (by simp) (by simp) (by first | (simp; done) | (simp; omega)) ?_ | refine app_row vt_el_78 (by exact rfl) (by simp) (by exact rfl) (by simp) (by first | (simp; done) | (simp; omega)) ?_
            simp [w2]
            exact round_of hI hS hμ (k + 1) (by omega) (by omega) ⟨[0, 1, 2, 3, 4, 5, 6, 7, 8, 12], by simp [hlx, hll, luC, luS, enLut, e1, e2, eInt]⟩
        rw [if_neg hkf] at hneg
        obtain ⟨i, rfl⟩ : ∃ i, k = firstG x + i := ⟨k - firstG x, by omega⟩
        have hil : i < cs.length := by omega
        obtain ⟨c, hc1⟩ : ∃ c, cs[i]? = some c := ⟨_, List.getElem?_eq_getElem hil⟩
        obtain ⟨-, hc4, hcr⟩ := hcs i c hc1
        rw [Nat.add_sub_cancel_left, hc1, Option.getD_some] at hneg
        have hLc : (enRow c).length = 1 := rfl
        have hme := hmev i c hc1 (by rw [hused, Bool.or_true]) (by omega)
        have kT := cutTable_con x c (firstG x + i) hx hok hc4 (by omega)
        have kN := mapNodes_con ev c (by omega) (by omega) (fun y hy => by rw [hel]; exact hcr y hy)
        rw [hme] at kN
        have htv := tvL_bits (c := c) (show firstG x + i < grN x by omega)
        have hto := (tbL_ok (c := c) (show firstG x + i < grN x by omega) hc4).1
        have kX := iTableNot_con (tvL x c (firstG x + i)) c.length htv tvL_len hto
        have w5 : IntKind.i64.wrap (((firstG x + i : Nat) : Int) - (1 + x.1 + x.2.1.length)) = (i : Int) := by rw [wrap_id (by omega) (by omega)]; omega
        rw [hneg] at hlx
        have htn : packL ((tvL x c (firstG x + i)).map fun b => 1 - b) = tnL x c (firstG x + i) := rfl
        have htb : packL (tvL x c (firstG x + i)) = tbL x c (firstG x + i) := rfl
        rw [htn, htb] at kX
        have hfk : firstG x ≤ firstG x + i := by omega
        generalize tnL x c (firstG x + i) = tn at *
        generalize tbL x c (firstG x + i) = tb at *
        generalize c.map (plN (firstG x) (posL x cs)) = mc at *
        clear hme htv hto htn htb
        generalize hv : firstG x + i = v at *
        have hnv : ¬ v < firstG x := by omega
        have hgv : ¬ grN x ≤ v := by omega
        by_cases hn5 : ltN x cs v = []
        · rw [hn5] at hlx hset w3 hll ⊢
          simp only [List.length_nil, Nat.zero_add, Int.natCast_zero, Int.add_zero, Int.natCast_one] at hset w3 hll
          simp [hnl, hd, hat, luC, luS, hz, hset, w3, hk0]
          refine call_step (kA) ?_
          simp [hnv, hgv, hfk, hlt5]
          refine call_step (firstAnd_con x ⟨n1, n2⟩ n3) ?_
          simp [w5, hc1, hLc, enRow]
          refine drawD_of 13 (by kernel_rfl) ?_
          simp
          refine call_step (kN) ?_
          simp
          refine call_step (kT) ?_
          simp
          refine call_step (kX) ?_
          simp
          first | refine app_lit (q := 1) vt_el_78 (by exact rfl) (by simp) (by exact rfl) (by exact rfl) (by simp) (by simp) (by first | (simp; done) | (simp; omega)) ?_ | refine app_row vt_el_78 (by exact rfl) (by simp) (by exact rfl) (by simp) (by first | (simp; done) | (simp; omega)) ?_
          simp [w2]
          exact round_of hI hS hμ (v + 1) (by omega) (by omega) ⟨[0, 1, 2, 3, 4, 5, 6, 7, 8, 11], by simp [hlx, hll, luC, luS, enLut, e1, e2, eInt]⟩
        · generalize ltN x cs v = L at *
          simp [hnl, hd, hat, luC, luS, hn5, hz, hset, w3, hk0]
          refine call_step (kA) ?_
          simp [hnv, hgv, hfk, hlt5]
          refine call_step (firstAnd_con x ⟨n1, n2⟩ n3) ?_
          simp [w5, hc1, hLc, enRow]
          refine drawD_of 13 (by kernel_rfl) ?_
          simp
          refine call_step (kN) ?_
          simp
          refine call_step (kT) ?_
          simp
          refine call_step (kX) ?_
          simp
          first | refine app_lit (q := 1) vt_el_78 (by exact rfl) (by simp) (by exact rfl) (by exact rfl) (by simp) (by simp) (by first | (simp; done) | (simp; omega)) ?_ | refine app_row vt_el_78 (by exact rfl) (by simp) (by exact rfl) (by simp) (by first | (simp; done) | (simp; omega)) ?_
          simp [w2]
          exact round_of hI hS hμ (v + 1) (by omega) (by omega) ⟨[0, 1, 2, 3, 4, 5, 6, 7, 8, 12], by simp [hlx, hll, luC, luS, enLut, e1, e2, eInt]⟩
      --]dev
    obtain rfl : k = grN x := by omega
    clear hI hS hμ
    have hngl : (ngP x cs (grN x)).length = grN x := ngP_len _
    have hlo : lutsOf x cs = (x.1, x.2.1.map (sqP x cs), ltN x cs (grN x), x.2.2.2.map (rtP x cs)) := rfl
    have hsP : ∀ s ∈ x.2.1, sqP x cs s = (s.1, s.2.1, s.2.2.map (rtV ev (ngP x cs (grN x)))) := fun s hs => by
      unfold sqP
      rw [List.map_congr_left fun y hy => (hrv y (hrs s y hs hy)).symm]
    have hoP : x.2.2.2.map (rtP x cs) = x.2.2.2.map (rtV ev (ngP x cs (grN x))) := List.map_congr_left fun y hy => (hrv y (hro y hy)).symm
    have hcl : ∀ ls : List Int, (∀ y ∈ ls, y ∈ rs) → ∀ y ∈ ls, 0 ≤ y ∧ y / 2 < (ev.length : Int) ∧ y / 2 < ((ngP x cs (grN x)).length : Int) := fun ls h y hy => by
      have := hri y (h y hy)
      omega
    rw [hlo]
    generalize ngP x cs (grN x) = NG at *
    generalize hLL : ltN x cs (grN x) = L at *
    by_cases hn6 : L = []
    all_goals
      simp [luC, luS, hn6, hnl]
      refine aw_loopN [false, false, true, false, true, false, false, false, false, false, false, false, false, false, false, true, false, false, false, false, false, false, false, false, false, true, false, false, false, false, false, false, false, false, false, false, false, false, false, false, false, false, false, false, false, false, false, false, false, false, false, false, false, false, false, false, false, false, false, false, false, false, false, false, false, false, false, false, false, false, false, false, false, false, false, false, false, false, false, false, false, false, false, false, false, false, false, false, false, false, false, false, false, false, false, false, false, false, false, false, false, false, false, false, false, false, false, false, false, false, false, false, false, false, false, false, false, false, false, false, false, false, false, false, false, false, false, false, false, false, false, false, false, false, false, false, false, false, false, false, false, false, false, false, false, false, false, false, false, false, false, false, false, false, false, false, false, false, false, false, false, false, false, false, false, false, false, false, false, false, false, false, false, false, false, false, false, false, false, false, false, false, false, false, false, false, false, false, false, false, false, false, false, false, false, false, false, false, false, false, false, false, false, false, false, false, false, false, false, false, true, true, true, false, false, false, false, false, false, false, false, false, false, false, false, false, false, false, false, false, false, false, false, false, false, false, false] (fun q : Nat => q ≤ x.2.1.length) (fun q : Nat => [(15, .ptr 2 0), (25, .fn 144 [.ptr 3 0, .ptr 4 0]), (212, .d (.int .i64 q))]) (fun q : Nat => fun sl => [bxG x, zNet, .var 80 [.d (.int .i64 x.1), sqC q (if L = [] then 5 else 6), luC L 5, .nil 3], .var 26 [.d (eSl 3 (e1 eInt) ev)], .var 26 [.d (eSl 3 (e1 eInt) NG)]] ++ luS L ++ sqS q ((x.2.1.take q).map (sqP x cs))) (fun q : Nat => x.2.1.length - q) 0 ?_ ?_ ?_
      · simp
      · refine ⟨(if L = [] then [0, 1, 4, 6, 8] else [0, 1, 4, 6, 8, 9]), ?_⟩
        simp [bxG, zNet, bR, iR, luC, luS, sqC, sqS, hn6]
      rintro I S μ hI hS hμ q hq
      by_cases hlt6 : q < x.2.1.length
      · skip
        --[dev
        have hx1 : x.2.1[q]? = some x.2.1[q] := List.getElem?_eq_getElem hlt6
        have hd := decide_eq_true hlt6
        have w2 : IntKind.i64.wrap ((q : Int) + 1) = (q : Int) + 1 := wrap_id (by omega) (by omega)
        have hsm := List.getElem_mem hlt6
        have hs1 := hsP _ hsm
        have hs2 := seqOk_len (hso _ hsm)
        have hs3 := rootClo_conT ev NG _ (seq_ne (hso _ hsm)) (by omega) (hcl _ fun y hy => hrs _ y hsm hy) (by omega)
        have hnx : (x.2.1.take (q + 1)).map (sqP x cs) = (x.2.1.take q).map (sqP x cs) ++ [sqP x cs x.2.1[q]] := by rw [take_snoc' hx1, List.map_append]; rfl
        have hll : ((x.2.1.take q).map (sqP x cs)).length = q := by simp; omega
        generalize (x.2.1.take q).map (sqP x cs) = ms at *
        rw [hs1] at hnx
        generalize x.2.1[q] = s at *
        have hLs : (enSeq s).length = 3 := rfl
        generalize s.2.2.map (rtV ev NG) = ml at *
        by_cases hq0 : q = 0
        · have hqb : ms = [] := List.eq_nil_of_length_eq_zero (by omega)
          rw [hqb] at hnx
          subst hq0
          simp [hd, hx1, hLs, enSeq, luC, luS, sqC, sqS, hn6]
          refine drawE_of [(9, [0, 1, 2, 3, 4, 5]), (10, [0, 1]), (11, [0, 1]), (12, []), (13, []), (14, [])] (by kernel_rfl) ?_
          simp
          refine callC_step (hs3) [] [3, 4] (by simp) (by simp [nearTo]) ?_
          simp
          first | refine app_lit (q := 1) vt_el_24 (by exact rfl) (by simp) (by exact rfl) (by exact rfl) (by simp) (by simp) (by first | (simp; done) | (simp; omega)) ?_ | refine app_row vt_el_24 (by exact rfl) (by simp) (by exact rfl) (by simp) (by first | (simp; done) | (simp; omega)) ?_
          simp [w2]
          refine round_of hI hS hμ 1 (by omega) (by omega) ⟨(if L = [] then [0, 1, 2, 3, 4, 8] else [0, 1, 2, 3, 4, 5, 9]), ?_⟩
          rw [show (0 : Nat) + 1 = 1 from rfl] at hnx
          simp [hnx, luC, luS, sqC, sqS, hn6, enSeq, e1, e2, e3, eInt, show IntKind.i64.wrap 1 = 1 from rfl]
        · simp [hd, hx1, hLs, enSeq, luC, luS, sqC, sqS, hn6, hq0]
          refine drawE_of [(9, [0, 1, 2, 3, 4, 5]), (10, [0, 1]), (11, [0, 1]), (12, []), (13, []), (14, [])] (by kernel_rfl) ?_
          simp
          refine callC_step (hs3) [] [3, 4] (by simp) (by simp [nearTo]) ?_
          simp
          first | refine app_lit (q := 1) vt_el_24 (by exact rfl) (by simp) (by exact rfl) (by exact rfl) (by simp) (by simp) (by first | (simp; done) | (simp; omega)) ?_ | refine app_row vt_el_24 (by exact rfl) (by simp) (by exact rfl) (by simp) (by first | (simp; done) | (simp; omega)) ?_
          simp [w2]
          refine round_of hI hS hμ (q + 1) (by omega) (by omega) ⟨(if L = [] then [0, 1, 2, 3, 4, 9] else [0, 1, 2, 3, 4, 5, 10]), ?_⟩
          simp [hnx, luC, luS, sqC, sqS, hn6, enSeq, e1, e2, e3, eInt]
        --]dev
      obtain rfl : q = x.2.1.length := by omega
      rw [List.take_length]
      have hml : (x.2.1.map (sqP x cs)).length = x.2.1.length := by simp
      rw [hoP]
      have hs4 := fun h => rootClo_conT ev NG x.2.2.2 h (by omega) (hcl _ fun y hy => hro y hy) (by omega)
      have hs5 := rootClo_none ev NG
      generalize x.2.1.map (sqP x cs) = ms at *
      by_cases hq0 : x.2.1.length = 0
      · have hms : ms = [] := List.eq_nil_of_length_eq_zero (by omega)
        subst hms
        by_cases ho : x.2.2.2 = []
        · rw [ho] at hs4 ⊢
          simp [luC, luS, sqC, sqS, hn6, hq0, ho, AOp_callv, callV_fn, enNet]
          refine callT_step (hs5) [] [3, 4] (by simp) ?_
          simp [hn6, enNet, e4, eInt]
        · have hs6 := hs4 ho
          simp [luC, luS, sqC, sqS, hn6, hq0, AOp_callv, callV_fn, enNet]
          refine callT_step (hs6) [] [3, 4] (by simp) ?_
          simp [hn6, enNet, e4, eInt]
      · by_cases ho : x.2.2.2 = []
        · rw [ho] at hs4 ⊢
          simp [luC, luS, sqC, sqS, hn6, hq0, ho, AOp_callv, callV_fn, enNet]
          refine callT_step (hs5) [] [3, 4] (by simp) ?_
          simp [hn6, enNet, e4, eInt]
        · have hs6 := hs4 ho
          simp [luC, luS, sqC, sqS, hn6, hq0, AOp_callv, callV_fn, enNet]
          refine callT_step (hs6) [] [3, 4] (by simp) ?_
          simp [hn6, enNet, e4, eInt]
end Go.Proofs.Ytklhofpjjbfckaa
