/-
  The law of use: each call returns true, at every input.
  Conditions: none.
-/
import Derived.Test.YtklhofpjjbfckaaPe
import Derived.Test.YtklhofpjjbfckaaMb
import Derived.Test.YtklhofpjjbfckaaLd
import Derived.Test.YtklhofpjjbfckaaKfFnUsed
namespace Go.Proofs.Ytklhofpjjbfckaa
open Go.RowKit Go.ChangeShapes Go.WideShapes Go.ChangeAt
set_option linter.unusedVariables false
set_option linter.unusedSimpArgs false
attribute [local simp ↓] condG_true condG_false condB_true condB_false
attribute [local simp] AWp_skip AWp_region_t AWp_region_d AWp_region_f still_mk AWp_seq AWp_cond condV_bool condB AWp_block AWp_exit AWp_ret
attribute [local simp] AOps_nil AOp_move AOp_assign AOp_pick AOp_binOp AOp_unOp AOp_convert AOp_len AOp_max AOp_min AOp_indexAddr AOp_load
attribute [local simp] AOp_fieldAddr AOp_field AOp_extract AOp_nilCheck AOp_build AOp_alloc AOp_box AOp_call AOp_store AOp_append AOp_buildSlice nextB_some
attribute [local simp] nextB_none adoptO adoptC AOp_makeSlice AOp_slice AOp_makeFunc AOp_guard guardD_some guardG_bool guardG_undef nextO_some nextS_some
attribute [local simp] nextZ_some nextL_some nextM_some nextT_some sliceO sliceL sliceT partO partV boundV funcO pickO
attribute [local simp] convO lenO maxO minO idxO extO nilO buildO litO litC makeO chunks
attribute [local simp] fillV placeOf thenA inBlockA St.get St.put St.eval ofCell evalT abin_add abin_sub abin_mul
attribute [local simp] abin_quo abin_rem abin_and abin_or abin_xor abin_andNot abin_shl abin_shr abin_shlu abin_eql abin_eqp abin_neq
attribute [local simp] abin_lss abin_leq abin_gtr abin_geq abin_eqlb abin_neqb aun pickV lenV intOf? indexV takeD
attribute [local simp] takeV loadV fieldAddrV fieldV ofX presD presDs pres presAll cellsV V.cell storeV
attribute [local simp] freezeC putAt kill takeC plains plainV scalarV nat_neg keepT sets eSl e1
attribute [local simp] e2 e3 e4 eInt eBool afterCall inst inst1 inst1s instD instDs RetA
attribute [local simp] resVs resV gives give1 give1s Le isPin leSlots leS leTmps leV le0
attribute [local simp] le0s ren ren0 renS ren0s frame enterT afterT_some afterC_some lives Slot.live arrsOk
attribute [local simp] viewV view0 renT rens renSs setAll List.range'_succ RetT RetW joinV leT AOpsE_nil
attribute [local simp] AOpsE_cons AOpsT_nil AOpsT_cons isCallT isFnO callOf callVC_fn condC_true condC_false beginT_mk thenT_mk pickE
attribute [local simp] pickT isT loose namesOf namesV names1 names0 stableN sameAt Op.operands Call.operands
abbrev ibytes (bs : List Int) : X := .d (eSl 5 (e1 eByte) bs)
theorem big_con (bs : List Int) (h : bs.length ≤ 9223372036854775807) : ConC Try.prog 15 [ibytes bs] (.d (.bool (decide (1048576 < bs.length)))) := by
  refine con_of (by kernel_rfl) Try.func15 rfl rfl rfl ?_
  simp
  omega
theorem opd_byte : OpD Try.prog eByte 5 := fun h _ => by
  obtain ⟨n, rfl, _, hw⟩ := DataW.trod_int Try.underlying5 h
  exact ⟨n, _, rfl, .int _ _, .int _ _ hw⟩
theorem bytes_len {w : World} {G : Nat → Prop} {bs : List Int} {v : Value} (h : Rd w G (eSl 5 (e1 eByte) bs) v) : bs.length ≤ 9223372036854775807 := by
  obtain ⟨_, _, _, h⟩ := Rd.len h
  simpa using h
theorem op_bytes : OpD Try.prog (eSl 5 (e1 eByte)) 22 := opd_sl Try.underlying22 (by simp) (fun x => by simp [e1]) (ope_1 opd_byte)
theorem btoi_con (b : Bool) : ConC Try.prog 40 [.d (.bool b)] (.d (.int .i64 (if b = true then 1 else 0))) := by
  refine con_of (by kernel_rfl) Try.func40 rfl rfl rfl ?_
  cases b
  · simp
  · simp
theorem sRoots2_con (x : GrD) (hx : fitGr 1048576 x) (hg : okGr x) (hok : netOkB x = true) : ConC Try.prog 39 [igr x] (.d (eSl 3 (e1 eInt) (grRoots x))) := by
  have kO := sNetOk_con x hx hg
  rw [hok] at kO
  have kR := sRoots_con x hx (netOk_of hok).1.2.2.1
  generalize grRoots x = rs at *
  refine con_of (by kernel_rfl) Try.func39 rfl rfl rfl ?_
  simp [enGr]
  refine call_step (kO) ?_
  simp
  refine call_step (kR) ?_
  simp
theorem mapOk_rows {x : GrD} {cs : List RowD} (hm : mapOkB x cs = true) : fitRw 1048576 cs := by
  obtain ⟨hok, hl, hcs⟩ := mapOk_of hm
  have h300 := (netOk_of hok).1.2.2.2.1
  refine ⟨by omega, fun r hr => ?_⟩
  obtain ⟨i, hi, rfl⟩ := List.getElem_of_mem hr
  have := (hcs i _ (List.getElem?_eq_getElem hi)).2.1
  omega
set_option maxRecDepth 100000 in
set_option maxHeartbeats 10000000 in
theorem law_used (bs : List Int) (hb : bs.length ≤ 9223372036854775807) : ConC Try.prog 7 [ibytes bs] (.d (.bool true)) := by
  have k0 := big_con bs hb
  refine con_ofD (by kernel_rfl) Try.func7 rfl rfl rfl ?_
  simp
  by_cases hbig : 1048576 < bs.length
  · rw [decide_eq_true hbig] at k0
    refine call_step (k0) ?_
    simp
  rw [decide_eq_false hbig] at k0
  refine call_step (k0) ?_
  simp
  have kM := DrawMapping_conT bs (by omega)
  have hm := drM_ok bs
  generalize drN bs = x at *
  generalize drM bs = cs at *
  obtain ⟨hok, hl, hcs⟩ := mapOk_of hm
  obtain ⟨⟨n1, n2, n3, n4, n5, n6⟩, -, -, -⟩ := netOk_of hok
  obtain ⟨hF, hgl, hNi, hno⟩ := ok_sizes hok
  have hN := grN_eq x
  have hx := fitGr_netOk hok
  have hg := okGr_netOk hok
  have hc := mapOk_rows hm
  have kU := iMapUsed_con x cs hx hc
  have kC := iMapCount_con x cs hx hc
  have kE := iMapEdges_con x cs hx hc
  have kN := sNodeCount_con x
  rw [hno] at kN
  have kR := sRoots2_con x hx hg hok
  have hrl := rootsN_len hok
  have hri := rootsN_in hok
  unfold ifMap at kU kC kE
  rw [hm, if_pos rfl] at kU kC kE
  have hc1' : (costL x cs).1 = cnK (usedL x cs) x.2.2.1.length := rfl
  have hc2' : (costL x cs).2.1 = edK (usedL x cs) cs x.2.2.1.length := rfl
  rw [hc1'] at kC
  rw [hc2'] at kE
  have hul := usedL_len (x := x) (cs := cs)
  have hus := fun i j hi hj => usedL_at hm (i := i) (j := j) hi hj
  have hu0 : usM x cs 0 = rtM (List.replicate (grN x) false) (grRoots x) (grRoots x).length := rfl
  have hlr : ∀ k, (rtM (List.replicate (grN x) false) (grRoots x) k).length = grN x := fun k => by rw [rtM_len]; simp
  have hml := fun j => usM_len (x := x) (cs := cs) j
  have hmx := fun j => (show usM x cs (j + 1) = if getB (usM x cs j) (grN x - 1 - j) = true then ctM (usM x cs j) ((cs[cs.length - 1 - j]?).getD []) ((cs[cs.length - 1 - j]?).getD []).length else usM x cs j from rfl)
  have hcK := fun p => (show cnK (usedL x cs) (p + 1) = if getB (usedL x cs) p = true then cnK (usedL x cs) p + 1 else cnK (usedL x cs) p from rfl)
  have heK := fun p => (show edK (usedL x cs) cs (p + 1) = if getB (usedL x cs) p = true then edK (usedL x cs) cs p + ((cs[p]?).getD []).length else edK (usedL x cs) cs p from rfl)
  have w0 : IntKind.i64.wrap ((grN x : Int) - x.2.2.1.length) = (firstG x : Int) := by rw [wrap_id (by omega) (by omega)]; omega
  have w1 : IntKind.i64.wrap ((x.2.2.1.length : Int) - 1) = (x.2.2.1.length : Int) - 1 := wrap_id (by omega) (by omega)
  generalize usedL x cs = u at *
  generalize grRoots x = rs at *
  have hr0 : (rtM (List.replicate (grN x) false) rs 0).map (e1 eBool) = List.replicate (grN x) [D.bool false] := by rw [rep_bools]; rfl
  generalize List.replicate (grN x) false = s0 at *
  refine callT_step (kM) [] [] (by simp) ?_
  simp
  refine call_step (kU) ?_
  simp [enGr, hul]
  have hcle := cnK_le (u := u)
  have hele := edK_le (u := u) (cs := cs) (m := 4) (fun k c hc => (hcs k c hc).2.1)
  refine drawD_of 7 (by kernel_rfl) ?_
  simp
  refine call_step (kN) ?_
  simp [w0, hul]
  refine call_step (kN) ?_
  simp [show (grN x : Int) ≤ 1099511627776 by omega]
  refine call_step (kR) ?_
  simp
  refine aw_loopN [false, false, false, true, true, true, true, true, true, true, false, false, false, false, false, false, false, false, false, false, false, false, false, false, false, false, false, false, false, false, false, false, false, false, false, false, false, false, false, false, false, false, false, false, false, false, false, false, false, false, false, false, false, false, false, false, false, false, false, false, false, false, false, false, false, false, false, false, false, false, false, false, false, false, false, false, false, false, false, false, false, false, false, false, false, false, false, false, false, false, false, false, false, false, false, false, false, false, false, false, false, false, false, false, false, false, false, false, false, false, false, false, false, false, false, false, false, false] (fun k : Nat => k ≤ rs.length) (fun k : Nat => [(8, .d (eSl 3 (e1 eInt) rs)), (9, .d (.int .i64 k))]) (fun k : Nat => fun sl => [dgrV x, .arr 4 true (u.map (e1 eBool)), .arr 4 true ((rtM s0 rs k).map (e1 eBool))]) (fun k : Nat => rs.length - k) 0 ?_ ?_ ?_
  · simp
  · exact ⟨[0, 1, 2], by simp [dgrV, hr0]⟩
  rintro I S μ hI hS hμ k hk
  have hlk := hlr k
  by_cases hlt : k < rs.length
  · have hx1 : rs[k]? = some rs[k] := List.getElem?_eq_getElem hlt
    have w2 : IntKind.i64.wrap ((k : Int) + 1) = (k : Int) + 1 := wrap_id (by omega) (by omega)
    have hd : decide (k < rs.length) = true := decide_eq_true hlt
    have hyr := hri _ (List.getElem_mem hlt)
    have hnx : rtM s0 rs (k + 1) = (rtM s0 rs k).set (rs[k] / 2).toNat true := by simp [rtM, atI_get hx1]
    generalize rs[k] = y at *
    generalize rtM s0 rs k = s at *
    obtain ⟨q, hq⟩ : ∃ q : Nat, (q : Int) = y / 2 := ⟨(y / 2).toNat, by omega⟩
    rw [← hq, Int.toNat_natCast] at hnx
    have q1 : IntKind.i64.wrap (y.tdiv 2) = (q : Int) := by rw [Int.tdiv_eq_ediv_of_nonneg hyr.1, ← hq]; exact wrap_id (by omega) (by omega)
    have hat := getB_at (s := s) (v := q) (by omega)
    have hset := map_setB (s := s) (v := q) (b := true)
    generalize s.set q true = sq at *
    simp [hd, hx1, q1, hat, hset, w2]
    exact round_of hI hS hμ (k + 1) (by omega) (by omega) ⟨[0, 1, 2], by simp [hnx]⟩
  obtain rfl : k = rs.length := by omega
  rw [← hu0]
  clear hI hS hμ
  simp [hlt, decide_eq_false hlt, w1]
  refine aw_loopN [false, false, false, true, true, true, true, true, false, false, true, true, true, false, false, false, false, false, false, false, false, false, false, false, false, false, false, false, false, false, false, false, false, false, false, false, false, false, false, false, false, false, false, false, false, false, false, false, false, false, false, false, false, false, false, false, false, false, false, false, false, false, false, false, false, false, false, false, false, false, false, false, false, false, false, false, false, false, false, false, false, false, false, false, false, false, false, false, false, false, false, false, false, false, false, false, false, false, false, false, false, false, false, false, false, false, false, false, false, false, false, false, false, false, false, false, false, false] (fun j : Nat => j ≤ x.2.2.1.length) (fun j : Nat => [(10, .d (.int .i64 ((cnK u x.2.2.1.length : Int) - cnK u (x.2.2.1.length - j)))), (11, .d (.int .i64 ((edK u cs x.2.2.1.length : Int) - edK u cs (x.2.2.1.length - j)))), (12, .d (.int .i64 ((x.2.2.1.length : Int) - 1 - j)))]) (fun j : Nat => fun sl => [dgrV x, .arr 4 true (u.map (e1 eBool)), .arr 4 true ((usM x cs j).map (e1 eBool))]) (fun j : Nat => x.2.2.1.length - j) 0 ?_ ?_ ?_
  · simp
  · exact ⟨[0, 1, 2], by simp [dgrV]⟩
  rintro I S μ hI hS hμ j hj
  have hlj := hml j
  obtain ⟨i, hi⟩ : ∃ i : Int, i = (x.2.2.1.length : Int) - 1 - j := ⟨_, rfl⟩
  rw [← hi]
  by_cases hlt2 : j < x.2.2.1.length
  · obtain ⟨p, hp⟩ : ∃ p, p = x.2.2.1.length - 1 - j := ⟨_, rfl⟩
    obtain ⟨v, hv⟩ : ∃ v, v = firstG x + p := ⟨_, rfl⟩
    obtain ⟨c, hc1⟩ : ∃ c, cs[p]? = some c := ⟨_, List.getElem?_eq_getElem (by omega)⟩
    have hup := hus p j (by omega) (by omega)
    rw [← hv] at hup
    have hsw : usM x cs (j + 1) = if getB u p = true then ctM (usM x cs j) c c.length else usM x cs j := by
      rw [hmx j, show grN x - 1 - j = v by omega, show cs.length - 1 - j = p by omega, hc1, hup]
      rfl
    have hc5 := hcK p
    have he5 := heK p
    rw [hc1] at he5
    rw [show p + 1 = x.2.2.1.length - j by omega] at hc5 he5
    have hcz : x.2.2.1.length - (j + 1) = p := by omega
    obtain ⟨-, hc4, hcr⟩ := hcs p c hc1
    have hcb1 := hcle (x.2.2.1.length - j)
    have hcb2 := hcle x.2.2.1.length
    have hcb3 := hcle p
    have heb1 := hele (x.2.2.1.length - j)
    have heb2 := hele x.2.2.1.length
    have heb3 := hele p
    have hatu := getB_at (s := u) (v := p) (by omega)
    have hats := getB_at (s := usM x cs j) (v := v) (by omega)
    rw [← hup] at hats
    have w3 : IntKind.i64.wrap ((firstG x : Int) + i) = (v : Int) := by rw [wrap_id (by omega) (by omega)]; omega
    have w4 : IntKind.i64.wrap (i - 1) = (x.2.2.1.length : Int) - 1 - ((j : Int) + 1) := by rw [wrap_id (by omega) (by omega)]; omega
    have ht : i.toNat = p := by omega
    have hni : ¬ i < 0 := by omega
    have hL : (enRow c).length = 1 := rfl
    have kb := btoi_con (getB u p)
    simp only [Option.getD_some] at he5
    cases hb : getB u p with
    | false =>
      rw [hb] at hatu hats kb
      rw [hb, if_neg (by simp)] at hsw hc5 he5
      rw [if_neg (by simp)] at kb
      have w5 : IntKind.i64.wrap ((cnK u x.2.2.1.length : Int) - cnK u (x.2.2.1.length - j)) = (cnK u x.2.2.1.length : Int) - cnK u (x.2.2.1.length - j) := wrap_id (by omega) (by omega)
      rw [← hsw]
      rw [← hsw] at hats
      simp [show (0 : Int) ≤ i by omega]
      refine drawD_of 11 (by kernel_rfl) ?_
      simp [ht, hatu, hni, w3, hats]
      refine aw_loopN [false, false, false, true, true, true, true, true, false, false, true, true, true, true, false, false, false, false, false, false, false, false, false, false, false, false, false, false, false, false, false, false, false, false, false, false, false, false, false, false, false, false, false, false, false, false, false, false, false, false, false, false, false, false, false, false, false, false, false, false, false, false, false, false, false, false, false, false, false, false, false, false, false, false, false, false, false, false, false, false, false, false, false, false, false, false, false, false, false, false, false, false, false, false, false, false, false, false, false, false, false, false, false, false, false, false, false, false, false, false, false, false, false, false, false, false, false, false] (fun k : Nat => k = 0) (fun k : Nat => [(13, .d (.int .i64 k))]) (fun k : Nat => fun sl => sl) (fun k : Nat => 0) 0 ?_ ?_ ?_
      · rfl
      · exact ⟨[0, 1, 2], by simp [dgrV]⟩
      rintro I2 S2 μ2 hI2 hS2 hμ2 k rfl
      by_cases hc0 : c.length = 0
      · simp [ht, hc1, hni, hL, enRow, hc0, hatu]
        refine call_step (kb) ?_
        simp [w5, w4]
        refine round_of hI hS hμ (j + 1) (by omega) (by omega) ⟨[0, 1, 2], ?_⟩
        rw [hcz, ← hc5, ← he5]
        simp
      · simp [ht, hc1, hni, hL, enRow, show 0 < c.length by omega, hatu]
        refine call_step (kb) ?_
        simp [w5, w4]
        refine round_of hI hS hμ (j + 1) (by omega) (by omega) ⟨[0, 1, 2], ?_⟩
        rw [hcz, ← hc5, ← he5]
        simp
    | true =>
      rw [hb] at hatu hats kb
      rw [hb, if_pos rfl] at hsw hc5 he5
      rw [if_pos rfl] at kb
      generalize usM x cs j = s at *
      simp [show (0 : Int) ≤ i by omega]
      refine drawD_of 11 (by kernel_rfl) ?_
      simp [ht, hatu, hni, w3, hats]
      refine aw_loopN [false, false, false, true, true, true, true, true, false, false, true, true, true, true, false, false, false, false, false, false, false, false, false, false, false, false, false, false, false, false, false, false, false, false, false, false, false, false, false, false, false, false, false, false, false, false, false, false, false, false, false, false, false, false, false, false, false, false, false, false, false, false, false, false, false, false, false, false, false, false, false, false, false, false, false, false, false, false, false, false, false, false, false, false, false, false, false, false, false, false, false, false, false, false, false, false, false, false, false, false, false, false, false, false, false, false, false, false, false, false, false, false, false, false, false, false, false, false] (fun k : Nat => k ≤ c.length) (fun k : Nat => [(11, .d (.int .i64 ((edK u cs x.2.2.1.length : Int) - edK u cs (x.2.2.1.length - j) + k))), (13, .d (.int .i64 k))]) (fun k : Nat => fun sl => [dgrV x, .arr 4 true (u.map (e1 eBool)), .arr 4 true ((ctM s c k).map (e1 eBool))]) (fun k : Nat => c.length - k) 0 ?_ ?_ ?_
      · simp
      · exact ⟨[0, 1, 2], by simp [dgrV, ctM]⟩
      rintro I2 S2 μ2 hI2 hS2 hμ2 k hk
      have hlk := ctM_len (s := s) (c := c) k
      by_cases hlt3 : k < c.length
      · have hy1 : c[k]? = some c[k] := List.getElem?_eq_getElem hlt3
        have hd2 := decide_eq_true hlt3
        have w6 : IntKind.i64.wrap ((k : Int) + 1) = (k : Int) + 1 := wrap_id (by omega) (by omega)
        have w7 : IntKind.i64.wrap ((edK u cs x.2.2.1.length : Int) - edK u cs (x.2.2.1.length - j) + k + 1) = (edK u cs x.2.2.1.length : Int) - edK u cs (x.2.2.1.length - j) + ((k : Int) + 1) := by rw [wrap_id (by omega) (by omega)]; omega
        have hyr := hcr _ (List.getElem_mem hlt3)
        have hnx : ctM s c (k + 1) = (ctM s c k).set (c[k]).toNat true := by simp [ctM, atI_get hy1]
        generalize c[k] = y at *
        generalize ctM s c k = s2 at *
        obtain ⟨q, rfl⟩ : ∃ q : Nat, y = (q : Int) := ⟨y.toNat, by omega⟩
        rw [Int.toNat_natCast] at hnx
        have hatq := getB_at (s := s2) (v := q) (by omega)
        have hset := map_setB (s := s2) (v := q) (b := true)
        generalize s2.set q true = sq at *
        simp [ht, hc1, hni, hL, enRow, hd2, hatu, hy1, hatq, hset, w6, w7]
        exact round_of hI2 hS2 hμ2 (k + 1) (by omega) (by omega) ⟨[0, 1, 2], by simp [hnx]⟩
      · obtain rfl : k = c.length := by omega
        rw [← hsw]
        have w5 : IntKind.i64.wrap ((cnK u x.2.2.1.length : Int) - cnK u (x.2.2.1.length - j) + 1) = (cnK u x.2.2.1.length : Int) - cnK u p := by rw [wrap_id (by omega) (by omega)]; omega
        have e8' : (edK u cs x.2.2.1.length : Int) - edK u cs (x.2.2.1.length - j) + c.length = (edK u cs x.2.2.1.length : Int) - edK u cs p := by omega
        simp [ht, hc1, hni, hL, enRow, hlt3, decide_eq_false hlt3, hatu]
        refine call_step (kb) ?_
        simp [w5, w4]
        refine round_of hI hS hμ (j + 1) (by omega) (by omega) ⟨[0, 1, 2], ?_⟩
        rw [hcz]
        simp [e8']
  obtain rfl : j = x.2.2.1.length := by omega
  have hc00 : cnK u 0 = 0 := rfl
  have he00 : edK u cs 0 = 0 := rfl
  rw [Nat.sub_self, hc00, he00]
  simp [show ¬ (0 : Int) ≤ i by omega, show i < 0 by omega]
  refine call_step (kC) ?_
  simp [enGr]
  refine call_step (kE) ?_
  simp [enGr]
set_option maxRecDepth 100000 in
theorem FnUsed_lifted (os : Os) (started : os.Started) (H : Type) (enc : TypeId × Value → H) :
    ReturnsInHanded {} Try.checked os 7 .any (Rows.fnUsedSpec.pre6 enc Try.prog Try.f7 Rows.fnUsedRow.domain false) (Rows.fnUsedSpec.post enc Try.prog Try.f7 false true false false) := by
  refine law_lift (C := Try.checked) Try.own started (by kernel_rfl) Try.func7
    (ChangeSpec.witness6 (enc := enc) (C := Try.checked) false ⟨#[], #[.slice none 0 0], []⟩ 8 (by kernel_rfl) (by kernel_rfl) (by kernel_rfl) (by kernel_rfl))
    Try.laidOut (of_decide_eq_true (by kernel_rfl)) rfl rfl Try.underlying4 ?_
  intro W base args ds ps hval0 hA0 hlt
  have hval : ∀ (j : Nat) t v, Try.f7.params[j]? = some t → args[j]? = some v → Value.okWide Try.prog W .any base t v := hval0
  have hA : DataW.TrodAll enc Try.prog W 0 (fun _ => true) true Try.f7.params.toList args.toList ds ps := hA0
  clear hval0 hA0
  rw [Try.params7] at hA hval
  obtain ⟨v0, vs0, d0, ds0, p0, q0, hargs, rfl, rfl, h0, r0⟩ := trodAll_cons hA
  obtain ⟨rfl, rfl, rfl⟩ := trodAll_nil r0
  obtain rfl : args = #[v0] := by cases args; simp_all
  obtain ⟨bs, hb⟩ := openD_sl Try.underlying22 op_bytes (hval 0 _ v0 rfl rfl) h0 (fun x hx => hlt x (by simp [hx]))
  exact ⟨rfl, law_con (law_used bs (bytes_len hb)) rfl (args1 (.d hb))⟩

/-- THE STATEMENT, PROVED. -/
theorem FnUsed_holds : Rows.FnUsedSaid :=
  OpenClaim.holds_of_wide 7 Try.f7 rfl rfl rfl rfl rfl rfl rfl ⟨rfl, rfl, rfl, rfl, rfl⟩ rfl rfl rfl rfl rfl (by kernel_rfl) Try.func7 FnUsed_closed
    (of_decide_eq_true (by kernel_rfl)) (by unfold Func.isWrapper; first | (rw [if_pos (by decide +kernel)]; kernel_rfl) | (rw [if_neg (by decide +kernel)]; exact ⟨rfl, rfl⟩))
    (fun os started H enc _ => FnUsed_lifted os started H enc)
#print axioms FnUsed_holds
end Go.Proofs.Ytklhofpjjbfckaa
