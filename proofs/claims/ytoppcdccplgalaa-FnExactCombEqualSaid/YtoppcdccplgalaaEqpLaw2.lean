/-
  The law of CombEqual: each call returns true, at every input.
  Conditions: none.
-/
import Derived.Test.YtoppcdccplgalaaRo
import Derived.Test.YtoppcdccplgalaaRy
import Derived.Test.YtoppcdccplgalaaRf
import Derived.Test.YtoppcdccplgalaaRi
import Derived.Test.YtoppcdccplgalaaNp
import Derived.Test.YtoppcdccplgalaaNf
import Derived.Test.YtoppcdccplgalaaMq
import Derived.Test.YtoppcdccplgalaaMp
namespace Go.Proofs.Ytoppcdccplgalaa
open Go.RowKit Go.ChangeShapes Go.WideShapes
set_option linter.unusedVariables false
set_option linter.unusedSimpArgs false
attribute [local simp ↓] condG_true condG_false condB_true condB_false
attribute [local simp] AWp_skip AWp_region_t AWp_region_d AWp_region_f still_mk AWp_seq AWp_cond condV_bool condB AWp_block AWp_exit AWp_ret
attribute [local simp] AOps_nil AOp_move AOp_assign AOp_pick AOp_binOp AOp_unOp AOp_convert AOp_len AOp_max AOp_min AOp_indexAddr AOp_load
attribute [local simp] AOp_fieldAddr AOp_field AOp_extract AOp_nilCheck AOp_build AOp_alloc AOp_box AOp_call AOp_store AOp_append AOp_buildSlice nextB_some
attribute [local simp] nextB_none adoptO adoptC AOp_makeSlice AOp_slice AOp_makeFunc AOp_guard guardD_some guardG_bool guardG_undef nextO_some nextS_some
attribute [local simp] nextZ_some nextL_some nextM_some nextT_some sliceO sliceL sliceT partO partV boundV funcO pickO
attribute [local simp] convO lenO maxO minO idxO extO nilO buildO litO litC makeO chunks
attribute [local simp] fillV placeOf thenA inBlockA St.get St.put St.eval ofCell evalT abin_add abin_sub abin_mul
attribute [local simp] abin_quo abin_rem abin_and abin_or abin_xor abin_andNot abin_shl abin_shr abin_shlu abin_eql abin_eqp abin_neq
attribute [local simp] abin_lss abin_leq abin_gtr abin_geq abin_eqlb abin_neqb aun pickV lenV intOf? indexV takeD
attribute [local simp] takeV loadV fieldAddrV fieldV ofX presD presDs pres presAll cellsV V.cell storeV
attribute [local simp] freezeC putAt kill takeC plains plainV scalarV nat_neg keepT sets eSl e1
attribute [local simp] e2 e3 e4 eInt eBool afterCall inst inst1 inst1s instD instDs RetA
attribute [local simp] resVs resV gives give1 give1s Le isPin leSlots leS leTmps leV le0
attribute [local simp] le0s ren ren0 renS ren0s frame enterT afterT_some afterC_some lives Slot.live arrsOk
attribute [local simp] viewV view0 renT rens renSs setAll List.range'_succ RetT RetW joinV leT AOpsE_nil
attribute [local simp] AOpsE_cons AOpsT_nil AOpsT_cons isCallT callOf condC_true condC_false beginT_mk thenT_mk pickE pickT isT
attribute [local simp] loose namesOf namesV names1 names0 stableN sameAt Op.operands Call.operands
theorem litOk_var {n : Nat} {l : Int} (h : 0 ≤ l ∧ l < 2 * (n : Int)) (hn : n ≤ 400) : litOk n (litVarL l) = true ∧ litOk n (-(litVarL l)) = true := by
  have hv : 1 ≤ litVarL l ∧ litVarL l ≤ n ∨ -(n : Int) ≤ litVarL l ∧ litVarL l ≤ -1 := by
    unfold litVarL
    rw [if_pos (rng_iff.2 (by omega))]
    split <;> omega
  unfold litOk
  constructor
  · rw [rng_iff.2 (by omega : -(n : Int) ≤ litVarL l ∧ litVarL l ≤ n)]
    simp; omega
  · rw [rng_iff.2 (by omega : -(n : Int) ≤ -(litVarL l) ∧ -(litVarL l) ≤ n)]
    simp; omega
theorem litOk_node {n : Nat} {v : Nat} (h : v < n) : litOk n ((v : Int) + 1) = true ∧ litOk n (-((v : Int) + 1)) = true := by
  unfold litOk
  constructor
  · rw [rng_iff.2 (by omega : -(n : Int) ≤ (v : Int) + 1 ∧ (v : Int) + 1 ≤ n)]
    simp; omega
  · rw [rng_iff.2 (by omega : -(n : Int) ≤ -((v : Int) + 1) ∧ -((v : Int) + 1) ≤ n)]
    simp; omega
/-- The formula of a net is a formula. -/
theorem netCnf_ok {x : GrD} {lit : Int} (h : netCnfOk x lit = true) : cnfOkL (netCnfL x lit).1 (netCnfL x lit).2 = true := by
  unfold netCnfL
  rw [if_pos h]
  unfold netCnfOk at h
  simp only [Bool.and_eq_true] at h
  obtain ⟨hok, hl⟩ := h
  have hl := rng_iff.1 hl
  obtain ⟨⟨n1, n2, n3, n4, n5, n6⟩, -, -, o3⟩ := netOk_of hok
  obtain ⟨hF, hgl, hNi, hno⟩ := ok_sizes hok
  have hN := grN_eq x
  have hlen := netCnfC_len (lit := lit) hok
  have hrows := netCnfC_rows (x := x) (lit := lit)
  unfold cnfOkL
  simp only [Bool.and_eq_true, decide_eq_true_eq]
  refine ⟨⟨rng_iff.2 (by omega), by omega⟩, ?_⟩
  rw [List.all_eq_true]
  intro c hc
  have hc3 := hrows c hc
  unfold clauseOkL
  simp only [Bool.and_eq_true, decide_eq_true_eq]
  refine ⟨by omega, ?_⟩
  unfold netCnfC coneCls at hc
  rcases List.mem_append.1 hc with hc | hc
  · rcases List.mem_cons.1 hc with rfl | hc
    · have := (litOk_node (n := grN x) (v := 0) (by omega)).2
      simpa using this
    · obtain ⟨k, hk, hkc⟩ := List.mem_flatMap.1 hc
      have hkr := marksI_in hk
      rw [coneL_len] at hkr
      unfold clsOf at hkc
      split at hkc
      case isFalse => simp at hkc
      rename_i hfk
      obtain ⟨a1, a2, a3, a4, a5, a6, a7⟩ := and_at hok hfk (by omega)
      have v0 := litOk_node (n := grN x) (v := k.toNat) (by omega)
      have v1 := litOk_var (n := grN x) (l := (andAt x k.toNat).1) (by omega) (by omega)
      have v2 := litOk_var (n := grN x) (l := (andAt x k.toNat).2) (by omega) (by omega)
      simp only [andCl, List.mem_cons, List.not_mem_nil, or_false] at hkc
      rcases hkc with rfl | rfl | rfl
      · simp only [List.all_cons, List.all_nil, v0.2, v1.1, Bool.and_self]
      · simp only [List.all_cons, List.all_nil, v0.2, v2.1, Bool.and_self]
      · simp only [List.all_cons, List.all_nil, v0.1, v1.2, v2.2, Bool.and_self]
  · rw [List.mem_singleton.1 hc]
    have := litOk_var (n := grN x) (l := lit) (by omega) (by omega)
    simp only [List.all_cons, List.all_nil, this.1, Bool.and_self]
theorem solve_codes {v B : Int} {cls : List RowD} (h : cnfOkL v cls = true) (hB : rng B 1 600 = true) :
    ((solveL v cls B).1 = 1 ∧ (solveL v cls B).2.1.length = v.toNat) ∨ (solveL v cls B).1 = 2 ∨ (solveL v cls B).1 = 3 := by
  unfold solveL
  rw [if_pos ⟨h, hB⟩]
  have hv4 := clauseOk_of_cnf h
  obtain ⟨n, rfl⟩ : ∃ n : Nat, v = n := ⟨v.toNat, by omega⟩
  have hsf := srch_facts (cnfOk_clauses h) B.toNat B.toNat (List.replicate n 0) [] [] (by simp) (trits_rep n)
  simp only [Int.toNat_natCast]
  generalize srch cls B.toNat B.toNat (List.replicate n 0) [] [] = r at *
  obtain ⟨f1, f2, f3, f4⟩ := hsf
  split
  · rename_i h1
    exact Or.inl ⟨rfl, by simp only [ones_len]; exact (f4 h1).1⟩
  · split
    · exact Or.inr (Or.inl rfl)
    · exact Or.inr (Or.inr rfl)
theorem solve_zero {v B : Int} {cls : List RowD} (hB : ¬ rng B 1 600 = true) : solveL v cls B = (0, [], []) := by
  unfold solveL
  rw [if_neg (fun h => hB h.2)]
theorem solveF_fit {v : Int} {cls : List RowD} {B : Int} : fitRw 1048576 (solveL v cls B).2.2 := by
  unfold solveL
  split
  · rename_i h
    have hv4 := clauseOk_of_cnf h.1
    obtain ⟨n, rfl⟩ : ∃ n : Nat, v = n := ⟨v.toNat, by omega⟩
    have hr := rng_iff.1 h.2
    have hsf := srch_facts (cnfOk_clauses h.1) B.toNat B.toNat (List.replicate n 0) [] [] (by simp) (trits_rep n)
    simp only [Int.toNat_natCast]
    generalize srch cls B.toNat B.toNat (List.replicate n 0) [] [] = r at *
    obtain ⟨f1, f2, f3, f4⟩ := hsf
    split
    · simp [fitRw]
    · split
      · rename_i h2
        obtain ⟨a, b, c⟩ := f3 h2
        refine ⟨?_, c (by simp) (by simp; omega)⟩
        simp only [List.length_nil] at a ⊢
        omega
      · simp [fitRw]
  · simp [fitRw]
def bitsK (bs : List Bool) : List Int := (bs.drop 1).map bitI
theorem bitsK_bits {bs : List Bool} : bitsI (bitsK bs) := bitsI_map fun b _ => by unfold bitI; split <;> simp
theorem bitsK_at {bs : List Bool} {k : Nat} {b : Bool} (h : bs[k + 1]? = some b) : (bitsK bs)[k]? = some (bitI b) := by
  unfold bitsK
  rw [List.getElem?_map, List.getElem?_drop, Nat.add_comm, h]; rfl
def combF (I : Nat) (r : Int × List Bool × List RowD) : Int × Int × List RowD := if r.1 = 2 then (1, 0, r.2.2) else if r.1 = 1 then (2, packK (bitsK r.2.1) I, []) else (3, 0, [])
def combL (a b : GrD) (B : Int) : Int × Int × List RowD :=
  if mitOk a b = true ∧ rng B 1 600 = true then combF (mitG a b).1.toNat (solveL (netCnfL (mitG a b) (mitR a b).1).1 (netCnfL (mitG a b) (mitR a b).1).2 B) else (0, 0, [])
theorem combL_fit {a b : GrD} {B : Int} : fitRw 1048576 (combL a b B).2.2 := by
  unfold combL combF
  split
  · split
    · exact solveF_fit
    · split <;> simp [fitRw]
  · simp [fitRw]
/-- What both walks need when the nets are comparable. -/
theorem comb_facts {a b : GrD} {B : Int} (ho : mitOk a b = true) : ∃ (I : Nat) (gs : List SeqD) (gan : List AndD) (l : Int),
    mitG a b = ((I : Int), gs, gan, [l]) ∧ (mitR a b).1 = l ∧ netOkB ((I : Int), gs, gan, [l]) = true ∧ I ≤ 20 ∧ isI l ∧ netCnfOk ((I : Int), gs, gan, [l]) l = true ∧ I < (netCnfL ((I : Int), gs, gan, [l]) l).1.toNat := by
  obtain ⟨g1, g2, g3⟩ := mitG_ok ho
  generalize mitG a b = g at *
  obtain ⟨gi, gs, gan, go⟩ := g
  simp only at g2
  subst g2
  obtain ⟨⟨n1, n2, n3, n4, n5, n6⟩, -, o2, -⟩ := netOk_of g1
  simp only at n1 n2
  obtain ⟨I, rfl⟩ : ∃ n : Nat, gi = n := ⟨gi.toNat, by omega⟩
  have hl := o2 (mitR a b).1 (by simp [grRoots])
  have hcok : netCnfOk ((I : Int), gs, gan, [(mitR a b).1]) (mitR a b).1 = true := by
    unfold netCnfOk
    rw [g1, Bool.true_and]
    exact rng_iff.2 (by omega)
  refine ⟨I, gs, gan, _, rfl, rfl, g1, by omega, g3, hcok, ?_⟩
  unfold netCnfL
  rw [if_pos hcok]
  simp only [Int.toNat_natCast]
  unfold grN
  simp only [Int.toNat_natCast]
  omega
set_option maxRecDepth 100000 in
set_option maxHeartbeats 2000000 in
theorem iComb_con (a b : GrD) (B : Int) (ha : fitGr 1048576 a) (hb : fitGr 1048576 b) : ConC Try.prog 60 [igr a, igr b, .d (.int .i64 B)] (.tup [.d (.int .i64 (combL a b B).1), .d (.int .i64 (combL a b B).2.1), irows (combL a b B).2.2]) := by
  have hC : combL a b B = if mitOk a b = true ∧ rng B 1 600 = true then combF (mitG a b).1.toNat (solveL (netCnfL (mitG a b) (mitR a b).1).1 (netCnfL (mitG a b) (mitR a b).1).2 B) else (0, 0, []) := rfl
  have km := iMiter_con a b ha hb
  cases ho : mitOk a b with
  | false =>
    rw [ho] at hC km
    rw [if_neg (by simp)] at hC
    rw [hC]
    refine con_ofD (by kernel_rfl) Try.func60 rfl rfl rfl ?_
    simp [enGr]
    refine call_step (km) ?_
    simp [enGr, e1]
  | true =>
  rw [ho] at hC km
  have hkr := inr_con B 1 600
  cases hr : rng B 1 600 with
  | false =>
    rw [hr] at hC hkr
    rw [if_neg (by simp)] at hC
    rw [hC]
    refine con_ofD (by kernel_rfl) Try.func60 rfl rfl rfl ?_
    simp [enGr]
    refine call_step (km) ?_
    simp [enGr, e1]
    refine call_step (hkr) ?_
    simp
  | true =>
  rw [hr] at hC hkr
  rw [if_pos ⟨rfl, rfl⟩] at hC
  obtain ⟨I, gs, gan, l, e1', e2', g1, hI, hlI, hcok, hIv⟩ := comb_facts (B := B) ho
  rw [e1'] at hC km
  rw [e2'] at hC
  have kn := iNetCnf_con ((I : Int), gs, gan, [l]) l (fitGr_netOk g1)
  rw [hcok] at kn
  have hfc := netCnf_fit (x := ((I : Int), gs, gan, [l])) (lit := l)
  have hco := netCnf_ok hcok
  generalize netCnfL ((I : Int), gs, gan, [l]) l = c at *
  have kc := iSolve_con c B hfc
  have hsc := solve_codes hco hr
  generalize solveL c.1 c.2 B = r at *
  obtain ⟨cd, bs, pf⟩ := r
  simp only [Int.toNat_natCast] at hC hsc kc
  unfold combF at hC
  simp only at hC
  generalize combL a b B = R at *
  rcases hsc with ⟨rfl, hbl⟩ | rfl | rfl
  · simp only [show ¬ (1 : Int) = 2 by omega, if_false, if_true] at hC
    subst hC
    have hvs := bitsK_bits (bs := bs)
    have hat : ∀ {k : Nat} {b : Bool}, bs[k + 1]? = some b → (bitsK bs)[k]? = some (bitI b) := bitsK_at
    generalize bitsK bs = vs at *
    refine con_ofD (by kernel_rfl) Try.func60 rfl rfl rfl ?_
    simp [enGr]
    refine call_step (km) ?_
    simp [enGr, e1]
    refine call_step (hkr) ?_
    simp [e1]
    refine drawE_of [(10, [8]), (11, [])] (by kernel_rfl) ?_
    simp [enGr, e1]
    refine call_step (kn) ?_
    simp [enGr, enCnf, e1]
    refine call_step (kc) ?_
    simp [enCnf]
    refine aw_loopU [false, false, false, false, false, false, false, false, false, true, false, false, false, false, true, false, true, true, false, false, false, false, false, false, false, false, false, false, false, false, false, false, false, false, false, false, false, false, false, false, false, false, false, false, false, false, false, false, false, false, false, false, false, false, false, false, false, false, false, false, false, false, false, false, false, false, false, false, false, false] (fun k : Nat => k ≤ I) (fun k : Nat => [(16, .d (.int .i64 (packK vs k))), (17, .d (.int .i64 k))]) (fun k : Nat => []) (fun k : Nat => I - k) 0 ?_ ?_ ?_
    · exact Nat.zero_le _
    · exact ⟨[0, 1, 2, 3, 4, 5, 6, 7, 8, 9], by simp [packK]⟩
    rintro J S μ hJ hS hμ k hk
    by_cases hlt : k < I
    · have hb1 : bs[k + 1]? = some (bs.getD (k + 1) false) := by rw [List.getD_eq_getElem?_getD, List.getElem?_eq_getElem (by omega)]; rfl
      have w2 : IntKind.i64.wrap ((k : Int) + 1) = (k : Int) + 1 := wrap_id (by omega) (by omega)
      have hvk := hat hb1
      have hor := packK_or hvs hvk (by omega)
      have hk0 : ¬ ((k : Int) + 1 < 0) := by omega
      have wk : IntKind.u64.wrap (k : Int) = k := u64_id (by omega) (by omega)
      generalize bs.getD (k + 1) false = bb at *
      cases bb with
      | true =>
        simp only [bitI, if_true] at hor
        simp [decide_eq_true hlt, hlt, w2, hb1, hk0, hor, wk]
        exact round_of hJ hS hμ (k + 1) (by omega) (by omega) ⟨[0, 1, 2, 3, 4, 5, 6, 7, 8, 9], by simp⟩
      | false =>
        have hp0 : packK vs (k + 1) = packK vs k := by simp [packK, hvk, bitI]
        simp [decide_eq_true hlt, hlt, w2, hb1, hk0]
        exact round_of hJ hS hμ (k + 1) (by omega) (by omega) ⟨[0, 1, 2, 3, 4, 5, 6, 7, 8, 9], by simp [hp0]⟩
    obtain rfl : k = I := by omega
    simp [decide_eq_false hlt, hlt]
  · simp only [if_true] at hC
    subst hC
    refine con_ofD (by kernel_rfl) Try.func60 rfl rfl rfl ?_
    simp [enGr]
    refine call_step (km) ?_
    simp [enGr, e1]
    refine call_step (hkr) ?_
    simp [e1]
    refine drawE_of [(10, [8]), (11, [])] (by kernel_rfl) ?_
    simp [enGr, e1]
    refine call_step (kn) ?_
    simp [enGr, enCnf, e1]
    refine call_step (kc) ?_
    simp [enCnf]
  · simp only [show ¬ (3 : Int) = 2 by omega, show ¬ (3 : Int) = 1 by omega, if_false] at hC
    subst hC
    refine con_ofD (by kernel_rfl) Try.func60 rfl rfl rfl ?_
    simp [enGr]
    refine call_step (km) ?_
    simp [enGr, e1]
    refine call_step (hkr) ?_
    simp [e1]
    refine drawE_of [(10, [8]), (11, [])] (by kernel_rfl) ?_
    simp [enGr, e1]
    refine call_step (kn) ?_
    simp [enGr, enCnf, e1]
    refine call_step (kc) ?_
    simp [enCnf]
set_option maxRecDepth 100000 in
set_option maxHeartbeats 2000000 in
theorem sComb_con (a b : GrD) (B : Int) (ha : fitGr 1048576 a) (hb : fitGr 1048576 b) (ga : okGr a) (gb : okGr b) : ConC Try.prog 61 [igr a, igr b, .d (.int .i64 B)] (.tup [.d (.int .i64 (combL a b B).1), .d (.int .i64 (combL a b B).2.1), irows (combL a b B).2.2]) := by
  have hC : combL a b B = if mitOk a b = true ∧ rng B 1 600 = true then combF (mitG a b).1.toNat (solveL (netCnfL (mitG a b) (mitR a b).1).1 (netCnfL (mitG a b) (mitR a b).1).2 B) else (0, 0, []) := rfl
  have km := sMiter_conT a b ha hb ga gb
  cases ho : mitOk a b with
  | false =>
    rw [ho] at hC km
    rw [if_neg (by simp)] at hC
    rw [hC]
    refine con_ofD (by kernel_rfl) Try.func61 rfl rfl rfl ?_
    simp [enGr]
    refine callT_step (km) [] [] (by simp) ?_
    simp [enGr, e1]
  | true =>
  rw [ho] at hC km
  obtain ⟨I, gs, gan, l, e1', e2', g1, hI, hlI, hcok, hIv⟩ := comb_facts (B := B) ho
  rw [e1'] at hC km
  rw [e2'] at hC
  have kn := sNetCnf_con ((I : Int), gs, gan, [l]) l (fitGr_netOk g1) (okGr_netOk g1) hlI
  rw [hcok] at kn
  have hfc := netCnf_fit (x := ((I : Int), gs, gan, [l])) (lit := l)
  have hco := netCnf_ok hcok
  generalize netCnfL ((I : Int), gs, gan, [l]) l = c at *
  have kc := sSolve_con c B hfc
  cases hr : rng B 1 600 with
  | false =>
    rw [hr] at hC
    rw [if_neg (by simp)] at hC
    rw [hC]
    rw [solve_zero (by simp [hr])] at kc
    refine con_ofD (by kernel_rfl) Try.func61 rfl rfl rfl ?_
    simp [enGr]
    refine callT_step (km) [] [] (by simp) ?_
    simp [enGr, e1]
    refine drawE_of [(10, [8]), (11, [])] (by kernel_rfl) ?_
    simp [enGr, e1]
    refine call_step (kn) ?_
    simp [enGr, enCnf, e1]
    refine call_step (kc) ?_
    simp [enCnf]
  | true =>
  rw [hr] at hC
  rw [if_pos ⟨rfl, rfl⟩] at hC
  have hsc := solve_codes hco hr
  generalize solveL c.1 c.2 B = r at *
  obtain ⟨cd, bs, pf⟩ := r
  simp only [Int.toNat_natCast] at hC hsc kc
  unfold combF at hC
  simp only at hC
  generalize combL a b B = R at *
  rcases hsc with ⟨rfl, hbl⟩ | rfl | rfl
  · simp only [show ¬ (1 : Int) = 2 by omega, if_false, if_true] at hC
    subst hC
    have hvs := bitsK_bits (bs := bs)
    have hat : ∀ {k : Nat} {b : Bool}, bs[k + 1]? = some b → (bitsK bs)[k]? = some (bitI b) := bitsK_at
    generalize bitsK bs = vs at *
    refine con_ofD (by kernel_rfl) Try.func61 rfl rfl rfl ?_
    simp [enGr]
    refine callT_step (km) [] [] (by simp) ?_
    simp [enGr, e1]
    refine drawE_of [(10, [8]), (11, [])] (by kernel_rfl) ?_
    simp [enGr, e1]
    refine call_step (kn) ?_
    simp [enGr, enCnf, e1]
    refine call_step (kc) ?_
    simp [enCnf]
    refine aw_loopU [false, false, false, false, false, false, false, false, false, true, false, false, false, false, true, false, true, true, false, false, false, false, false, false, false, false, false, false, false, false, false, false, false, false, false, false, false, false, false, false, false, false, false, false, false, false, false, false, false, false, false, false, false, false, false, false, false, false, false, false, false, false, false, false, false, false, false, false, false, false, false] (fun k : Nat => k ≤ I) (fun k : Nat => [(16, .d (.int .i64 (packK vs k))), (17, .d (.int .i64 k))]) (fun k : Nat => []) (fun k : Nat => I - k) 0 ?_ ?_ ?_
    · exact Nat.zero_le _
    · exact ⟨[0, 1, 2, 3, 4, 5, 6], by simp [packK]⟩
    rintro J S μ hJ hS hμ k hk
    by_cases hlt : k < I
    · have hb1 : bs[k + 1]? = some (bs.getD (k + 1) false) := by rw [List.getD_eq_getElem?_getD, List.getElem?_eq_getElem (by omega)]; rfl
      have w2 : IntKind.i64.wrap ((k : Int) + 1) = (k : Int) + 1 := wrap_id (by omega) (by omega)
      have hvk := hat hb1
      have hor := packK_add hvs hvk (by omega)
      have hk0 : ¬ ((k : Int) + 1 < 0) := by omega
      generalize bs.getD (k + 1) false = bb at *
      simp [decide_eq_true hlt, hlt, w2, hb1, hk0]
      refine call_step (l07Bit_con bb) ?_
      simp [hor, w2]
      exact round_of hJ hS hμ (k + 1) (by omega) (by omega) ⟨[0, 1, 2, 3, 4, 5, 6], by simp⟩
    obtain rfl : k = I := by omega
    simp [decide_eq_false hlt, hlt]
  · simp only [if_true] at hC
    subst hC
    refine con_ofD (by kernel_rfl) Try.func61 rfl rfl rfl ?_
    simp [enGr]
    refine callT_step (km) [] [] (by simp) ?_
    simp [enGr, e1]
    refine drawE_of [(10, [8]), (11, [])] (by kernel_rfl) ?_
    simp [enGr, e1]
    refine call_step (kn) ?_
    simp [enGr, enCnf, e1]
    refine call_step (kc) ?_
    simp [enCnf]
  · simp only [show ¬ (3 : Int) = 2 by omega, show ¬ (3 : Int) = 1 by omega, if_false] at hC
    subst hC
    refine con_ofD (by kernel_rfl) Try.func61 rfl rfl rfl ?_
    simp [enGr]
    refine callT_step (km) [] [] (by simp) ?_
    simp [enGr, e1]
    refine drawE_of [(10, [8]), (11, [])] (by kernel_rfl) ?_
    simp [enGr, e1]
    refine call_step (kn) ?_
    simp [enGr, enCnf, e1]
    refine call_step (kc) ?_
    simp [enCnf]
open Go.RowKit Go.ChangeShapes Go.WideShapes Go.ChangeAt
set_option maxRecDepth 100000 in
set_option maxHeartbeats 2000000 in
theorem law_comb (x y : GrD) (B : Int) (hx : fitGr 9223372036854775807 x) (hy : fitGr 9223372036854775807 y) (gx : okGr x) (gy : okGr y) :
    ConC Try.prog 12 [.agg (enGr 145 148 x), .agg (enGr 145 148 y), .d (.int .i64 B)] (.d (.bool true)) := by
  refine con_ofS (by kernel_rfl) Try.func12 rfl rfl rfl ?_
  simp [enGr]
  refine call_step (szNet_con x 1048576 hx (by omega)) ?_
  simp
  intro h1
  have hf := fitGr_sz h1
  have b1 := szGrL_le x 1048576 (by omega)
  refine call_step (szNet_con y _ hy (by omega)) ?_
  simp [enGr]
  intro h2
  have hg := fitGr_szI h2 (by omega)
  have cx := cGr_le hf
  have cy := cGr_le hg
  have ks := sComb_con x y B hf hg gx gy
  have ki := iComb_con x y B hf hg
  have hr := combL_fit (a := x) (b := y) (B := B)
  have cr := cRows_le hr
  generalize combL x y B = r at *
  obtain ⟨cd, w, pf⟩ := r
  simp only at ks ki hr cr
  have hk : ¬ (1 + (cGr x : Int) < 0) := by omega
  have hk2 : (0 : Int) ≤ 1 + cGr x := by omega
  have hl : ¬ (1 + (cGr x : Int) + cGr y < 0) := by omega
  have hl2 : (0 : Int) ≤ 1 + cGr x + cGr y := by omega
  have hq : (0 : Int) ≤ 1 + costs cRow pf := by omega
  have hq2 : ¬ (1 + (costs cRow pf : Int) < 0) := by omega
  refine ⟨by kernel_rfl, ?_⟩
  refine call_step (toNet_con x hf) ?_
  simp [enGr]
  refine call_step (toNet_con y hg) ?_
  simp [enGr]
  refine call_step (ks) ?_
  simp
  refine call_step (toNet_con x hf) ?_
  simp [enGr]
  refine call_step (toNet_con y hg) ?_
  simp [enGr]
  refine call_step (ki) ?_
  simp
  refine call_step (eqRows_con pf hr) ?_
  simp
  refine ⟨by kernel_rfl, ?_⟩
  refine call_step (toNet_con x hf) ?_
  simp [enGr]
  refine call_step (eqNet_con x hf) ?_
  simp
  refine ⟨by kernel_rfl, ?_⟩
  refine call_step (toNet_con y hg) ?_
  simp [enGr]
  refine call_step (eqNet_con y hg) ?_
  simp
  refine callW_step (markNet_conW x 1 (by omega) (by omega)) [9, 10, 11] (by simp) (by simp) (by simp) ?_
  simp [setAll, hk, hk2]
  refine callW_step (markNet_conW y (1 + cGr x) (by omega) (by omega)) [13, 14, 15] (by simp) (by simp) (by simp) ?_
  simp [setAll, hl, hl2]
  refine call_step (eqRows_con pf hr) ?_
  simp
  refine callM_step (markIntSS_conM pf 1 (by omega) (by omega)) (by rfl) ?_
  simp [hq, hq2]
  refine call_step (heldIntSS_con pf 1 hr (by omega) (by omega)) ?_
  simp [hq, hq2]
  refine ⟨by kernel_rfl, ?_⟩
  refine call_step (toNet_con x hf) ?_
  simp [enGr]
  refine call_step (toNet_con y hg) ?_
  simp [enGr]
  refine call_step (ki) ?_
  simp
  refine call_step (eqRows_con pf hr) ?_
  simp
  refine call_step (heldIntSS_con pf 1 hr (by omega) (by omega)) ?_
  simp [hq, hq2]
set_option maxRecDepth 100000 in
theorem FnExactCombEqual_lifted (os : Os) (started : os.Started) (H : Type) (enc : TypeId × Value → H) :
    ReturnsInHanded {} Try.checked os 12 .any (Rows.fnExactCombEqualSpec.pre6 enc Try.prog Try.f12 Rows.fnExactCombEqualRow.domain false) (Rows.fnExactCombEqualSpec.post enc Try.prog Try.f12 false true false false) := by
  refine law_lift (C := Try.checked) Try.own started (by kernel_rfl) Try.func12
    (ChangeSpec.witness6 (enc := enc) (C := Try.checked) false ⟨#[], #[.agg #[.int .i64 0, .slice none 0 0, .slice none 0 0, .slice none 0 0], .agg #[.int .i64 0, .slice none 0 0, .slice none 0 0, .slice none 0 0], .int .i64 0], []⟩ 8 (by kernel_rfl) (by kernel_rfl) (by kernel_rfl) (by kernel_rfl))
    Try.laidOut (of_decide_eq_true (by kernel_rfl)) rfl rfl Try.underlying4 ?_
  intro W base args ds ps hval0 hA0 hlt
  have hval : ∀ (j : Nat) t v, Try.f12.params[j]? = some t → args[j]? = some v → Value.okWide Try.prog W .any base t v := hval0
  have hA : DataW.TrodAll enc Try.prog W 0 (fun _ => true) true Try.f12.params.toList args.toList ds ps := hA0
  clear hval0 hA0
  rw [Try.params12] at hA hval
  obtain ⟨v0, vs0, d0, ds0, p0, q0, hargs, rfl, rfl, h0, r0⟩ := trodAll_cons hA
  obtain ⟨v1, vs1, d1, ds1, p1, q1, rfl, rfl, rfl, h1, r1⟩ := trodAll_cons r0
  obtain ⟨v2, vs2, d2, ds2, p2, q2, rfl, rfl, rfl, h2, r2⟩ := trodAll_cons r1
  obtain ⟨rfl, rfl, rfl⟩ := trodAll_nil r2
  obtain rfl : args = #[v0, v1, v2] := by cases args; simp_all
  obtain ⟨a, ha, ga⟩ := open_aggR Try.underlying26 opE_net (hval 0 _ v0 rfl rfl) h0 (fun x hx => hlt x (by simp [hx]))
  obtain ⟨b, hb, gb⟩ := open_aggR Try.underlying26 opE_net (hval 1 _ v1 rfl rfl) h1 (fun x hx => hlt x (by simp [hx]))
  obtain ⟨c, rfl, rfl, rfl, wf2⟩ := open_int Try.underlying3 (hval 2 _ v2 rfl rfl) h2
  exact ⟨rfl, law_con (law_comb a b c (fitGr_of ha) (fitGr_of hb) (okGr_of ga) (okGr_of gb)) rfl (args3 ha hb (.d (.int _ _)))⟩

/-- THE STATEMENT, PROVED. -/
theorem FnExactCombEqual_holds : Rows.FnExactCombEqualSaid :=
  OpenClaim.holds_of_wide 12 Try.f12 rfl rfl rfl rfl rfl rfl rfl ⟨rfl, rfl, rfl, rfl, rfl⟩ rfl rfl rfl rfl rfl (by kernel_rfl) Try.func12 (by kernel_rfl)
    (of_decide_eq_true (by kernel_rfl)) (by unfold Func.isWrapper; first | (rw [if_pos (by decide +kernel)]; kernel_rfl) | (rw [if_neg (by decide +kernel)]; exact ⟨rfl, rfl⟩))
    (fun os started H enc _ => FnExactCombEqual_lifted os started H enc)
#print axioms FnExactCombEqual_holds
end Go.Proofs.Ytoppcdccplgalaa
