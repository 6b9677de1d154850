/-
  The formula of a net, by abstract walks: both sides.
  Conditions: those typed in each theorem.
-/
import Derived.Test.YtoppcdccplgalaaNo
import Derived.Test.YtoppcdccplgalaaQk
namespace Go.Proofs.Ytoppcdccplgalaa
open Go.RowKit Go.ChangeShapes Go.WideShapes
set_option linter.unusedVariables false
set_option linter.unusedSimpArgs false
attribute [local simp ↓] condG_true condG_false condB_true condB_false
attribute [local simp] AWp_skip AWp_region_t AWp_region_d AWp_region_f still_mk AWp_seq AWp_cond condV_bool condB AWp_block AWp_exit AWp_ret
attribute [local simp] AOps_nil AOp_move AOp_assign AOp_pick AOp_binOp AOp_unOp AOp_convert AOp_len AOp_max AOp_min AOp_indexAddr AOp_load
attribute [local simp] AOp_fieldAddr AOp_field AOp_extract AOp_nilCheck AOp_build AOp_alloc AOp_box AOp_call AOp_store AOp_append AOp_buildSlice nextB_some
attribute [local simp] nextB_none adoptO adoptC AOp_makeSlice AOp_slice AOp_makeFunc AOp_guard guardD_some guardG_bool guardG_undef nextO_some nextS_some
attribute [local simp] nextZ_some nextL_some nextM_some nextT_some sliceO sliceL sliceT partO partV boundV funcO pickO
attribute [local simp] convO lenO maxO minO idxO extO nilO buildO litO litC makeO chunks
attribute [local simp] fillV placeOf thenA inBlockA St.get St.put St.eval ofCell evalT abin_add abin_sub abin_mul
attribute [local simp] abin_quo abin_rem abin_and abin_or abin_xor abin_andNot abin_shl abin_shr abin_shlu abin_eql abin_eqp abin_neq
attribute [local simp] abin_lss abin_leq abin_gtr abin_geq abin_eqlb abin_neqb aun pickV lenV intOf? indexV takeD
attribute [local simp] takeV loadV fieldAddrV fieldV ofX presD presDs pres presAll cellsV V.cell storeV
attribute [local simp] freezeC putAt kill takeC plains plainV scalarV nat_neg keepT sets eSl e1
attribute [local simp] e2 e3 e4 eInt eBool afterCall inst inst1 inst1s instD instDs RetA
attribute [local simp] resVs resV gives give1 give1s Le isPin leSlots leS leTmps leV le0
attribute [local simp] le0s ren ren0 renS ren0s frame enterT afterT_some afterC_some lives Slot.live arrsOk
attribute [local simp] viewV view0 renT rens renSs setAll List.range'_succ RetT RetW joinV leT AOpsE_nil
attribute [local simp] AOpsE_cons AOpsT_nil AOpsT_cons isCallT callOf condC_true condC_false beginT_mk thenT_mk pickE pickT isT
attribute [local simp] loose namesOf namesV names1 names0 stableN sameAt Op.operands Call.operands
def litVarL (l : Int) : Int := if rng l 0 800 = true then (if l % 2 = 1 then -(l / 2 + 1) else l / 2 + 1) else 0
theorem litVarL_rng (l : Int) : -401 ≤ litVarL l ∧ litVarL l ≤ 401 := by
  unfold litVarL
  split
  · rename_i h
    have := rng_iff.1 h
    split <;> omega
  · omega
theorem iLitVar_con (l : Int) : ConC Try.prog 89 [.d (.int .i64 l)] (.d (.int .i64 (litVarL l))) := by
  refine con_of (by kernel_rfl) Try.func89 rfl rfl rfl ?_
  simp
  refine call_step (inr_con _ _ _) ?_
  simp
  rcases Bool.eq_false_or_eq_true (rng l 0 800) with h | h
  · have hr := rng_iff.1 h
    have w1 : l.tmod 2 = l % 2 := Int.tmod_eq_emod_of_nonneg hr.1
    have w2 : IntKind.i64.wrap (l.tdiv 2) = l / 2 := by rw [Int.tdiv_eq_ediv_of_nonneg hr.1, wrap_id (by omega) (by omega)]
    have w3 : IntKind.i64.wrap (l / 2 + 1) = l / 2 + 1 := wrap_id (by omega) (by omega)
    have w4 : IntKind.i64.wrap (-(l / 2 + 1)) = -(l / 2 + 1) := wrap_id (by omega) (by omega)
    by_cases h1 : l % 2 = 1
    · have hl : litVarL l = -(l / 2 + 1) := by unfold litVarL; rw [if_pos h, if_pos h1]
      simp [h, w1, w2, w3, w4, h1, hl]
    · have hl : litVarL l = l / 2 + 1 := by unfold litVarL; rw [if_pos h, if_neg h1]
      simp [h, w1, w2, w3, w4, h1, hl, show (l % 2 == 1) = false by simpa using h1]
  · have hl : litVarL l = 0 := by unfold litVarL; rw [if_neg (by simp [h])]
    simp [h, hl]
theorem sLitVar_con (l : Int) : ConC Try.prog 82 [.d (.int .i64 l)] (.d (.int .i64 (litVarL l))) := by
  refine con_of (by kernel_rfl) Try.func82 rfl rfl rfl ?_
  by_cases hn : l < 0
  · have hl : litVarL l = 0 := by unfold litVarL; rw [if_neg (fun h => by have := rng_iff.1 h; omega)]
    simp [decide_eq_true hn, hn, hl]
  by_cases hm : 800 < l
  · have hl : litVarL l = 0 := by unfold litVarL; rw [if_neg (fun h => by have := rng_iff.1 h; omega)]
    simp [decide_eq_false hn, hn, decide_eq_true hm, hm, hl]
  have h : rng l 0 800 = true := rng_iff.2 (by omega)
  have w1 : l.tmod 2 = l % 2 := Int.tmod_eq_emod_of_nonneg (by omega)
  have w2 : IntKind.i64.wrap (l.tdiv 2) = l / 2 := by rw [Int.tdiv_eq_ediv_of_nonneg (by omega), wrap_id (by omega) (by omega)]
  have w3 : IntKind.i64.wrap (l / 2 + 1) = l / 2 + 1 := wrap_id (by omega) (by omega)
  have w4 : IntKind.i64.wrap (-(l / 2 + 1)) = -(l / 2 + 1) := wrap_id (by omega) (by omega)
  by_cases h1 : l % 2 = 1
  · have hl : litVarL l = -(l / 2 + 1) := by unfold litVarL; rw [if_pos h, if_pos h1]
    simp [decide_eq_false hn, hn, decide_eq_false hm, hm, w1, w2, w3, w4, h1, hl]
  · have hl : litVarL l = l / 2 + 1 := by unfold litVarL; rw [if_pos h, if_neg h1]
    simp [decide_eq_false hn, hn, decide_eq_false hm, hm, w1, w2, w3, w4, h1, hl, show (l % 2 == 1) = false by simpa using h1]
/-- The clauses of a node. -/
def andCl (x : GrD) (v : Nat) : List RowD :=
  [[-((v : Int) + 1), litVarL (andAt x v).1], [-((v : Int) + 1), litVarL (andAt x v).2], [(v : Int) + 1, -litVarL (andAt x v).1, -litVarL (andAt x v).2]]
def clsOf (x : GrD) (k : Int) : List RowD := if firstG x ≤ k.toNat then andCl x k.toNat else []
def coneCls (x : GrD) (ks : List Int) : List RowD := [-1] :: ks.flatMap (clsOf x)
def netCnfC (x : GrD) (lit : Int) : List RowD := coneCls x (marksI (coneL x (lit.toNat / 2))) ++ [[litVarL lit]]
def netCnfOk (x : GrD) (lit : Int) : Bool := netOkB x && rng lit 0 (2 * (grN x : Int) - 1)
def netCnfL (x : GrD) (lit : Int) : CnfD := if netCnfOk x lit = true then ((grN x : Int), netCnfC x lit) else (0, [])
theorem marksI_in {s : List Bool} {y : Int} (h : y ∈ marksI s) : 0 ≤ y ∧ y < s.length := by
  unfold marksI marksL at h
  obtain ⟨a, ha, hv⟩ := List.mem_map.1 h
  have := List.mem_range.1 (List.mem_filter.1 ha).1
  omega
theorem marksI_len {s : List Bool} : (marksI s).length ≤ s.length := by
  unfold marksI marksL
  rw [List.length_map]
  exact Nat.le_trans (List.length_filter_le _ _) (by simp)
theorem clsOf_len {x : GrD} {k : Int} : (clsOf x k).length ≤ 3 := by unfold clsOf andCl; split <;> simp
theorem coneCls_snoc {x : GrD} {ks : List Int} {i : Nat} {k : Int} (h : ks[i]? = some k) : coneCls x (ks.take (i + 1)) = coneCls x (ks.take i) ++ clsOf x k := by
  unfold coneCls
  rw [take_snoc' h, List.flatMap_append]
  simp
theorem coneCls_len {x : GrD} : ∀ (ks : List Int), (coneCls x ks).length ≤ 1 + 3 * ks.length
  | [] => by simp [coneCls]
  | k :: ks => by
    have ih := coneCls_len (x := x) ks
    have := clsOf_len (x := x) (k := k)
    simp only [coneCls, List.length_cons, List.flatMap_cons, List.length_append] at ih ⊢
    omega
theorem netCnfC_len {x : GrD} {lit : Int} (hok : netOkB x = true) : (netCnfC x lit).length ≤ 1203 := by
  obtain ⟨-, hgl, -, -⟩ := ok_sizes hok
  have h1 := coneCls_len (x := x) (marksI (coneL x (lit.toNat / 2)))
  have h2 := marksI_len (s := coneL x (lit.toNat / 2))
  rw [coneL_len] at h2
  unfold netCnfC
  simp only [List.length_append, List.length_cons, List.length_nil]
  omega
theorem netCnfC_rows {x : GrD} {lit : Int} : ∀ r ∈ netCnfC x lit, r.length ≤ 3 := by
  intro r hr
  unfold netCnfC coneCls at hr
  rcases List.mem_append.1 hr with h | h
  · rcases List.mem_cons.1 h with rfl | h
    · simp
    · obtain ⟨k, -, hk⟩ := List.mem_flatMap.1 h
      unfold clsOf at hk
      split at hk
      · simp only [andCl, List.mem_cons, List.not_mem_nil, or_false] at hk
        rcases hk with rfl | rfl | rfl <;> simp
      · simp at hk
  · rw [List.mem_singleton.1 h]; simp
theorem netCnf_fit {x : GrD} {lit : Int} : fitCn 1048576 (netCnfL x lit) := by
  unfold netCnfL
  split
  · rename_i h
    unfold netCnfOk at h
    simp only [Bool.and_eq_true] at h
    exact ⟨by have := netCnfC_len (lit := lit) h.1; simp only; omega, fun r hr => by have := netCnfC_rows r hr; omega⟩
  · exact ⟨by simp, by simp⟩
set_option maxRecDepth 100000 in
set_option maxHeartbeats 2000000 in
theorem iNetCnf_con (x : GrD) (lit : Int) (hx : fitGr 1048576 x) : ConC Try.prog 23 [igr x, .d (.int .i64 lit)] (.tup [icnf (netCnfL x lit), .d (.bool (netCnfOk x lit))]) := by
  have kok := iNetOk_con x hx
  have hB : netCnfOk x lit = (netOkB x && rng lit 0 (2 * (grN x : Int) - 1)) := rfl
  have hC : netCnfL x lit = if netCnfOk x lit = true then ((grN x : Int), netCnfC x lit) else (0, []) := rfl
  refine con_of (by kernel_rfl) Try.func23 rfl rfl rfl ?_
  simp [enGr]
  cases hok : netOkB x with
  | false =>
    rw [hok] at kok hB
    simp only [Bool.false_and] at hB
    rw [hB, if_neg (by simp)] at hC
    refine call_step (kok) ?_
    simp [enGr, hB, hC, enCnf]
  | true =>
  obtain ⟨⟨n1, n2, n3, n4, n5, n6⟩, -, -, -⟩ := netOk_of hok
  obtain ⟨hF, hgl, hNi, hno⟩ := ok_sizes hok
  have hN := grN_eq x
  rw [hok] at kok hB
  simp only [Bool.true_and] at hB
  have w1 : IntKind.i64.wrap (2 * (grN x : Int)) = 2 * (grN x : Int) := wrap_id (by omega) (by omega)
  have w2 : IntKind.i64.wrap (2 * (grN x : Int) - 1) = 2 * (grN x : Int) - 1 := wrap_id (by omega) (by omega)
  refine call_step (kok) ?_
  simp [enGr]
  refine call_step (iNodeCnt_con x ⟨n1, n2⟩ n3 n4) ?_
  simp [enGr, hNi, w1, w2]
  refine call_step (inr_con _ _ _) ?_
  simp
  cases hr : rng lit 0 (2 * (grN x : Int) - 1) with
  | false =>
    rw [hr] at hB
    rw [hB, if_neg (by simp)] at hC
    simp [hr, hB, hC, enCnf]
  | true =>
  have hr2 := rng_iff.1 hr
  rw [hr] at hB
  rw [hB, if_pos rfl] at hC
  have w3 : IntKind.i64.wrap (lit.tdiv 2) = ((lit.toNat / 2 : Nat) : Int) := by rw [Int.tdiv_eq_ediv_of_nonneg hr2.1, wrap_id (by omega) (by omega)]; omega
  have hv : lit.toNat / 2 < grN x := by omega
  have hnc : netCnfC x lit = coneCls x (marksI (coneL x (lit.toNat / 2))) ++ [[litVarL lit]] := rfl
  rw [hnc] at hC
  generalize lit.toNat / 2 = v at *
  have hm := fun y => marksI_in (s := coneL x v) (y := y)
  have hml := marksI_len (s := coneL x v)
  rw [coneL_len] at hm hml
  simp [hr]
  refine call_step (iNodeCnt_con x ⟨n1, n2⟩ n3 n4) ?_
  simp [enGr, hNi, w3]
  refine call_step (cone_con x v hx hok hv) ?_
  simp [enGr]
  generalize marksI (coneL x v) = ks at *
  refine aw_loopU [false, true, true, false, true, false, true, false, false, false, false, false, false, false, false, false, false, false, false, false, false, false, false, false, false, false, false, false, false, false, false, false, false, false, true, true, true, false, false, false, false, false, false, false, false, false, false, false, false, false, false, false, false, false, false, false, false, false, false, false, false, false, false, false, false, false, false, false, false, false, false, false, false, false, false, false, false, false, false, false, false, false, false, false, false, false, false, false, false] (fun i : Nat => i ≤ ks.length) (fun i : Nat => [(36, .d (.int .i64 i))]) (fun i : Nat => [(3, .arr 24 true ((coneCls x (ks.take i)).map enRow))]) (fun i : Nat => ks.length - i) 0 ?_ ?_ ?_
  · exact Nat.zero_le _
  · exact ⟨[0, 1, 2, 3, 4, 5], by simp [coneCls, enRow, e1, eInt]⟩
  rintro I S μ hI hS hμ i hi
  by_cases hlt : i < ks.length
  case neg =>
    obtain rfl : i = ks.length := by omega
    rw [List.take_length]
    have hcl := coneCls_len (x := x) ks
    simp [decide_eq_false hlt, hlt]
    refine ⟨by kernel_rfl, ?_⟩
    refine call_step (iLitVar_con lit) ?_
    simp
    first | refine app_lit (q := 1) vt_el_40 (by exact rfl) (by simp) (by exact rfl) (by exact rfl) (by simp) (by simp) (by first | (simp; done) | (simp; omega)) ?_ | refine app_row vt_el_40 (by exact rfl) (by simp) (by exact rfl) (by simp) (by first | (simp; done) | (simp; omega)) ?_
    simp
    simp [hB, hC, enCnf, enRow, e1, eInt]
  have hx1 : ks[i]? = some ks[i] := List.getElem?_eq_getElem hlt
  have hnx := coneCls_snoc (x := x) hx1
  have hcl := coneCls_len (x := x) (ks.take i)
  have hk := hm _ (List.getElem_mem hlt)
  have w4 : IntKind.i64.wrap ((i : Int) + 1) = (i : Int) + 1 := wrap_id (by omega) (by omega)
  have hco : clsOf x ks[i] = if firstG x ≤ ks[i].toNat then andCl x ks[i].toNat else [] := rfl
  have hi2 : (ks.take i).length ≤ 400 := by simp; omega
  generalize coneCls x (ks.take i) = cs at *
  generalize clsOf x ks[i] = co at *
  generalize ks[i] = k at *
  obtain ⟨u, rfl⟩ : ∃ u : Nat, k = u := ⟨k.toNat, by omega⟩
  rw [Int.toNat_natCast] at hco
  by_cases hF1 : firstG x ≤ u
  case neg =>
    rw [if_neg hF1] at hco
    subst hco
    simp [decide_eq_true hlt, hx1]
    refine call_step (isAnd_con x u ⟨n1, n2⟩ n3 n4) ?_
    simp [enGr, hF1, w4]
    exact round_of hI hS hμ (i + 1) (by omega) (by omega) ⟨[0, 1, 2, 3, 4, 5], by simp [hnx]⟩
  rw [if_pos hF1] at hco
  obtain ⟨ha, a1, a2, a3, a4, a5, a6⟩ := and_at hok hF1 (by omega)
  have w5 : IntKind.i64.wrap ((u : Int) - (1 + x.1 + x.2.1.length)) = (u : Int) - (1 + x.1 + x.2.1.length) := wrap_id (by omega) (by omega)
  have ht : ((u : Int) - (1 + x.1 + x.2.1.length)).toNat = u - firstG x := by omega
  have hL : (enAnd (andAt x u)).length = 2 := rfl
  have hn0 : ¬ (u : Int) - (1 + x.1 + x.2.1.length) < 0 := by omega
  have hac : andCl x u = [[-((u : Int) + 1), litVarL (andAt x u).1], [-((u : Int) + 1), litVarL (andAt x u).2], [(u : Int) + 1, -litVarL (andAt x u).1, -litVarL (andAt x u).2]] := rfl
  rw [hac] at hco
  have lA := litVarL_rng (andAt x u).1
  have lB := litVarL_rng (andAt x u).2
  have kA := iLitVar_con (andAt x u).1
  have kB := iLitVar_con (andAt x u).2
  generalize litVarL (andAt x u).1 = va at *
  generalize litVarL (andAt x u).2 = vb at *
  obtain ⟨g, hg⟩ : ∃ g, (u : Int) + 1 = g := ⟨_, rfl⟩
  rw [hg] at hco
  have w6 : IntKind.i64.wrap ((u : Int) + 1) = g := by rw [← hg]; exact wrap_id (by omega) (by omega)
  have w7 : IntKind.i64.wrap (-g) = -g := wrap_id (by omega) (by omega)
  have w8 : IntKind.i64.wrap (-va) = -va := wrap_id (by omega) (by omega)
  have w9 : IntKind.i64.wrap (-vb) = -vb := wrap_id (by omega) (by omega)
  have hun : u < grN x := Int.ofNat_lt.1 hk.2
  subst hco
  simp [decide_eq_true hlt, hx1]
  refine call_step (isAnd_con x u ⟨n1, n2⟩ n3 n4) ?_
  simp [enGr, hF1, hun]
  refine ⟨by kernel_rfl, ?_⟩
  refine call_step (firstAnd_con x ⟨n1, n2⟩ n3) ?_
  simp [w5, ht, ha, hL, hn0, enAnd, enGr, w6]
  refine ⟨by kernel_rfl, ?_⟩
  refine call_step (kA) ?_
  simp
  refine call_step (kB) ?_
  simp [w7, w8, w9]
  first | refine app_lit (q := 1) vt_el_40 (by exact rfl) (by simp) (by exact rfl) (by exact rfl) (by simp) (by simp) (by first | (simp; done) | (simp; omega)) ?_ | refine app_row vt_el_40 (by exact rfl) (by simp) (by exact rfl) (by simp) (by first | (simp; done) | (simp; omega)) ?_
  simp [w4]
  exact round_of hI hS hμ (i + 1) (by omega) (by omega) ⟨[0, 1, 2, 11, 4, 5], by simp [hnx, enRow, e1, eInt]⟩
set_option maxRecDepth 100000 in
set_option maxHeartbeats 2000000 in
theorem sNetCnf_con (x : GrD) (lit : Int) (hx : fitGr 1048576 x) (hg : okGr x) (hlI : isI lit) : ConC Try.prog 22 [igr x, .d (.int .i64 lit)] (.tup [icnf (netCnfL x lit), .d (.bool (netCnfOk x lit))]) := by
  have kok := sNetOk_con x hx hg
  have hB : netCnfOk x lit = (netOkB x && rng lit 0 (2 * (grN x : Int) - 1)) := rfl
  have hC : netCnfL x lit = if netCnfOk x lit = true then ((grN x : Int), netCnfC x lit) else (0, []) := rfl
  refine con_of (by kernel_rfl) Try.func22 rfl rfl rfl ?_
  simp [enGr]
  cases hok : netOkB x with
  | false =>
    rw [hok] at kok hB
    simp only [Bool.false_and] at hB
    rw [hB, if_neg (by simp)] at hC
    refine call_step (kok) ?_
    simp [enGr, hB, hC, enCnf]
  | true =>
  obtain ⟨⟨n1, n2, n3, n4, n5, n6⟩, -, -, -⟩ := netOk_of hok
  obtain ⟨hF, hgl, hNi, hno⟩ := ok_sizes hok
  have hN := grN_eq x
  rw [hok] at kok hB
  simp only [Bool.true_and] at hB
  have kn := sNodeCount_con x
  rw [hno] at kn
  refine call_step (kok) ?_
  simp [enGr]
  refine call_step (kn) ?_
  simp [enGr]
  refine call_step (sLit_con lit (grN x) hlI (by omega)) ?_
  simp
  cases hr : rng lit 0 (2 * (grN x : Int) - 1) with
  | false =>
    rw [hr] at hB
    rw [hB, if_neg (by simp)] at hC
    simp [hr, hB, hC, enCnf]
  | true =>
  have hr2 := rng_iff.1 hr
  rw [hr] at hB
  rw [hB, if_pos rfl] at hC
  have w3 : IntKind.i64.wrap (lit.tdiv 2) = ((lit.toNat / 2 : Nat) : Int) := by rw [Int.tdiv_eq_ediv_of_nonneg hr2.1, wrap_id (by omega) (by omega)]; omega
  have hv : lit.toNat / 2 < grN x := by omega
  have hnc : netCnfC x lit = coneCls x (marksI (coneL x (lit.toNat / 2))) ++ [[litVarL lit]] := rfl
  rw [hnc] at hC
  generalize lit.toNat / 2 = v at *
  have hm := fun y => marksI_in (s := coneL x v) (y := y)
  have hml := marksI_len (s := coneL x v)
  rw [coneL_len] at hm hml
  simp [hr]
  refine call_step (kn) ?_
  simp [enGr, w3]
  refine call_step (sCone_con x v hx hg hok hv) ?_
  simp [enGr]
  generalize marksI (coneL x v) = ks at *
  refine aw_loopU [false, true, true, false, true, false, true, true, true, false, false, false, false, false, false, false, false, false, false, false, false, false, false, false, false, false, false, false, false, false, false, false, false, false, false, false, false, false, false, false, false, false, false, false, false, false, false, false, false, false, false, false, false, false, false, false, false, false, false, false, false, false, false, false, false, false, false, false, false, false, false, false, false, false, false, false, false, false, false, false, false, false, false, false, false, false, false, false, false, false, false, false, false, false, false, false] (fun i : Nat => i ≤ ks.length) (fun i : Nat => [(8, .d (.int .i64 i))]) (fun i : Nat => [(3, .arr 24 true ((coneCls x (ks.take i)).map enRow))]) (fun i : Nat => ks.length - i) 0 ?_ ?_ ?_
  · exact Nat.zero_le _
  · exact ⟨[0, 1, 2, 3, 4, 5], by simp [coneCls, enRow, e1, eInt]⟩
  rintro I S μ hI hS hμ i hi
  by_cases hlt : i < ks.length
  case neg =>
    obtain rfl : i = ks.length := by omega
    rw [List.take_length]
    have hcl := coneCls_len (x := x) ks
    simp [decide_eq_false hlt, hlt]
    refine ⟨by kernel_rfl, ?_⟩
    refine call_step (sLitVar_con lit) ?_
    simp
    first | refine app_lit (q := 1) vt_el_40 (by exact rfl) (by simp) (by exact rfl) (by exact rfl) (by simp) (by simp) (by first | (simp; done) | (simp; omega)) ?_ | refine app_row vt_el_40 (by exact rfl) (by simp) (by exact rfl) (by simp) (by first | (simp; done) | (simp; omega)) ?_
    simp
    simp [hB, hC, enCnf, enRow, e1, eInt]
  have hx1 : ks[i]? = some ks[i] := List.getElem?_eq_getElem hlt
  have hnx := coneCls_snoc (x := x) hx1
  have hcl := coneCls_len (x := x) (ks.take i)
  have hk := hm _ (List.getElem_mem hlt)
  have w4 : IntKind.i64.wrap ((i : Int) + 1) = (i : Int) + 1 := wrap_id (by omega) (by omega)
  have hco : clsOf x ks[i] = if firstG x ≤ ks[i].toNat then andCl x ks[i].toNat else [] := rfl
  have hi2 : (ks.take i).length ≤ 400 := by simp; omega
  generalize coneCls x (ks.take i) = cs at *
  generalize clsOf x ks[i] = co at *
  generalize ks[i] = k at *
  obtain ⟨u, rfl⟩ : ∃ u : Nat, k = u := ⟨k.toNat, by omega⟩
  rw [Int.toNat_natCast] at hco
  by_cases hF1 : firstG x ≤ u
  case neg =>
    rw [if_neg hF1] at hco
    subst hco
    simp [decide_eq_true hlt, hx1]
    refine ⟨by kernel_rfl, ?_⟩
    refine call_step (sFirst_con x ⟨n1, n2⟩ n3) ?_
    simp [enGr, w4, show (u : Int) < 1 + x.1 + x.2.1.length by omega]
    exact round_of hI hS hμ (i + 1) (by omega) (by omega) ⟨[0, 1, 2, 3, 4, 5], by simp [hnx]⟩
  rw [if_pos hF1] at hco
  obtain ⟨ha, a1, a2, a3, a4, a5, a6⟩ := and_at hok hF1 (by omega)
  have w5 : IntKind.i64.wrap ((u : Int) - (1 + x.1 + x.2.1.length)) = (u : Int) - (1 + x.1 + x.2.1.length) := wrap_id (by omega) (by omega)
  have ht : ((u : Int) - (1 + x.1 + x.2.1.length)).toNat = u - firstG x := by omega
  have hL : (enAnd (andAt x u)).length = 2 := rfl
  have hn0 : ¬ (u : Int) - (1 + x.1 + x.2.1.length) < 0 := by omega
  have hac : andCl x u = [[-((u : Int) + 1), litVarL (andAt x u).1], [-((u : Int) + 1), litVarL (andAt x u).2], [(u : Int) + 1, -litVarL (andAt x u).1, -litVarL (andAt x u).2]] := rfl
  rw [hac] at hco
  have lA := litVarL_rng (andAt x u).1
  have lB := litVarL_rng (andAt x u).2
  have kA := sLitVar_con (andAt x u).1
  have kB := sLitVar_con (andAt x u).2
  generalize litVarL (andAt x u).1 = va at *
  generalize litVarL (andAt x u).2 = vb at *
  obtain ⟨g, hg⟩ : ∃ g, (u : Int) + 1 = g := ⟨_, rfl⟩
  rw [hg] at hco
  have w6 : IntKind.i64.wrap ((u : Int) + 1) = g := by rw [← hg]; exact wrap_id (by omega) (by omega)
  have w7 : IntKind.i64.wrap (-g) = -g := wrap_id (by omega) (by omega)
  have w8 : IntKind.i64.wrap (-va) = -va := wrap_id (by omega) (by omega)
  have w9 : IntKind.i64.wrap (-vb) = -vb := wrap_id (by omega) (by omega)
  have hun : u < grN x := Int.ofNat_lt.1 hk.2
  subst hco
  simp [decide_eq_true hlt, hx1]
  refine ⟨by kernel_rfl, ?_⟩
  refine call_step (sFirst_con x ⟨n1, n2⟩ n3) ?_
  simp [enGr, hx1, show ¬ (u : Int) < 1 + x.1 + x.2.1.length by omega]
  refine ⟨by kernel_rfl, ?_⟩
  refine call_step (sFirst_con x ⟨n1, n2⟩ n3) ?_
  simp [w5, ht, ha, hL, hn0, enAnd, enGr, w6, hx1]
  refine call_step (kA) ?_
  simp
  refine call_step (kB) ?_
  simp [w7, w8, w9]
  first | refine app_lit (q := 1) vt_el_40 (by exact rfl) (by simp) (by exact rfl) (by exact rfl) (by simp) (by simp) (by first | (simp; done) | (simp; omega)) ?_ | refine app_row vt_el_40 (by exact rfl) (by simp) (by exact rfl) (by simp) (by first | (simp; done) | (simp; omega)) ?_
  simp [w4]
  exact round_of hI hS hμ (i + 1) (by omega) (by omega) ⟨[0, 1, 2, 11, 4, 5], by simp [hnx, enRow, e1, eInt]⟩
end Go.Proofs.Ytoppcdccplgalaa
