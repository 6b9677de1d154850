/-
  Formulas, values, units and propagation, by abstract walks: both sides.
  Conditions: those typed in each theorem.
-/
import Derived.Test.YtoppcdccplgalaaQk
import Derived.Test.YtoppcdccplgalaaNp
namespace Go.Proofs.Ytoppcdccplgalaa
open Go.RowKit Go.ChangeShapes Go.WideShapes
set_option linter.unusedVariables false
set_option linter.unusedSimpArgs false
attribute [local simp ↓] condG_true condG_false condB_true condB_false
attribute [local simp] AWp_skip AWp_region_t AWp_region_d AWp_region_f still_mk AWp_seq AWp_cond condV_bool condB AWp_block AWp_exit AWp_ret
attribute [local simp] AOps_nil AOp_move AOp_assign AOp_pick AOp_binOp AOp_unOp AOp_convert AOp_len AOp_max AOp_min AOp_indexAddr AOp_load
attribute [local simp] AOp_fieldAddr AOp_field AOp_extract AOp_nilCheck AOp_build AOp_alloc AOp_box AOp_call AOp_store AOp_append AOp_buildSlice nextB_some
attribute [local simp] nextB_none adoptO adoptC AOp_makeSlice AOp_slice AOp_makeFunc AOp_guard guardD_some guardG_bool guardG_undef nextO_some nextS_some
attribute [local simp] nextZ_some nextL_some nextM_some nextT_some sliceO sliceL sliceT partO partV boundV funcO pickO
attribute [local simp] convO lenO maxO minO idxO extO nilO buildO litO litC makeO chunks
attribute [local simp] fillV placeOf thenA inBlockA St.get St.put St.eval ofCell evalT abin_add abin_sub abin_mul
attribute [local simp] abin_quo abin_rem abin_and abin_or abin_xor abin_andNot abin_shl abin_shr abin_shlu abin_eql abin_eqp abin_neq
attribute [local simp] abin_lss abin_leq abin_gtr abin_geq abin_eqlb abin_neqb aun pickV lenV intOf? indexV takeD
attribute [local simp] takeV loadV fieldAddrV fieldV ofX presD presDs pres presAll cellsV V.cell storeV
attribute [local simp] freezeC putAt kill takeC plains plainV scalarV nat_neg keepT sets eSl e1
attribute [local simp] e2 e3 e4 eInt eBool afterCall inst inst1 inst1s instD instDs RetA
attribute [local simp] resVs resV gives give1 give1s Le isPin leSlots leS leTmps leV le0
attribute [local simp] le0s ren ren0 renS ren0s frame enterT afterT_some afterC_some lives Slot.live arrsOk
attribute [local simp] viewV view0 renT rens renSs setAll List.range'_succ RetT RetW joinV leT AOpsE_nil
attribute [local simp] AOpsE_cons AOpsT_nil AOpsT_cons isCallT callOf condC_true condC_false beginT_mk thenT_mk pickE pickT isT
attribute [local simp] loose namesOf namesV names1 names0 stableN sameAt Op.operands Call.operands
def litsB (v : Int) (cl : List Int) : Bool := cl.all (litOk v)
def clsB (v : Int) (cls : List RowD) : Bool := cls.all (clauseOkL v)
theorem iClauseOk_con (cl : List Int) (v : Int) (hv : 0 ≤ v ∧ v ≤ 400) (hl : cl.length ≤ 1048576) : ConC Try.prog 195 [ints cl, .d (.int .i64 v)] (.d (.bool (clauseOkL v cl))) := by
  have hB : clauseOkL v cl = (decide (cl.length ≤ 400) && litsB v cl) := rfl
  rw [hB]
  refine con_of (by kernel_rfl) Try.func195 rfl rfl rfl ?_
  by_cases h4 : cl.length ≤ 400
  case neg => simp [h4, show (400 : Int) < cl.length by omega, show ¬ (cl.length : Int) ≤ 400 by omega]
  have wn : IntKind.i64.wrap (-v) = -v := wrap_id (by omega) (by omega)
  simp [show ¬ (400 : Int) < cl.length by omega, show (cl.length : Int) ≤ 400 by omega, h4]
  refine aw_loopU [false, true, false, false, false, false, false, false, false, false, true, true, true, false, false, false, false, false, false, false, false, false, false, false, false, false, false] (fun k : Nat => k ≤ cl.length ∧ litsB v (cl.take k) = true) (fun k : Nat => [(12, .d (.int .i64 k))]) (fun k : Nat => []) (fun k : Nat => cl.length - k) 0 ?_ ?_ ?_
  · exact ⟨by omega, rfl⟩
  · exact ⟨[], by simp⟩
  rintro I S μ hI hS hμ k ⟨hk, ha⟩
  by_cases hlt : k < cl.length
  · have hx1 : cl[k]? = some cl[k] := List.getElem?_eq_getElem hlt
    have w2 : IntKind.i64.wrap ((k : Int) + 1) = (k : Int) + 1 := wrap_id (by omega) (by omega)
    have hd : decide (k < cl.length) = true := decide_eq_true hlt
    have hsn : litsB v (cl.take (k + 1)) = (litsB v (cl.take k) && litOk v cl[k]) := all_snoc' hx1
    have hno : litOk v cl[k] = false → litsB v cl = false := all_not' hx1
    have hlo : litOk v cl[k] = (!(cl[k] == 0) && rng cl[k] (-v) v) := rfl
    generalize cl[k] = y at *
    by_cases hy : y = 0
    · have hz := hno (by rw [hlo, hy]; rfl)
      simp [hd, hx1, hy, hz]
    have hy2 : (y == 0) = false := by simpa using hy
    simp [hd, hx1, hy, hy2, wn]
    refine call_step (inr_con _ _ _) ?_
    simp
    rcases Bool.eq_false_or_eq_true (rng y (-v) v) with hr | hr
    · simp [hr, w2]
      exact round_of hI hS hμ (k + 1) ⟨by omega, by rw [hsn, ha, hlo, hr, hy2]; rfl⟩ (by omega) ⟨[], by simp⟩
    · have hz := hno (by rw [hlo, hr]; simp)
      simp [hr, hz]
  · have hk' : k = cl.length := by omega
    rw [hk', List.take_length] at ha
    simp [hlt, ha]
theorem sClauseOk_con (cl : List Int) (v : Int) (hv : 0 ≤ v ∧ v ≤ 400) (hl : cl.length ≤ 1048576) : ConC Try.prog 193 [.d (.int .i64 v), ints cl] (.d (.bool (clauseOkL v cl))) := by
  have hB : clauseOkL v cl = (decide (cl.length ≤ 400) && litsB v cl) := rfl
  rw [hB]
  refine con_of (by kernel_rfl) Try.func193 rfl rfl rfl ?_
  by_cases h4 : cl.length ≤ 400
  case neg => simp [h4, show (400 : Int) < cl.length by omega, show ¬ (cl.length : Int) ≤ 400 by omega]
  have wn : IntKind.i64.wrap (-v) = -v := wrap_id (by omega) (by omega)
  simp [show ¬ (400 : Int) < cl.length by omega, show (cl.length : Int) ≤ 400 by omega, h4]
  refine aw_loopU [true, true, false, false, false, true, false, false, false, false, false, false, false, false, false, false, false, false, false, false, false, false, false, false, false, false, false, false, false, false, false] (fun k : Nat => k ≤ cl.length ∧ litsB v (cl.take k) = true) (fun k : Nat => [(5, .d (.int .i64 k))]) (fun k : Nat => []) (fun k : Nat => cl.length - k) 0 ?_ ?_ ?_
  · exact ⟨by omega, rfl⟩
  · exact ⟨[], by simp⟩
  rintro I S μ hI hS hμ k ⟨hk, ha⟩
  by_cases hlt : k < cl.length
  · have hx1 : cl[k]? = some cl[k] := List.getElem?_eq_getElem hlt
    have w2 : IntKind.i64.wrap ((k : Int) + 1) = (k : Int) + 1 := wrap_id (by omega) (by omega)
    have hd : decide (k < cl.length) = true := decide_eq_true hlt
    have hsn : litsB v (cl.take (k + 1)) = (litsB v (cl.take k) && litOk v cl[k]) := all_snoc' hx1
    have hno : litOk v cl[k] = false → litsB v cl = false := all_not' hx1
    have hlo : litOk v cl[k] = (!(cl[k] == 0) && rng cl[k] (-v) v) := rfl
    generalize cl[k] = y at *
    by_cases hy : y = 0
    · have hz := hno (by rw [hlo, hy]; rfl)
      simp [hd, hx1, hy, hz]
    have hy2 : (y == 0) = false := by simpa using hy
    simp [hd, hx1, hy, hy2, wn]
    refine call_step (sInr_con _ _ _) ?_
    simp
    rcases Bool.eq_false_or_eq_true (rng y (-v) v) with hr | hr
    · simp [hr, w2]
      exact round_of hI hS hμ (k + 1) ⟨by omega, by rw [hsn, ha, hlo, hr, hy2]; rfl⟩ (by omega) ⟨[], by simp⟩
    · have hz := hno (by rw [hlo, hr]; simp)
      simp [hr, hz]
  · have hk' : k = cl.length := by omega
    rw [hk', List.take_length] at ha
    simp [hlt, ha]
theorem iCnfOk_con (x : CnfD) (hx : fitCn 1048576 x) : ConC Try.prog 178 [icnf x] (.d (.bool (cnfOkL x.1 x.2))) := by
  obtain ⟨v, cls⟩ := x
  obtain ⟨hx1', hx2⟩ := hx
  have hB : cnfOkL v cls = (rng v 0 400 && decide (cls.length ≤ 1600) && clsB v cls) := rfl
  simp only at hx1' hx2
  simp only [hB]
  refine con_of (by kernel_rfl) Try.func178 rfl rfl rfl ?_
  simp [enCnf]
  refine call_step (inr_con _ _ _) ?_
  simp
  rcases Bool.eq_false_or_eq_true (rng v 0 400) with hv | hv
  case inr => simp [hv]
  have hv2 := rng_iff.1 hv
  by_cases h4 : cls.length ≤ 1600
  case neg => simp [hv, h4, show (1600 : Int) < cls.length by omega, show ¬ (cls.length : Int) ≤ 1600 by omega]
  simp [hv, show ¬ (1600 : Int) < cls.length by omega, show (cls.length : Int) ≤ 1600 by omega, h4]
  refine aw_loopU [false, true, false, false, false, false, false, false, false, false, false, false, false, false, false, false, true, true, true, false, false, false, false, false, false, false, false, false] (fun k : Nat => k ≤ cls.length ∧ clsB v (cls.take k) = true) (fun k : Nat => [(18, .d (.int .i64 k))]) (fun k : Nat => []) (fun k : Nat => cls.length - k) 0 ?_ ?_ ?_
  · exact ⟨by omega, rfl⟩
  · exact ⟨[0], by simp⟩
  rintro I S μ hI hS hμ k ⟨hk, ha⟩
  by_cases hlt : k < cls.length
  · have hx1 : cls[k]? = some cls[k] := List.getElem?_eq_getElem hlt
    have hL : (enRow cls[k]).length = 1 := rfl
    have w2 : IntKind.i64.wrap ((k : Int) + 1) = (k : Int) + 1 := wrap_id (by omega) (by omega)
    have hd : decide (k < cls.length) = true := decide_eq_true hlt
    have hsn : clsB v (cls.take (k + 1)) = (clsB v (cls.take k) && clauseOkL v cls[k]) := all_snoc' hx1
    have hno : clauseOkL v cls[k] = false → clsB v cls = false := all_not' hx1
    have hcl := hx2 _ (List.getElem_mem hlt)
    generalize cls[k] = y at *
    simp [hd, hx1, hL, enRow]
    refine call_step (iClauseOk_con y v hv2 hcl) ?_
    simp
    rcases Bool.eq_false_or_eq_true (clauseOkL v y) with hr | hr
    · simp [hr, w2]
      exact round_of hI hS hμ (k + 1) ⟨by omega, by rw [hsn, ha, hr]; rfl⟩ (by omega) ⟨[0], by simp⟩
    · have hz := hno hr
      simp [hr, hz]
  · have hk' : k = cls.length := by omega
    rw [hk', List.take_length] at ha
    simp [hlt, ha]
theorem sCnfOk_con (x : CnfD) (hx : fitCn 1048576 x) : ConC Try.prog 176 [icnf x] (.d (.bool (cnfOkL x.1 x.2))) := by
  obtain ⟨v, cls⟩ := x
  obtain ⟨hx1', hx2⟩ := hx
  have hB : cnfOkL v cls = (rng v 0 400 && decide (cls.length ≤ 1600) && clsB v cls) := rfl
  simp only at hx1' hx2
  simp only [hB]
  refine con_of (by kernel_rfl) Try.func176 rfl rfl rfl ?_
  simp [enCnf]
  refine call_step (sInr_con _ _ _) ?_
  simp
  rcases Bool.eq_false_or_eq_true (rng v 0 400) with hv | hv
  case inr => simp [hv]
  have hv2 := rng_iff.1 hv
  by_cases h4 : cls.length ≤ 1600
  case neg => simp [hv, h4, show (1600 : Int) < cls.length by omega, show ¬ (cls.length : Int) ≤ 1600 by omega]
  simp [hv, show ¬ (1600 : Int) < cls.length by omega, show (cls.length : Int) ≤ 1600 by omega, h4]
  refine aw_loopU [false, true, false, true, false, false, false, false, false, false, false, false, false, false, false, false, false, false, false, false, false, false, false, false, false, false, false, false, false, false] (fun k : Nat => k ≤ cls.length ∧ clsB v (cls.take k) = true) (fun k : Nat => [(3, .d (.int .i64 k))]) (fun k : Nat => []) (fun k : Nat => cls.length - k) 0 ?_ ?_ ?_
  · exact ⟨by omega, rfl⟩
  · exact ⟨[0], by simp⟩
  rintro I S μ hI hS hμ k ⟨hk, ha⟩
  by_cases hlt : k < cls.length
  · have hx1 : cls[k]? = some cls[k] := List.getElem?_eq_getElem hlt
    have hL : (enRow cls[k]).length = 1 := rfl
    have w2 : IntKind.i64.wrap ((k : Int) + 1) = (k : Int) + 1 := wrap_id (by omega) (by omega)
    have hd : decide (k < cls.length) = true := decide_eq_true hlt
    have hsn : clsB v (cls.take (k + 1)) = (clsB v (cls.take k) && clauseOkL v cls[k]) := all_snoc' hx1
    have hno : clauseOkL v cls[k] = false → clsB v cls = false := all_not' hx1
    have hcl := hx2 _ (List.getElem_mem hlt)
    generalize cls[k] = y at *
    simp [hd, hx1, hL, enRow]
    refine ⟨by kernel_rfl, ?_⟩
    refine call_step (sClauseOk_con y v hv2 hcl) ?_
    simp
    rcases Bool.eq_false_or_eq_true (clauseOkL v y) with hr | hr
    · simp [hr, w2]
      exact round_of hI hS hμ (k + 1) ⟨by omega, by rw [hsn, ha, hr]; rfl⟩ (by omega) ⟨[0], by simp⟩
    · have hz := hno hr
      simp [hr, hz]
  · have hk' : k = cls.length := by omega
    rw [hk', List.take_length] at ha
    simp [hlt, ha]
theorem lit_cases {n : Nat} {l : Int} (h : litIn n l) : (∃ m : Nat, m < n ∧ l = (m : Int) + 1) ∨ (∃ m : Nat, m < n ∧ l = -((m : Int) + 1)) := by
  obtain ⟨h1, h2, h3⟩ := h
  by_cases hp : 0 < l
  · exact .inl ⟨(l - 1).toNat, by omega, by omega⟩
  · exact .inr ⟨(-l - 1).toNat, by omega, by omega⟩
theorem val_pos {p : List Int} {m : Nat} : valOf p ((m : Int) + 1) = p.getD m 0 := by
  unfold valOf
  rw [if_neg (by omega)]
  congr 1
  omega
theorem val_neg {p : List Int} {m : Nat} : valOf p (-((m : Int) + 1)) = -(p.getD m 0) := by
  unfold valOf
  rw [if_pos (by omega)]
  congr 2
  omega
theorem getD_some {p : List Int} {m : Nat} (h : m < p.length) : p[m]? = some (p.getD m 0) := by
  rw [List.getD_eq_getElem?_getD, List.getElem?_eq_getElem h]
  rfl
theorem trit_at {p : List Int} (ht : trits p) (m : Nat) : -1 ≤ p.getD m 0 ∧ p.getD m 0 ≤ 1 := by
  rw [List.getD_eq_getElem?_getD]
  cases h : p[m]? with
  | none => simp
  | some x => exact ht x (List.mem_of_getElem? h)
theorem iVal_con (p : List Int) (l : Int) (hp : p.length ≤ 1048576) (ht : trits p) (hl : litIn p.length l) : ConC Try.prog 216 [ints p, .d (.int .i64 l)] (.d (.int .i64 (valOf p l))) := by
  refine con_of (by kernel_rfl) Try.func216 rfl rfl rfl ?_
  rcases lit_cases hl with ⟨m, hm, e⟩ | ⟨m, hm, e⟩
  · have hg := getD_some hm
    have w1 : IntKind.i64.wrap (l - 1) = (m : Int) := by rw [wrap_id (by omega) (by omega)]; omega
    have hv : valOf p l = p.getD m 0 := by rw [e]; exact val_pos
    rw [hv]
    generalize p.getD m 0 = q at *
    simp [show ¬ l < 0 by omega, w1, hg]
  · have hg := getD_some hm
    have htr := trit_at ht m
    have w0 : IntKind.i64.wrap (-l) = (m : Int) + 1 := by rw [wrap_id (by omega) (by omega)]; omega
    have w1 : IntKind.i64.wrap (m : Int) = (m : Int) := wrap_id (by omega) (by omega)
    have hv : valOf p l = -(p.getD m 0) := by rw [e]; exact val_neg
    rw [hv]
    generalize p.getD m 0 = q at *
    have w3 : IntKind.i64.wrap (-q) = -q := wrap_id (by omega) (by omega)
    simp [show l < 0 by omega, w0, w1, hg, w3]
theorem sVal_con (p : List Int) (l : Int) (hp : p.length ≤ 1048576) (ht : trits p) (hl : litIn p.length l) : ConC Try.prog 215 [ints p, .d (.int .i64 l)] (.d (.int .i64 (valOf p l))) := by
  refine con_of (by kernel_rfl) Try.func215 rfl rfl rfl ?_
  rcases lit_cases hl with ⟨m, hm, e⟩ | ⟨m, hm, e⟩
  · have hg := getD_some hm
    have w1 : IntKind.i64.wrap (l - 1) = (m : Int) := by rw [wrap_id (by omega) (by omega)]; omega
    have hv : valOf p l = p.getD m 0 := by rw [e]; exact val_pos
    rw [hv]
    generalize p.getD m 0 = q at *
    simp [show 0 < l by omega, w1, hg]
  · have hg := getD_some hm
    have htr := trit_at ht m
    have w0 : IntKind.i64.wrap (-l) = (m : Int) + 1 := by rw [wrap_id (by omega) (by omega)]; omega
    have w1 : IntKind.i64.wrap (m : Int) = (m : Int) := wrap_id (by omega) (by omega)
    have hv : valOf p l = -(p.getD m 0) := by rw [e]; exact val_neg
    rw [hv]
    generalize p.getD m 0 = q at *
    have w3 : IntKind.i64.wrap (-q) = -q := wrap_id (by omega) (by omega)
    simp [show ¬ 0 < l by omega, w0, w1, hg, w3]
theorem copyIs_con (xs : List Int) (h : xs.length ≤ 1048576) : ConC Try.prog 165 [.d (eSl 3 (e1 eInt) xs)] (.d (eSl 3 (e1 eInt) xs)) := by
  refine con_of (by kernel_rfl) Try.func165 rfl rfl rfl ?_
  simp
  refine app_data vt_el_24 rfl (by simp) rfl (by simp) (by simp) (by first | (simp; done) | (simp; omega)) (by simp [flatP, flatD]) ?_
  simp
theorem unit_at {cl p : List Int} {k : Nat} {x u : Int} (hx : cl[k]? = some x) : unitGo p (cl.drop k) u = if valOf p x = 1 then (0, false) else if valOf p x = 0 then (if u ≠ 0 ∧ u ≠ x then (0, false) else unitGo p (cl.drop (k + 1)) x) else unitGo p (cl.drop (k + 1)) u := by
  obtain ⟨hk, rfl⟩ := List.getElem?_eq_some_iff.1 hx
  rw [List.drop_eq_getElem_cons hk, unitGo]
set_option maxRecDepth 100000 in
theorem iUnit_con (cl p : List Int) (hc : cl.length ≤ 1048576) (hp : p.length ≤ 1048576) (ht : trits p) (hl : ∀ l ∈ cl, litIn p.length l) : ConC Try.prog 228 [ints cl, ints p] (.tup [.d (.int .i64 (unitOf p cl).1), .d (.bool (unitOf p cl).2)]) := by
  refine con_of (by kernel_rfl) Try.func228 rfl rfl rfl ?_
  simp
  refine aw_loopU [false, true, false, false, false, false, true, false, false, true, true, true, false, false, false, false, false, false, false, false, false, false, false, false, false, false, false, false, false, false, false, false, false, false] (fun i : Nat × Int => i.1 ≤ cl.length ∧ unitGo p (cl.drop i.1) i.2 = unitOf p cl) (fun i : Nat × Int => [(6, .d (.int .i64 i.2)), (11, .d (.int .i64 i.1))]) (fun i : Nat × Int => []) (fun i : Nat × Int => cl.length - i.1) (0, 0) ?_ ?_ ?_
  · exact ⟨Nat.zero_le _, by simp [unitOf]⟩
  · exact ⟨[], by simp⟩
  rintro I S μ hI hS hμ ⟨k, u⟩ ⟨hk, hs⟩
  simp only at hk hs
  by_cases hlt : k < cl.length
  · have hx1 : cl[k]? = some cl[k] := List.getElem?_eq_getElem hlt
    have w2 : IntKind.i64.wrap ((k : Int) + 1) = (k : Int) + 1 := wrap_id (by omega) (by omega)
    have hd : decide (k < cl.length) = true := decide_eq_true hlt
    have hli := hl _ (List.getElem_mem hlt)
    rw [unit_at hx1] at hs
    generalize cl[k] = x at *
    have hc1 := iVal_con p x hp ht hli
    generalize valOf p x = v at *
    generalize unitOf p cl = R at *
    simp [hd, hx1]
    refine call_step (hc1) ?_
    simp
    by_cases h1 : v = 1
    · rw [if_pos h1] at hs
      subst h1
      simp [← hs]
    rw [if_neg h1] at hs
    have h1' : (v == 1) = false := by simpa using h1
    by_cases h0 : v = 0
    case neg =>
      rw [if_neg h0] at hs
      simp [h1, h1', h0, show (v == 0) = false by simpa using h0, w2]
      exact round_of hI hS hμ (k + 1, u) ⟨by simp; omega, hs⟩ (by simp; omega) ⟨[], by simp⟩
    rw [if_pos h0] at hs
    subst h0
    by_cases hu : u = 0
    · rw [if_neg (by simp [hu])] at hs
      simp [h1, h1', hu, w2]
      exact round_of hI hS hμ (k + 1, x) ⟨by simp; omega, hs⟩ (by simp; omega) ⟨[], by simp⟩
    by_cases hux : u = x
    · rw [if_neg (by simp [hux])] at hs
      subst hux
      simp [h1, h1', hu, show (u != 0) = true by simpa using hu, w2]
      exact round_of hI hS hμ (k + 1, u) ⟨by simp; omega, hs⟩ (by simp; omega) ⟨[], by simp⟩
    · rw [if_pos ⟨hu, hux⟩] at hs
      simp [h1, h1', hu, show (u != 0) = true by simpa using hu, hux, show (u != x) = true by simpa using hux, ← hs]
  · have hk' : k = cl.length := by omega
    subst hk'
    rw [List.drop_length, unitGo] at hs
    generalize unitOf p cl = R at *
    simp [hlt, ← hs]
theorem pass_at' {cls : List RowD} {k : Nat} {x : RowD} (hx : cls[k]? = some x) (q : List Int) (b : Bool) :
    passL (cls.drop k) q b = if (unitOf q x).2 = true then none else if (unitOf q x).1 = 0 then passL (cls.drop (k + 1)) q b else passL (cls.drop (k + 1)) (setLit q (unitOf q x).1) true := passL_at hx q b
abbrev optI (R : Option (List Int)) : X := .tup [ints (R.getD []), .d (.bool R.isSome)]
theorem map_setI {q : List Int} {m : Nat} {v : Int} : (q.map (e1 eInt)).set m [.int .i64 v] = (q.set m v).map (e1 eInt) := by rw [List.map_set]; rfl
set_option maxRecDepth 100000 in
set_option maxHeartbeats 1000000 in
theorem iProp_con (cls : List RowD) (p : List Int) (R : Option (List Int)) (hR : propL cls p = R) (hc : fitRw 1048576 cls) (hp : p.length ≤ 1048576) (ht : trits p) (hl : clausesIn p.length cls) : ConC Try.prog 211 [irows cls, ints p] (optI R) := by
  obtain ⟨hc1, hc2⟩ := hc
  refine con_of (by kernel_rfl) Try.func211 rfl rfl rfl ?_
  simp
  refine call_step (copyIs_con p hp) ?_
  simp
  refine aw_loopU [true, false, false, false, false, false, true, true, false, false, false, false, false, false, false, false, false, false, false, false, false, false, false, false, false, false, false, false, false, false, false, false, false, false, false, false, false, false, false, false, false, false, false] (fun i : List Int × Bool => i.1.length = p.length ∧ trits i.1 ∧ (i.2 = true → propL cls i.1 = R) ∧ (i.2 = false → R = some i.1)) (fun i : List Int × Bool => [(7, .d (.bool i.2))]) (fun i : List Int × Bool => [(0, .arr 3 true (i.1.map (e1 eInt)))]) (fun i : List Int × Bool => 2 * zerosL i.1 + (if i.2 = true then 1 else 0)) (p, true) ?_ ?_ ?_
  · exact ⟨rfl, ht, fun _ => hR, fun h => by cases h⟩
  · exact ⟨[0], by simp⟩
  rintro I S μ hI hS hμ ⟨q, ch⟩ ⟨hq, hqt, hct, hcf⟩
  simp only at hq hqt hct hcf
  cases ch with
  | false =>
    have hR2 := hcf rfl
    subst hR2
    simp
  | true =>
    have hR2 := hct rfl
    have hpr := propL_step (cls := cls) (p := q) (by rw [hq]; exact hl) hqt
    have hpf := fun p' ch' => passL_facts (cls := cls) (p := q) (p' := p') (ch := false) (ch' := ch') (by rw [hq]; exact hl) hqt
    rw [hR2] at hpr
    simp
    refine aw_loopU [true, false, false, false, false, false, true, true, false, false, false, false, false, false, false, true, true, true, false, false, false, false, false, false, false, false, false, false, false, false, false, false, false, false, false, false, false, false, false, false, false, false, false] (fun i : Nat × List Int × Bool => i.1 ≤ cls.length ∧ i.2.1.length = p.length ∧ trits i.2.1 ∧ passL (cls.drop i.1) i.2.1 i.2.2 = passL cls q false) (fun i : Nat × List Int × Bool => [(7, .d (.bool i.2.2)), (17, .d (.int .i64 i.1))]) (fun i : Nat × List Int × Bool => [(0, .arr 3 true (i.2.1.map (e1 eInt)))]) (fun i : Nat × List Int × Bool => cls.length - i.1) (0, q, false) ?_ ?_ ?_
    · exact ⟨Nat.zero_le _, hq, hqt, rfl⟩
    · exact ⟨[0], by simp⟩
    rintro I2 S2 μ2 hI2 hS2 hμ2 ⟨k, q2, ch2⟩ ⟨hk, hq2, hqt2, hps⟩
    simp only at hk hq2 hqt2 hps
    by_cases hlt : k < cls.length
    · have hx1 : cls[k]? = some cls[k] := List.getElem?_eq_getElem hlt
      have hL : (enRow cls[k]).length = 1 := rfl
      have w2 : IntKind.i64.wrap ((k : Int) + 1) = (k : Int) + 1 := wrap_id (by omega) (by omega)
      have hd : decide (k < cls.length) = true := decide_eq_true hlt
      have hcl := hc2 _ (List.getElem_mem hlt)
      have hli : ∀ l ∈ cls[k], litIn q2.length l := by rw [hq2]; exact hl _ (List.getElem_mem hlt)
      rw [pass_at' hx1] at hps
      generalize cls[k] = c at *
      have hcu := iUnit_con c q2 hcl (by omega) hqt2 hli
      have hum := unitOf_mem (p := q2) (cl := c)
      generalize unitOf q2 c = uc at *
      obtain ⟨u, cf⟩ := uc
      simp only at hps hum hcu
      simp [hd, hx1, hL, enRow]
      refine call_step (hcu) ?_
      simp
      cases cf with
      | true =>
        rw [if_pos rfl] at hps
        rw [← hps] at hpr
        simp only at hpr
        simp [hpr]
      | false =>
        rw [if_neg (by simp)] at hps
        by_cases hu0 : u = 0
        · rw [if_pos hu0] at hps
          subst hu0
          simp [w2]
          exact round_of hI2 hS2 hμ2 (k + 1, q2, ch2) ⟨by simp; omega, hq2, hqt2, hps⟩ (by simp; omega) ⟨[0], by simp⟩
        rw [if_neg hu0] at hps
        have hul : litIn q2.length u := hli u (hum hu0).1
        have hts := trits_setLit hqt2 u
        have hls := setLit_len q2 u
        rcases lit_cases hul with ⟨m, hm, e⟩ | ⟨m, hm, e⟩
        · have hse : setLit q2 u = q2.set m 1 := by rw [e]; exact setLit_pos q2 m
          rw [hse] at hps hts hls
          have hg := getD_some hm
          have w3 : IntKind.i64.wrap (u - 1) = (m : Int) := by rw [wrap_id (by omega) (by omega)]; omega
          have hset := map_setI (q := q2) (m := m) (v := 1)
          generalize q2.set m 1 = q3 at *
          generalize q2.getD m 0 = z0 at hg
          simp [show 0 < u by omega, show ¬ u < 0 by omega, show ¬ u ≤ 0 by omega, show 0 ≤ u by omega, w3, hg, hset, w2]
          exact round_of hI2 hS2 hμ2 (k + 1, q3, true) ⟨by simp; omega, by simp; omega, hts, hps⟩ (by simp; omega) ⟨[0], by simp⟩
        · have hse : setLit q2 u = q2.set m (-1) := by rw [e]; exact setLit_neg q2 m
          rw [hse] at hps hts hls
          have hg := getD_some hm
          have w3 : IntKind.i64.wrap (-u) = (m : Int) + 1 := by rw [wrap_id (by omega) (by omega)]; omega
          have w4 : IntKind.i64.wrap (m : Int) = (m : Int) := wrap_id (by omega) (by omega)
          have hset := map_setI (q := q2) (m := m) (v := -1)
          generalize q2.set m (-1) = q3 at *
          generalize q2.getD m 0 = z0 at hg
          simp [show ¬ 0 < u by omega, show u < 0 by omega, show u ≤ 0 by omega, show ¬ 0 ≤ u by omega, w3, w4, hg, hset, w2]
          exact round_of hI2 hS2 hμ2 (k + 1, q3, true) ⟨by simp; omega, by simp; omega, hts, hps⟩ (by simp; omega) ⟨[0], by simp⟩
    · have hk' : k = cls.length := by omega
      subst hk'
      rw [List.drop_length, passL] at hps
      rw [← hps] at hpr
      obtain ⟨f1, f2, f3, f4, f5⟩ := hpf q2 ch2 hps.symm
      simp [hlt]
      refine round_of hI hS hμ (q2, ch2) ⟨hq2, hqt2, fun h => ?_, fun h => ?_⟩ ?_ ⟨[0], by simp⟩
      · subst h; exact hpr.symm
      · subst h; exact hpr
      · cases ch2 with
        | true => have := f4 rfl rfl; simp; omega
        | false => simp; omega
end Go.Proofs.Ytoppcdccplgalaa
