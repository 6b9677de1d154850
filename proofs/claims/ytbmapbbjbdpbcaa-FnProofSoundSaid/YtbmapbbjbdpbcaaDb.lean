/-
  Drawn formulas and assignments.
  Conditions: those typed in each theorem.
-/
import Derived.Test.YtbmapbbjbdpbcaaDa
import Derived.Test.YtbmapbbjbdpbcaaQk
namespace Go.Proofs.Ytbmapbbjbdpbcaa
open Go.RowKit Go.ChangeShapes Go.WideShapes
set_option linter.unusedVariables false
set_option linter.unusedSimpArgs false
attribute [local simp ↓] condG_true condG_false condB_true condB_false
attribute [local simp] AWp_skip AWp_region_t AWp_region_d AWp_region_f still_mk AWp_seq AWp_cond condV_bool condB AWp_block AWp_exit AWp_ret
attribute [local simp] AOps_nil AOp_move AOp_assign AOp_pick AOp_binOp AOp_unOp AOp_convert AOp_len AOp_max AOp_min AOp_indexAddr AOp_load
attribute [local simp] AOp_fieldAddr AOp_field AOp_extract AOp_nilCheck AOp_build AOp_alloc AOp_box AOp_call AOp_store AOp_append AOp_buildSlice nextB_some
attribute [local simp] nextB_none adoptO adoptC AOp_makeSlice AOp_slice AOp_makeFunc AOp_guard guardD_some guardG_bool guardG_undef nextO_some nextS_some
attribute [local simp] nextZ_some nextL_some nextM_some nextT_some sliceO sliceL sliceT partO partV boundV funcO pickO
attribute [local simp] convO lenO maxO minO idxO extO nilO buildO litO litC makeO chunks
attribute [local simp] fillV placeOf thenA inBlockA St.get St.put St.eval ofCell evalT abin_add abin_sub abin_mul
attribute [local simp] abin_quo abin_rem abin_and abin_or abin_xor abin_andNot abin_shl abin_shr abin_shlu abin_eql abin_neq abin_lss
attribute [local simp] abin_leq abin_gtr abin_geq abin_eqlb abin_neqb aun pickV lenV intOf? indexV takeD takeV
attribute [local simp] loadV fieldAddrV fieldV ofX presD presDs pres presAll cellsV V.cell storeV freezeC
attribute [local simp] putAt kill takeC plains plainV scalarV nat_neg keepT sets eSl e1 e2
attribute [local simp] e3 e4 eInt eBool afterCall inst inst1 inst1s instD instDs RetA resVs
attribute [local simp] resV gives give1 give1s Le isPin leSlots leS leTmps leV le0 le0s
attribute [local simp] ren ren0 renS ren0s frame enterT afterT_some afterC_some lives Slot.live arrsOk viewV
attribute [local simp] view0 renT rens renSs setAll List.range'_succ RetT RetW joinV leT AOpsE_nil AOpsE_cons
attribute [local simp] AOpsT_nil AOpsT_cons isCallT callOf condC_true condC_false beginT_mk thenT_mk pickE pickT isT loose
attribute [local simp] namesOf namesV names1 names0 stableN sameAt Op.operands Call.operands
def litDV (v : Int) (c : Cur) : Int := if onceV (belowC c v) 2 = true then -(1 + belowV c v) else 1 + belowV c v
def litDC (v : Int) (c : Cur) : Cur := belowC (belowC c v) 2
def rowD (v : Int) : Nat → List Int → Cur → List Int × Cur
  | 0, r, c => (r, c)
  | n + 1, r, c => rowD v n (r ++ [litDV v c]) (litDC v c)
def cntV (c : Cur) : Nat := (belowV c 4 + belowV (belowC c 4) 2 * belowV (belowC (belowC c 4) 2) 2).toNat
def cntC (c : Cur) : Cur := belowC (belowC (belowC c 4) 2) 2
def clsD (v : Int) : Nat → List RowD → Cur → List RowD × Cur
  | 0, o, c => (o, c)
  | n + 1, o, c => if 0 < (rowD v (cntV c) [] (cntC c)).1.length then clsD v n (o ++ [(rowD v (cntV c) [] (cntC c)).1]) (rowD v (cntV c) [] (cntC c)).2
    else if onceV (rowD v (cntV c) [] (cntC c)).2 12 = true then clsD v n (o ++ [(rowD v (cntV c) [] (cntC c)).1]) (belowC (rowD v (cntV c) [] (cntC c)).2 12)
    else clsD v n o (belowC (rowD v (cntV c) [] (cntC c)).2 12)
theorem litDC_ok {v : Int} {c : Cur} (h : c.ok) : (litDC v c).ok := belowC_ok (belowC_ok h)
theorem cntC_ok {c : Cur} (h : c.ok) : (cntC c).ok := belowC_ok (belowC_ok (belowC_ok h))
theorem litDV_in {v : Nat} {c : Cur} (hv : 1 ≤ v) : litIn v (litDV v c) := by
  have := belowV_rng c (n := v) (by omega)
  unfold litDV litIn
  split <;> omega
theorem cntV_le (c : Cur) : cntV c ≤ 4 := by
  have h1 := belowV_rng c (n := 4) (by omega)
  have h2 := belowV_rng (belowC c 4) (n := 2) (by omega)
  have h3 := belowV_rng (belowC (belowC c 4) 2) (n := 2) (by omega)
  unfold cntV
  rcases (show belowV (belowC c 4) 2 = 0 ∨ belowV (belowC c 4) 2 = 1 by omega) with h | h <;> rw [h] <;> omega
theorem cntV_eq (c : Cur) : (cntV c : Int) = belowV c 4 + belowV (belowC c 4) 2 * belowV (belowC (belowC c 4) 2) 2 := by
  have h1 := belowV_rng c (n := 4) (by omega)
  have h2 := belowV_rng (belowC c 4) (n := 2) (by omega)
  have h3 := belowV_rng (belowC (belowC c 4) 2) (n := 2) (by omega)
  unfold cntV
  rcases (show belowV (belowC c 4) 2 = 0 ∨ belowV (belowC c 4) 2 = 1 by omega) with h | h <;> rw [h] <;> omega
theorem rowD_facts {v : Nat} (hv : 1 ≤ v) : ∀ (n : Nat) (r : List Int) (c : Cur), c.ok → (∀ l ∈ r, litIn v l) → (rowD v n r c).1.length = r.length + n ∧ (rowD v n r c).2.ok ∧ ∀ l ∈ (rowD v n r c).1, litIn v l
  | 0, r, c, hc, hr => ⟨rfl, hc, hr⟩
  | n + 1, r, c, hc, hr => by
    obtain ⟨h1, h2, h3⟩ := rowD_facts hv n (r ++ [litDV v c]) (litDC v c) (litDC_ok hc) (fun l hl => by
      rcases List.mem_append.1 hl with h | h
      · exact hr l h
      · rw [List.mem_singleton.1 h]; exact litDV_in hv)
    exact ⟨by rw [rowD, h1]; simp; omega, h2, h3⟩
theorem clsD_facts {v : Nat} (hv : 1 ≤ v) : ∀ (n : Nat) (o : List RowD) (c : Cur), c.ok → (∀ r ∈ o, r.length ≤ 4 ∧ ∀ l ∈ r, litIn v l) → (clsD v n o c).1.length ≤ o.length + n ∧ (clsD v n o c).2.ok ∧ ∀ r ∈ (clsD v n o c).1, r.length ≤ 4 ∧ ∀ l ∈ r, litIn v l
  | 0, o, c, hc, hr => ⟨by simp [clsD], hc, hr⟩
  | n + 1, o, c, hc, hr => by
    obtain ⟨k1, k2, k3⟩ := rowD_facts hv (cntV c) [] (cntC c) (cntC_ok hc) (by simp)
    have kl := cntV_le c
    have hr2 : ∀ r ∈ o ++ [(rowD v (cntV c) [] (cntC c)).1], r.length ≤ 4 ∧ ∀ l ∈ r, litIn v l := fun r hm => by
      rcases List.mem_append.1 hm with h | h
      · exact hr r h
      · rw [List.mem_singleton.1 h]; exact ⟨by simp at k1; omega, k3⟩
    unfold clsD
    split
    · obtain ⟨a, b, d⟩ := clsD_facts hv n _ _ k2 hr2
      exact ⟨by simp at a; omega, b, d⟩
    · split
      · obtain ⟨a, b, d⟩ := clsD_facts hv n _ _ (belowC_ok (n := 12) k2) hr2
        exact ⟨by simp at a; omega, b, d⟩
      · obtain ⟨a, b, d⟩ := clsD_facts hv n _ _ (belowC_ok (n := 12) k2) hr
        exact ⟨by omega, b, d⟩
set_option maxRecDepth 100000 in
set_option maxHeartbeats 2000000 in
theorem l21Clauses_conT (c : Cur) (v n : Nat) (hc : c.ok) (hv : 1 ≤ v ∧ v ≤ 256) (hn : n ≤ 256) : ConT Try.prog 67 [.ptr 0 0, .d (.int .i64 v), .d (.int .i64 n)] [enCur c] (.ref 1) [enCur (clsD v n [] c).2, .arr 22 true ((clsD v n [] c).1.map enRow)] := by
  generalize hF : clsD v n [] c = F
  refine conT_of (by kernel_rfl) Try.func67 rfl rfl rfl (by simp [laters, Later]) (by simp [lives, Slot.live]) ?_
  simp
  refine aw_loopU [true, true, true, false, false, false, false, true, true, false, false, false, false, false, false, false, false, false, false, false, false, false, false, false, false, false, false, false, false, false, false, false, false, false, false, false, false, false, false, false, false, false, false, false, false, false, false, false, false, false, false, false, false, false, false, false] (fun i : Nat × List RowD × Cur => i.1 ≤ n ∧ i.2.2.ok ∧ i.2.1.length ≤ i.1 ∧ clsD v (n - i.1) i.2.1 i.2.2 = F) (fun i : Nat × List RowD × Cur => [(8, .d (.int .i64 i.1))]) (fun i : Nat × List RowD × Cur => [(0, enCur i.2.2), (1, .arr 22 true (i.2.1.map enRow))]) (fun i : Nat × List RowD × Cur => n - i.1) (0, [], c) ?_ ?_ ?_
  · exact ⟨by omega, hc, by simp, by simpa using hF⟩
  · exact ⟨[0, 1], by simp⟩
  rintro I S μ hI hS hμ ⟨i, o, c1⟩ ⟨hi, hk, ho, hG⟩
  simp only at hi hk ho hG
  by_cases hlt : i < n
  · have hd : decide (i < n) = true := decide_eq_true hlt
    have w1 : IntKind.i64.wrap ((i : Int) + 1) = (i : Int) + 1 := wrap_id (by omega) (by omega)
    obtain ⟨d, hd1⟩ : ∃ d, n - i = d + 1 := ⟨n - i - 1, by omega⟩
    have hd2 : n - (i + 1) = d := by omega
    rw [hd1] at hG
    unfold clsD at hG
    have e4 := cntV_eq c1
    have e5 := cntV_le c1
    have eC : cntC c1 = belowC (belowC (belowC c1 4) 2) 2 := rfl
    have r1 := belowV_rng c1 (n := 4) (by omega)
    have r2 := belowV_rng (belowC c1 4) (n := 2) (by omega)
    have r3 := belowV_rng (belowC (belowC c1 4) 2) (n := 2) (by omega)
    have k1 := l01Below_conT c1 4 hk (by omega)
    have k2 := l01Below_conT (belowC c1 4) 2 (belowC_ok hk) (by omega)
    have k3 := l01Below_conT (belowC (belowC c1 4) 2) 2 (belowC_ok (belowC_ok hk)) (by omega)
    have hk3 := cntC_ok hk
    rw [← eC] at k3
    generalize cntV c1 = cv at *
    generalize cntC c1 = c4 at *
    generalize belowV (belowC (belowC c1 4) 2) 2 = q3 at *
    generalize belowC (belowC c1 4) 2 = c3 at *
    generalize belowV (belowC c1 4) 2 = q2 at *
    generalize belowC c1 4 = c2 at *
    generalize belowV c1 4 = q1 at *
    have w3 : IntKind.i64.wrap (q2 * q3) = q2 * q3 := by
      rcases (show q2 = 0 ∨ q2 = 1 by omega) with h | h <;> rw [h] <;> exact wrap_id (by omega) (by omega)
    have w4 : IntKind.i64.wrap (q1 + q2 * q3) = (cv : Int) := by rw [← e4]; exact wrap_id (by omega) (by omega)
    have hfr := rowD_facts hv.1 cv [] c4 hk3 (by simp)
    generalize hrow : rowD v cv [] c4 = rw0 at *
    obtain ⟨rw1, rwc⟩ := rw0
    simp [hd]
    refine callT_step (k1) [] [0] (by simp) ?_
    simp
    refine callT_step (k2) [] [0] (by simp) ?_
    simp
    refine callT_step (k3) [] [0] (by simp) ?_
    simp [w3, w4]
    refine aw_loopU [true, true, true, false, false, false, false, true, true, true, true, false, false, false, false, false, false, false, false, false, false, false, false, false, false, false, false, false, false, false, false, false, false, false, false, false, false, false, false, false, false, false, false, false, false, false, false, false, false, false, false, false, false, false, false, false] (fun j : Nat × List Int × Cur => j.2.2.ok ∧ j.2.1.length + j.1 = cv ∧ rowD v j.1 j.2.1 j.2.2 = (rw1, rwc)) (fun j : Nat × List Int × Cur => [(10, .d (.int .i64 j.1))]) (fun j : Nat × List Int × Cur => [(0, enCur j.2.2), (2, .arr 3 true (j.2.1.map (e1 eInt)))]) (fun j : Nat × List Int × Cur => j.1) (cv, [], c4) ?_ ?_ ?_
    · exact ⟨hk3, by simp, hrow⟩
    · exact ⟨[0, 1, 2], by simp⟩
    rintro I2 S2 μ2 hI2 hS2 hμ2 ⟨j, r, cc⟩ ⟨hck, hrl, hrr⟩
    simp only at hck hrl hrr
    cases j with
    | succ j =>
      unfold rowD at hrr
      have w5 : IntKind.i64.wrap (((j + 1 : Nat) : Int) - 1) = (j : Int) := by rw [wrap_id (by omega) (by omega)]; omega
      have w5' : IntKind.i64.wrap ((j : Int) + 1 - 1) = (j : Int) := by rw [wrap_id (by omega) (by omega)]; omega
      have w5j : IntKind.i64.wrap (j : Int) = (j : Int) := wrap_id (by omega) (by omega)
      have m1 := l01Below_conT cc v hck (by omega)
      have mr := belowV_rng cc (n := v) (by omega)
      have m2 := l01Once_conT (belowC cc v) 2 (belowC_ok hck) (by omega)
      have mC : litDC v cc = belowC (belowC cc v) 2 := rfl
      have mV : litDV v cc = if onceV (belowC cc v) 2 = true then -(1 + belowV cc v) else 1 + belowV cc v := rfl
      have mk := litDC_ok (v := v) hck
      rw [← mC] at m2
      generalize litDC v cc = cc2 at *
      generalize litDV v cc = lv at *
      generalize belowV cc v = bv at *
      generalize onceV (belowC cc v) 2 = ob at *
      generalize belowC cc v = cc1 at *
      have w6 : IntKind.i64.wrap (1 + bv) = 1 + bv := wrap_id (by omega) (by omega)
      have w7 : IntKind.i64.wrap (-(1 + bv)) = -(1 + bv) := wrap_id (by omega) (by omega)
      have hmx : (if (v : Int) > 1 then (v : Int) else 1) = v := by split <;> omega
      have hmx2 : (if (1 : Int) < v then (v : Int) else 1) = v := by split <;> omega
      have hmx3 : (if 1 < v then (v : Int) else 1) = v := by split <;> omega
      simp [show (0 : Int) < (j : Int) + 1 by omega, hmx, hmx2, hmx3]
      refine callT_step (m1) [] [0] (by simp) ?_
      simp [w6]
      refine callT_step (m2) [] [0] (by simp) ?_
      simp
      cases ob with
      | true =>
        rw [if_pos rfl] at mV
        subst mV
        simp [w7]
        refine app_data vt_el_22 rfl (by simp) rfl (by simp) (by simp) (by first | (simp; done) | (simp; omega)) (by simp [flatP, flatD]) ?_
        simp [w5, w5', w5j]
        exact round_of hI2 hS2 hμ2 (j, r ++ [-(1 + bv)], cc2) ⟨mk, by simp; omega, hrr⟩ (by simp) ⟨[0, 1, 4], by simp [e1, eInt]⟩
      | false =>
        rw [if_neg (by simp)] at mV
        subst mV
        simp
        refine app_data vt_el_22 rfl (by simp) rfl (by simp) (by simp) (by first | (simp; done) | (simp; omega)) (by simp [flatP, flatD]) ?_
        simp [w5, w5', w5j]
        exact round_of hI2 hS2 hμ2 (j, r ++ [1 + bv], cc2) ⟨mk, by simp; omega, hrr⟩ (by simp) ⟨[0, 1, 4], by simp [e1, eInt]⟩
    | zero =>
      unfold rowD at hrr
      cases hrr
      simp only at hG
      have m3 := l01Once_conT rwc 12 hck (by omega)
      have m4 := belowC_ok (n := 12) hck
      generalize belowC rwc 12 = c6 at *
      generalize onceV rwc 12 = o6 at *
      simp
      by_cases hrn : 0 < rw1.length
      · rw [if_pos hrn] at hG
        have hne : ¬ rw1 = [] := fun h => by rw [h] at hrn; simp at hrn
        simp [hrn, hne]
        first | refine app_lit (q := 1) vt_el_35 (by exact rfl) (by simp) (by exact rfl) (by exact rfl) (by simp) (by simp) (by first | (simp; done) | (simp; omega)) ?_ | refine app_row vt_el_35 (by exact rfl) (by simp) (by exact rfl) (by simp) (by first | (simp; done) | (simp; omega)) ?_
        simp [w1]
        exact round_of hI hS hμ (i + 1, o ++ [rw1], rwc) ⟨by simp; omega, hck, by simp; omega, by simp only; rw [hd2]; exact hG⟩ (by simp; omega) ⟨[0, 4], by simp [enRow, e1]⟩
      · rw [if_neg hrn] at hG
        have hne : rw1 = [] := List.eq_nil_of_length_eq_zero (by omega)
        subst hne
        simp
        refine callT_step (m3) [] [0] (by simp) ?_
        simp
        cases o6 with
        | true =>
          rw [if_pos rfl] at hG
          simp
          first | refine app_lit (q := 1) vt_el_35 (by exact rfl) (by simp) (by exact rfl) (by exact rfl) (by simp) (by simp) (by first | (simp; done) | (simp; omega)) ?_ | refine app_row vt_el_35 (by exact rfl) (by simp) (by exact rfl) (by simp) (by first | (simp; done) | (simp; omega)) ?_
          simp [w1]
          exact round_of hI hS hμ (i + 1, o ++ [[]], c6) ⟨by simp; omega, m4, by simp; omega, by simp only; rw [hd2]; exact hG⟩ (by simp; omega) ⟨[0, 4], by simp [enRow, e1]⟩
        | false =>
          rw [if_neg (by simp)] at hG
          simp [w1]
          exact round_of hI hS hμ (i + 1, o, c6) ⟨by simp; omega, m4, by simp; omega, by simp only; rw [hd2]; exact hG⟩ (by simp; omega) ⟨[0, 1], by simp⟩
  · obtain rfl : i = n := by omega
    rw [Nat.sub_self, clsD] at hG
    subst hG
    simp [decide_eq_false hlt, hlt]
    exact ⟨[0, 1], by simp⟩
/-- A drawn formula; the cursor behind it. -/
def cnfDV (c : Cur) : Nat := (1 + belowV c 6).toNat
def cnfDN (c : Cur) : Nat := (belowV (belowC c 6) 16).toNat
def cnfD (c : Cur) : List RowD × Cur := clsD (cnfDV c) (cnfDN c) [] (belowC (belowC c 6) 16)
theorem cnfDV_rng (c : Cur) : 1 ≤ cnfDV c ∧ cnfDV c ≤ 6 := by
  have := belowV_rng c (n := 6) (by omega)
  unfold cnfDV; omega
theorem cnfD_facts {c : Cur} (h : c.ok) : (cnfD c).1.length ≤ 15 ∧ (cnfD c).2.ok ∧ ∀ r ∈ (cnfD c).1, r.length ≤ 4 ∧ ∀ l ∈ r, litIn (cnfDV c) l := by
  have := belowV_rng (belowC c 6) (n := 16) (by omega)
  obtain ⟨a, b, d⟩ := clsD_facts (cnfDV_rng c).1 (cnfDN c) [] (belowC (belowC c 6) 16) (belowC_ok (belowC_ok h)) (by simp)
  refine ⟨?_, b, d⟩
  have : cnfDN c ≤ 15 := by unfold cnfDN; omega
  unfold cnfD
  simp at a; omega
def asgD : Nat → List Bool → Cur → List Bool × Cur
  | 0, a, c => (a, c)
  | n + 1, a, c => asgD n (a ++ [onceV c 2]) (belowC c 2)
theorem asgD_facts : ∀ (n : Nat) (a : List Bool) (c : Cur), c.ok → (asgD n a c).1.length = a.length + n ∧ (asgD n a c).2.ok
  | 0, a, c, h => ⟨rfl, h⟩
  | n + 1, a, c, h => by
    obtain ⟨h1, h2⟩ := asgD_facts n (a ++ [onceV c 2]) (belowC c 2) (belowC_ok h)
    exact ⟨by rw [asgD, h1]; simp; omega, h2⟩
set_option maxRecDepth 100000 in
theorem l21Cnf_conT (c : Cur) (hc : c.ok) : ConT Try.prog 51 [.ptr 0 0] [enCur c] (.agg [.d (.int .i64 (cnfDV c)), .ref 1]) [enCur (cnfD c).2, .arr 22 true ((cnfD c).1.map enRow)] := by
  have r1 := belowV_rng c (n := 6) (by omega)
  have r2 := belowV_rng (belowC c 6) (n := 16) (by omega)
  have k1 := l01Below_conT c 6 hc (by omega)
  have k2 := l01Below_conT (belowC c 6) 16 (belowC_ok hc) (by omega)
  have hv := cnfDV_rng c
  have e1 : (cnfDV c : Int) = 1 + belowV c 6 := by unfold cnfDV; omega
  have e2 : (cnfDN c : Int) = belowV (belowC c 6) 16 := by unfold cnfDN; omega
  have k3 := l21Clauses_conT (belowC (belowC c 6) 16) (cnfDV c) (cnfDN c) (belowC_ok (belowC_ok hc)) ⟨hv.1, by omega⟩ (by omega)
  have hD : cnfD c = clsD (cnfDV c) (cnfDN c) [] (belowC (belowC c 6) 16) := rfl
  rw [← hD] at k3
  rw [← e2] at k2
  generalize cnfD c = F at *
  generalize cnfDN c = n at *
  generalize belowC (belowC c 6) 16 = c2 at *
  generalize belowC c 6 = c1 at *
  have w1 : IntKind.i64.wrap (1 + belowV c 6) = (cnfDV c : Int) := by rw [e1]; exact wrap_id (by omega) (by omega)
  generalize cnfDV c = v at *
  generalize belowV c 6 = b at *
  refine conT_of (by kernel_rfl) Try.func51 rfl rfl rfl (by simp [laters, Later]) (by simp [lives, Slot.live]) ?_
  simp
  refine callT_step (k1) [] [0] (by simp) ?_
  simp [w1]
  refine callT_step (k2) [] [0] (by simp) ?_
  simp
  refine callT_step (k3) [] [0] (by simp) ?_
  simp
  exact ⟨[0, 2], by simp⟩
set_option maxRecDepth 100000 in
theorem l21Assignment_conT (c : Cur) (n : Nat) (hc : c.ok) (hn : n ≤ 500) : ConT Try.prog 52 [.ptr 0 0, .d (.int .i64 n)] [enCur c] (.ref 1) [enCur (asgD n [] c).2, .arr 4 true ((asgD n [] c).1.map (e1 eBool))] := by
  generalize hF : asgD n [] c = F
  refine conT_of (by kernel_rfl) Try.func52 rfl rfl rfl (by simp [laters, Later]) (by simp [lives, Slot.live]) ?_
  simp
  refine aw_loopU [true, true, false, false, false, true, true, false, false, false, false, false, false, false, false, false, false, false, false, false, false, false, false] (fun i : Nat × List Bool × Cur => i.1 ≤ n ∧ i.2.2.ok ∧ i.2.1.length = i.1 ∧ asgD (n - i.1) i.2.1 i.2.2 = F) (fun i : Nat × List Bool × Cur => [(6, .d (.int .i64 i.1))]) (fun i : Nat × List Bool × Cur => [(0, enCur i.2.2), (1, .arr 4 true (i.2.1.map (e1 eBool)))]) (fun i : Nat × List Bool × Cur => n - i.1) (0, [], c) ?_ ?_ ?_
  · exact ⟨by omega, hc, by simp, by simpa using hF⟩
  · exact ⟨[0, 1], by simp⟩
  rintro I S μ hI hS hμ ⟨i, a, c1⟩ ⟨hi, hk, ho, hG⟩
  simp only at hi hk ho hG
  by_cases hlt : i < n
  · have hd : decide (i < n) = true := decide_eq_true hlt
    have hd2 : decide ((i : Int) < 500) = true := decide_eq_true (by omega)
    have w1 : IntKind.i64.wrap ((i : Int) + 1) = (i : Int) + 1 := wrap_id (by omega) (by omega)
    obtain ⟨d, hd1⟩ : ∃ d, n - i = d + 1 := ⟨n - i - 1, by omega⟩
    have hd3 : n - (i + 1) = d := by omega
    rw [hd1] at hG
    unfold asgD at hG
    have k1 := l01Once_conT c1 2 hk (by omega)
    have k2 := belowC_ok (n := 2) hk
    generalize belowC c1 2 = c2 at *
    generalize onceV c1 2 = ob at *
    simp [hd, hd2]
    refine callT_step (k1) [] [0] (by simp) ?_
    simp
    refine app_data vt_el_23 rfl (by simp) rfl (by simp) (by simp) (by first | (simp; done) | (simp; omega)) (by simp [flatP, flatD]) ?_
    simp [w1]
    exact round_of hI hS hμ (i + 1, a ++ [ob], c2) ⟨by simp; omega, k2, by simp; omega, by simp only; rw [hd3]; exact hG⟩ (by simp; omega) ⟨[0, 3], by simp [e1, eBool]⟩
  · obtain rfl : i = n := by omega
    rw [Nat.sub_self, asgD] at hG
    subst hG
    simp [decide_eq_false hlt, hlt]
    exact ⟨[0, 1], by simp⟩
def drawnV (bs : List Int) : Nat := cnfDV (cur0 bs)
def drawnC (bs : List Int) : List RowD := (cnfD (cur0 bs)).1
def drawnA (bs : List Int) : List Bool := (asgD (drawnV bs) [] (cnfD (cur0 bs)).2).1
abbrev ibytes (bs : List Int) : X := .d (.sl 5 (bs.map (e1 eByte)))
set_option maxRecDepth 100000 in
theorem DrawCnf_con (bs : List Int) (h : bs.length ≤ 1048576) : ConC Try.prog 26 [ibytes bs] (.tup [icnf (drawnV bs, drawnC bs), .d (eSl 4 (e1 eBool) (drawnA bs))]) := by
  have k1 := l01New_conT bs h
  have k2 := l21Cnf_conT (cur0 bs) (cur0_ok h)
  obtain ⟨a1, a2, a3⟩ := cnfD_facts (cur0_ok h)
  have a4 := cnfDV_rng (cur0 bs)
  have k3 := l21Assignment_conT (cnfD (cur0 bs)).2 (cnfDV (cur0 bs)) a2 (by omega)
  unfold drawnV drawnC drawnA drawnV
  generalize cnfDV (cur0 bs) = v at *
  generalize cnfD (cur0 bs) = F at *
  generalize asgD v [] F.2 = G at *
  refine con_ofD (by kernel_rfl) Try.func26 rfl rfl rfl ?_
  simp
  refine callT_step (k1) [] [] (by simp) ?_
  simp
  refine callT_step (k2) [] [1] (by simp) ?_
  simp
  refine drawE_of [(4, [0]), (5, []), (6, [])] (by kernel_rfl) ?_
  simp
  refine callC_step (k3) [] [1] (by simp) (by simp [nearTo]) ?_
  simp [enCnf]
end Go.Proofs.Ytbmapbbjbdpbcaa
