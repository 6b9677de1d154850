/-
  Drawn formulas, at times with a fault; a drawn formula with a proof.
  Conditions: those typed in each theorem.
-/
import Derived.Test.YtbmapbbjbdpbcaaDb
import Derived.Test.YtbmapbbjbdpbcaaDc
import Derived.Test.YtbmapbbjbdpbcaaQh
namespace Go.Proofs.Ytbmapbbjbdpbcaa
open Go.RowKit Go.ChangeShapes Go.WideShapes
set_option linter.unusedVariables false
set_option linter.unusedSimpArgs false
attribute [local simp ↓] condG_true condG_false condB_true condB_false
attribute [local simp] AWp_skip AWp_region_t AWp_region_d AWp_region_f still_mk AWp_seq AWp_cond condV_bool condB AWp_block AWp_exit AWp_ret
attribute [local simp] AOps_nil AOp_move AOp_assign AOp_pick AOp_binOp AOp_unOp AOp_convert AOp_len AOp_max AOp_min AOp_indexAddr AOp_load
attribute [local simp] AOp_fieldAddr AOp_field AOp_extract AOp_nilCheck AOp_build AOp_alloc AOp_box AOp_call AOp_store AOp_append AOp_buildSlice nextB_some
attribute [local simp] nextB_none adoptO adoptC AOp_makeSlice AOp_slice AOp_makeFunc AOp_guard guardD_some guardG_bool guardG_undef nextO_some nextS_some
attribute [local simp] nextZ_some nextL_some nextM_some nextT_some sliceO sliceL sliceT partO partV boundV funcO pickO
attribute [local simp] convO lenO maxO minO idxO extO nilO buildO litO litC makeO chunks
attribute [local simp] fillV placeOf thenA inBlockA St.get St.put St.eval ofCell evalT abin_add abin_sub abin_mul
attribute [local simp] abin_quo abin_rem abin_and abin_or abin_xor abin_andNot abin_shl abin_shr abin_shlu abin_eql abin_neq abin_lss
attribute [local simp] abin_leq abin_gtr abin_geq abin_eqlb abin_neqb aun pickV lenV intOf? indexV takeD takeV
attribute [local simp] loadV fieldAddrV fieldV ofX presD presDs pres presAll cellsV V.cell storeV freezeC
attribute [local simp] putAt kill takeC plains plainV scalarV nat_neg keepT sets eSl e1 e2
attribute [local simp] e3 e4 eInt eBool afterCall inst inst1 inst1s instD instDs RetA resVs
attribute [local simp] resV gives give1 give1s Le isPin leSlots leS leTmps leV le0 le0s
attribute [local simp] ren ren0 renS ren0s frame enterT afterT_some afterC_some lives Slot.live arrsOk viewV
attribute [local simp] view0 renT rens renSs setAll List.range'_succ RetT RetW joinV leT AOpsE_nil AOpsE_cons
attribute [local simp] AOpsT_nil AOpsT_cons isCallT callOf condC_true condC_false beginT_mk thenT_mk pickE pickT isT loose
attribute [local simp] namesOf namesV names1 names0 stableN sameAt Op.operands Call.operands
/-- Clauses added up to the limit, by draws. -/
def growD : Nat → List RowD → Cur → List RowD × Cur
  | 0, o, c => (o, c)
  | n + 1, o, c => if (o.length : Int) < 1600 + belowV c 2 then growD n (o ++ [[1]]) (belowC c 2) else (o, belowC c 2)
theorem growD_facts : ∀ (n : Nat) (o : List RowD) (c : Cur), c.ok → o.length ≤ 1601 → (∀ r ∈ o, r.length ≤ 4) → (growD n o c).1.length ≤ 1601 ∧ (growD n o c).2.ok ∧ ∀ r ∈ (growD n o c).1, r.length ≤ 4
  | 0, o, c, hc, h1, h2 => ⟨h1, hc, h2⟩
  | n + 1, o, c, hc, h1, h2 => by
    unfold growD
    have := belowV_rng c (n := 2) (by omega)
    split
    · exact growD_facts n _ _ (belowC_ok hc) (by simp; omega) (fun r hr => by
        rcases List.mem_append.1 hr with h | h
        · exact h2 r h
        · rw [List.mem_singleton.1 h]; simp)
    · exact ⟨h1, belowC_ok hc, h2⟩
def pkV (xs : List Int) (c : Cur) : Int := xs.getD (belowV c xs.length).toNat 0
def pkC (xs : List Int) (c : Cur) : Cur := belowC c xs.length
def pick1 : List Int := [-1, 0, 400, 401, 9223372036854775807, -9223372036854775808]
def pick2 : List Int := [0, 1, 7, -7, 9223372036854775807, -9223372036854775808]
/-- A drawn formula, at times with a fault; the cursor behind it. -/
def anyD (c : Cur) : Int × List RowD × Cur :=
  if belowV (cnfD c).2 12 = 0 then (pkV pick1 (belowC (cnfD c).2 12), (cnfD c).1, pkC pick1 (belowC (cnfD c).2 12))
  else if belowV (cnfD c).2 12 = 1 then (cnfDV c, (cnfD c).1 ++ [[pkV pick2 (belowC (cnfD c).2 12)]], pkC pick2 (belowC (cnfD c).2 12))
  else if belowV (cnfD c).2 12 = 2 then
    if onceV (belowC (cnfD c).2 12) 8 = true then (cnfDV c, (growD (1602 - (cnfD c).1.length) (cnfD c).1 (belowC (belowC (cnfD c).2 12) 8)))
    else (cnfDV c, (cnfD c).1, belowC (belowC (cnfD c).2 12) 8)
  else (cnfDV c, (cnfD c).1, belowC (cnfD c).2 12)
theorem anyD_facts {c : Cur} (h : c.ok) : (anyD c).2.1.length ≤ 1601 ∧ (anyD c).2.2.ok ∧ ∀ r ∈ (anyD c).2.1, r.length ≤ 4 := by
  obtain ⟨a1, a2, a3⟩ := cnfD_facts h
  have a4 : ∀ r ∈ (cnfD c).1, r.length ≤ 4 := fun r hr => (a3 r hr).1
  unfold anyD
  generalize cnfD c = F at *
  split
  · exact ⟨by simp only; omega, belowC_ok (belowC_ok a2), a4⟩
  split
  · refine ⟨by simp; omega, belowC_ok (belowC_ok a2), fun r hr => ?_⟩
    rcases List.mem_append.1 hr with h | h
    · exact a4 r h
    · rw [List.mem_singleton.1 h]; simp
  split
  · split
    · exact growD_facts _ _ _ (belowC_ok (belowC_ok a2)) (by omega) a4
    · exact ⟨by simp only; omega, belowC_ok (belowC_ok a2), a4⟩
  · exact ⟨by simp only; omega, belowC_ok a2, a4⟩
set_option maxRecDepth 100000 in
set_option maxHeartbeats 2000000 in
theorem l21Any_conT (c : Cur) (hc : c.ok) : ConT Try.prog 64 [.ptr 0 0] [enCur c] (.agg [.d (.int .i64 (anyD c).1), .ref 1]) [enCur (anyD c).2.2, .arr 22 true ((anyD c).2.1.map enRow)] := by
  have k1 := l21Cnf_conT c hc
  obtain ⟨a1, a2, a3⟩ := cnfD_facts hc
  have a4 := belowV_rng (cnfD c).2 (n := 12) (by omega)
  have k2 := l01Below_conT (cnfD c).2 12 a2 (by omega)
  have hA : anyD c = if belowV (cnfD c).2 12 = 0 then (pkV pick1 (belowC (cnfD c).2 12), (cnfD c).1, pkC pick1 (belowC (cnfD c).2 12))
    else if belowV (cnfD c).2 12 = 1 then (cnfDV c, (cnfD c).1 ++ [[pkV pick2 (belowC (cnfD c).2 12)]], pkC pick2 (belowC (cnfD c).2 12))
    else if belowV (cnfD c).2 12 = 2 then
      if onceV (belowC (cnfD c).2 12) 8 = true then (cnfDV c, (growD (1602 - (cnfD c).1.length) (cnfD c).1 (belowC (belowC (cnfD c).2 12) 8)))
      else (cnfDV c, (cnfD c).1, belowC (belowC (cnfD c).2 12) 8)
    else (cnfDV c, (cnfD c).1, belowC (cnfD c).2 12) := rfl
  generalize anyD c = G at *
  generalize cnfDV c = v at *
  generalize cnfD c = F at *
  obtain ⟨cls, c1⟩ := F
  simp only at *
  have b2 := belowC_ok (n := 12) a2
  generalize belowC c1 12 = c2 at *
  generalize belowV c1 12 = q at *
  have p1 := l01PickInt_conT c2 pick1 b2 (by decide) (by decide)
  have q1 : pick1 = [-1, 0, 400, 401, 9223372036854775807, -9223372036854775808] := rfl
  have q2 : pick2 = [0, 1, 7, -7, 9223372036854775807, -9223372036854775808] := rfl
  have p2 := l01PickInt_conT c2 pick2 b2 (by decide) (by decide)
  have o1 := l01Once_conT c2 8 b2 (by omega)
  rw [← show pkV pick1 c2 = pick1.getD (belowV c2 pick1.length).toNat 0 from rfl, ← show pkC pick1 c2 = belowC c2 pick1.length from rfl] at p1
  rw [← show pkV pick2 c2 = pick2.getD (belowV c2 pick2.length).toNat 0 from rfl, ← show pkC pick2 c2 = belowC c2 pick2.length from rfl] at p2
  generalize pkV pick1 c2 = v1 at *
  generalize pkC pick1 c2 = c3 at *
  generalize pkV pick2 c2 = v2 at *
  generalize pkC pick2 c2 = c4 at *
  have b3 := belowC_ok (n := 8) b2
  generalize belowC c2 8 = c5 at *
  rw [q1] at p1
  rw [q2] at p2
  simp only [eSl, List.map_cons, List.map_nil] at p1 p2
  clear q1 q2
  refine conT_ofD (by kernel_rfl) Try.func64 rfl rfl rfl (by simp [laters, Later]) (by simp [lives, Slot.live]) ?_
  simp
  refine callT_step (k1) [] [0] (by simp) ?_
  simp
  refine callT_step (k2) [] [0] (by simp) ?_
  simp
  by_cases h0 : q = 0
  · subst h0
    rw [if_pos rfl] at hA
    subst hA
    simp
    refine callT_step (p1) [4] [0] (by simp) ?_
    simp
    exact ⟨[0, 2], by simp⟩
  rw [if_neg h0] at hA
  have h0b : (q == 0) = false := by simpa using h0
  by_cases h1 : q = 1
  · subst h1
    rw [if_pos rfl] at hA
    subst hA
    simp
    refine drawE_of [(4, [0, 1]), (5, [0, 1]), (6, [0, 1]), (7, []), (8, []), (9, [])] (by kernel_rfl) ?_
    simp
    refine callC_step (p2) [4] [0] (by simp) (by simp [nearTo]) ?_
    simp
    first | refine app_lit (q := 1) vt_el_35 (by exact rfl) (by simp) (by exact rfl) (by exact rfl) (by simp) (by simp) (by first | (simp; done) | (simp; omega)) ?_ | refine app_row vt_el_35 (by exact rfl) (by simp) (by exact rfl) (by simp) (by first | (simp; done) | (simp; omega)) ?_
    simp
    exact ⟨[0, 7], by simp [enRow, e1]⟩
  rw [if_neg h1] at hA
  have h1b : (q == 1) = false := by simpa using h1
  by_cases h2 : q = 2
  · subst h2
    rw [if_pos rfl] at hA
    simp
    refine callT_step (o1) [] [0] (by simp) ?_
    simp
    generalize onceV c2 8 = ob at *
    cases ob with
    | false =>
      rw [if_neg (by simp)] at hA
      subst hA
      simp
      exact ⟨[0, 2], by simp⟩
    | true =>
    rw [if_pos rfl] at hA
    generalize hn : 1602 - cls.length = n at *
    obtain ⟨gv, gcl, gcur⟩ := G
    obtain ⟨hG1, hG2⟩ := Prod.ext_iff.1 hA
    simp only at hG1 hG2
    subst hG1
    clear hA
    simp
    refine aw_loopU [true, false, true, true, false, false, false, false, false, false, false, false, false, false, false, false, false, false, false, false, false, false, false, false, false, false, false, false, false, false, false, false, false, false, false, false, false, false, false, false, false, false, false] (fun i : Nat × List RowD × Cur => i.2.2.ok ∧ i.2.1.length ≤ 1601 ∧ i.1 + i.2.1.length = 1602 ∧ growD i.1 i.2.1 i.2.2 = (gcl, gcur)) (fun i : Nat × List RowD × Cur => []) (fun i : Nat × List RowD × Cur => [(0, enCur i.2.2), (2, .arr 22 true (i.2.1.map enRow))]) (fun i : Nat × List RowD × Cur => i.1) (n, cls, c5) ?_ ?_ ?_
    · exact ⟨b3, by simp; omega, by simp; omega, hG2.symm⟩
    · exact ⟨[0, 1, 2, 3], by simp⟩
    rintro I S μ hI hS hμ ⟨i, o, cc⟩ ⟨hk, ho, hio, hG⟩
    simp only at hk ho hio hG
    obtain ⟨j, rfl⟩ : ∃ j, i = j + 1 := ⟨i - 1, by omega⟩
    unfold growD at hG
    have m1 := l01Below_conT cc 2 hk (by omega)
    have m2 := belowV_rng cc (n := 2) (by omega)
    have m3 := belowC_ok (n := 2) hk
    generalize belowV cc 2 = b at *
    generalize belowC cc 2 = cd at *
    have w1 : IntKind.i64.wrap (1600 + b) = 1600 + b := wrap_id (by omega) (by omega)
    by_cases hlt : (o.length : Int) < 1600 + b
    · rw [if_pos hlt] at hG
      simp
      refine drawE_of [(4, [0, 1, 2]), (5, [0, 1, 2]), (6, [])] (by kernel_rfl) ?_
      simp
      refine callC_step (m1) [] [0] (by simp) (by simp [nearTo]) ?_
      simp [w1, decide_eq_true hlt, hlt]
      first | refine app_lit (q := 1) vt_el_35 (by exact rfl) (by simp) (by exact rfl) (by exact rfl) (by simp) (by simp) (by first | (simp; done) | (simp; omega)) ?_ | refine app_row vt_el_35 (by exact rfl) (by simp) (by exact rfl) (by simp) (by first | (simp; done) | (simp; omega)) ?_
      simp
      exact round_of hI hS hμ (j, o ++ [[1]], cd) ⟨m3, by simp; omega, by simp; omega, hG⟩ (by simp) ⟨[0, 1, 6, 3], by simp [enRow, e1]⟩
    · rw [if_neg hlt] at hG
      simp
      refine drawE_of [(4, [0, 1, 2]), (5, [0, 1, 2]), (6, [])] (by kernel_rfl) ?_
      simp
      refine callC_step (m1) [] [0] (by simp) (by simp [nearTo]) ?_
      simp [w1, decide_eq_false hlt, hlt]
      cases hG
      exact ⟨[0, 2], by simp⟩
  · rw [if_neg h2] at hA
    have h2b : (q == 2) = false := by simpa using h2
    subst hA
    simp [h0b, h1b, h2b, h0, h1, h2]
    exact ⟨[0, 2], by simp⟩
def clampN (lo hi : Nat) (v : Int) : Nat := if v < lo then lo else if hi < v then hi else v.toNat
theorem clamp_con (lo hi : Nat) (v : Int) (h : lo ≤ hi ∧ hi ≤ 1000) : ConC Try.prog 68 [.d (.int .i64 v), .d (.int .i64 lo), .d (.int .i64 hi)] (.d (.int .i64 (clampN lo hi v))) := by
  unfold clampN
  have h1 : ¬ hi < lo := by omega
  have h2 : ¬ (hi : Int) < lo := by omega
  refine con_of (by kernel_rfl) Try.func68 rfl rfl rfl ?_
  by_cases a : v < lo
  · simp [h1, h2, decide_eq_false h1, decide_eq_false h2, decide_eq_true a, a]
  · by_cases b : (hi : Int) < v
    · simp [h1, h2, decide_eq_false h1, decide_eq_false h2, decide_eq_false a, a, decide_eq_true b, b]
    · simp [h1, h2, decide_eq_false h1, decide_eq_false h2, decide_eq_false a, a, decide_eq_false b, b]
      omega
def four : List RowD := [[1, 2], [1, -2], [-1, 2], [-1, -2]]
def dcpC (bs : List Int) : List RowD := if onceV (anyD (cur0 bs)).2.2 2 = true then (anyD (cur0 bs)).2.1 ++ four else (anyD (cur0 bs)).2.1
def dcpE (bs : List Int) : Cur := belowC (anyD (cur0 bs)).2.2 2
def dcpT (v : Int) (c : Cur) (q : Int) (p : List RowD) : List RowD :=
  if q = 0 then p ++ [[]] else if q = 1 then (clsD (clampN 1 8 v) 4 [] c).1 else if q = 2 then p.take (p.length - 1) else if q = 3 then (if 1 < p.length then p.drop 1 else p) else p
def dcpP (bs : List Int) : List RowD := dcpT (anyD (cur0 bs)).1 (belowC (dcpE bs) 6) (belowV (dcpE bs) 6) (solveL (anyD (cur0 bs)).1 (dcpC bs) 100).2.2
theorem solveL_small {v B : Int} {cls : List RowD} (hB : 0 ≤ B ∧ B ≤ 600) : (solveL v cls B).2.1.length ≤ 400 ∧ ((solveL v cls B).2.2.length : Int) ≤ B ∧ ∀ r ∈ (solveL v cls B).2.2, r.length ≤ 1048576 := by
  obtain ⟨B, rfl⟩ : ∃ n : Nat, B = n := ⟨B.toNat, by omega⟩
  unfold solveL
  split
  · rename_i h
    have hv4 := clauseOk_of_cnf h.1
    obtain ⟨n, rfl⟩ : ∃ n : Nat, v = n := ⟨v.toNat, by omega⟩
    have hr := rng_iff.1 h.2
    have hsf := srch_facts (cnfOk_clauses h.1) B B (List.replicate n 0) [] [] (by simp) (trits_rep n)
    simp only [Int.toNat_natCast]
    generalize srch cls B B (List.replicate n 0) [] [] = r at *
    obtain ⟨f1, f2, f3, f4⟩ := hsf
    split
    · rename_i h1
      have := (f4 h1).1
      refine ⟨?_, by simp, by simp⟩
      rw [ones_len]; omega
    · split
      · rename_i h2
        obtain ⟨a, b, c⟩ := f3 h2
        refine ⟨by simp, ?_, c (by simp) (by simp; omega)⟩
        simp only [List.length_nil] at a ⊢
        omega
      · exact ⟨by simp, by simp, by simp⟩
  · exact ⟨by simp, by simp, by simp⟩
theorem dcp_facts {bs : List Int} (h : bs.length ≤ 1048576) : fitCn 1048576 ((anyD (cur0 bs)).1, dcpC bs) ∧ (dcpE bs).ok ∧ fitRw 1048576 (dcpP bs) := by
  obtain ⟨a1, a2, a3⟩ := anyD_facts (cur0_ok h)
  have hE : (dcpE bs).ok := belowC_ok a2
  refine ⟨?_, hE, ?_⟩
  · unfold dcpC
    split
    · refine ⟨by simp [four]; omega, fun r hr => ?_⟩
      rcases List.mem_append.1 hr with h | h
      · have := a3 r h; omega
      · have : r.length ≤ 2 := by
          simp only [four, List.mem_cons, List.not_mem_nil, or_false] at h
          rcases h with rfl | rfl | rfl | rfl <;> simp
        omega
    · exact ⟨by simp only; omega, fun r hr => by have := a3 r hr; omega⟩
  · obtain ⟨-, s1, s2⟩ := solveL_small (v := (anyD (cur0 bs)).1) (cls := dcpC bs) (B := 100) (by omega)
    unfold dcpP
    generalize (solveL (anyD (cur0 bs)).1 (dcpC bs) 100).2.2 = p at *
    unfold dcpT
    split
    · refine ⟨by simp; omega, fun r hr => ?_⟩
      rcases List.mem_append.1 hr with h | h
      · exact s2 r h
      · rw [List.mem_singleton.1 h]; simp
    split
    · have hc : 1 ≤ clampN 1 8 (anyD (cur0 bs)).1 := by unfold clampN; split <;> (try split) <;> omega
      obtain ⟨b1, b2, b3⟩ := clsD_facts hc 4 [] (belowC (dcpE bs) 6) (belowC_ok hE) (by simp)
      exact ⟨by simp at b1; omega, fun r hr => by have := (b3 r hr).1; omega⟩
    split
    · exact ⟨by simp; omega, fun r hr => s2 r (List.mem_of_mem_take hr)⟩
    split
    · split
      · exact ⟨by simp; omega, fun r hr => s2 r (List.mem_of_mem_drop hr)⟩
      · exact ⟨by omega, s2⟩
    · exact ⟨by omega, s2⟩
set_option maxRecDepth 100000 in
set_option maxHeartbeats 2000000 in
theorem DrawCheckProof_conT (bs : List Int) (h : bs.length ≤ 1048576) : ConT Try.prog 46 [.d (.sl 5 (bs.map (e1 eByte)))] [] (.tup [.agg [.d (.int .i64 (anyD (cur0 bs)).1), .d (eSl 22 enRow (dcpC bs))], .d (erows (dcpP bs))]) [] := by
  have k1 := l01New_conT bs h
  have k2 := l21Any_conT (cur0 bs) (cur0_ok h)
  obtain ⟨a1, a2, a3⟩ := anyD_facts (cur0_ok h)
  have k3 := l01Once_conT (anyD (cur0 bs)).2.2 2 a2 (by omega)
  obtain ⟨f1, f2, f3⟩ := dcp_facts h
  have k4 := sSolve_con ((anyD (cur0 bs)).1, dcpC bs) 100 f1
  have k5 := l01Below_conT (dcpE bs) 6 f2 (by omega)
  have r5 := belowV_rng (dcpE bs) (n := 6) (by omega)
  have k6 := clamp_con 1 8 (anyD (cur0 bs)).1 (by omega)
  have hc : 1 ≤ clampN 1 8 (anyD (cur0 bs)).1 ∧ clampN 1 8 (anyD (cur0 bs)).1 ≤ 8 := by unfold clampN; split <;> (try split) <;> omega
  have k7 := l21Clauses_conT (belowC (dcpE bs) 6) (clampN 1 8 (anyD (cur0 bs)).1) 4 (belowC_ok f2) (by omega) (by omega)
  obtain ⟨-, s1, s2⟩ := solveL_small (v := (anyD (cur0 bs)).1) (cls := dcpC bs) (B := 100) (by omega)
  have hC : dcpC bs = if onceV (anyD (cur0 bs)).2.2 2 = true then (anyD (cur0 bs)).2.1 ++ four else (anyD (cur0 bs)).2.1 := rfl
  have hE : belowC (anyD (cur0 bs)).2.2 2 = dcpE bs := rfl
  have hP : dcpP bs = if belowV (dcpE bs) 6 = 0 then (solveL (anyD (cur0 bs)).1 (dcpC bs) 100).2.2 ++ [[]] else if belowV (dcpE bs) 6 = 1 then (clsD (clampN 1 8 (anyD (cur0 bs)).1) 4 [] (belowC (dcpE bs) 6)).1 else if belowV (dcpE bs) 6 = 2 then (solveL (anyD (cur0 bs)).1 (dcpC bs) 100).2.2.take ((solveL (anyD (cur0 bs)).1 (dcpC bs) 100).2.2.length - 1) else if belowV (dcpE bs) 6 = 3 then (if 1 < (solveL (anyD (cur0 bs)).1 (dcpC bs) 100).2.2.length then (solveL (anyD (cur0 bs)).1 (dcpC bs) 100).2.2.drop 1 else (solveL (anyD (cur0 bs)).1 (dcpC bs) 100).2.2) else (solveL (anyD (cur0 bs)).1 (dcpC bs) 100).2.2 := rfl
  rw [hE] at k3
  simp only at k4
  clear f1 f3 hE
  generalize solveL (anyD (cur0 bs)).1 (dcpC bs) 100 = R at *
  generalize clsD (clampN 1 8 (anyD (cur0 bs)).1) 4 [] (belowC (dcpE bs) 6) = K at *
  generalize belowC (dcpE bs) 6 = c3 at *
  generalize belowV (dcpE bs) 6 = q at *
  generalize dcpP bs = pf at *
  generalize dcpC bs = cls at *
  generalize dcpE bs = c2 at *
  generalize clampN 1 8 (anyD (cur0 bs)).1 = cl at *
  generalize onceV (anyD (cur0 bs)).2.2 2 = ob at *
  generalize anyD (cur0 bs) = G at *
  obtain ⟨v, cls0, c1⟩ := G
  obtain ⟨code, bl, p0⟩ := R
  simp only at *
  refine conT_ofD (by kernel_rfl) Try.func46 rfl rfl rfl (by simp [laters, Later]) (by simp [lives, Slot.live]) ?_
  simp
  refine callT_step (k1) [] [] (by simp) ?_
  simp
  refine callT_step (k2) [] [1] (by simp) ?_
  simp
  refine callT_step (k3) [] [1] (by simp) ?_
  simp
  have hL : ∀ x : RowD, (enRow x).length = 1 := fun _ => rfl
  cases ob
  all_goals
    first
    | rw [if_neg (by simp)] at hC
      subst hC
      simp
      refine call_step (k4) ?_
      simp [enCnf]
    | rw [if_pos rfl] at hC
      subst hC
      simp
      first | refine app_lit (q := 1) vt_el_35 (by exact rfl) (by simp) (by exact rfl) (by exact rfl) (by simp) (by simp) (by first | (simp; done) | (simp; omega)) ?_ | refine app_row vt_el_35 (by exact rfl) (by simp) (by exact rfl) (by simp) (by first | (simp; done) | (simp; omega)) ?_
      simp
      simp only [icnf, enCnf, e2, eSl, four, List.map_append, List.map_cons, List.map_nil, enRow, e1, eInt] at k4
      refine call_step (k4) ?_
      simp [enRow]
  all_goals
    refine callT_step (k5) [] [1] (by simp) ?_
    simp
    by_cases h0 : q = 0
    · rw [if_pos h0] at hP
      subst h0 hP
      simp
      first | refine app_lit (q := 1) vt_el_35 (by exact rfl) (by simp) (by exact rfl) (by exact rfl) (by simp) (by simp) (by first | (simp; done) | (simp; omega)) ?_ | refine app_row vt_el_35 (by exact rfl) (by simp) (by exact rfl) (by simp) (by first | (simp; done) | (simp; omega)) ?_
      simp
      exact ⟨[], by simp [four, enRow, e1, eInt]⟩
    rw [if_neg h0] at hP
    have h0b : (q == 0) = false := by simpa using h0
    by_cases h1 : q = 1
    · rw [if_pos h1] at hP
      subst h1 hP
      simp
      refine call_step (k6) ?_
      simp
      refine callT_step (k7) [] [1] (by simp) ?_
      simp
      exact ⟨[], by simp [four, enRow, e1, eInt]⟩
    rw [if_neg h1] at hP
    have h1b : (q == 1) = false := by simpa using h1
    by_cases h2 : q = 2
    · rw [if_pos h2] at hP
      subst h2 hP
      by_cases hl : 0 < p0.length
      · have w3 : IntKind.i64.wrap ((p0.length : Int) - 1) = ((p0.length - 1 : Nat) : Int) := by rw [wrap_id (by omega) (by omega)]; omega
        simp [hl, decide_eq_true hl, w3, hL, show ¬ p0 = [] from (fun e => by rw [e] at hl; simp at hl)]
        exact ⟨[], by simp [four, enRow, e1, eInt, List.map_take]⟩
      · obtain rfl : p0 = [] := List.eq_nil_of_length_eq_zero (by omega)
        simp
        exact ⟨[], by simp [four, enRow, e1, eInt]⟩
    rw [if_neg h2] at hP
    have h2b : (q == 2) = false := by simpa using h2
    by_cases h3 : q = 3
    · rw [if_pos h3] at hP
      subst h3
      by_cases hl : 1 < p0.length
      · rw [if_pos hl] at hP
        subst hP
        simp [hl, decide_eq_true hl, hL, show 1 ≤ p0.length by omega, show (1 : Int) < p0.length by omega, show ¬ (p0.length : Int) ≤ 1 by omega, show ¬ p0.length ≤ 1 by omega, show (p0.map enRow).take p0.length = p0.map enRow from List.take_of_length_le (by simp)]
        exact ⟨[], by simp [four, enRow, e1, eInt, List.map_drop]⟩
      · rw [if_neg hl] at hP
        subst hP
        simp [hl, decide_eq_false hl, show ¬ (1 : Int) < pf.length by omega, show (pf.length : Int) ≤ 1 by omega, show pf.length ≤ 1 by omega]
        exact ⟨[], by simp [four, enRow, e1, eInt]⟩
    · rw [if_neg h3] at hP
      subst hP
      have h3b : (q == 3) = false := by simpa using h3
      simp [h0b, h1b, h2b, h3b, h0, h1, h2, h3]
      exact ⟨[], by simp [four, enRow, e1, eInt]⟩
end Go.Proofs.Ytbmapbbjbdpbcaa
