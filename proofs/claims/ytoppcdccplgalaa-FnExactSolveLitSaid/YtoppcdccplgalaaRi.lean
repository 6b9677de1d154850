/-
  Solving for a literal of a net, by abstract walks: both sides.
  Conditions: those typed in each theorem.
-/
import Derived.Test.YtoppcdccplgalaaRf
import Derived.Test.YtoppcdccplgalaaQh
namespace Go.Proofs.Ytoppcdccplgalaa
open Go.RowKit Go.ChangeShapes Go.WideShapes
set_option linter.unusedVariables false
set_option linter.unusedSimpArgs false
attribute [local simp ↓] condG_true condG_false condB_true condB_false
attribute [local simp] AWp_skip AWp_region_t AWp_region_d AWp_region_f still_mk AWp_seq AWp_cond condV_bool condB AWp_block AWp_exit AWp_ret
attribute [local simp] AOps_nil AOp_move AOp_assign AOp_pick AOp_binOp AOp_unOp AOp_convert AOp_len AOp_max AOp_min AOp_indexAddr AOp_load
attribute [local simp] AOp_fieldAddr AOp_field AOp_extract AOp_nilCheck AOp_build AOp_alloc AOp_box AOp_call AOp_store AOp_append AOp_buildSlice nextB_some
attribute [local simp] nextB_none adoptO adoptC AOp_makeSlice AOp_slice AOp_makeFunc AOp_guard guardD_some guardG_bool guardG_undef nextO_some nextS_some
attribute [local simp] nextZ_some nextL_some nextM_some nextT_some sliceO sliceL sliceT partO partV boundV funcO pickO
attribute [local simp] convO lenO maxO minO idxO extO nilO buildO litO litC makeO chunks
attribute [local simp] fillV placeOf thenA inBlockA St.get St.put St.eval ofCell evalT abin_add abin_sub abin_mul
attribute [local simp] abin_quo abin_rem abin_and abin_or abin_xor abin_andNot abin_shl abin_shr abin_shlu abin_eql abin_eqp abin_neq
attribute [local simp] abin_lss abin_leq abin_gtr abin_geq abin_eqlb abin_neqb aun pickV lenV intOf? indexV takeD
attribute [local simp] takeV loadV fieldAddrV fieldV ofX presD presDs pres presAll cellsV V.cell storeV
attribute [local simp] freezeC putAt kill takeC plains plainV scalarV nat_neg keepT sets eSl e1
attribute [local simp] e2 e3 e4 eInt eBool afterCall inst inst1 inst1s instD instDs RetA
attribute [local simp] resVs resV gives give1 give1s Le isPin leSlots leS leTmps leV le0
attribute [local simp] le0s ren ren0 renS ren0s frame enterT afterT_some afterC_some lives Slot.live arrsOk
attribute [local simp] viewV view0 renT rens renSs setAll List.range'_succ RetT RetW joinV leT AOpsE_nil
attribute [local simp] AOpsE_cons AOpsT_nil AOpsT_cons isCallT callOf condC_true condC_false beginT_mk thenT_mk pickE pickT isT
attribute [local simp] loose namesOf namesV names1 names0 stableN sameAt Op.operands Call.operands
def bitI (b : Bool) : Int := if b = true then 1 else 0
def bitsL (bs : List Bool) : List Int := bs.map bitI
def solveLitL (x : GrD) (lit B : Int) : Int × List Int :=
  if netCnfOk x lit = true then ((solveL (netCnfL x lit).1 (netCnfL x lit).2 B).1, bitsL (solveL (netCnfL x lit).1 (netCnfL x lit).2 B).2.1) else (0, [])
theorem bitsL_snoc {bs : List Bool} {i : Nat} {b : Bool} (h : bs[i]? = some b) : bitsL (bs.take (i + 1)) = bitsL (bs.take i) ++ [bitI b] := by
  unfold bitsL
  rw [take_snoc' h, List.map_append]; rfl
theorem bitsL_len {bs : List Bool} : (bitsL bs).length = bs.length := by simp [bitsL]
theorem solveM_len {v B : Int} {cls : List RowD} : (solveL v cls B).2.1.length ≤ 400 := by
  unfold solveL
  split
  · rename_i h
    have hv4 := clauseOk_of_cnf h.1
    obtain ⟨n, rfl⟩ : ∃ n : Nat, v = n := ⟨v.toNat, by omega⟩
    have hsf := srch_facts (cnfOk_clauses h.1) B.toNat B.toNat (List.replicate n 0) [] [] (by simp) (trits_rep n)
    simp only [Int.toNat_natCast]
    generalize srch cls B.toNat B.toNat (List.replicate n 0) [] [] = r at *
    obtain ⟨f1, f2, f3, f4⟩ := hsf
    split
    · rename_i h1
      have := (f4 h1).1
      rw [ones_len]; omega
    · split
      · simp
      · simp
  · simp
set_option maxRecDepth 100000 in
theorem iSolveLit_con (x : GrD) (lit B : Int) (hx : fitGr 1048576 x) : ConC Try.prog 37 [igr x, .d (.int .i64 lit), .d (.int .i64 B)] (.tup [.d (.int .i64 (solveLitL x lit B).1), ints (solveLitL x lit B).2]) := by
  have hS : solveLitL x lit B = if netCnfOk x lit = true then ((solveL (netCnfL x lit).1 (netCnfL x lit).2 B).1, bitsL (solveL (netCnfL x lit).1 (netCnfL x lit).2 B).2.1) else (0, []) := rfl
  have k1 := iNetCnf_con x lit hx
  have hfc := netCnf_fit (x := x) (lit := lit)
  generalize netCnfL x lit = f at *
  have k2 := iSolve_con f B hfc
  have hml := solveM_len (v := f.1) (cls := f.2) (B := B)
  generalize solveL f.1 f.2 B = r at *
  obtain ⟨c, bs, pf⟩ := r
  simp only at hS hml k2
  refine con_of (by kernel_rfl) Try.func37 rfl rfl rfl ?_
  simp [enGr]
  refine call_step (k1) ?_
  simp [enGr, enCnf]
  cases hok : netCnfOk x lit with
  | false =>
    rw [if_neg (by simp [hok])] at hS
    simp [hok, hS]
  | true =>
  rw [if_pos hok] at hS
  simp [hok]
  refine call_step (k2) ?_
  simp [enCnf]
  refine aw_loopN [false, false, false, false, false, false, false, false, false, false, true, false, false, true, false, false, false, false, false, false, false, false, false, false, false, false, false, false, false, false, false, false, true, true, true, false, false, false, false, false, false, false, false, false, false, false] (fun i : Nat => i ≤ bs.length) (fun i : Nat => [(13, nilR i 5), (34, .d (.int .i64 i))]) (fun i : Nat => nilS i (bitsL (bs.take i))) (fun i : Nat => bs.length - i) 0 ?_ ?_ ?_
  · simp
  · exact ⟨[0, 1, 2, 3, 4], by simp [nilR, nilS]⟩
  rintro I S μ hI hS' hμ i hi
  by_cases hlt : i < bs.length
  · have hx1 : bs[i]? = some (bs.getD i false) := by rw [List.getD_eq_getElem?_getD, List.getElem?_eq_getElem hlt]; rfl
    have hx2 : ∀ h : i < bs.length, bs[i]'h = bs.getD i false := fun h => by simp [List.getD_eq_getElem?_getD, h]
    have hnx := bitsL_snoc hx1
    have hll : (bitsL (bs.take i)).length = i := by rw [bitsL_len]; simp; omega
    have w2 : IntKind.i64.wrap ((i : Int) + 1) = (i : Int) + 1 := wrap_id (by omega) (by omega)
    generalize bs.getD i false = b at *
    generalize bitsL (bs.take i) = ms at *
    by_cases hi0 : i = 0
    · subst hi0
      obtain rfl : ms = [] := List.eq_nil_of_length_eq_zero hll
      cases b with
      | false =>
        simp [nilR, nilS, hlt, decide_eq_true hlt, hx1, hx2]
        refine app_data vt_el_24 rfl (by simp) rfl (by simp) (by simp) (by first | (simp; done) | (simp; omega)) (by simp [flatP, flatD]) ?_
        simp [w2, show IntKind.i64.wrap 1 = 1 from rfl]
        exact round_of hI hS' hμ 1 (by omega) (by omega) ⟨[0, 1, 2, 3, 4, 6], by simp [nilR, nilS, hnx, bitI]⟩
      | true =>
        simp [nilR, nilS, hlt, decide_eq_true hlt, hx1, hx2]
        refine app_data vt_el_24 rfl (by simp) rfl (by simp) (by simp) (by first | (simp; done) | (simp; omega)) (by simp [flatP, flatD]) ?_
        simp [w2, show IntKind.i64.wrap 1 = 1 from rfl]
        exact round_of hI hS' hμ 1 (by omega) (by omega) ⟨[0, 1, 2, 3, 4, 6], by simp [nilR, nilS, hnx, bitI]⟩
    · cases b with
      | false =>
        simp [nilR, nilS, decide_eq_true hlt, hx1, hi0]
        refine app_data vt_el_24 rfl (by simp) rfl (by simp) (by simp) (by first | (simp; done) | (simp; omega)) (by simp [flatP, flatD]) ?_
        simp [w2]
        exact round_of hI hS' hμ (i + 1) (by omega) (by omega) ⟨[0, 1, 2, 3, 4, 7], by simp [nilR, nilS, hnx, bitI]⟩
      | true =>
        simp [nilR, nilS, decide_eq_true hlt, hx1, hi0]
        refine app_data vt_el_24 rfl (by simp) rfl (by simp) (by simp) (by first | (simp; done) | (simp; omega)) (by simp [flatP, flatD]) ?_
        simp [w2]
        exact round_of hI hS' hμ (i + 1) (by omega) (by omega) ⟨[0, 1, 2, 3, 4, 7], by simp [nilR, nilS, hnx, bitI]⟩
  · obtain rfl : i = bs.length := by omega
    rw [List.take_length]
    by_cases hi0 : bs.length = 0
    · obtain rfl := List.eq_nil_of_length_eq_zero hi0
      simp [nilR, nilS, hS, bitsL]
    · simp [nilR, nilS, hlt, hi0, decide_eq_false hlt, hS]
theorem l07Bit_con (b : Bool) : ConC Try.prog 116 [.d (.bool b)] (.d (.int .i64 (bitI b))) := by
  refine con_of (by kernel_rfl) Try.func116 rfl rfl rfl ?_
  cases b with
  | false =>
    simp [bitI]
  | true =>
    simp [bitI]
set_option maxRecDepth 100000 in
theorem sSolveLit_con (x : GrD) (lit B : Int) (hx : fitGr 1048576 x) (hg : okGr x) (hlI : isI lit) : ConC Try.prog 36 [igr x, .d (.int .i64 lit), .d (.int .i64 B)] (.tup [.d (.int .i64 (solveLitL x lit B).1), ints (solveLitL x lit B).2]) := by
  have hS : solveLitL x lit B = if netCnfOk x lit = true then ((solveL (netCnfL x lit).1 (netCnfL x lit).2 B).1, bitsL (solveL (netCnfL x lit).1 (netCnfL x lit).2 B).2.1) else (0, []) := rfl
  have k1 := sNetCnf_con x lit hx hg hlI
  have hfc := netCnf_fit (x := x) (lit := lit)
  generalize netCnfL x lit = f at *
  have k2 := sSolve_con f B hfc
  have hml := solveM_len (v := f.1) (cls := f.2) (B := B)
  generalize solveL f.1 f.2 B = r at *
  obtain ⟨c, bs, pf⟩ := r
  simp only at hS hml k2
  refine con_of (by kernel_rfl) Try.func36 rfl rfl rfl ?_
  simp [enGr]
  refine call_step (k1) ?_
  simp [enGr, enCnf]
  cases hok : netCnfOk x lit with
  | false =>
    rw [if_neg (by simp [hok])] at hS
    simp [hok, hS]
  | true =>
  rw [if_pos hok] at hS
  simp [hok]
  refine call_step (k2) ?_
  simp [enCnf]
  refine aw_loopU [false, false, false, false, false, false, false, false, true, false, false, true, true, false, true, false, false, false, false, false, false, false, false, false, false, false, false, false, false, false, false, false, false, false, false, false, false, false, false, false, false, false, false, false, false, false, false, false] (fun i : Nat => i ≤ bs.length) (fun i : Nat => [(14, .d (.int .i64 i))]) (fun i : Nat => [(1, .arr 3 true ((bitsL (bs.take i)).map (e1 eInt)))]) (fun i : Nat => bs.length - i) 0 ?_ ?_ ?_
  · simp
  · exact ⟨[0, 1, 2, 3, 4, 5], by simp [bitsL]⟩
  rintro I S μ hI hS' hμ i hi
  by_cases hlt : i < bs.length
  · have hx1 : bs[i]? = some bs[i] := List.getElem?_eq_getElem hlt
    have hnx := bitsL_snoc hx1
    have hll : (bitsL (bs.take i)).length = i := by rw [bitsL_len]; simp; omega
    have w2 : IntKind.i64.wrap ((i : Int) + 1) = (i : Int) + 1 := wrap_id (by omega) (by omega)
    generalize bs[i] = b at *
    generalize bitsL (bs.take i) = ms at *
    simp [decide_eq_true hlt, hx1]
    refine call_step (l07Bit_con b) ?_
    simp
    refine app_data vt_el_24 rfl (by simp) rfl (by simp) (by simp) (by first | (simp; done) | (simp; omega)) (by simp [flatP, flatD]) ?_
    simp [w2]
    exact round_of hI hS' hμ (i + 1) (by omega) (by omega) ⟨[0, 7, 2, 3, 4, 5], by simp [hnx, e1, eInt]⟩
  · obtain rfl : i = bs.length := by omega
    rw [List.take_length]
    simp [hlt, decide_eq_false hlt, hS]
end Go.Proofs.Ytoppcdccplgalaa
