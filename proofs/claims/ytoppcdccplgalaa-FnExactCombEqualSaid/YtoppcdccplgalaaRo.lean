/-
  The net that compares two nets, by an abstract walk: the program.
  Conditions: those typed in each theorem.
-/
import Derived.Test.YtoppcdccplgalaaRn
namespace Go.Proofs.Ytoppcdccplgalaa
open Go.RowKit Go.ChangeShapes Go.WideShapes
set_option linter.unusedVariables false
set_option linter.unusedSimpArgs false
attribute [local simp ↓] condG_true condG_false condB_true condB_false
attribute [local simp] AWp_skip AWp_region_t AWp_region_d AWp_region_f still_mk AWp_seq AWp_cond condV_bool condB AWp_block AWp_exit AWp_ret
attribute [local simp] AOps_nil AOp_move AOp_assign AOp_pick AOp_binOp AOp_unOp AOp_convert AOp_len AOp_max AOp_min AOp_indexAddr AOp_load
attribute [local simp] AOp_fieldAddr AOp_field AOp_extract AOp_nilCheck AOp_build AOp_alloc AOp_box AOp_call AOp_store AOp_append AOp_buildSlice nextB_some
attribute [local simp] nextB_none adoptO adoptC AOp_makeSlice AOp_slice AOp_makeFunc AOp_guard guardD_some guardG_bool guardG_undef nextO_some nextS_some
attribute [local simp] nextZ_some nextL_some nextM_some nextT_some sliceO sliceL sliceT partO partV boundV funcO pickO
attribute [local simp] convO lenO maxO minO idxO extO nilO buildO litO litC makeO chunks
attribute [local simp] fillV placeOf thenA inBlockA St.get St.put St.eval ofCell evalT abin_add abin_sub abin_mul
attribute [local simp] abin_quo abin_rem abin_and abin_or abin_xor abin_andNot abin_shl abin_shr abin_shlu abin_eql abin_eqp abin_neq
attribute [local simp] abin_lss abin_leq abin_gtr abin_geq abin_eqlb abin_neqb aun pickV lenV intOf? indexV takeD
attribute [local simp] takeV loadV fieldAddrV fieldV ofX presD presDs pres presAll cellsV V.cell storeV
attribute [local simp] freezeC putAt kill takeC plains plainV scalarV nat_neg keepT sets eSl e1
attribute [local simp] e2 e3 e4 eInt eBool afterCall inst inst1 inst1s instD instDs RetA
attribute [local simp] resVs resV gives give1 give1s Le isPin leSlots leS leTmps leV le0
attribute [local simp] le0s ren ren0 renS ren0s frame enterT afterT_some afterC_some lives Slot.live arrsOk
attribute [local simp] viewV view0 renT rens renSs setAll List.range'_succ RetT RetW joinV leT AOpsE_nil
attribute [local simp] AOpsE_cons AOpsT_nil AOpsT_cons isCallT callOf condC_true condC_false beginT_mk thenT_mk pickE pickT isT
attribute [local simp] loose namesOf namesV names1 names0 stableN sameAt Op.operands Call.operands
def lsM (a b : GrD) (i : Nat) : List RowD := if i = 1 then [rootsM a (imp1 a).1] else [rootsM a (imp1 a).1, rootsM b (imp2 a b).1]
def anM (a b : GrD) (i : Nat) : List AndD := if i = 1 then (imp1 a).2.1 else (imp2 a b).2.1
abbrev outV (I : Int) (k : Nat) : Slot := .var 33 [.d (.int .i64 I), .nil 52, .ref k, .nil 3]
/-- The slots behind i nets: the lists of roots; the AND nodes, if there are any. -/
def mitS (I : Int) (ls : List RowD) (an : List AndD) (sl : List Slot) : List Slot :=
  if an = [] then sl ++ [.arr 24 true (ls.map enRow)] else sl.set 3 (outV I 6) ++ [.arr 24 true (ls.map enRow), .arr 100 true (an.map enAnd)]
theorem mitS_nil {I : Int} {ls : List RowD} {sl : List Slot} : mitS I ls [] sl = sl ++ [.arr 24 true (ls.map enRow)] := by simp [mitS]
theorem mitS_cons {I : Int} {ls : List RowD} {an : List AndD} {sl : List Slot} (h : an ≠ []) : mitS I ls an sl = sl.set 3 (outV I 6) ++ [.arr 24 true (ls.map enRow), .arr 100 true (an.map enAnd)] := by simp [mitS, h]
def lvM (i : Nat) : V := if i = 0 then .nil 24 else .ref 5
def slM (a b : GrD) (I : Int) (i : Nat) (sl : List Slot) : List Slot := if i = 0 then sl else mitS I (lsM a b i) (anM a b i) sl
/-- The slots within an import that begins without AND nodes; p: the place's slot; k: how many slots there are. -/
def impS (I : Int) (p k : Nat) (pl : List Int) (an : List AndD) (sl : List Slot) : List Slot :=
  if an = [] then sl.set p (.arr 3 true (pl.map (e1 eInt))) else (sl.set p (.arr 3 true (pl.map (e1 eInt)))).set 3 (outV I k) ++ [.arr 100 true (an.map enAnd)]
theorem impS_nil {I : Int} {p k : Nat} {pl : List Int} {sl : List Slot} : impS I p k pl [] sl = sl.set p (.arr 3 true (pl.map (e1 eInt))) := by simp [impS]
theorem impS_cons {I : Int} {p k : Nat} {pl : List Int} {an : List AndD} {sl : List Slot} (h : an ≠ []) : impS I p k pl an sl = (sl.set p (.arr 3 true (pl.map (e1 eInt)))).set 3 (outV I k) ++ [.arr 100 true (an.map enAnd)] := by simp [impS, h]
/-- The slots within the comparison of the roots that begins without AND nodes. -/
def rtS (I : Int) (an : List AndD) (sl : List Slot) : List Slot := if an = [] then sl else sl.set 3 (outV I 6) ++ [.arr 100 true (an.map enAnd)]
theorem rtS_nil {I : Int} {sl : List Slot} : rtS I [] sl = sl := by simp [rtS]
theorem rtS_cons {I : Int} {an : List AndD} {sl : List Slot} (h : an ≠ []) : rtS I an sl = sl.set 3 (outV I 6) ++ [.arr 100 true (an.map enAnd)] := by simp [rtS, h]
theorem addN_ne {an : List AndD} {a b : Int} (h : an ≠ []) : addN an a b ≠ [] := by
  unfold addN; split
  · simp
  · exact h
theorem addN_new {an : List AndD} {a b : Int} (h : addM an a b = true) : addN an a b ≠ [] := by unfold addN; rw [if_pos h]; simp
theorem addN_same {an : List AndD} {a b : Int} (h : addM an a b = false) : addN an a b = an := by unfold addN; rw [if_neg (by simp [h])]
theorem ne_nil_of_len {α : Type} {xs : List α} (h : 0 < xs.length) : xs ≠ [] := fun e => by rw [e] at h; simp at h
set_option maxRecDepth 100000 in
set_option maxHeartbeats 8000000 in
theorem iMiter_con (a b : GrD) (ha : fitGr 1048576 a) (hb : fitGr 1048576 b) : ConC Try.prog 34 [igr a, igr b] (.tup [igr (mitG a b), .d (.bool (mitOk a b))]) := by
  have hO : mitOk a b = (compB a b && (imp1 a).2.2 && (imp2 a b).2.2 && (mitR a b).2.2) := rfl
  have hG : mitG a b = if mitOk a b = true then (a.1 + (a.2.1.length : Int), [], (mitR a b).2.1, [(mitR a b).1]) else (0, [], [], []) := rfl
  have kc := comparable_con a b ha hb
  generalize mitG a b = G at *
  generalize mitOk a b = O at *
  refine con_ofD (by kernel_rfl) Try.func34 rfl rfl rfl ?_
  simp [enGr]
  cases hcb : compB a b with
  | false =>
    rw [hcb] at kc hO
    simp only [Bool.false_and] at hO
    rw [hO, if_neg (by simp)] at hG
    subst hO hG
    refine call_step (kc) ?_
    simp [enGr]
  | true =>
  rw [hcb] at kc hO
  simp only [Bool.true_and] at hO
  obtain ⟨hoa, hob, h1, h2, h3, h4, hfb, hrl⟩ := comp_of hcb
  obtain ⟨⟨n1, n2, n3, n4, n5, n6⟩, -, -, -⟩ := netOk_of hoa
  obtain ⟨⟨m1, m2, m3, m4, m5, m6⟩, -, -, -⟩ := netOk_of hob
  obtain ⟨hFa, hga, hNa, -⟩ := ok_sizes hoa
  obtain ⟨hFb, hgb, hNb, -⟩ := ok_sizes hob
  have hNea := grN_eq a
  have hNeb := grN_eq b
  obtain ⟨I, hI⟩ : ∃ I, a.1 + (a.2.1.length : Int) = I := ⟨_, rfl⟩
  have w1 : IntKind.i64.wrap (a.1 + (a.2.1.length : Int)) = I := by rw [← hI]; exact wrap_id (by omega) (by omega)
  rw [hI] at hG
  have hI20 : 0 ≤ I ∧ I ≤ 20 := by omega
  have hfaI : 1 + I = (firstG a : Int) := by omega
  have hfbI : 1 + I = (firstG b : Int) := by omega
  refine call_step (kc) ?_
  simp [enGr, w1]
  refine aw_loopN [false, false, false, false, true, false, true, true, false, false, false, false, false, false, false, false, false, false, false, false, false, false, false, false, false, false, false, false, false, false, false, true, true, true, false, false, false, false, false, false, false, false, false, false, false, false, false, false, false, false, false, false, false, false, false, false, false, false, false, false, false, false, false, false, false, false, false, false, false, false, false, false, false, false, false, false, false, false, false, false, false, false, false, false, false, false, false, false, false, false, false, false, false, false, false, false, false, false, false, false, false, false, false, false, false, false, false, false, false] (fun i : Nat => i ≤ 2 ∧ (0 < i → (imp1 a).2.2 = true) ∧ (1 < i → (imp2 a b).2.2 = true)) (fun i : Nat => [(7, lvM i), (33, .d (.int .i64 i))]) (fun i : Nat => slM a b I i) (fun i : Nat => 2 - i) 0 ?_ ?_ ?_
  · exact ⟨by omega, by omega, by omega⟩
  · exact ⟨[0, 1, 2, 3, 4], by simp [slM, lvM]⟩
  rintro J S μ hJ hS hμ i ⟨hi, hi1, hi2⟩
  have p1 := fun i hi => impA_ok (x := a) hoa (an0 := []) (by simp) rfl (i := i) hi
  have p2 := fun i hi => impA_ok (x := b) hob (an0 := (imp1 a).2.1) (p1 a.2.2.1.length (Nat.le_refl _)).1.an (by rw [hfb]; exact (p1 a.2.2.1.length (Nat.le_refl _)).1.ok) (i := i) hi
  rcases (show i = 0 ∨ i = 1 ∨ i = 2 by omega) with rfl | rfl | rfl
  · simp [slM, lvM, show (0 : Int) < 2 by omega, enGr]
    refine call_step (leafLits_con a ha hoa) ?_
    simp [enGr]
    obtain ⟨imS, himS⟩ : ∃ f : Nat → List Int × List AndD × Bool, f = impA a [] := ⟨_, rfl⟩
    refine aw_loopN [false, false, false, false, true, false, true, true, false, true, true, false, false, false, false, false, false, false, false, false, false, false, false, false, false, false, false, false, false, false, false, true, true, true, false, false, false, false, false, false, true, true, true, false, false, false, false, false, false, false, false, false, false, false, false, false, false, false, false, false, false, false, false, false, false, false, false, false, false, false, false, false, false, false, false, false, false, false, false, false, false, false, false, false, false, false, false, false, false, false, false, false, false, false, false, false, false, false, false, false, false, false, false, false, false, false, false, false, false] (fun j : Nat => j ≤ a.2.2.1.length ∧ (impA a [] j).2.2 = true) (fun j : Nat => [(42, .d (.int .i64 j))]) (fun j : Nat => impS I 6 7 (padL (impA a [] j).1 (grN a)) (impA a [] j).2.1) (fun j : Nat => a.2.2.1.length - j) 0 ?_ ?_ ?_
    · exact ⟨Nat.zero_le _, rfl⟩
    · exact ⟨[0, 1, 2, 3, 4, 5, 6], by simp [impA, impR, impS_nil]⟩
    rintro J2 S2 μ2 hJ2 hS2 hμ2 j ⟨hj, hjo⟩
    obtain ⟨q1, q2⟩ := p1 j hj
    obtain ⟨⟨to, an, bb⟩, hst⟩ : ∃ s, impA a [] j = s := ⟨_, rfl⟩
    rw [hst] at hjo q1 q2
    simp only at hjo q2
    obtain rfl : bb = true := hjo
    have hl := q1.len rfl
    have hpl := q1.pl
    have ha3 := q1.an
    simp only at hl hpl ha3
    rw [hst]
    by_cases hlt : j < a.2.2.1.length
    case neg =>
      obtain rfl : j = a.2.2.1.length := by omega
      have hfull : imp1 a = (to, an, true) := hst
      have hpall : padL (to, an, true).1 (grN a) = to := padL_all (by simp only; omega)
      rw [hpall]
      have hroots := iRoots_con a ha n3
      have hrlen : (grRoots a).length ≤ 1048576 := by
        have h1 := grK_len (x := a) (k := a.2.1.length) (M := 4) (fun s hs => seqOk_len ((netOk_of hoa).2.1 s hs))
        rw [grK_all] at h1
        omega
      have hmap := mapLits_con to (grRoots a) (by omega) hrlen (fun l hl => by have := root_lt hoa hl; unfold litN at this; omega)
      have hrM : (grRoots a).map (mapV to) = rootsM a (imp1 a).1 := by rw [hfull]; rfl
      rw [hrM] at hmap
      by_cases hne : an = []
      · subst hne
        rw [impS_nil]
        simp [decide_eq_false hlt, hlt]
        refine call_step (hroots) ?_
        simp [enGr]
        refine call_step (hmap) ?_
        simp
        first | refine app_lit (q := 1) vt_el_40 (by exact rfl) (by simp) (by exact rfl) (by exact rfl) (by simp) (by simp) (by first | (simp; done) | (simp; omega)) ?_ | refine app_row vt_el_40 (by exact rfl) (by simp) (by exact rfl) (by simp) (by first | (simp; done) | (simp; omega)) ?_
        simp [show IntKind.i64.wrap 1 = 1 from rfl, show IntKind.i64.wrap 2 = 2 from rfl]
        exact round_of hJ hS hμ 1 ⟨by omega, fun _ => by rw [hfull], fun h => by omega⟩ (by omega) ⟨[0, 1, 2, 3, 4, 10], by simp [slM, lvM, lsM, anM, hfull, mitS_nil, enRow, e1]⟩
      · rw [impS_cons hne]
        simp [decide_eq_false hlt, hlt]
        refine call_step (hroots) ?_
        simp [enGr]
        refine call_step (hmap) ?_
        simp
        first | refine app_lit (q := 1) vt_el_40 (by exact rfl) (by simp) (by exact rfl) (by exact rfl) (by simp) (by simp) (by first | (simp; done) | (simp; omega)) ?_ | refine app_row vt_el_40 (by exact rfl) (by simp) (by exact rfl) (by simp) (by first | (simp; done) | (simp; omega)) ?_
        simp [show IntKind.i64.wrap 1 = 1 from rfl, show IntKind.i64.wrap 2 = 2 from rfl]
        exact round_of hJ hS hμ 1 ⟨by omega, fun _ => by rw [hfull], fun h => by omega⟩ (by omega) ⟨[0, 1, 2, 3, 4, 11, 7], by simp [slM, lvM, lsM, anM, hfull, mitS_cons hne, enRow, e1]⟩
    obtain ⟨hA, a1, a2, a3, a4, a5, a6⟩ := and_at hoa (v := firstG a + j) (by omega) (by omega)
    rw [Nat.add_sub_cancel_left] at hA
    have hstp := impA_step hst
    generalize andAt a (firstG a + j) = A at *
    have hL : (enAnd A).length = 2 := rfl
    have r1 := mapV_rng (l := A.1) (plIn_at hpl (by omega) (A.1 / 2)) (by omega)
    have r2 := mapV_rng (l := A.2) (plIn_at hpl (by omega) (A.2 / 2)) (by omega)
    have hplen := padL_len (p := to) (n := grN a) (by omega)
    have kA := mapLit_con (padL to (grN a)) A.1 (by omega) (by omega)
    have kB := mapLit_con (padL to (grN a)) A.2 (by omega) (by omega)
    rw [mapV_pad (by omega)] at kA kB
    have hset := fun v : Int => padL_setD (p := to) (n := grN a) (v := v) (by omega)
    have hat : (padL to (grN a))[to.length]? = some (atI (padL to (grN a)) to.length) := at_read (k := to.length) (by omega)
    have w5 : IntKind.i64.wrap (1 + a.1 + (a.2.1.length : Int) + (j : Int)) = (to.length : Int) := by rw [wrap_id (by omega) (by omega)]; omega
    have w6 : IntKind.i64.wrap ((j : Int) + 1) = (j : Int) + 1 := wrap_id (by omega) (by omega)
    generalize mapV to A.1 = x1 at *
    generalize mapV to A.2 = x2 at *
    have hneg := addV_neg (fa := firstG a) (an := an) (a := x1) (b := x2) (by omega) (by omega) (by omega)
    generalize atI (padL to (grN a)) to.length = pv at *
    by_cases hne : an = []
    · subst hne
      rw [impS_nil]
      cases hm : addM [] x1 x2
      · have c := addAnd_same_nn I (firstG a) x1 x2 hI20 hfaI (by omega) (by omega) hm
        rw [addN_same hm] at hstp
        generalize hvv : addV (firstG a) [] x1 x2 = v at *
        simp [decide_eq_true hlt, hA, hL, enAnd]
        refine drawD_of 8 (by kernel_rfl) ?_
        simp
        refine call_step (kA) ?_
        simp
        refine call_step (kB) ?_
        simp
        refine callT_step (c) [] [3] (by simp) ?_
        simp
        by_cases hv : v < 0
        · rw [if_pos hv] at hstp
          have hff := impA_false (show (impA a [] (j + 1)).2.2 = false by rw [hstp]) (a.2.2.1.length - (j + 1))
          rw [show j + 1 + (a.2.2.1.length - (j + 1)) = a.2.2.1.length by omega] at hff
          have hff2 : (imp1 a).2.2 = false := hff
          rw [hff2] at hO
          simp only [Bool.false_and, Bool.and_false] at hO
          rw [hO, if_neg (by simp)] at hG
          subst hO hG
          simp [hv, decide_eq_true hv, show ¬ 0 ≤ v by omega, enGr]
        rw [if_neg hv] at hstp
        simp [hv, decide_eq_false hv, show 0 ≤ v by omega]
        refine call_step (firstAnd_con a ⟨n1, n2⟩ n3) ?_
        simp [w5, w6, hset, hat, enGr]
        exact round_of hJ2 hS2 hμ2 (j + 1) ⟨by omega, by rw [hstp]⟩ (by omega) ⟨[0, 1, 2, 3, 4, 5, 6], by simp [hstp, impS_nil]⟩
      · have c := addAnd_new_nn I (firstG a) x1 x2 hI20 hfaI (by omega) (by omega) hm
        generalize hvv : addV (firstG a) [] x1 x2 = v at *
        simp [decide_eq_true hlt, hA, hL, enAnd]
        refine drawD_of 8 (by kernel_rfl) ?_
        simp
        refine call_step (kA) ?_
        simp
        refine call_step (kB) ?_
        simp
        refine callT_step (c) [] [3] (by simp) ?_
        simp
        by_cases hv : v < 0
        · rw [if_pos hv] at hstp
          have hff := impA_false (show (impA a [] (j + 1)).2.2 = false by rw [hstp]) (a.2.2.1.length - (j + 1))
          rw [show j + 1 + (a.2.2.1.length - (j + 1)) = a.2.2.1.length by omega] at hff
          have hff2 : (imp1 a).2.2 = false := hff
          rw [hff2] at hO
          simp only [Bool.false_and, Bool.and_false] at hO
          rw [hO, if_neg (by simp)] at hG
          subst hO hG
          simp [hv, decide_eq_true hv, show ¬ 0 ≤ v by omega, enGr]
        rw [if_neg hv] at hstp
        simp [hv, decide_eq_false hv, show 0 ≤ v by omega]
        refine call_step (firstAnd_con a ⟨n1, n2⟩ n3) ?_
        simp [w5, w6, hset, hat, enGr]
        exact round_of hJ2 hS2 hμ2 (j + 1) ⟨by omega, by rw [hstp]⟩ (by omega) ⟨[0, 1, 2, 3, 4, 5, 6, 8], by simp [hstp, impS_cons (addN_new hm)]⟩
    · rw [impS_cons hne]
      cases hm : addM an x1 x2
      · have c := addAnd_same_na I (firstG a) an x1 x2 hI20 hfaI ha3 (by omega) (by omega) hm
        rw [addN_same hm] at hstp
        generalize hvv : addV (firstG a) an x1 x2 = v at *
        simp [decide_eq_true hlt, hA, hL, enAnd]
        refine drawD_of 8 (by kernel_rfl) ?_
        simp
        refine call_step (kA) ?_
        simp
        refine call_step (kB) ?_
        simp
        refine callT_step (c) [] [3, 7] (by simp) ?_
        simp
        by_cases hv : v < 0
        · rw [if_pos hv] at hstp
          have hff := impA_false (show (impA a [] (j + 1)).2.2 = false by rw [hstp]) (a.2.2.1.length - (j + 1))
          rw [show j + 1 + (a.2.2.1.length - (j + 1)) = a.2.2.1.length by omega] at hff
          have hff2 : (imp1 a).2.2 = false := hff
          rw [hff2] at hO
          simp only [Bool.false_and, Bool.and_false] at hO
          rw [hO, if_neg (by simp)] at hG
          subst hO hG
          simp [hv, decide_eq_true hv, show ¬ 0 ≤ v by omega, enGr]
        rw [if_neg hv] at hstp
        simp [hv, decide_eq_false hv, show 0 ≤ v by omega]
        refine call_step (firstAnd_con a ⟨n1, n2⟩ n3) ?_
        simp [w5, w6, hset, hat, enGr]
        exact round_of hJ2 hS2 hμ2 (j + 1) ⟨by omega, by rw [hstp]⟩ (by omega) ⟨[0, 1, 2, 3, 4, 5, 6, 7], by simp [hstp, impS_cons hne]⟩
      · have c := addAnd_new_na I (firstG a) an x1 x2 hI20 hfaI ha3 (by omega) (by omega) hm
        generalize hvv : addV (firstG a) an x1 x2 = v at *
        simp [decide_eq_true hlt, hA, hL, enAnd]
        refine drawD_of 8 (by kernel_rfl) ?_
        simp
        refine call_step (kA) ?_
        simp
        refine call_step (kB) ?_
        simp
        refine callT_step (c) [] [3, 7] (by simp) ?_
        simp
        by_cases hv : v < 0
        · rw [if_pos hv] at hstp
          have hff := impA_false (show (impA a [] (j + 1)).2.2 = false by rw [hstp]) (a.2.2.1.length - (j + 1))
          rw [show j + 1 + (a.2.2.1.length - (j + 1)) = a.2.2.1.length by omega] at hff
          have hff2 : (imp1 a).2.2 = false := hff
          rw [hff2] at hO
          simp only [Bool.false_and, Bool.and_false] at hO
          rw [hO, if_neg (by simp)] at hG
          subst hO hG
          simp [hv, decide_eq_true hv, show ¬ 0 ≤ v by omega, enGr]
        rw [if_neg hv] at hstp
        simp [hv, decide_eq_false hv, show 0 ≤ v by omega]
        refine call_step (firstAnd_con a ⟨n1, n2⟩ n3) ?_
        simp [w5, w6, hset, hat, enGr]
        exact round_of hJ2 hS2 hμ2 (j + 1) ⟨by omega, by rw [hstp]⟩ (by omega) ⟨[0, 1, 2, 3, 4, 5, 6, 9], by simp [hstp, impS_cons (addN_new hm)]⟩
  · have hf1 := hi1 (by omega)
    by_cases hane : (imp1 a).2.1 = []
    · have hsl : ∀ sl, slM a b I 1 sl = mitS I [rootsM a (imp1 a).1] [] sl := fun sl => by simp [slM, lsM, anM, hane]
      rw [hsl, mitS_nil]
      simp [lvM, show (1 : Int) < 2 by omega, enGr]
      refine call_step (leafLits_con b hb hob) ?_
      simp [enGr]
      obtain ⟨imS, himS⟩ : ∃ f : Nat → List Int × List AndD × Bool, f = impA b (imp1 a).2.1 := ⟨_, rfl⟩
      refine aw_loopN [false, false, false, false, true, false, true, true, false, true, true, false, false, false, false, false, false, false, false, false, false, false, false, false, false, false, false, false, false, false, false, true, true, true, false, false, false, false, false, false, true, true, true, false, false, false, false, false, false, false, false, false, false, false, false, false, false, false, false, false, false, false, false, false, false, false, false, false, false, false, false, false, false, false, false, false, false, false, false, false, false, false, false, false, false, false, false, false, false, false, false, false, false, false, false, false, false, false, false, false, false, false, false, false, false, false, false, false, false] (fun j : Nat => j ≤ b.2.2.1.length ∧ (impA b (imp1 a).2.1 j).2.2 = true) (fun j : Nat => [(42, .d (.int .i64 j))]) (fun j : Nat => impS I 7 8 (padL (impA b (imp1 a).2.1 j).1 (grN b)) (impA b (imp1 a).2.1 j).2.1) (fun j : Nat => b.2.2.1.length - j) 0 ?_ ?_ ?_
      · exact ⟨Nat.zero_le _, rfl⟩
      · exact ⟨[0, 1, 2, 3, 4, 5, 6, 7], by simp [impA, impR, hane, impS_nil]⟩
      rintro J2 S2 μ2 hJ2 hS2 hμ2 j ⟨hj, hjo⟩
      obtain ⟨q1, q2⟩ := p2 j hj
      obtain ⟨⟨to, an, bb⟩, hst⟩ : ∃ s, impA b (imp1 a).2.1 j = s := ⟨_, rfl⟩
      rw [hst] at hjo q1 q2
      simp only at hjo q2
      obtain rfl : bb = true := hjo
      have hl := q1.len rfl
      have hpl := q1.pl
      have ha3 := q1.an
      simp only at hl hpl ha3
      rw [hst]
      by_cases hlt : j < b.2.2.1.length
      case neg =>
        obtain rfl : j = b.2.2.1.length := by omega
        have hfull : imp2 a b = (to, an, true) := hst
        have hpall : padL (to, an, true).1 (grN b) = to := padL_all (by simp only; omega)
        rw [hpall]
        have hroots := iRoots_con b hb m3
        have hrlen : (grRoots b).length ≤ 1048576 := by
          have h1 := grK_len (x := b) (k := b.2.1.length) (M := 4) (fun s hs => seqOk_len ((netOk_of hob).2.1 s hs))
          rw [grK_all] at h1
          omega
        have hmap := mapLits_con to (grRoots b) (by omega) hrlen (fun l hl => by have := root_lt hob hl; unfold litN at this; omega)
        have hrM : (grRoots b).map (mapV to) = rootsM b (imp2 a b).1 := by rw [hfull]; rfl
        rw [hrM] at hmap
        by_cases hne : an = []
        · subst hne
          rw [impS_nil]
          simp [decide_eq_false hlt, hlt]
          refine call_step (hroots) ?_
          simp [enGr]
          refine call_step (hmap) ?_
          simp
          first | refine app_lit (q := 1) vt_el_40 (by exact rfl) (by simp) (by exact rfl) (by exact rfl) (by simp) (by simp) (by first | (simp; done) | (simp; omega)) ?_ | refine app_row vt_el_40 (by exact rfl) (by simp) (by exact rfl) (by simp) (by first | (simp; done) | (simp; omega)) ?_
          simp [show IntKind.i64.wrap 1 = 1 from rfl, show IntKind.i64.wrap 2 = 2 from rfl]
          exact round_of hJ hS hμ 2 ⟨by omega, fun _ => hi1 (by omega), fun h => by rw [hfull]⟩ (by omega) ⟨[0, 1, 2, 3, 4, 11], by simp [slM, lvM, lsM, anM, hfull, mitS_nil, enRow, e1]⟩
        · rw [impS_cons hne]
          simp [decide_eq_false hlt, hlt]
          refine call_step (hroots) ?_
          simp [enGr]
          refine call_step (hmap) ?_
          simp
          first | refine app_lit (q := 1) vt_el_40 (by exact rfl) (by simp) (by exact rfl) (by exact rfl) (by simp) (by simp) (by first | (simp; done) | (simp; omega)) ?_ | refine app_row vt_el_40 (by exact rfl) (by simp) (by exact rfl) (by simp) (by first | (simp; done) | (simp; omega)) ?_
          simp [show IntKind.i64.wrap 1 = 1 from rfl, show IntKind.i64.wrap 2 = 2 from rfl]
          exact round_of hJ hS hμ 2 ⟨by omega, fun _ => hi1 (by omega), fun h => by rw [hfull]⟩ (by omega) ⟨[0, 1, 2, 3, 4, 12, 8], by simp [slM, lvM, lsM, anM, hfull, mitS_cons hne, enRow, e1]⟩
      obtain ⟨hA, a1, a2, a3, a4, a5, a6⟩ := and_at hob (v := firstG b + j) (by omega) (by omega)
      rw [Nat.add_sub_cancel_left] at hA
      have hstp := impA_step hst
      generalize andAt b (firstG b + j) = A at *
      have hL : (enAnd A).length = 2 := rfl
      have r1 := mapV_rng (l := A.1) (plIn_at hpl (by omega) (A.1 / 2)) (by omega)
      have r2 := mapV_rng (l := A.2) (plIn_at hpl (by omega) (A.2 / 2)) (by omega)
      have hplen := padL_len (p := to) (n := grN b) (by omega)
      have kA := mapLit_con (padL to (grN b)) A.1 (by omega) (by omega)
      have kB := mapLit_con (padL to (grN b)) A.2 (by omega) (by omega)
      rw [mapV_pad (by omega)] at kA kB
      have hset := fun v : Int => padL_setD (p := to) (n := grN b) (v := v) (by omega)
      have hat : (padL to (grN b))[to.length]? = some (atI (padL to (grN b)) to.length) := at_read (k := to.length) (by omega)
      have w5 : IntKind.i64.wrap (1 + b.1 + (b.2.1.length : Int) + (j : Int)) = (to.length : Int) := by rw [wrap_id (by omega) (by omega)]; omega
      have w6 : IntKind.i64.wrap ((j : Int) + 1) = (j : Int) + 1 := wrap_id (by omega) (by omega)
      generalize mapV to A.1 = x1 at *
      generalize mapV to A.2 = x2 at *
      have hneg := addV_neg (fa := firstG b) (an := an) (a := x1) (b := x2) (by omega) (by omega) (by omega)
      generalize atI (padL to (grN b)) to.length = pv at *
      by_cases hne : an = []
      · subst hne
        rw [impS_nil]
        cases hm : addM [] x1 x2
        · have c := addAnd_same_nn I (firstG b) x1 x2 hI20 hfbI (by omega) (by omega) hm
          rw [addN_same hm] at hstp
          generalize hvv : addV (firstG b) [] x1 x2 = v at *
          simp [decide_eq_true hlt, hA, hL, enAnd]
          refine drawD_of 8 (by kernel_rfl) ?_
          simp
          refine call_step (kA) ?_
          simp
          refine call_step (kB) ?_
          simp
          refine callT_step (c) [] [3] (by simp) ?_
          simp
          by_cases hv : v < 0
          · rw [if_pos hv] at hstp
            have hff := impA_false (show (impA b (imp1 a).2.1 (j + 1)).2.2 = false by rw [hstp]) (b.2.2.1.length - (j + 1))
            rw [show j + 1 + (b.2.2.1.length - (j + 1)) = b.2.2.1.length by omega] at hff
            have hff2 : (imp2 a b).2.2 = false := hff
            rw [hff2] at hO
            simp only [Bool.false_and, Bool.and_false] at hO
            rw [hO, if_neg (by simp)] at hG
            subst hO hG
            simp [hv, decide_eq_true hv, show ¬ 0 ≤ v by omega, enGr]
          rw [if_neg hv] at hstp
          simp [hv, decide_eq_false hv, show 0 ≤ v by omega]
          refine call_step (firstAnd_con b ⟨m1, m2⟩ m3) ?_
          simp [w5, w6, hset, hat, enGr]
          exact round_of hJ2 hS2 hμ2 (j + 1) ⟨by omega, by rw [hstp]⟩ (by omega) ⟨[0, 1, 2, 3, 4, 5, 6, 7], by simp [hstp, impS_nil]⟩
        · have c := addAnd_new_nn I (firstG b) x1 x2 hI20 hfbI (by omega) (by omega) hm
          generalize hvv : addV (firstG b) [] x1 x2 = v at *
          simp [decide_eq_true hlt, hA, hL, enAnd]
          refine drawD_of 8 (by kernel_rfl) ?_
          simp
          refine call_step (kA) ?_
          simp
          refine call_step (kB) ?_
          simp
          refine callT_step (c) [] [3] (by simp) ?_
          simp
          by_cases hv : v < 0
          · rw [if_pos hv] at hstp
            have hff := impA_false (show (impA b (imp1 a).2.1 (j + 1)).2.2 = false by rw [hstp]) (b.2.2.1.length - (j + 1))
            rw [show j + 1 + (b.2.2.1.length - (j + 1)) = b.2.2.1.length by omega] at hff
            have hff2 : (imp2 a b).2.2 = false := hff
            rw [hff2] at hO
            simp only [Bool.false_and, Bool.and_false] at hO
            rw [hO, if_neg (by simp)] at hG
            subst hO hG
            simp [hv, decide_eq_true hv, show ¬ 0 ≤ v by omega, enGr]
          rw [if_neg hv] at hstp
          simp [hv, decide_eq_false hv, show 0 ≤ v by omega]
          refine call_step (firstAnd_con b ⟨m1, m2⟩ m3) ?_
          simp [w5, w6, hset, hat, enGr]
          exact round_of hJ2 hS2 hμ2 (j + 1) ⟨by omega, by rw [hstp]⟩ (by omega) ⟨[0, 1, 2, 3, 4, 5, 6, 7, 9], by simp [hstp, impS_cons (addN_new hm)]⟩
      · rw [impS_cons hne]
        cases hm : addM an x1 x2
        · have c := addAnd_same_na I (firstG b) an x1 x2 hI20 hfbI ha3 (by omega) (by omega) hm
          rw [addN_same hm] at hstp
          generalize hvv : addV (firstG b) an x1 x2 = v at *
          simp [decide_eq_true hlt, hA, hL, enAnd]
          refine drawD_of 8 (by kernel_rfl) ?_
          simp
          refine call_step (kA) ?_
          simp
          refine call_step (kB) ?_
          simp
          refine callT_step (c) [] [3, 8] (by simp) ?_
          simp
          by_cases hv : v < 0
          · rw [if_pos hv] at hstp
            have hff := impA_false (show (impA b (imp1 a).2.1 (j + 1)).2.2 = false by rw [hstp]) (b.2.2.1.length - (j + 1))
            rw [show j + 1 + (b.2.2.1.length - (j + 1)) = b.2.2.1.length by omega] at hff
            have hff2 : (imp2 a b).2.2 = false := hff
            rw [hff2] at hO
            simp only [Bool.false_and, Bool.and_false] at hO
            rw [hO, if_neg (by simp)] at hG
            subst hO hG
            simp [hv, decide_eq_true hv, show ¬ 0 ≤ v by omega, enGr]
          rw [if_neg hv] at hstp
          simp [hv, decide_eq_false hv, show 0 ≤ v by omega]
          refine call_step (firstAnd_con b ⟨m1, m2⟩ m3) ?_
          simp [w5, w6, hset, hat, enGr]
          exact round_of hJ2 hS2 hμ2 (j + 1) ⟨by omega, by rw [hstp]⟩ (by omega) ⟨[0, 1, 2, 3, 4, 5, 6, 7, 8], by simp [hstp, impS_cons hne]⟩
        · have c := addAnd_new_na I (firstG b) an x1 x2 hI20 hfbI ha3 (by omega) (by omega) hm
          generalize hvv : addV (firstG b) an x1 x2 = v at *
          simp [decide_eq_true hlt, hA, hL, enAnd]
          refine drawD_of 8 (by kernel_rfl) ?_
          simp
          refine call_step (kA) ?_
          simp
          refine call_step (kB) ?_
          simp
          refine callT_step (c) [] [3, 8] (by simp) ?_
          simp
          by_cases hv : v < 0
          · rw [if_pos hv] at hstp
            have hff := impA_false (show (impA b (imp1 a).2.1 (j + 1)).2.2 = false by rw [hstp]) (b.2.2.1.length - (j + 1))
            rw [show j + 1 + (b.2.2.1.length - (j + 1)) = b.2.2.1.length by omega] at hff
            have hff2 : (imp2 a b).2.2 = false := hff
            rw [hff2] at hO
            simp only [Bool.false_and, Bool.and_false] at hO
            rw [hO, if_neg (by simp)] at hG
            subst hO hG
            simp [hv, decide_eq_true hv, show ¬ 0 ≤ v by omega, enGr]
          rw [if_neg hv] at hstp
          simp [hv, decide_eq_false hv, show 0 ≤ v by omega]
          refine call_step (firstAnd_con b ⟨m1, m2⟩ m3) ?_
          simp [w5, w6, hset, hat, enGr]
          exact round_of hJ2 hS2 hμ2 (j + 1) ⟨by omega, by rw [hstp]⟩ (by omega) ⟨[0, 1, 2, 3, 4, 5, 6, 7, 10], by simp [hstp, impS_cons (addN_new hm)]⟩
    · have hsl : ∀ sl, slM a b I 1 sl = sl.set 3 (outV I 6) ++ [.arr 24 true ([rootsM a (imp1 a).1].map enRow), .arr 100 true ((imp1 a).2.1.map enAnd)] := fun sl => by simp [slM, lsM, anM, mitS_cons hane]
      rw [hsl]
      simp [lvM, show (1 : Int) < 2 by omega, enGr]
      refine call_step (leafLits_con b hb hob) ?_
      simp [enGr]
      obtain ⟨imS, himS⟩ : ∃ f : Nat → List Int × List AndD × Bool, f = impA b (imp1 a).2.1 := ⟨_, rfl⟩
      refine aw_loopU [false, false, false, false, true, false, true, true, false, true, true, false, false, false, false, false, false, false, false, false, false, false, false, false, false, false, false, false, false, false, false, true, true, true, false, false, false, false, false, false, true, true, true, false, false, false, false, false, false, false, false, false, false, false, false, false, false, false, false, false, false, false, false, false, false, false, false, false, false, false, false, false, false, false, false, false, false, false, false, false, false, false, false, false, false, false, false, false, false, false, false, false, false, false, false, false, false, false, false, false, false, false, false, false, false, false, false, false, false] (fun j : Nat => j ≤ b.2.2.1.length ∧ (impA b (imp1 a).2.1 j).2.2 = true ∧ (impA b (imp1 a).2.1 j).2.1 ≠ []) (fun j : Nat => [(42, .d (.int .i64 j))]) (fun j : Nat => [(8, .arr 3 true ((padL (impA b (imp1 a).2.1 j).1 (grN b)).map (e1 eInt))), (6, .arr 100 true ((impA b (imp1 a).2.1 j).2.1.map enAnd))]) (fun j : Nat => b.2.2.1.length - j) 0 ?_ ?_ ?_
      · exact ⟨Nat.zero_le _, rfl, hane⟩
      · exact ⟨[0, 1, 2, 3, 4, 5, 6, 7, 8], by simp [impA, impR]⟩
      rintro J2 S2 μ2 hJ2 hS2 hμ2 j ⟨hj, hjo, hne0⟩
      obtain ⟨q1, q2⟩ := p2 j hj
      obtain ⟨⟨to, an, bb⟩, hst⟩ : ∃ s, impA b (imp1 a).2.1 j = s := ⟨_, rfl⟩
      rw [hst] at hjo q1 q2 hne0
      simp only at hjo q2 hne0
      obtain rfl : bb = true := hjo
      have hl := q1.len rfl
      have hpl := q1.pl
      have ha3 := q1.an
      simp only at hl hpl ha3
      rw [hst]
      by_cases hlt : j < b.2.2.1.length
      case neg =>
        obtain rfl : j = b.2.2.1.length := by omega
        have hfull : imp2 a b = (to, an, true) := hst
        have hpall : padL (to, an, true).1 (grN b) = to := padL_all (by simp only; omega)
        rw [hpall]
        have hroots := iRoots_con b hb m3
        have hrlen : (grRoots b).length ≤ 1048576 := by
          have h1 := grK_len (x := b) (k := b.2.1.length) (M := 4) (fun s hs => seqOk_len ((netOk_of hob).2.1 s hs))
          rw [grK_all] at h1
          omega
        have hmap := mapLits_con to (grRoots b) (by omega) hrlen (fun l hl => by have := root_lt hob hl; unfold litN at this; omega)
        have hrM : (grRoots b).map (mapV to) = rootsM b (imp2 a b).1 := by rw [hfull]; rfl
        rw [hrM] at hmap
        have hne : an ≠ [] := hne0
        simp [decide_eq_false hlt, hlt]
        refine call_step (hroots) ?_
        simp [enGr]
        refine call_step (hmap) ?_
        simp
        first | refine app_lit (q := 1) vt_el_40 (by exact rfl) (by simp) (by exact rfl) (by exact rfl) (by simp) (by simp) (by first | (simp; done) | (simp; omega)) ?_ | refine app_row vt_el_40 (by exact rfl) (by simp) (by exact rfl) (by simp) (by first | (simp; done) | (simp; omega)) ?_
        simp [show IntKind.i64.wrap 1 = 1 from rfl, show IntKind.i64.wrap 2 = 2 from rfl]
        exact round_of hJ hS hμ 2 ⟨by omega, fun _ => hi1 (by omega), fun h => by rw [hfull]⟩ (by omega) ⟨[0, 1, 2, 3, 4, 12, 6], by simp [slM, lvM, lsM, anM, hfull, mitS_cons hne, enRow, e1]⟩
      obtain ⟨hA, a1, a2, a3, a4, a5, a6⟩ := and_at hob (v := firstG b + j) (by omega) (by omega)
      rw [Nat.add_sub_cancel_left] at hA
      have hstp := impA_step hst
      generalize andAt b (firstG b + j) = A at *
      have hL : (enAnd A).length = 2 := rfl
      have r1 := mapV_rng (l := A.1) (plIn_at hpl (by omega) (A.1 / 2)) (by omega)
      have r2 := mapV_rng (l := A.2) (plIn_at hpl (by omega) (A.2 / 2)) (by omega)
      have hplen := padL_len (p := to) (n := grN b) (by omega)
      have kA := mapLit_con (padL to (grN b)) A.1 (by omega) (by omega)
      have kB := mapLit_con (padL to (grN b)) A.2 (by omega) (by omega)
      rw [mapV_pad (by omega)] at kA kB
      have hset := fun v : Int => padL_setD (p := to) (n := grN b) (v := v) (by omega)
      have hat : (padL to (grN b))[to.length]? = some (atI (padL to (grN b)) to.length) := at_read (k := to.length) (by omega)
      have w5 : IntKind.i64.wrap (1 + b.1 + (b.2.1.length : Int) + (j : Int)) = (to.length : Int) := by rw [wrap_id (by omega) (by omega)]; omega
      have w6 : IntKind.i64.wrap ((j : Int) + 1) = (j : Int) + 1 := wrap_id (by omega) (by omega)
      generalize mapV to A.1 = x1 at *
      generalize mapV to A.2 = x2 at *
      have hneg := addV_neg (fa := firstG b) (an := an) (a := x1) (b := x2) (by omega) (by omega) (by omega)
      generalize atI (padL to (grN b)) to.length = pv at *
      cases hm : addM an x1 x2
      · have c := addAnd_same_na I (firstG b) an x1 x2 hI20 hfbI ha3 (by omega) (by omega) hm
        rw [addN_same hm] at hstp
        generalize hvv : addV (firstG b) an x1 x2 = v at *
        simp [decide_eq_true hlt, hA, hL, enAnd]
        refine drawD_of 8 (by kernel_rfl) ?_
        simp
        refine call_step (kA) ?_
        simp
        refine call_step (kB) ?_
        simp
        refine callT_step (c) [] [3, 6] (by simp) ?_
        simp
        by_cases hv : v < 0
        · rw [if_pos hv] at hstp
          have hff := impA_false (show (impA b (imp1 a).2.1 (j + 1)).2.2 = false by rw [hstp]) (b.2.2.1.length - (j + 1))
          rw [show j + 1 + (b.2.2.1.length - (j + 1)) = b.2.2.1.length by omega] at hff
          have hff2 : (imp2 a b).2.2 = false := hff
          rw [hff2] at hO
          simp only [Bool.false_and, Bool.and_false] at hO
          rw [hO, if_neg (by simp)] at hG
          subst hO hG
          simp [hv, decide_eq_true hv, show ¬ 0 ≤ v by omega, enGr]
        rw [if_neg hv] at hstp
        simp [hv, decide_eq_false hv, show 0 ≤ v by omega]
        refine call_step (firstAnd_con b ⟨m1, m2⟩ m3) ?_
        simp [w5, w6, hset, hat, enGr]
        exact round_of hJ2 hS2 hμ2 (j + 1) ⟨by omega, by rw [hstp], by rw [hstp]; exact hne0⟩ (by omega) ⟨[0, 1, 2, 3, 4, 5, 6, 7, 8], by simp [hstp]⟩
      · have c := addAnd_new_na I (firstG b) an x1 x2 hI20 hfbI ha3 (by omega) (by omega) hm
        generalize hvv : addV (firstG b) an x1 x2 = v at *
        simp [decide_eq_true hlt, hA, hL, enAnd]
        refine drawD_of 8 (by kernel_rfl) ?_
        simp
        refine call_step (kA) ?_
        simp
        refine call_step (kB) ?_
        simp
        refine callT_step (c) [] [3, 6] (by simp) ?_
        simp
        by_cases hv : v < 0
        · rw [if_pos hv] at hstp
          have hff := impA_false (show (impA b (imp1 a).2.1 (j + 1)).2.2 = false by rw [hstp]) (b.2.2.1.length - (j + 1))
          rw [show j + 1 + (b.2.2.1.length - (j + 1)) = b.2.2.1.length by omega] at hff
          have hff2 : (imp2 a b).2.2 = false := hff
          rw [hff2] at hO
          simp only [Bool.false_and, Bool.and_false] at hO
          rw [hO, if_neg (by simp)] at hG
          subst hO hG
          simp [hv, decide_eq_true hv, show ¬ 0 ≤ v by omega, enGr]
        rw [if_neg hv] at hstp
        simp [hv, decide_eq_false hv, show 0 ≤ v by omega]
        refine call_step (firstAnd_con b ⟨m1, m2⟩ m3) ?_
        simp [w5, w6, hset, hat, enGr]
        exact round_of hJ2 hS2 hμ2 (j + 1) ⟨by omega, by rw [hstp], by rw [hstp]; exact addN_ne hne0⟩ (by omega) ⟨[0, 1, 2, 3, 4, 5, 10, 7, 8], by simp [hstp]⟩
  · have hf1 := hi1 (by omega)
    have hf2 := hi2 (by omega)
    rw [hf1, hf2] at hO
    simp only [Bool.true_and] at hO
    obtain ⟨q1, -⟩ := p2 b.2.2.1.length (Nat.le_refl _)
    obtain ⟨t1, -⟩ := p1 a.2.2.1.length (Nat.le_refl _)
    have hplB := q1.pl
    have hplA := t1.pl
    have hanB := q1.an
    have hle12 : (imp1 a).2.1.length ≤ (imp2 a b).2.1.length := (p2 b.2.2.1.length (Nat.le_refl _)).2
    have hMr : mitR a b = mitGo (firstG a) (rootsM a (imp1 a).1) (rootsM b (imp2 a b).1) (imp2 a b).2.1 (grRoots a).length := rfl
    have hra : (rootsM a (imp1 a).1).length = (grRoots a).length := by simp [rootsM]
    have hrb : (rootsM b (imp2 a b).1).length = (grRoots a).length := by simp [rootsM, hrl]
    have hrA : ∀ k : Int, k ∈ rootsM a (imp1 a).1 → 0 ≤ k ∧ k < 2 * ((firstG a : Int) + (imp2 a b).2.1.length) := fun k hk => by
      obtain ⟨l, -, rfl⟩ := List.mem_map.1 hk
      have e2 : (impA a [] a.2.2.1.length).2.1.length = (imp1 a).2.1.length := rfl
      have hq : plIn ((firstG a : Int) + (imp2 a b).2.1.length) (imp1 a).1 := plIn_mono hplA (by omega)
      have hb3 : (imp2 a b).2.1.length ≤ 300 := hanB
      exact mapV_rng (plIn_at hq (by omega) _) (by omega)
    have hrB : ∀ k : Int, k ∈ rootsM b (imp2 a b).1 → 0 ≤ k ∧ k < 2 * ((firstG a : Int) + (imp2 a b).2.1.length) := fun k hk => by
      obtain ⟨l, -, rfl⟩ := List.mem_map.1 hk
      have hb3 : (imp2 a b).2.1.length ≤ 300 := hanB
      rw [hfb] at hplB
      exact mapV_rng (plIn_at hplB (by have : (0:Int) ≤ (imp2 a b).2.1.length := by omega
                                       omega) _) (by omega)
    have hb3 : (imp2 a b).2.1.length ≤ 300 := hanB
    have hlsM : lsM a b 2 = [rootsM a (imp1 a).1, rootsM b (imp2 a b).1] := rfl
    have hanM : anM a b 2 = (imp2 a b).2.1 := rfl
    have hslM : ∀ sl, slM a b I 2 sl = mitS I (lsM a b 2) (anM a b 2) sl := fun sl => rfl
    rw [hslM, hlsM, hanM]
    clear hplA hplB q1 t1 p1 p2 hS hJ hμ hanB
    have hnr0 := grK_len (x := a) (k := a.2.1.length) (M := 4) (fun s hs => seqOk_len ((netOk_of hoa).2.1 s hs))
    rw [grK_all] at hnr0
    generalize rootsM a (imp1 a).1 = ra at *
    generalize rootsM b (imp2 a b).1 = rb at *
    generalize (imp2 a b).2.1 = an0 at *
    generalize mitR a b = MR at *
    have hrl16 := hra
    generalize (grRoots a).length = nr at *
    have hnr : nr ≤ 64 := by omega
    by_cases han0 : an0 = []
    · subst han0
      rw [mitS_nil]
      simp [lvM, show ¬ (2 : Int) < 2 by omega, enRow, e1]
      refine aw_loopN [false, false, false, false, true, false, true, true, false, false, false, false, false, false, true, false, false, false, false, false, false, false, false, false, false, false, false, false, false, false, false, false, false, false, false, false, false, false, false, false, false, false, false, false, false, false, false, false, false, false, false, false, false, false, false, false, false, false, false, false, false, false, false, false, false, false, false, false, false, false, false, false, false, false, false, false, false, false, true, true, false, false, false, false, false, false, false, false, false, false, false, false, false, false, false, false, false, false, false, false, false, false, false, false, false, false, false, false, false] (fun i : Nat => i ≤ nr ∧ (mitGo (firstG a) ra rb [] i).2.2 = true) (fun i : Nat => [(14, .d (.int .i64 (mitGo (firstG a) ra rb [] i).1)), (79, .d (.int .i64 i))]) (fun i : Nat => rtS I (mitGo (firstG a) ra rb [] i).2.1) (fun i : Nat => nr - i) 0 ?_ ?_ ?_
      · exact ⟨Nat.zero_le _, rfl⟩
      · exact ⟨[0, 1, 2, 3, 4, 5], by simp [mitGo, rtS_nil, hra]⟩
      rintro J2 S2 μ2 hJ2 hS2 hμ2 i ⟨hi, hio⟩
      obtain ⟨⟨sv, an, bb⟩, hst⟩ : ∃ s, mitGo (firstG a) ra rb [] i = s := ⟨_, rfl⟩
      have hgf := mitGo_facts (fa := firstG a) (ra := ra) (rb := rb) (an0 := []) (by omega) (by simp) hrA hrB (by omega) (by omega) i hi
      rw [hst] at hio hgf
      simp only at hio
      subst hio
      rw [hst]
      obtain ⟨g1, g2, g3⟩ := hgf rfl
      simp only at g1 g2 g3
      by_cases hlt : i < nr
      case neg =>
        obtain rfl : i = nr := by omega
        rw [hst] at hMr
        subst hMr
        simp only at hO
        rw [hO, if_pos rfl] at hG
        subst hO hG
        by_cases hne : an = []
        · subst hne
          rw [rtS_nil]
          simp [decide_eq_false hlt, hlt, hra, enGr]
        · rw [rtS_cons hne]
          simp [decide_eq_false hlt, hlt, hra, enGr]
      have hx1 : ra[i]? = some (ra.getD i 0) := by rw [List.getD_eq_getElem?_getD, List.getElem?_eq_getElem (by omega)]; rfl
      have hx2 : rb[i]? = some (rb.getD i 0) := by rw [List.getD_eq_getElem?_getD, List.getElem?_eq_getElem (by omega)]; rfl
      have b1 := hrA _ (List.mem_of_getElem? hx1)
      have b2 := hrB _ (List.mem_of_getElem? hx2)
      have hstp := mitGo_step hst
      generalize ra.getD i 0 = xa at *
      generalize rb.getD i 0 = xb at *
      have w6 : IntKind.i64.wrap ((i : Int) + 1) = (i : Int) + 1 := wrap_id (by omega) (by omega)
      have hLr : ∀ x : RowD, (enRow x).length = 1 := fun _ => rfl
      by_cases hne : an = []
      · subst hne
        rw [rtS_nil]
        have xr := xorR_rng (fa := firstG a) (an := []) (a := xa) (b := xb) (by omega) g3 (by omega) (by omega)
        have cxsame := addXor_same_n I (firstG a) xa xb hI20 hfaI g3 (by omega) (by omega)
        have cxnew := addXor_new_n I (firstG a) xa xb hI20 hfaI g3 (by omega) (by omega)
        obtain ⟨⟨xv, an1⟩, hX⟩ : ∃ q, xorR (firstG a) [] xa xb = q := ⟨_, rfl⟩
        rw [hX] at xr cxsame cxnew hstp
        obtain ⟨x1, x2, x3, x4⟩ := xr
        simp only at x1 x2 x3 x4 hstp
        by_cases hm : an1 = []
        · have c := cxsame hm
          subst hm
          simp [decide_eq_true hlt, hlt, hra, hLr, enRow]
          refine drawD_of 12 (by kernel_rfl) ?_
          simp [hx1, hx2, hLr, enRow]
          refine callT_step (c) [] [3] (by simp) ?_
          simp
          by_cases hv : xv < 0
          · rw [if_pos hv] at hstp
            have hff := mitGo_false (show (mitGo (firstG a) ra rb [] (i + 1)).2.2 = false by rw [hstp]) (nr - (i + 1))
            rw [show i + 1 + (nr - (i + 1)) = nr by omega, ← hMr] at hff
            rw [hff] at hO
            rw [hO, if_neg (by simp)] at hG
            subst hO hG
            simp [hv, decide_eq_true hv, show ¬ 0 ≤ xv by omega, enGr]
          rw [if_neg hv] at hstp
          have xo := orV_rng (fa := firstG a) (an := []) (a := sv) (b := xv) (by omega) (by omega) (by omega)
          have cosame := addOr_same_n I (firstG a) sv xv hI20 hfaI x4 (by omega) (by omega)
          have conew := addOr_new_n I (firstG a) sv xv hI20 hfaI x4 (by omega) (by omega)
          have hsame : addM [] (flip sv) (flip xv) = false → [] = addN [] (flip sv) (flip xv) := fun h => (addN_same h).symm
          generalize orV (firstG a) [] sv xv = ov at *
          have hnewN : addM [] (flip sv) (flip xv) = true → addN [] (flip sv) (flip xv) ≠ [] := addN_new
          generalize addN [] (flip sv) (flip xv) = an2 at *
          generalize addM [] (flip sv) (flip xv) = mo at *
          simp [hv, decide_eq_false hv, show 0 ≤ xv by omega]
          cases mo
          · have c2 := cosame rfl
            obtain rfl := hsame rfl
            refine callT_step (c2) [] [3] (by simp) ?_
            simp
            by_cases hv2 : ov < 0
            · rw [if_pos hv2] at hstp
              have hff := mitGo_false (show (mitGo (firstG a) ra rb [] (i + 1)).2.2 = false by rw [hstp]) (nr - (i + 1))
              rw [show i + 1 + (nr - (i + 1)) = nr by omega, ← hMr] at hff
              rw [hff] at hO
              rw [hO, if_neg (by simp)] at hG
              subst hO hG
              simp [hv2, decide_eq_true hv2, show ¬ 0 ≤ ov by omega, enGr]
            rw [if_neg hv2] at hstp
            simp [hv2, decide_eq_false hv2, show 0 ≤ ov by omega, w6]
            exact round_of hJ2 hS2 hμ2 (i + 1) ⟨by omega, by rw [hstp]⟩ (by omega) ⟨[0, 1, 2, 3, 4, 5], by simp [hstp, hra, rtS_nil]⟩
          · have c2 := conew rfl
            have hn2 := hnewN rfl
            refine callT_step (c2) [] [3] (by simp) ?_
            simp
            by_cases hv2 : ov < 0
            · rw [if_pos hv2] at hstp
              have hff := mitGo_false (show (mitGo (firstG a) ra rb [] (i + 1)).2.2 = false by rw [hstp]) (nr - (i + 1))
              rw [show i + 1 + (nr - (i + 1)) = nr by omega, ← hMr] at hff
              rw [hff] at hO
              rw [hO, if_neg (by simp)] at hG
              subst hO hG
              simp [hv2, decide_eq_true hv2, show ¬ 0 ≤ ov by omega, enGr]
            rw [if_neg hv2] at hstp
            simp [hv2, decide_eq_false hv2, show 0 ≤ ov by omega, w6]
            exact round_of hJ2 hS2 hμ2 (i + 1) ⟨by omega, by rw [hstp]⟩ (by omega) ⟨[0, 1, 2, 3, 4, 5, 6], by simp [hstp, hra, rtS_cons hn2]⟩
        · have c := cxnew hm
          simp [decide_eq_true hlt, hlt, hra, hLr, enRow]
          refine drawD_of 12 (by kernel_rfl) ?_
          simp [hx1, hx2, hLr, enRow]
          refine callT_step (c) [] [3] (by simp) ?_
          simp
          by_cases hv : xv < 0
          · rw [if_pos hv] at hstp
            have hff := mitGo_false (show (mitGo (firstG a) ra rb [] (i + 1)).2.2 = false by rw [hstp]) (nr - (i + 1))
            rw [show i + 1 + (nr - (i + 1)) = nr by omega, ← hMr] at hff
            rw [hff] at hO
            rw [hO, if_neg (by simp)] at hG
            subst hO hG
            simp [hv, decide_eq_true hv, show ¬ 0 ≤ xv by omega, enGr]
          rw [if_neg hv] at hstp
          have xo := orV_rng (fa := firstG a) (an := an1) (a := sv) (b := xv) (by omega) (by omega) (by omega)
          have cosame := addOr_same_a I (firstG a) an1 sv xv hI20 hfaI x4 (by omega) (by omega)
          have conew := addOr_new_a I (firstG a) an1 sv xv hI20 hfaI x4 (by omega) (by omega)
          have hsame : addM an1 (flip sv) (flip xv) = false → an1 = addN an1 (flip sv) (flip xv) := fun h => (addN_same h).symm
          generalize orV (firstG a) an1 sv xv = ov at *
          have hnewN : addM an1 (flip sv) (flip xv) = true → addN an1 (flip sv) (flip xv) ≠ [] := addN_new
          generalize addN an1 (flip sv) (flip xv) = an2 at *
          generalize addM an1 (flip sv) (flip xv) = mo at *
          simp [hv, decide_eq_false hv, show 0 ≤ xv by omega]
          cases mo
          · have c2 := cosame rfl
            obtain rfl := hsame rfl
            refine callT_step (c2) [] [3, 6] (by simp) ?_
            simp
            by_cases hv2 : ov < 0
            · rw [if_pos hv2] at hstp
              have hff := mitGo_false (show (mitGo (firstG a) ra rb [] (i + 1)).2.2 = false by rw [hstp]) (nr - (i + 1))
              rw [show i + 1 + (nr - (i + 1)) = nr by omega, ← hMr] at hff
              rw [hff] at hO
              rw [hO, if_neg (by simp)] at hG
              subst hO hG
              simp [hv2, decide_eq_true hv2, show ¬ 0 ≤ ov by omega, enGr]
            rw [if_neg hv2] at hstp
            simp [hv2, decide_eq_false hv2, show 0 ≤ ov by omega, w6]
            have hn2 : an1 ≠ [] := hm
            exact round_of hJ2 hS2 hμ2 (i + 1) ⟨by omega, by rw [hstp]⟩ (by omega) ⟨[0, 1, 2, 3, 4, 5, 6], by simp [hstp, hra, rtS_cons hn2]⟩
          · have c2 := conew rfl
            have hn2 := hnewN rfl
            refine callT_step (c2) [] [3, 6] (by simp) ?_
            simp
            by_cases hv2 : ov < 0
            · rw [if_pos hv2] at hstp
              have hff := mitGo_false (show (mitGo (firstG a) ra rb [] (i + 1)).2.2 = false by rw [hstp]) (nr - (i + 1))
              rw [show i + 1 + (nr - (i + 1)) = nr by omega, ← hMr] at hff
              rw [hff] at hO
              rw [hO, if_neg (by simp)] at hG
              subst hO hG
              simp [hv2, decide_eq_true hv2, show ¬ 0 ≤ ov by omega, enGr]
            rw [if_neg hv2] at hstp
            simp [hv2, decide_eq_false hv2, show 0 ≤ ov by omega, w6]
            exact round_of hJ2 hS2 hμ2 (i + 1) ⟨by omega, by rw [hstp]⟩ (by omega) ⟨[0, 1, 2, 3, 4, 5, 7], by simp [hstp, hra, rtS_cons hn2]⟩
      · rw [rtS_cons hne]
        have xr := xorR_rng (fa := firstG a) (an := an) (a := xa) (b := xb) (by omega) g3 (by omega) (by omega)
        have cxsame := addXor_same_a I (firstG a) an xa xb hI20 hfaI g3 (by omega) (by omega)
        have cxnew := addXor_new_a I (firstG a) an xa xb hI20 hfaI g3 (by omega) (by omega)
        obtain ⟨⟨xv, an1⟩, hX⟩ : ∃ q, xorR (firstG a) an xa xb = q := ⟨_, rfl⟩
        rw [hX] at xr cxsame cxnew hstp
        obtain ⟨x1, x2, x3, x4⟩ := xr
        simp only at x1 x2 x3 x4 hstp
        by_cases hm : an1 = an
        · have c := cxsame hm
          obtain rfl : an = an1 := hm.symm
          simp [decide_eq_true hlt, hlt, hra, hLr, enRow]
          refine drawD_of 12 (by kernel_rfl) ?_
          simp [hx1, hx2, hLr, enRow]
          refine callT_step (c) [] [3, 6] (by simp) ?_
          simp
          by_cases hv : xv < 0
          · rw [if_pos hv] at hstp
            have hff := mitGo_false (show (mitGo (firstG a) ra rb [] (i + 1)).2.2 = false by rw [hstp]) (nr - (i + 1))
            rw [show i + 1 + (nr - (i + 1)) = nr by omega, ← hMr] at hff
            rw [hff] at hO
            rw [hO, if_neg (by simp)] at hG
            subst hO hG
            simp [hv, decide_eq_true hv, show ¬ 0 ≤ xv by omega, enGr]
          rw [if_neg hv] at hstp
          have xo := orV_rng (fa := firstG a) (an := an) (a := sv) (b := xv) (by omega) (by omega) (by omega)
          have cosame := addOr_same_a I (firstG a) an sv xv hI20 hfaI x4 (by omega) (by omega)
          have conew := addOr_new_a I (firstG a) an sv xv hI20 hfaI x4 (by omega) (by omega)
          have hsame : addM an (flip sv) (flip xv) = false → an = addN an (flip sv) (flip xv) := fun h => (addN_same h).symm
          generalize orV (firstG a) an sv xv = ov at *
          have hnewN : addM an (flip sv) (flip xv) = true → addN an (flip sv) (flip xv) ≠ [] := addN_new
          generalize addN an (flip sv) (flip xv) = an2 at *
          generalize addM an (flip sv) (flip xv) = mo at *
          simp [hv, decide_eq_false hv, show 0 ≤ xv by omega]
          cases mo
          · have c2 := cosame rfl
            obtain rfl := hsame rfl
            refine callT_step (c2) [] [3, 6] (by simp) ?_
            simp
            by_cases hv2 : ov < 0
            · rw [if_pos hv2] at hstp
              have hff := mitGo_false (show (mitGo (firstG a) ra rb [] (i + 1)).2.2 = false by rw [hstp]) (nr - (i + 1))
              rw [show i + 1 + (nr - (i + 1)) = nr by omega, ← hMr] at hff
              rw [hff] at hO
              rw [hO, if_neg (by simp)] at hG
              subst hO hG
              simp [hv2, decide_eq_true hv2, show ¬ 0 ≤ ov by omega, enGr]
            rw [if_neg hv2] at hstp
            simp [hv2, decide_eq_false hv2, show 0 ≤ ov by omega, w6]
            exact round_of hJ2 hS2 hμ2 (i + 1) ⟨by omega, by rw [hstp]⟩ (by omega) ⟨[0, 1, 2, 3, 4, 5, 6], by simp [hstp, hra, rtS_cons hne]⟩
          · have c2 := conew rfl
            have hn2 := hnewN rfl
            refine callT_step (c2) [] [3, 6] (by simp) ?_
            simp
            by_cases hv2 : ov < 0
            · rw [if_pos hv2] at hstp
              have hff := mitGo_false (show (mitGo (firstG a) ra rb [] (i + 1)).2.2 = false by rw [hstp]) (nr - (i + 1))
              rw [show i + 1 + (nr - (i + 1)) = nr by omega, ← hMr] at hff
              rw [hff] at hO
              rw [hO, if_neg (by simp)] at hG
              subst hO hG
              simp [hv2, decide_eq_true hv2, show ¬ 0 ≤ ov by omega, enGr]
            rw [if_neg hv2] at hstp
            simp [hv2, decide_eq_false hv2, show 0 ≤ ov by omega, w6]
            exact round_of hJ2 hS2 hμ2 (i + 1) ⟨by omega, by rw [hstp]⟩ (by omega) ⟨[0, 1, 2, 3, 4, 5, 7], by simp [hstp, hra, rtS_cons hn2]⟩
        · have c := cxnew hm
          simp [decide_eq_true hlt, hlt, hra, hLr, enRow]
          refine drawD_of 12 (by kernel_rfl) ?_
          simp [hx1, hx2, hLr, enRow]
          refine callT_step (c) [] [3, 6] (by simp) ?_
          simp
          by_cases hv : xv < 0
          · rw [if_pos hv] at hstp
            have hff := mitGo_false (show (mitGo (firstG a) ra rb [] (i + 1)).2.2 = false by rw [hstp]) (nr - (i + 1))
            rw [show i + 1 + (nr - (i + 1)) = nr by omega, ← hMr] at hff
            rw [hff] at hO
            rw [hO, if_neg (by simp)] at hG
            subst hO hG
            simp [hv, decide_eq_true hv, show ¬ 0 ≤ xv by omega, enGr]
          rw [if_neg hv] at hstp
          have xo := orV_rng (fa := firstG a) (an := an1) (a := sv) (b := xv) (by omega) (by omega) (by omega)
          have cosame := addOr_same_a I (firstG a) an1 sv xv hI20 hfaI x4 (by omega) (by omega)
          have conew := addOr_new_a I (firstG a) an1 sv xv hI20 hfaI x4 (by omega) (by omega)
          have hsame : addM an1 (flip sv) (flip xv) = false → an1 = addN an1 (flip sv) (flip xv) := fun h => (addN_same h).symm
          generalize orV (firstG a) an1 sv xv = ov at *
          have hnewN : addM an1 (flip sv) (flip xv) = true → addN an1 (flip sv) (flip xv) ≠ [] := addN_new
          generalize addN an1 (flip sv) (flip xv) = an2 at *
          generalize addM an1 (flip sv) (flip xv) = mo at *
          simp [hv, decide_eq_false hv, show 0 ≤ xv by omega]
          cases mo
          · have c2 := cosame rfl
            obtain rfl := hsame rfl
            refine callT_step (c2) [] [3, 7] (by simp) ?_
            simp
            by_cases hv2 : ov < 0
            · rw [if_pos hv2] at hstp
              have hff := mitGo_false (show (mitGo (firstG a) ra rb [] (i + 1)).2.2 = false by rw [hstp]) (nr - (i + 1))
              rw [show i + 1 + (nr - (i + 1)) = nr by omega, ← hMr] at hff
              rw [hff] at hO
              rw [hO, if_neg (by simp)] at hG
              subst hO hG
              simp [hv2, decide_eq_true hv2, show ¬ 0 ≤ ov by omega, enGr]
            rw [if_neg hv2] at hstp
            simp [hv2, decide_eq_false hv2, show 0 ≤ ov by omega, w6]
            have hn2 : an1 ≠ [] := ne_nil_of_len (by have := List.length_pos_iff.2 hne; omega)
            exact round_of hJ2 hS2 hμ2 (i + 1) ⟨by omega, by rw [hstp]⟩ (by omega) ⟨[0, 1, 2, 3, 4, 5, 7], by simp [hstp, hra, rtS_cons hn2]⟩
          · have c2 := conew rfl
            have hn2 := hnewN rfl
            refine callT_step (c2) [] [3, 7] (by simp) ?_
            simp
            by_cases hv2 : ov < 0
            · rw [if_pos hv2] at hstp
              have hff := mitGo_false (show (mitGo (firstG a) ra rb [] (i + 1)).2.2 = false by rw [hstp]) (nr - (i + 1))
              rw [show i + 1 + (nr - (i + 1)) = nr by omega, ← hMr] at hff
              rw [hff] at hO
              rw [hO, if_neg (by simp)] at hG
              subst hO hG
              simp [hv2, decide_eq_true hv2, show ¬ 0 ≤ ov by omega, enGr]
            rw [if_neg hv2] at hstp
            simp [hv2, decide_eq_false hv2, show 0 ≤ ov by omega, w6]
            exact round_of hJ2 hS2 hμ2 (i + 1) ⟨by omega, by rw [hstp]⟩ (by omega) ⟨[0, 1, 2, 3, 4, 5, 8], by simp [hstp, hra, rtS_cons hn2]⟩
    · rw [mitS_cons han0]
      simp [lvM, show ¬ (2 : Int) < 2 by omega, enRow, e1]
      refine aw_loopU [false, false, false, false, true, false, true, true, false, false, false, false, false, false, true, false, false, false, false, false, false, false, false, false, false, false, false, false, false, false, false, false, false, false, false, false, false, false, false, false, false, false, false, false, false, false, false, false, false, false, false, false, false, false, false, false, false, false, false, false, false, false, false, false, false, false, false, false, false, false, false, false, false, false, false, false, false, false, true, true, false, false, false, false, false, false, false, false, false, false, false, false, false, false, false, false, false, false, false, false, false, false, false, false, false, false, false, false, false] (fun i : Nat => i ≤ nr ∧ (mitGo (firstG a) ra rb an0 i).2.2 = true) (fun i : Nat => [(14, .d (.int .i64 (mitGo (firstG a) ra rb an0 i).1)), (79, .d (.int .i64 i))]) (fun i : Nat => [(6, .arr 100 true ((mitGo (firstG a) ra rb an0 i).2.1.map enAnd))]) (fun i : Nat => nr - i) 0 ?_ ?_ ?_
      · exact ⟨Nat.zero_le _, rfl⟩
      · exact ⟨[0, 1, 2, 3, 4, 5, 6], by simp [mitGo, hra]⟩
      rintro J2 S2 μ2 hJ2 hS2 hμ2 i ⟨hi, hio⟩
      obtain ⟨⟨sv, an, bb⟩, hst⟩ : ∃ s, mitGo (firstG a) ra rb an0 i = s := ⟨_, rfl⟩
      have hgf := mitGo_facts (fa := firstG a) (ra := ra) (rb := rb) (an0 := an0) (by omega) hb3 hrA hrB (by omega) (by omega) i hi
      rw [hst] at hio hgf
      simp only at hio
      subst hio
      rw [hst]
      obtain ⟨g1, g2, g3⟩ := hgf rfl
      simp only at g1 g2 g3
      by_cases hlt : i < nr
      case neg =>
        obtain rfl : i = nr := by omega
        rw [hst] at hMr
        subst hMr
        simp only at hO
        rw [hO, if_pos rfl] at hG
        subst hO hG
        simp [decide_eq_false hlt, hlt, hra, enGr]
      have hx1 : ra[i]? = some (ra.getD i 0) := by rw [List.getD_eq_getElem?_getD, List.getElem?_eq_getElem (by omega)]; rfl
      have hx2 : rb[i]? = some (rb.getD i 0) := by rw [List.getD_eq_getElem?_getD, List.getElem?_eq_getElem (by omega)]; rfl
      have b1 := hrA _ (List.mem_of_getElem? hx1)
      have b2 := hrB _ (List.mem_of_getElem? hx2)
      have hstp := mitGo_step hst
      generalize ra.getD i 0 = xa at *
      generalize rb.getD i 0 = xb at *
      have w6 : IntKind.i64.wrap ((i : Int) + 1) = (i : Int) + 1 := wrap_id (by omega) (by omega)
      have hLr : ∀ x : RowD, (enRow x).length = 1 := fun _ => rfl
      have xr := xorR_rng (fa := firstG a) (an := an) (a := xa) (b := xb) (by omega) g3 (by omega) (by omega)
      have cxsame := addXor_same_a I (firstG a) an xa xb hI20 hfaI g3 (by omega) (by omega)
      have cxnew := addXor_new_a I (firstG a) an xa xb hI20 hfaI g3 (by omega) (by omega)
      obtain ⟨⟨xv, an1⟩, hX⟩ : ∃ q, xorR (firstG a) an xa xb = q := ⟨_, rfl⟩
      rw [hX] at xr cxsame cxnew hstp
      obtain ⟨x1, x2, x3, x4⟩ := xr
      simp only at x1 x2 x3 x4 hstp
      by_cases hm : an1 = an
      · have c := cxsame hm
        obtain rfl : an = an1 := hm.symm
        simp [decide_eq_true hlt, hlt, hra, hLr, enRow]
        refine drawD_of 12 (by kernel_rfl) ?_
        simp [hx1, hx2, hLr, enRow]
        refine callT_step (c) [] [3, 6] (by simp) ?_
        simp
        by_cases hv : xv < 0
        · rw [if_pos hv] at hstp
          have hff := mitGo_false (show (mitGo (firstG a) ra rb an0 (i + 1)).2.2 = false by rw [hstp]) (nr - (i + 1))
          rw [show i + 1 + (nr - (i + 1)) = nr by omega, ← hMr] at hff
          rw [hff] at hO
          rw [hO, if_neg (by simp)] at hG
          subst hO hG
          simp [hv, decide_eq_true hv, show ¬ 0 ≤ xv by omega, enGr]
        rw [if_neg hv] at hstp
        have xo := orV_rng (fa := firstG a) (an := an) (a := sv) (b := xv) (by omega) (by omega) (by omega)
        have cosame := addOr_same_a I (firstG a) an sv xv hI20 hfaI x4 (by omega) (by omega)
        have conew := addOr_new_a I (firstG a) an sv xv hI20 hfaI x4 (by omega) (by omega)
        have hsame : addM an (flip sv) (flip xv) = false → an = addN an (flip sv) (flip xv) := fun h => (addN_same h).symm
        generalize orV (firstG a) an sv xv = ov at *
        have hnewN : addM an (flip sv) (flip xv) = true → addN an (flip sv) (flip xv) ≠ [] := addN_new
        generalize addN an (flip sv) (flip xv) = an2 at *
        generalize addM an (flip sv) (flip xv) = mo at *
        simp [hv, decide_eq_false hv, show 0 ≤ xv by omega]
        cases mo
        · have c2 := cosame rfl
          obtain rfl := hsame rfl
          refine callT_step (c2) [] [3, 6] (by simp) ?_
          simp
          by_cases hv2 : ov < 0
          · rw [if_pos hv2] at hstp
            have hff := mitGo_false (show (mitGo (firstG a) ra rb an0 (i + 1)).2.2 = false by rw [hstp]) (nr - (i + 1))
            rw [show i + 1 + (nr - (i + 1)) = nr by omega, ← hMr] at hff
            rw [hff] at hO
            rw [hO, if_neg (by simp)] at hG
            subst hO hG
            simp [hv2, decide_eq_true hv2, show ¬ 0 ≤ ov by omega, enGr]
          rw [if_neg hv2] at hstp
          simp [hv2, decide_eq_false hv2, show 0 ≤ ov by omega, w6]
          exact round_of hJ2 hS2 hμ2 (i + 1) ⟨by omega, by rw [hstp]⟩ (by omega) ⟨[0, 1, 2, 3, 4, 5, 6], by simp [hstp, hra]⟩
        · have c2 := conew rfl
          have hn2 := hnewN rfl
          refine callT_step (c2) [] [3, 6] (by simp) ?_
          simp
          by_cases hv2 : ov < 0
          · rw [if_pos hv2] at hstp
            have hff := mitGo_false (show (mitGo (firstG a) ra rb an0 (i + 1)).2.2 = false by rw [hstp]) (nr - (i + 1))
            rw [show i + 1 + (nr - (i + 1)) = nr by omega, ← hMr] at hff
            rw [hff] at hO
            rw [hO, if_neg (by simp)] at hG
            subst hO hG
            simp [hv2, decide_eq_true hv2, show ¬ 0 ≤ ov by omega, enGr]
          rw [if_neg hv2] at hstp
          simp [hv2, decide_eq_false hv2, show 0 ≤ ov by omega, w6]
          exact round_of hJ2 hS2 hμ2 (i + 1) ⟨by omega, by rw [hstp]⟩ (by omega) ⟨[0, 1, 2, 3, 4, 5, 7], by simp [hstp, hra]⟩
      · have c := cxnew hm
        simp [decide_eq_true hlt, hlt, hra, hLr, enRow]
        refine drawD_of 12 (by kernel_rfl) ?_
        simp [hx1, hx2, hLr, enRow]
        refine callT_step (c) [] [3, 6] (by simp) ?_
        simp
        by_cases hv : xv < 0
        · rw [if_pos hv] at hstp
          have hff := mitGo_false (show (mitGo (firstG a) ra rb an0 (i + 1)).2.2 = false by rw [hstp]) (nr - (i + 1))
          rw [show i + 1 + (nr - (i + 1)) = nr by omega, ← hMr] at hff
          rw [hff] at hO
          rw [hO, if_neg (by simp)] at hG
          subst hO hG
          simp [hv, decide_eq_true hv, show ¬ 0 ≤ xv by omega, enGr]
        rw [if_neg hv] at hstp
        have xo := orV_rng (fa := firstG a) (an := an1) (a := sv) (b := xv) (by omega) (by omega) (by omega)
        have cosame := addOr_same_a I (firstG a) an1 sv xv hI20 hfaI x4 (by omega) (by omega)
        have conew := addOr_new_a I (firstG a) an1 sv xv hI20 hfaI x4 (by omega) (by omega)
        have hsame : addM an1 (flip sv) (flip xv) = false → an1 = addN an1 (flip sv) (flip xv) := fun h => (addN_same h).symm
        generalize orV (firstG a) an1 sv xv = ov at *
        have hnewN : addM an1 (flip sv) (flip xv) = true → addN an1 (flip sv) (flip xv) ≠ [] := addN_new
        generalize addN an1 (flip sv) (flip xv) = an2 at *
        generalize addM an1 (flip sv) (flip xv) = mo at *
        simp [hv, decide_eq_false hv, show 0 ≤ xv by omega]
        cases mo
        · have c2 := cosame rfl
          obtain rfl := hsame rfl
          refine callT_step (c2) [] [3, 7] (by simp) ?_
          simp
          by_cases hv2 : ov < 0
          · rw [if_pos hv2] at hstp
            have hff := mitGo_false (show (mitGo (firstG a) ra rb an0 (i + 1)).2.2 = false by rw [hstp]) (nr - (i + 1))
            rw [show i + 1 + (nr - (i + 1)) = nr by omega, ← hMr] at hff
            rw [hff] at hO
            rw [hO, if_neg (by simp)] at hG
            subst hO hG
            simp [hv2, decide_eq_true hv2, show ¬ 0 ≤ ov by omega, enGr]
          rw [if_neg hv2] at hstp
          simp [hv2, decide_eq_false hv2, show 0 ≤ ov by omega, w6]
          exact round_of hJ2 hS2 hμ2 (i + 1) ⟨by omega, by rw [hstp]⟩ (by omega) ⟨[0, 1, 2, 3, 4, 5, 7], by simp [hstp, hra]⟩
        · have c2 := conew rfl
          have hn2 := hnewN rfl
          refine callT_step (c2) [] [3, 7] (by simp) ?_
          simp
          by_cases hv2 : ov < 0
          · rw [if_pos hv2] at hstp
            have hff := mitGo_false (show (mitGo (firstG a) ra rb an0 (i + 1)).2.2 = false by rw [hstp]) (nr - (i + 1))
            rw [show i + 1 + (nr - (i + 1)) = nr by omega, ← hMr] at hff
            rw [hff] at hO
            rw [hO, if_neg (by simp)] at hG
            subst hO hG
            simp [hv2, decide_eq_true hv2, show ¬ 0 ≤ ov by omega, enGr]
          rw [if_neg hv2] at hstp
          simp [hv2, decide_eq_false hv2, show 0 ≤ ov by omega, w6]
          exact round_of hJ2 hS2 hμ2 (i + 1) ⟨by omega, by rw [hstp]⟩ (by omega) ⟨[0, 1, 2, 3, 4, 5, 8], by simp [hstp, hra]⟩
end Go.Proofs.Ytoppcdccplgalaa
