/-
  Proofs that two nets are equal, by abstract walks: both sides.
  Conditions: those typed in each theorem.
-/
import Derived.Test.YtoppcdccplgalaaRo
import Derived.Test.YtoppcdccplgalaaRs
import Derived.Test.YtoppcdccplgalaaRf
import Derived.Test.YtoppcdccplgalaaQe
namespace Go.Proofs.Ytoppcdccplgalaa
open Go.RowKit Go.ChangeShapes Go.WideShapes
set_option linter.unusedVariables false
set_option linter.unusedSimpArgs false
attribute [local simp ↓] condG_true condG_false condB_true condB_false
attribute [local simp] AWp_skip AWp_region_t AWp_region_d AWp_region_f still_mk AWp_seq AWp_cond condV_bool condB AWp_block AWp_exit AWp_ret
attribute [local simp] AOps_nil AOp_move AOp_assign AOp_pick AOp_binOp AOp_unOp AOp_convert AOp_len AOp_max AOp_min AOp_indexAddr AOp_load
attribute [local simp] AOp_fieldAddr AOp_field AOp_extract AOp_nilCheck AOp_build AOp_alloc AOp_box AOp_call AOp_store AOp_append AOp_buildSlice nextB_some
attribute [local simp] nextB_none adoptO adoptC AOp_makeSlice AOp_slice AOp_makeFunc AOp_guard guardD_some guardG_bool guardG_undef nextO_some nextS_some
attribute [local simp] nextZ_some nextL_some nextM_some nextT_some sliceO sliceL sliceT partO partV boundV funcO pickO
attribute [local simp] convO lenO maxO minO idxO extO nilO buildO litO litC makeO chunks
attribute [local simp] fillV placeOf thenA inBlockA St.get St.put St.eval ofCell evalT abin_add abin_sub abin_mul
attribute [local simp] abin_quo abin_rem abin_and abin_or abin_xor abin_andNot abin_shl abin_shr abin_shlu abin_eql abin_eqp abin_neq
attribute [local simp] abin_lss abin_leq abin_gtr abin_geq abin_eqlb abin_neqb aun pickV lenV intOf? indexV takeD
attribute [local simp] takeV loadV fieldAddrV fieldV ofX presD presDs pres presAll cellsV V.cell storeV
attribute [local simp] freezeC putAt kill takeC plains plainV scalarV nat_neg keepT sets eSl e1
attribute [local simp] e2 e3 e4 eInt eBool afterCall inst inst1 inst1s instD instDs RetA
attribute [local simp] resVs resV gives give1 give1s Le isPin leSlots leS leTmps leV le0
attribute [local simp] le0s ren ren0 renS ren0s frame enterT afterT_some afterC_some lives Slot.live arrsOk
attribute [local simp] viewV view0 renT rens renSs setAll List.range'_succ RetT RetW joinV leT AOpsE_nil
attribute [local simp] AOpsE_cons AOpsT_nil AOpsT_cons isCallT callOf condC_true condC_false beginT_mk thenT_mk pickE pickT isT
attribute [local simp] loose namesOf namesV names1 names0 stableN sameAt Op.operands Call.operands
theorem mitGo_net {m : GrD} {ra rb : List Int} {an0 : List AndD} (hf : 0 < firstG m) (h0 : netOkB (withA m an0) = true) (h300 : an0.length ≤ 300)
    (hA : ∀ k ∈ ra, 0 ≤ k ∧ k < 2 * ((firstG m : Int) + an0.length)) (hB : ∀ k ∈ rb, 0 ≤ k ∧ k < 2 * ((firstG m : Int) + an0.length)) {n : Nat} (hn : n ≤ ra.length) (hm : n ≤ rb.length) :
    ∀ i, i ≤ n → (mitGo (firstG m) ra rb an0 i).2.2 = true → netOkB (withA m (mitGo (firstG m) ra rb an0 i).2.1) = true
  | 0, _, _ => h0
  | i + 1, hi, h => by
    have ih := mitGo_net hf h0 h300 hA hB hn hm i (by omega)
    have hgf := mitGo_facts (fa := firstG m) (by omega) h300 hA hB hn hm i (by omega)
    obtain ⟨⟨s, an, b⟩, hst⟩ : ∃ q, mitGo (firstG m) ra rb an0 i = q := ⟨_, rfl⟩
    rw [hst] at ih hgf
    cases b with
    | false =>
      rw [mitGo, hst, if_pos rfl] at h
      simp at h
    | true =>
    have ih := ih rfl
    obtain ⟨g1, g2, g3⟩ := hgf rfl
    simp only at ih g1 g2 g3
    have hstp := mitGo_step hst
    have hx1 : ra[i]? = some (ra.getD i 0) := by rw [List.getD_eq_getElem?_getD, List.getElem?_eq_getElem (by omega)]; rfl
    have hx2 : rb[i]? = some (rb.getD i 0) := by rw [List.getD_eq_getElem?_getD, List.getElem?_eq_getElem (by omega)]; rfl
    have b1 := hA _ (List.mem_of_getElem? hx1)
    have b2 := hB _ (List.mem_of_getElem? hx2)
    generalize ra.getD i 0 = xa at *
    generalize rb.getD i 0 = xb at *
    have hgN : (grN (withA m an) : Int) = firstG m + an.length := by rw [grN_withA]; omega
    have eX := sXorL_eq (x := withA m an) (a := xa) (b := xb) g3 (by omega) (by omega)
    have hmX := sXorL_small (x := withA m an) (a := xa) (b := xb) ih
    have xr := xorR_rng (fa := firstG m) (an := an) (a := xa) (b := xb) (by omega) g3 (by omega) (by omega)
    have eF : xorR (firstG (withA m an)) (withA m an).2.2.1 xa xb = xorR (firstG m) an xa xb := rfl
    rw [eF] at eX
    obtain ⟨⟨xv, an1⟩, hX⟩ : ∃ q, xorR (firstG m) an xa xb = q := ⟨_, rfl⟩
    rw [hX] at eX xr hstp
    obtain ⟨x1, x2, x3, x4⟩ := xr
    simp only at x1 x2 x3 x4 hstp eX
    by_cases hv : xv < 0
    · rw [if_pos hv] at hstp
      rw [hstp] at h; simp at h
    rw [if_neg hv] at eX hstp
    rw [eX] at hmX
    simp only at hmX
    have hgN2 : (grN (withA (withA m an) an1) : Int) = firstG m + an1.length := by rw [grN_withA, show firstG (withA m an) = firstG m from rfl]; omega
    have eO := sOrL_ok (x := withA (withA m an) an1) (a := s) (b := xv) (by omega) (by omega)
    rw [show firstG (withA (withA m an) an1) = firstG m from rfl, show (withA (withA m an) an1).2.2.1 = an1 from rfl] at eO
    have hmO2 := (sOrL_small (x := withA (withA m an) an1) (a := s) (b := xv) hmX).2.2
    by_cases hv2 : orV (firstG m) an1 s xv < 0
    · rw [if_pos hv2] at hstp
      rw [hstp] at h; simp at h
    rw [if_neg hv2] at eO hstp
    rw [eO] at hmO2
    rw [hstp]
    exact hmO2
/-- The net that compares is a net, with one root. -/
theorem mitG_ok {a b : GrD} (h : mitOk a b = true) : netOkB (mitG a b) = true ∧ (mitG a b).2.2.2 = [(mitR a b).1] ∧ isI (mitR a b).1 := by
  have hG : mitG a b = if mitOk a b = true then (a.1 + (a.2.1.length : Int), [], (mitR a b).2.1, [(mitR a b).1]) else (0, [], [], []) := rfl
  rw [if_pos h] at hG
  have hO : mitOk a b = (compB a b && (imp1 a).2.2 && (imp2 a b).2.2 && (mitR a b).2.2) := rfl
  rw [h] at hO
  have hO := hO.symm
  simp only [Bool.and_eq_true] at hO
  obtain ⟨⟨⟨hC, o1⟩, o2⟩, o3⟩ := hO
  obtain ⟨hoa, hob, h1, h2, h3, h4, hfb, hrl⟩ := comp_of hC
  obtain ⟨⟨n1, n2, n3, n4, n5, n6⟩, -, -, -⟩ := netOk_of hoa
  obtain ⟨⟨m1, m2, m3, m4, m5, m6⟩, -, -, -⟩ := netOk_of hob
  obtain ⟨hFa, hga, hNa, -⟩ := ok_sizes hoa
  obtain ⟨hFb, hgb, hNb, -⟩ := ok_sizes hob
  have hNea := grN_eq a
  have hNeb := grN_eq b
  obtain ⟨I, hI⟩ : ∃ I, a.1 + (a.2.1.length : Int) = I := ⟨_, rfl⟩
  rw [hI] at hG
  have hI20 : 0 ≤ I ∧ I ≤ 20 := by omega
  have hfm : firstG ((I, [], [], []) : GrD) = firstG a := by unfold firstG; simp; unfold firstG at hFa; omega
  have hm0 : netOkB ((I, [], [], []) : GrD) = true := by
    unfold netOkB nodesG
    rw [if_pos ⟨rng_iff.2 (by omega), by simp, by simp, by simp⟩]
    simp [grRoots, belowB, andsFit]
    omega
  have p1 := impA_ok (x := a) hoa (an0 := []) (by simp) rfl (i := a.2.2.1.length) (Nat.le_refl _)
  have hi1 : impA a [] a.2.2.1.length = imp1 a := rfl
  rw [hi1] at p1
  have hi2 : impA b (imp1 a).2.1 b.2.2.1.length = imp2 a b := rfl
  have p2 := impA_ok (x := b) hob p1.1.an (by rw [hfb]; exact p1.1.ok) (i := b.2.2.1.length) (Nat.le_refl _)
  rw [hi2] at p2
  have hMr : mitR a b = mitGo (firstG a) (rootsM a (imp1 a).1) (rootsM b (imp2 a b).1) (imp2 a b).2.1 (grRoots a).length := rfl
  have hra : (rootsM a (imp1 a).1).length = (grRoots a).length := by simp [rootsM]
  have hrb : (rootsM b (imp2 a b).1).length = (grRoots a).length := by simp [rootsM, hrl]
  have h300 : (imp2 a b).2.1.length ≤ 300 := p2.1.an
  have hmB : netOkB (withA ((I, [], [], []) : GrD) (imp2 a b).2.1) = true := netOk_withA hm0 (by simp) p2.1.an (by rw [hfm, ← hfb]; exact p2.1.ok)
  have hpA := p1.1.pl
  have hpB := p2.1.pl
  rw [hfb] at hpB
  have hle := p2.2
  have hrA : ∀ k : Int, k ∈ rootsM a (imp1 a).1 → 0 ≤ k ∧ k < 2 * ((firstG a : Int) + (imp2 a b).2.1.length) := fun k hk => by
    obtain ⟨l, -, rfl⟩ := List.mem_map.1 hk
    have hq : plIn ((firstG a : Int) + (imp2 a b).2.1.length) (imp1 a).1 := plIn_mono hpA (by omega)
    exact mapV_rng (plIn_at hq (by omega) _) (by omega)
  have hrB : ∀ k : Int, k ∈ rootsM b (imp2 a b).1 → 0 ≤ k ∧ k < 2 * ((firstG a : Int) + (imp2 a b).2.1.length) := fun k hk => by
    obtain ⟨l, -, rfl⟩ := List.mem_map.1 hk
    exact mapV_rng (plIn_at hpB (by omega) _) (by omega)
  have hgf := mitGo_facts (fa := firstG a) (by omega) h300 hrA hrB (n := (grRoots a).length) (by omega) (by omega) _ (Nat.le_refl _)
  have hgn := mitGo_net (m := ((I, [], [], []) : GrD)) (by omega) hmB h300 (by rw [hfm]; exact hrA) (by rw [hfm]; exact hrB) (n := (grRoots a).length) (by omega) (by omega) _ (Nat.le_refl _)
  rw [hfm, ← hMr] at hgn
  rw [← hMr] at hgf
  obtain ⟨g1, g2, g3⟩ := hgf o3
  have hgn := hgn o3
  generalize mitR a b = R at *
  obtain ⟨l, an, bb⟩ := R
  simp only at g1 g2 g3 hgn hG
  rw [hG]
  refine ⟨?_, rfl, by unfold isI; simp only; omega⟩
  have hn : nodesG ((I, [], an, [l]) : GrD) = 1 + I + an.length := by
    unfold nodesG
    rw [if_pos ⟨rng_iff.2 hI20, by simp, g3, by simp⟩]
    simp
  have hA := ansOk_of hgn
  rw [show firstG (withA ((I, [], [], []) : GrD) an) = firstG a from hfm] at hA
  unfold netOkB
  rw [hn]
  simp only [Bool.and_eq_true, decide_eq_true_eq]
  refine ⟨⟨⟨by omega, by simp⟩, ?_⟩, ?_⟩
  · simp only [belowB, grRoots, List.map_nil, List.flatten_nil, List.append_nil, List.all_cons, List.all_nil, Bool.and_true]
    exact rng_iff.2 (by omega)
  · have e : (1 + I + (([] : List SeqD).length : Int)) = firstG a := by rw [List.length_nil]; omega
    rw [e]
    exact hA
/-- A proof that two nets are equal is accepted. -/
def eqpL (a b : GrD) (pf : List RowD) : Bool := mitOk a b && checkL (netCnfL (mitG a b) (mitR a b).1).1 (netCnfL (mitG a b) (mitR a b).1).2 pf
set_option maxRecDepth 100000 in
theorem iEqProof_con (a b : GrD) (pf : List RowD) (ha : fitGr 1048576 a) (hb : fitGr 1048576 b) (hp : fitRw 1048576 pf) : ConC Try.prog 54 [igr a, igr b, irows pf] (.d (.bool (eqpL a b pf))) := by
  have hE : eqpL a b pf = (mitOk a b && checkL (netCnfL (mitG a b) (mitR a b).1).1 (netCnfL (mitG a b) (mitR a b).1).2 pf) := rfl
  have km := iMiter_con a b ha hb
  cases ho : mitOk a b with
  | false =>
    rw [ho] at hE km
    simp only [Bool.false_and] at hE
    rw [hE]
    refine con_ofD (by kernel_rfl) Try.func54 rfl rfl rfl ?_
    simp [enGr]
    refine call_step (km) ?_
    simp [enGr]
  | true =>
    rw [ho] at hE km
    simp only [Bool.true_and] at hE
    obtain ⟨g1, g2, g3⟩ := mitG_ok ho
    have kn := iNetCnf_con (mitG a b) (mitR a b).1 (fitGr_netOk g1)
    have hfc := netCnf_fit (x := mitG a b) (lit := (mitR a b).1)
    generalize mitG a b = g at *
    generalize (mitR a b).1 = l at *
    have kc := iCheck_con (netCnfL g l) pf hfc hp
    rw [← hE] at kc
    generalize eqpL a b pf = r at *
    generalize netCnfL g l = c at *
    obtain ⟨gi, gs, gan, go⟩ := g
    simp only at g2
    subst g2
    refine con_ofD (by kernel_rfl) Try.func54 rfl rfl rfl ?_
    simp [enGr]
    refine call_step (km) ?_
    simp [enGr, e1]
    refine drawE_of [(10, [8]), (11, [])] (by kernel_rfl) ?_
    simp [enGr, e1]
    refine call_step (kn) ?_
    simp [enGr, enCnf, e1]
    refine call_step (kc) ?_
    simp [enCnf]
set_option maxRecDepth 100000 in
theorem sEqProof_con (a b : GrD) (pf : List RowD) (ha : fitGr 1048576 a) (hb : fitGr 1048576 b) (ga : okGr a) (gb : okGr b) (hp : fitRw 1048576 pf) : ConC Try.prog 52 [igr a, igr b, irows pf] (.d (.bool (eqpL a b pf))) := by
  have hE : eqpL a b pf = (mitOk a b && checkL (netCnfL (mitG a b) (mitR a b).1).1 (netCnfL (mitG a b) (mitR a b).1).2 pf) := rfl
  have km := sMiter_conT a b ha hb ga gb
  cases ho : mitOk a b with
  | false =>
    rw [ho] at hE km
    simp only [Bool.false_and] at hE
    rw [hE]
    refine con_ofD (by kernel_rfl) Try.func52 rfl rfl rfl ?_
    simp [enGr]
    refine callT_step (km) [] [] (by simp) ?_
    simp [enGr]
  | true =>
    rw [ho] at hE km
    simp only [Bool.true_and] at hE
    obtain ⟨g1, g2, g3⟩ := mitG_ok ho
    have kn := sNetCnf_con (mitG a b) (mitR a b).1 (fitGr_netOk g1) (okGr_netOk g1) g3
    have hfc := netCnf_fit (x := mitG a b) (lit := (mitR a b).1)
    generalize mitG a b = g at *
    generalize (mitR a b).1 = l at *
    have kc := sCheck_con (netCnfL g l) pf hfc hp
    rw [← hE] at kc
    generalize eqpL a b pf = r at *
    generalize netCnfL g l = c at *
    obtain ⟨gi, gs, gan, go⟩ := g
    simp only at g2
    subst g2
    refine con_ofD (by kernel_rfl) Try.func52 rfl rfl rfl ?_
    simp [enGr]
    refine callT_step (km) [] [] (by simp) ?_
    simp [enGr, e1]
    refine drawE_of [(10, [8]), (11, [])] (by kernel_rfl) ?_
    simp [enGr, e1]
    refine call_step (kn) ?_
    simp [enGr, enCnf, e1]
    refine call_step (kc) ?_
    simp [enCnf]
end Go.Proofs.Ytoppcdccplgalaa
