/-
  The net that compares two nets, by an abstract walk: the reference. The net comes back as data.
  Conditions: those typed in each theorem.
-/
import Derived.Test.YtoppcdccplgalaaRr
namespace Go.Proofs.Ytoppcdccplgalaa
open Go.RowKit Go.ChangeShapes Go.WideShapes
set_option linter.unusedVariables false
set_option linter.unusedSimpArgs false
attribute [local simp ↓] condG_true condG_false condB_true condB_false
attribute [local simp] AWp_skip AWp_region_t AWp_region_d AWp_region_f still_mk AWp_seq AWp_cond condV_bool condB AWp_block AWp_exit AWp_ret
attribute [local simp] AOps_nil AOp_move AOp_assign AOp_pick AOp_binOp AOp_unOp AOp_convert AOp_len AOp_max AOp_min AOp_indexAddr AOp_load
attribute [local simp] AOp_fieldAddr AOp_field AOp_extract AOp_nilCheck AOp_build AOp_alloc AOp_box AOp_call AOp_store AOp_append AOp_buildSlice nextB_some
attribute [local simp] nextB_none adoptO adoptC AOp_makeSlice AOp_slice AOp_makeFunc AOp_guard guardD_some guardG_bool guardG_undef nextO_some nextS_some
attribute [local simp] nextZ_some nextL_some nextM_some nextT_some sliceO sliceL sliceT partO partV boundV funcO pickO
attribute [local simp] convO lenO maxO minO idxO extO nilO buildO litO litC makeO chunks
attribute [local simp] fillV placeOf thenA inBlockA St.get St.put St.eval ofCell evalT abin_add abin_sub abin_mul
attribute [local simp] abin_quo abin_rem abin_and abin_or abin_xor abin_andNot abin_shl abin_shr abin_shlu abin_eql abin_eqp abin_neq
attribute [local simp] abin_lss abin_leq abin_gtr abin_geq abin_eqlb abin_neqb aun pickV lenV intOf? indexV takeD
attribute [local simp] takeV loadV fieldAddrV fieldV ofX presD presDs pres presAll cellsV V.cell storeV
attribute [local simp] freezeC putAt kill takeC plains plainV scalarV nat_neg keepT sets eSl e1
attribute [local simp] e2 e3 e4 eInt eBool afterCall inst inst1 inst1s instD instDs RetA
attribute [local simp] resVs resV gives give1 give1s Le isPin leSlots leS leTmps leV le0
attribute [local simp] le0s ren ren0 renS ren0s frame enterT afterT_some afterC_some lives Slot.live arrsOk
attribute [local simp] viewV view0 renT rens renSs setAll List.range'_succ RetT RetW joinV leT AOpsE_nil
attribute [local simp] AOpsE_cons AOpsT_nil AOpsT_cons isCallT callOf condC_true condC_false beginT_mk thenT_mk pickE pickT isT
attribute [local simp] loose namesOf namesV names1 names0 stableN sameAt Op.operands Call.operands
theorem conT_nil3 {P : Program} {f : FuncId} {x : V} {ys : List V} {t1 t2 t3 u1 u2 u3 : TypeId} {sl sl' : List Slot} {r : V} (h : ConT P f (.agg [x, .d (.sl t1 []), .d (.sl t2 []), .d (.sl t3 [])] :: ys) sl r sl') : ConT P f (.agg [x, .nil u1, .nil u2, .nil u3] :: ys) sl r sl' := by
  refine ⟨h.1, h.2.1, fun w φ Fs R hR vs hm hl hv => h.2.2 w φ Fs R hR vs hm (by simpa using hl) fun i y v hx hv' => ?_⟩
  match i with
  | i + 1 => exact hv (i + 1) y v (by simpa using hx) hv'
  | 0 =>
    simp at hx
    subst hx
    have h0 := hv 0 _ v rfl hv'
    cases h0 with
    | @agg _ vs hl1 h1 h2 =>
      refine .agg (by simpa using hl1) h1 fun i y v hy hvv => ?_
      match i with
      | 0 => exact h2 0 y v (by simpa using hy) hvv
      | 1 =>
        simp at hy; subst hy
        have := h2 1 (.nil u1) v rfl hvv
        cases this; exact .d (.nil _ _ _)
      | 2 =>
        simp at hy; subst hy
        have := h2 2 (.nil u2) v rfl hvv
        cases this; exact .d (.nil _ _ _)
      | 3 =>
        simp at hy; subst hy
        have := h2 3 (.nil u3) v rfl hvv
        cases this; exact .d (.nil _ _ _)
      | i + 4 => simp at hy
theorem sXorL_small {x : GrD} {a b : Int} (hok : netOkB x = true) : netOkB (sXorL x a b).1 = true := by
  obtain ⟨-, -, p3⟩ := sAddL_small (x := x) (a := a) (b := notV b) hok
  obtain ⟨-, -, r3⟩ := sAddL_small (x := (sAddL x a (notV b)).1) (a := notV a) (b := b) p3
  unfold sXorL sJoinL
  split
  · exact hok
  · exact (sOrL_small r3).2.2
set_option maxRecDepth 100000 in
set_option maxHeartbeats 8000000 in
theorem sMiter_conT (a b : GrD) (ha : fitGr 1048576 a) (hb : fitGr 1048576 b) (ga : okGr a) (gb : okGr b) : ConT Try.prog 33 [dgr a, dgr b] [] (.tup [dgr (mitG a b), .d (.bool (mitOk a b))]) [] := by
  have hB : compB a b = (netOkB a && netOkB b && decide (a.1 = b.1) && decide (a.2.1.length = b.2.1.length) && decide (a.2.2.2.length = b.2.2.2.length) && decide (a.1 + (a.2.1.length : Int) ≤ 20) && (a.2.1.zip b.2.1).all fun p => decide (p.1.1 = p.2.1)) := rfl
  have hO : mitOk a b = (compB a b && (imp1 a).2.2 && (imp2 a b).2.2 && (mitR a b).2.2) := rfl
  have hG : mitG a b = if mitOk a b = true then (a.1 + (a.2.1.length : Int), [], (mitR a b).2.1, [(mitR a b).1]) else (0, [], [], []) := rfl
  have ka := sNetOk_con a ha ga
  have kb := sNetOk_con b hb gb
  generalize mitG a b = G at *
  generalize mitOk a b = O at *
  have hzero : compB a b = false → O = false ∧ G = (0, [], [], []) := fun h => by
    rw [h] at hO
    simp only [Bool.false_and] at hO
    rw [hO, if_neg (by simp)] at hG
    exact ⟨hO, hG⟩
  have hcp := comp_of (a := a) (b := b)
  generalize compB a b = C at *
  refine conT_ofD (by kernel_rfl) Try.func33 rfl rfl rfl (by simp [laters, Later]) (by simp [lives, Slot.live]) ?_
  simp
  cases hoa : netOkB a with
  | false =>
    rw [hoa] at ka hB
    simp only [Bool.false_and] at hB
    obtain ⟨rfl, rfl⟩ := hzero hB
    refine call_step (ka) ?_
    simp [enGr]
    exact ⟨[], by simp⟩
  | true =>
  rw [hoa] at ka hB
  simp only [Bool.true_and] at hB
  obtain ⟨⟨n1, n2, n3, n4, n5, n6⟩, -, -, -⟩ := netOk_of hoa
  refine call_step (ka) ?_
  simp [enGr]
  cases hob : netOkB b with
  | false =>
    rw [hob] at kb hB
    simp only [Bool.false_and] at hB
    obtain ⟨rfl, rfl⟩ := hzero hB
    refine call_step (kb) ?_
    simp [enGr]
    exact ⟨[], by simp⟩
  | true =>
  rw [hob] at kb hB
  simp only [Bool.true_and] at hB
  obtain ⟨⟨m1, m2, m3, m4, m5, m6⟩, -, -, -⟩ := netOk_of hob
  by_cases h1 : a.1 = b.1
  case neg =>
    rw [decide_eq_false h1] at hB
    simp only [Bool.false_and] at hB
    obtain ⟨rfl, rfl⟩ := hzero hB
    refine call_step (kb) ?_
    simp [enGr, h1, show (a.1 != b.1) = true by simpa using h1]
    exact ⟨[], by simp⟩
  rw [decide_eq_true h1] at hB
  simp only [Bool.true_and] at hB
  by_cases h2 : a.2.1.length = b.2.1.length
  case neg =>
    rw [decide_eq_false h2] at hB
    simp only [Bool.false_and] at hB
    obtain ⟨rfl, rfl⟩ := hzero hB
    refine call_step (kb) ?_
    simp [enGr, h1, h2, show ((a.2.1.length : Int) != (b.2.1.length : Int)) = true by simpa using (by omega : ¬ (a.2.1.length : Int) = b.2.1.length)]
    exact ⟨[], by simp⟩
  rw [decide_eq_true h2] at hB
  simp only [Bool.true_and] at hB
  by_cases h3 : a.2.2.2.length = b.2.2.2.length
  case neg =>
    rw [decide_eq_false h3] at hB
    simp only [Bool.false_and] at hB
    obtain ⟨rfl, rfl⟩ := hzero hB
    refine call_step (kb) ?_
    simp [enGr, h1, h2, h3, show ((a.2.2.2.length : Int) != (b.2.2.2.length : Int)) = true by simpa using (by omega : ¬ (a.2.2.2.length : Int) = b.2.2.2.length)]
    exact ⟨[], by simp⟩
  rw [decide_eq_true h3] at hB
  simp only [Bool.true_and] at hB
  have w1 : IntKind.i64.wrap (b.1 + (b.2.1.length : Int)) = b.1 + b.2.1.length := wrap_id (by omega) (by omega)
  by_cases h4 : a.1 + (a.2.1.length : Int) ≤ 20
  case neg =>
    rw [decide_eq_false h4] at hB
    simp only [Bool.false_and] at hB
    obtain ⟨rfl, rfl⟩ := hzero hB
    refine call_step (kb) ?_
    simp [enGr, h1, h2, h3, w1, show (20 : Int) < b.1 + b.2.1.length by omega, show ¬ b.1 + (b.2.1.length : Int) ≤ 20 by omega]
    exact ⟨[], by simp⟩
  rw [decide_eq_true h4] at hB
  simp only [Bool.true_and] at hB
  refine call_step (kb) ?_
  simp [enGr, h1, h2, h3, w1, show ¬ (20 : Int) < b.1 + b.2.1.length by omega, show b.1 + (b.2.1.length : Int) ≤ 20 by omega]
  obtain ⟨zs, hzs⟩ : ∃ zs, a.2.1.zip b.2.1 = zs := ⟨_, rfl⟩
  rw [hzs] at hB
  have hzl : zs.length = b.2.1.length := by rw [← hzs]; simp; omega
  refine aw_loopU [false, false, true, true, true, false, true, false, false, false, false, false, false, false, false, false, false, false, false, false, false, false, false, false, false, false, false, false, false, false, false, false, false, false, false, false, false, false, false, false, false, false, false, false, false, false, false, false, false, false, false, false, false, false, false, false, false, false, false, false, false, false, false, false, false, false, false, false, false, false, false, false, false, false, false, false, false, false, false, false, false, false, false, false, false, false, false, false, false, false, false, false, false, false, false, false, false, false, false, false, false, false, false, false, false, false, false, false, false, false, false, false, false, false, false, false, false, false, false, false, false, false, false, false, false, false, false, false, false, false, false, false, false, false, false, false, false, false, false] (fun i : Nat => i ≤ zs.length ∧ ((zs.take i).all fun p => decide (p.1.1 = p.2.1)) = true) (fun i : Nat => [(6, .d (.int .i64 i))]) (fun i : Nat => []) (fun i : Nat => zs.length - i) 0 ?_ ?_ ?_
  · exact ⟨Nat.zero_le _, rfl⟩
  · exact ⟨[0, 1, 2], by simp⟩
  rintro J S μ hJ hS hμ i ⟨hi, hal⟩
  by_cases hlt : i < zs.length
  · have hz1 : zs[i]? = some zs[i] := List.getElem?_eq_getElem hlt
    have hsn := all_snoc' (p := fun p : SeqD × SeqD => decide (p.1.1 = p.2.1)) hz1
    rw [hal, Bool.true_and] at hsn
    have hno : decide ((zs[i]).1.1 = (zs[i]).2.1) = false → (zs.all fun p => decide (p.1.1 = p.2.1)) = false := fun h => by
      rw [List.all_eq_false]
      exact ⟨_, List.mem_of_getElem? hz1, by simpa using h⟩
    have hz2 : (a.2.1.zip b.2.1)[i]? = some zs[i] := (congrArg (fun q : List (SeqD × SeqD) => q[i]?) hzs).trans hz1
    rw [List.getElem?_zip_eq_some] at hz2
    obtain ⟨z1, z2⟩ := hz2
    have w2 : IntKind.i64.wrap ((i : Int) + 1) = (i : Int) + 1 := wrap_id (by omega) (by omega)
    generalize zs[i] = z at *
    obtain ⟨sa, sb⟩ := z
    simp only at z1 z2 hsn hno
    have hLa : (enSeq sa).length = 3 := rfl
    have hLb : (enSeq sb).length = 3 := rfl
    have hd : decide (i < b.2.1.length) = true := decide_eq_true (by omega)
    by_cases hk : sa.1 = sb.1
    · rw [decide_eq_true hk] at hsn
      simp [h2, hd]
      refine drawD_of 13 (by kernel_rfl) ?_
      simp [z1, z2, hLa, hLb, enSeq, hk, w2]
      exact round_of hJ hS hμ (i + 1) ⟨by omega, hsn⟩ (by omega) ⟨[0, 1, 2], by simp⟩
    · rw [hno (decide_eq_false hk)] at hB
      obtain ⟨rfl, rfl⟩ := hzero hB
      simp [h2, hd]
      refine drawD_of 13 (by kernel_rfl) ?_
      simp [z1, z2, hLa, hLb, enSeq, hk, show (sa.1 != sb.1) = true by simpa using hk]
      exact ⟨[], by simp⟩
  obtain rfl : i = zs.length := by omega
  rw [List.take_length] at hal
  rw [hal] at hB
  obtain ⟨-, -, -, -, -, -, hfb, hrl⟩ := hcp hB
  clear hJ hS hμ hzero hcp
  rw [hB] at hO
  simp only [Bool.true_and] at hO
  obtain ⟨hFa, hga, hNa, -⟩ := ok_sizes hoa
  obtain ⟨hFb, hgb, hNb, -⟩ := ok_sizes hob
  have hNea := grN_eq a
  have hNeb := grN_eq b
  obtain ⟨I, hI⟩ : ∃ I, b.1 + (b.2.1.length : Int) = I := ⟨_, rfl⟩
  have hI' : a.1 + (a.2.1.length : Int) = I := by omega
  rw [hI] at w1
  rw [hI'] at hG
  have hI20 : 0 ≤ I ∧ I ≤ 20 := by omega
  have hfm : firstG ((I, [], [], []) : GrD) = firstG a := by unfold firstG; simp; unfold firstG at hFa; omega
  have hm0 : netOkB ((I, [], [], []) : GrD) = true := by
    unfold netOkB nodesG
    rw [if_pos ⟨rng_iff.2 (by omega), by simp, by simp, by simp⟩]
    simp [grRoots, belowB, andsFit]
    omega
  have i1 : ImpOk (firstG ((I, [], [], []) : GrD)) (firstG a) (leafL (firstG a), ([] : List AndD), true) := ⟨fun _ => leafL_len, Nat.le_of_eq leafL_len, leafL_in (by simp only [hfm]; simp), by simp, rfl⟩
  have k1 := l24Import_conT ((I, [], [], []) : GrD) a hm0 hoa hfm.symm i1
  have e1' : impB ((I, [], [], []) : GrD) a = imp1 a := by unfold impB imp1 impA; rw [hfm]
  have p1 := impA_ok (x := a) hoa (an0 := []) (by simp) rfl (i := a.2.2.1.length) (Nat.le_refl _)
  have hi1 : impA a [] a.2.2.1.length = imp1 a := rfl
  rw [hi1] at p1
  have eR : impRoots ((I, [], [], []) : GrD) a = if (imp1 a).2.2 = true then rootsM a (imp1 a).1 else [] := by unfold impRoots; rw [e1']
  rw [e1', eR] at k1
  have k1' := conT_nil3 (u1 := 52) (u2 := 100) (u3 := 3) k1
  obtain ⟨⟨tA, an1, okA⟩, hq1⟩ : ∃ q, imp1 a = q := ⟨_, rfl⟩
  rw [hq1] at k1' p1 hO
  simp only at k1' p1 hO
  cases okA with
  | false =>
    simp only [Bool.false_and] at hO
    rw [hO, if_neg (by simp)] at hG
    subst hO hG
    simp [h2, hzl, w1, hI]
    refine callT_step k1' [] [] (by simp [h1]) ?_
    simp [withA]
    exact ⟨[], by simp⟩
  | true =>
  rw [if_pos rfl] at k1'
  simp only [Bool.true_and] at hO
  have hi2 : impA b an1 b.2.2.1.length = imp2 a b := by unfold imp2; rw [hq1]
  have p2 := impA_ok (x := b) hob p1.1.an (by rw [hfb]; exact p1.1.ok) (i := b.2.2.1.length) (Nat.le_refl _)
  rw [hi2] at p2
  have hmA : netOkB (withA ((I, [], [], []) : GrD) an1) = true := netOk_withA hm0 (by simp) p1.1.an (by rw [hfm]; exact p1.1.ok)
  have hfmA : firstG (withA ((I, [], [], []) : GrD) an1) = firstG a := hfm
  have i2 : ImpOk (firstG (withA ((I, [], [], []) : GrD) an1)) (firstG b) (leafL (firstG b), (withA ((I, [], [], []) : GrD) an1).2.2.1, true) := ⟨fun _ => leafL_len, Nat.le_of_eq leafL_len, leafL_in (by rw [hfmA, hfb]; omega), p1.1.an, by rw [hfmA]; exact p1.1.ok⟩
  have k2 := l24Import_conT (withA ((I, [], [], []) : GrD) an1) b hmA hob (hfb.trans hfmA.symm) i2
  have e2' : impB (withA ((I, [], [], []) : GrD) an1) b = imp2 a b := by rw [← hi2]; unfold impB impA; rw [hfmA, ← hfb]; rfl
  have eR2 : impRoots (withA ((I, [], [], []) : GrD) an1) b = if (imp2 a b).2.2 = true then rootsM b (imp2 a b).1 else [] := by unfold impRoots; rw [e2']
  rw [e2', eR2] at k2
  have hMr : mitR a b = mitGo (firstG a) (rootsM a tA) (rootsM b (imp2 a b).1) (imp2 a b).2.1 (grRoots a).length := by unfold mitR; rw [hq1]
  obtain ⟨⟨tB, an0, okB⟩, hq2⟩ : ∃ q, imp2 a b = q := ⟨_, rfl⟩
  rw [hq2] at k2 p2 hO hMr
  simp only at k2 p2 hO hMr
  cases okB with
  | false =>
    simp only [Bool.false_and] at hO
    rw [hO, if_neg (by simp)] at hG
    subst hO hG
    simp [h2, hzl, w1, hI]
    refine callT_step k1' [] [] (by simp [h1]) ?_
    simp [withA]
    refine callT_step k2 [] [] (by simp [withA]) ?_
    simp [withA]
    exact ⟨[], by simp⟩
  | true =>
  rw [if_pos rfl] at k2
  simp only [Bool.true_and] at hO
  have hra : (rootsM a tA).length = (grRoots a).length := by simp [rootsM]
  have hrb : (rootsM b tB).length = (grRoots a).length := by simp [rootsM, hrl]
  have h300 : an0.length ≤ 300 := p2.1.an
  have hmB : netOkB (withA ((I, [], [], []) : GrD) an0) = true := netOk_withA hm0 (by simp) p2.1.an (by rw [hfm, ← hfb]; exact p2.1.ok)
  have hpA := p1.1.pl
  have hpB := p2.1.pl
  rw [hfb] at hpB
  have hle := p2.2
  simp only at hpA hpB hle
  have hrA : ∀ k : Int, k ∈ rootsM a tA → 0 ≤ k ∧ k < 2 * ((firstG a : Int) + an0.length) := fun k hk => by
    obtain ⟨l, -, rfl⟩ := List.mem_map.1 hk
    have hq : plIn ((firstG a : Int) + an0.length) tA := plIn_mono hpA (by omega)
    exact mapV_rng (plIn_at hq (by omega) _) (by omega)
  have hrB : ∀ k : Int, k ∈ rootsM b tB → 0 ≤ k ∧ k < 2 * ((firstG a : Int) + an0.length) := fun k hk => by
    obtain ⟨l, -, rfl⟩ := List.mem_map.1 hk
    exact mapV_rng (plIn_at hpB (by omega) _) (by omega)
  have hnr0 := grK_len (x := a) (k := a.2.1.length) (M := 4) (fun s hs => seqOk_len ((netOk_of hoa).2.1 s hs))
  rw [grK_all] at hnr0
  simp [h2, hzl, w1, hI]
  refine callT_step k1' [] [] (by simp [h1]) ?_
  simp [withA]
  refine callT_step k2 [] [] (by simp [withA]) ?_
  generalize rootsM a tA = ra at *
  generalize rootsM b tB = rb at *
  generalize mitR a b = MR at *
  have hrl16 := hra
  generalize (grRoots a).length = nr at *
  have hnr : nr ≤ 64 := by omega
  simp [withA]
  refine aw_loopU [false, false, false, false, true, false, false, true, true, false, true, true, true, false, false, false, false, false, false, false, false, false, false, false, false, false, false, false, false, false, false, false, false, false, false, false, false, false, false, false, false, false, false, false, false, false, false, false, false, false, false, false, false, false, false, false, false, false, false, false, false, false, false, false, false, false, false, false, false, false, false, false, false, false, false, false, false, false, false, false, false, false, false, false, false, false, false, false, false, false, false, false, false, false, false, false, false, false, false, false, false, false, false, false, false, false, false, false, false, false, false, false, false, false, false, false, false, false, false, false, false, false, false, false, false, false, false, false, false, false, false, false, false, false, false, false, false, false, false] (fun q : Nat × Int × List AndD => q.1 ≤ nr ∧ mitGo (firstG a) ra rb an0 q.1 = (q.2.1, q.2.2, true) ∧ netOkB (withA ((I, [], [], []) : GrD) q.2.2) = true) (fun q : Nat × Int × List AndD => [(11, .d (.int .i64 q.2.1)), (12, .d (.int .i64 q.1))]) (fun q : Nat × Int × List AndD => [(3, .var 33 [.d (.int .i64 I), .d (.sl 52 []), .d (.sl 100 (q.2.2.map enAnd)), .d (.sl 3 [])])]) (fun q : Nat × Int × List AndD => nr - q.1) (0, 0, an0) ?_ ?_ ?_
  · exact ⟨Nat.zero_le _, rfl, hmB⟩
  · exact ⟨[0, 1, 2, 3], by simp⟩
  rintro J S μ hJ hS hμ ⟨i, sv, an⟩ ⟨hi, hst, hmO⟩
  simp only at hi hst hmO
  have hgf := mitGo_facts (fa := firstG a) (ra := ra) (rb := rb) (an0 := an0) (by omega) h300 hrA hrB (by omega) (by omega) i hi
  rw [hst] at hgf
  obtain ⟨g1, g2, g3⟩ := hgf rfl
  simp only at g1 g2 g3
  by_cases hlt : i < nr
  case neg =>
    obtain rfl : i = nr := by omega
    rw [hst] at hMr
    subst hMr
    simp only at hO
    rw [hO, if_pos rfl] at hG
    subst hO hG
    simp [hra, hlt, decide_eq_false hlt]
    exact ⟨[], by simp⟩
  have hx1 : ra[i]? = some (ra.getD i 0) := by rw [List.getD_eq_getElem?_getD, List.getElem?_eq_getElem (by omega)]; rfl
  have hx2 : rb[i]? = some (rb.getD i 0) := by rw [List.getD_eq_getElem?_getD, List.getElem?_eq_getElem (by omega)]; rfl
  have b1 := hrA _ (List.mem_of_getElem? hx1)
  have b2 := hrB _ (List.mem_of_getElem? hx2)
  have hstp := mitGo_step hst
  generalize ra.getD i 0 = xa at *
  generalize rb.getD i 0 = xb at *
  have w6 : IntKind.i64.wrap ((i : Int) + 1) = (i : Int) + 1 := wrap_id (by omega) (by omega)
  have hgN : (grN (withA ((I, [], [], []) : GrD) an) : Int) = firstG a + an.length := by rw [grN_withA, hfm]; omega
  have kx := sAddXor_con (withA ((I, [], [], []) : GrD) an) xa xb hmO (by omega) (by omega)
  have eX := sXorL_eq (x := withA ((I, [], [], []) : GrD) an) (a := xa) (b := xb) g3 (by omega) (by omega)
  have hmX := sXorL_small (x := withA ((I, [], [], []) : GrD) an) (a := xa) (b := xb) hmO
  have xr := xorR_rng (fa := firstG a) (an := an) (a := xa) (b := xb) (by omega) g3 (by omega) (by omega)
  have eF : xorR (firstG (withA ((I, [], [], []) : GrD) an)) (withA ((I, [], [], []) : GrD) an).2.2.1 xa xb = xorR (firstG a) an xa xb := by rw [show firstG (withA ((I, [], [], []) : GrD) an) = firstG a from hfm]; rfl
  rw [eF] at eX
  obtain ⟨⟨xv, an1'⟩, hX⟩ : ∃ q, xorR (firstG a) an xa xb = q := ⟨_, rfl⟩
  rw [hX] at eX xr hstp
  obtain ⟨x1, x2, x3, x4⟩ := xr
  simp only at x1 x2 x3 x4 hstp eX
  have hfail : mitGo (firstG a) ra rb an0 (i + 1) = (0, [], false) → O = false ∧ G = (0, [], [], []) := fun h => by
    have hff := mitGo_false (show (mitGo (firstG a) ra rb an0 (i + 1)).2.2 = false by rw [h]) (nr - (i + 1))
    rw [show i + 1 + (nr - (i + 1)) = nr by omega, ← hMr] at hff
    rw [hff] at hO
    rw [hO, if_neg (by simp)] at hG
    exact ⟨hO, hG⟩
  by_cases hv : xv < 0
  · rw [if_pos hv] at eX hstp
    rw [eX] at kx hmX
    have ko := sAddOr_con (withA ((I, [], [], []) : GrD) an) sv (-1) hmO (by omega) (by omega)
    rw [sOrL_bad (Or.inr (by omega))] at ko
    obtain ⟨rfl, rfl⟩ := hfail hstp
    simp [hra, hlt, decide_eq_true hlt]
    refine drawE_of [(14, [12]), (15, [])] (by kernel_rfl) ?_
    simp [hx1, hx2, enGr, withA]
    refine call_step (kx) ?_
    simp [enGr, withA]
    refine call_step (ko) ?_
    simp [enGr, withA]
    exact ⟨[], by simp⟩
  rw [if_neg hv] at eX hstp
  rw [eX] at kx hmX
  simp only at kx hmX
  have ko := sAddOr_con (withA (withA ((I, [], [], []) : GrD) an) an1') sv xv hmX (by omega) (by omega)
  have hgN2 : (grN (withA (withA ((I, [], [], []) : GrD) an) an1') : Int) = firstG a + an1'.length := by rw [grN_withA, show firstG (withA ((I, [], [], []) : GrD) an) = firstG a from hfm]; omega
  have eO := sOrL_ok (x := withA (withA ((I, [], [], []) : GrD) an) an1') (a := sv) (b := xv) (by omega) (by omega)
  rw [show firstG (withA (withA ((I, [], [], []) : GrD) an) an1') = firstG a from hfm, show (withA (withA ((I, [], [], []) : GrD) an) an1').2.2.1 = an1' from rfl] at eO
  have hmO2 := (sOrL_small (x := withA (withA ((I, [], [], []) : GrD) an) an1') (a := sv) (b := xv) hmX).2.2
  generalize orV (firstG a) an1' sv xv = ov at *
  generalize addN an1' (flip sv) (flip xv) = an2 at *
  by_cases hv2 : ov < 0
  · rw [if_pos hv2] at eO hstp
    rw [eO] at ko
    obtain ⟨rfl, rfl⟩ := hfail hstp
    simp [hra, hlt, decide_eq_true hlt]
    refine drawE_of [(14, [12]), (15, [])] (by kernel_rfl) ?_
    simp [hx1, hx2, enGr, withA]
    refine call_step (kx) ?_
    simp [enGr, withA]
    refine call_step (ko) ?_
    simp [enGr, withA]
    exact ⟨[], by simp⟩
  rw [if_neg hv2] at eO hstp
  rw [eO] at ko hmO2
  simp only at ko hmO2
  simp [hra, hlt, decide_eq_true hlt]
  refine drawE_of [(14, [12]), (15, [])] (by kernel_rfl) ?_
  simp [hx1, hx2, enGr, withA]
  refine call_step (kx) ?_
  simp [enGr, withA]
  refine call_step (ko) ?_
  simp [enGr, withA, w6, hv2, decide_eq_false hv2, show 0 ≤ ov by omega]
  exact round_of hJ hS hμ (i + 1, ov, an2) ⟨by omega, hstp, hmO2⟩ (by simp only; omega) ⟨[0, 1, 2, 3], by simp⟩
end Go.Proofs.Ytoppcdccplgalaa
