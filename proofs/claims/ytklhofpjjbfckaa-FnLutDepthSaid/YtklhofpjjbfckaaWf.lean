/-
  Depths of networks of look-up tables, by abstract walks.
  Conditions: those typed in each theorem.
-/
import Derived.Test.YtklhofpjjbfckaaNi
namespace Go.Proofs.Ytklhofpjjbfckaa
open Go.RowKit Go.ChangeShapes Go.WideShapes
set_option linter.unusedVariables false
set_option linter.unusedSimpArgs false
attribute [local simp ↓] condG_true condG_false condB_true condB_false
attribute [local simp] AWp_skip AWp_region_t AWp_region_d AWp_region_f still_mk AWp_seq AWp_cond condV_bool condB AWp_block AWp_exit AWp_ret
attribute [local simp] AOps_nil AOp_move AOp_assign AOp_pick AOp_binOp AOp_unOp AOp_convert AOp_len AOp_max AOp_min AOp_indexAddr AOp_load
attribute [local simp] AOp_fieldAddr AOp_field AOp_extract AOp_nilCheck AOp_build AOp_alloc AOp_box AOp_call AOp_store AOp_append AOp_buildSlice nextB_some
attribute [local simp] nextB_none adoptO adoptC AOp_makeSlice AOp_slice AOp_makeFunc AOp_guard guardD_some guardG_bool guardG_undef nextO_some nextS_some
attribute [local simp] nextZ_some nextL_some nextM_some nextT_some sliceO sliceL sliceT partO partV boundV funcO pickO
attribute [local simp] convO lenO maxO minO idxO extO nilO buildO litO litC makeO chunks
attribute [local simp] fillV placeOf thenA inBlockA St.get St.put St.eval ofCell evalT abin_add abin_sub abin_mul
attribute [local simp] abin_quo abin_rem abin_and abin_or abin_xor abin_andNot abin_shl abin_shr abin_shlu abin_eql abin_eqp abin_neq
attribute [local simp] abin_lss abin_leq abin_gtr abin_geq abin_eqlb abin_neqb aun pickV lenV intOf? indexV takeD
attribute [local simp] takeV loadV fieldAddrV fieldV ofX presD presDs pres presAll cellsV V.cell storeV
attribute [local simp] freezeC putAt kill takeC plains plainV scalarV nat_neg keepT sets eSl e1
attribute [local simp] e2 e3 e4 eInt eBool afterCall inst inst1 inst1s instD instDs RetA
attribute [local simp] resVs resV gives give1 give1s Le isPin leSlots leS leTmps leV le0
attribute [local simp] le0s ren ren0 renS ren0s frame enterT afterT_some afterC_some lives Slot.live arrsOk
attribute [local simp] viewV view0 renT rens renSs setAll List.range'_succ RetT RetW joinV leT AOpsE_nil
attribute [local simp] AOpsE_cons AOpsT_nil AOpsT_cons isCallT isFnO callOf callVC_fn condC_true condC_false beginT_mk thenT_mk pickE
attribute [local simp] pickT isT loose namesOf namesV names1 names0 stableN sameAt Op.operands Call.operands
def lvAt (lv : List Int) (k : Int) : Int := (lv[k.toNat]?).getD 0
def gmax (a b : Int) : Int := if b > a then b else a
def mxFrom (lv : List Int) (m : Int) (ins : List Int) : Int := ins.foldl (fun m k => gmax m (lvAt lv k)) m
def mxFrom1 (lv : List Int) (m : Int) (ins : List Int) : Int := ins.foldl (fun m k => gmax m (1 + lvAt lv k)) m
theorem mxFrom_snoc {lv : List Int} {m y : Int} {xs : List Int} {k : Nat} (h : xs[k]? = some y) : mxFrom lv m (xs.take (k + 1)) = gmax (mxFrom lv m (xs.take k)) (lvAt lv y) := by
  rw [take_snoc' h, mxFrom, List.foldl_append]; rfl
theorem mxFrom1_snoc {lv : List Int} {m y : Int} {xs : List Int} {k : Nat} (h : xs[k]? = some y) : mxFrom1 lv m (xs.take (k + 1)) = gmax (mxFrom1 lv m (xs.take k)) (1 + lvAt lv y) := by
  rw [take_snoc' h, mxFrom1, List.foldl_append]; rfl
theorem mxFrom1_eq {lv : List Int} : ∀ {xs : List Int} {m : Int}, mxFrom1 lv (1 + m) xs = 1 + mxFrom lv m xs
  | [], m => rfl
  | y :: xs, m => by
    have e : gmax (1 + m) (1 + lvAt lv y) = 1 + gmax m (lvAt lv y) := by unfold gmax; split <;> split <;> omega
    show mxFrom1 lv (gmax (1 + m) (1 + lvAt lv y)) xs = 1 + mxFrom lv (gmax m (lvAt lv y)) xs
    rw [e, mxFrom1_eq]
theorem mxFrom_le {lv : List Int} {b : Int} (hb : ∀ v ∈ lv, 0 ≤ v ∧ v ≤ b) : ∀ {xs : List Int} {m : Int}, 0 ≤ m → m ≤ b → 0 ≤ mxFrom lv m xs ∧ mxFrom lv m xs ≤ b
  | [], m, h0, h1 => ⟨h0, h1⟩
  | y :: xs, m, h0, h1 => by
    have hy : 0 ≤ lvAt lv y ∧ lvAt lv y ≤ b := by
      unfold lvAt
      cases h : lv[y.toNat]? with
      | none => simp; omega
      | some v => simpa using hb v (List.mem_of_getElem? h)
    have hg : 0 ≤ gmax m (lvAt lv y) ∧ gmax m (lvAt lv y) ≤ b := by unfold gmax; split <;> omega
    show 0 ≤ mxFrom lv (gmax m (lvAt lv y)) xs ∧ mxFrom lv (gmax m (lvAt lv y)) xs ≤ b
    exact mxFrom_le hb hg.1 hg.2
theorem lv_read {lv : List Int} {k : Int} (h1 : k < lv.length) (h0 : 0 ≤ k) : lv[k.toNat]? = some (lvAt lv k) := by
  unfold lvAt
  rw [List.getElem?_eq_getElem (by omega)]
  rfl
/-- The levels after k look-up tables. -/
def lvlK (f : Nat) (ls : List LutD) (n : Nat) : Nat → List Int
  | 0 => List.replicate n 0
  | k + 1 => (lvlK f ls n k).set (f + k) (1 + mxFrom (lvlK f ls n k) 0 ((ls[k]?).getD ([], 0)).1)
theorem lvlK_len {f : Nat} {ls : List LutD} {n : Nat} : ∀ k, (lvlK f ls n k).length = n
  | 0 => by simp [lvlK]
  | k + 1 => by simp [lvlK, lvlK_len k]
theorem lvlK_le {f : Nat} {ls : List LutD} {n : Nat} : ∀ k, ∀ v ∈ lvlK f ls n k, 0 ≤ v ∧ v ≤ k
  | 0, v, h => by simp [lvlK] at h; omega
  | k + 1, v, h => by
    rcases List.mem_or_eq_of_mem_set h with h | h
    · have := lvlK_le k v h; omega
    · have := mxFrom_le (lvlK_le (f := f) (ls := ls) (n := n) k) (xs := ((ls[k]?).getD ([], 0)).1) (m := 0) (by omega) (by omega)
      omega
theorem lvlK_snoc {f : Nat} {ls : List LutD} {n k : Nat} {s : LutD} (h : ls[k]? = some s) : lvlK f ls n (k + 1) = (lvlK f ls n k).set (f + k) (1 + mxFrom (lvlK f ls n k) 0 s.1) := by
  simp [lvlK, h]
def lutLv (x : NetD) : List Int := lvlK (1 + x.1.toNat + x.2.1.length) x.2.2.1 (1 + x.1.toNat + x.2.1.length + x.2.2.1.length) x.2.2.1.length
def lutRoots (x : NetD) : List Int := x.2.2.2 ++ (x.2.1.map (·.2.2)).flatten
def lutDepthL (x : NetD) : Int := if lutNetOkB x = true then mxFrom (lutLv x) 0 (lutRoots x) else -1
theorem lutOk_of {x : NetD} (h : lutNetOkB x = true) : (0 ≤ x.1 ∧ x.1 ≤ 20 ∧ x.2.1.length ≤ 12 ∧ x.2.2.1.length ≤ 400 ∧ x.2.2.2.length ≤ 16 ∧ nodesL x = 1 + x.1 + x.2.1.length + x.2.2.1.length) ∧
    (∀ y ∈ x.2.2.2, 0 ≤ y ∧ y < nodesL x) ∧ (∀ s ∈ x.2.1, seqOkB s = true ∧ ∀ y ∈ s.2.2, 0 ≤ y ∧ y < nodesL x) ∧
    ∀ (k : Nat) (s : LutD), x.2.2.1[k]? = some s → tableOkB s.1.length s.2 = true ∧ ∀ y ∈ s.1, 0 ≤ y ∧ y < 1 + x.1 + x.2.1.length + k := by
  have below : ∀ {xs : List Int} {n : Int}, belowB xs n = true → ∀ y ∈ xs, 0 ≤ y ∧ y < n := fun h y hy => by
    have := rng_iff.1 (List.all_eq_true.1 h y hy)
    omega
  simp only [lutNetOkB, Bool.and_eq_true, decide_eq_true_eq] at h
  obtain ⟨⟨⟨h1, h2⟩, h3⟩, h4⟩ := h
  refine ⟨nodesL_pos h1, below h2, fun s hs => ?_, fun k s hs => ?_⟩
  · have := List.all_eq_true.1 h3 s hs
    simp only [seqFits, Bool.and_eq_true] at this
    exact ⟨this.1, below this.2⟩
  · cases hf : lutFits (1 + x.1 + x.2.1.length + k) s with
    | false => rw [lutsFit_not hs hf] at h4; cases h4
    | true =>
      simp only [lutFits, Bool.and_eq_true] at hf
      exact ⟨hf.1, below hf.2⟩
theorem set_ints {lv : List Int} {i : Nat} {v : Int} : (lv.map (e1 eInt)).set i [.int .i64 v] = (lv.set i v).map (e1 eInt) := by rw [List.map_set]; rfl
set_option maxRecDepth 100000 in
set_option maxHeartbeats 1000000 in
theorem iLutDepth_con (x : NetD) (hx : fitNet 1048576 x) : ConC Try.prog 63 [inet x] (.d (.int .i64 (lutDepthL x))) := by
  have hx' := hx
  obtain ⟨f1, f2, f3, f4, f5⟩ := hx'
  refine con_of (by kernel_rfl) Try.func63 rfl rfl rfl ?_
  simp [enNet]
  refine call_step (iLutNetOk_con x hx) ?_
  simp
  rcases Bool.eq_false_or_eq_true (lutNetOkB x) with hok | hok
  case inr => simp [hok, lutDepthL]
  obtain ⟨⟨n1, n2, n3, n4, n5, n6⟩, o1, o2, o3⟩ := lutOk_of hok
  obtain ⟨q, hq⟩ : ∃ q : Nat, x.1 = q := ⟨x.1.toNat, by omega⟩
  obtain ⟨N, hN⟩ : ∃ N : Nat, N = 1 + x.1.toNat + x.2.1.length + x.2.2.1.length := ⟨_, rfl⟩
  have hfin : lutDepthL x = mxFrom (lutLv x) 0 (lutRoots x) := by simp [lutDepthL, hok]
  rw [hfin]
  clear hfin
  simp [hok]
  refine call_step (iNodes_con x ⟨n1, n2⟩ n3 n4) ?_
  simp
  refine ⟨⟨by omega, by omega⟩, ?_⟩
  have hNn : (1 + x.1 + (x.2.1.length : Int) + (x.2.2.1.length : Int)).toNat = N := by omega
  rw [hNn]
  refine aw_loopU [false, true, false, true, false, false, false, false, false, false, false, false, false, false, false, false, false, false, false, false, false, false, false, true, true, true, false, false, false, false, false, false, false, false, false, false, false, false, false, false, false, false, false, false, false, false, false, false, false, false, false, false, false, false, false, false, false, false, false, false, false, false, false, false, false, false, false, false, false, false, false, false, false, false, false, false, false, false, false, false, false, false, false, false, false, false, false, false, false, false] (fun k : Nat => k ≤ x.2.2.1.length) (fun k : Nat => [(25, .d (.int .i64 k))]) (fun k : Nat => [(1, .arr 3 true ((lvlK (1 + x.1.toNat + x.2.1.length) x.2.2.1 N k).map (e1 eInt)))]) (fun k : Nat => x.2.2.1.length - k) 0 ?_ ?_ ?_
  · simp
  · exact ⟨[0, 1], by simp [lvlK]⟩
  rintro I S μ hI hS hμ k hk
  by_cases hlt : k < x.2.2.1.length
  · have hx1 : x.2.2.1[k]? = some x.2.2.1[k] := List.getElem?_eq_getElem hlt
    have hL : (enLut x.2.2.1[k]).length = 2 := rfl
    have w2 : IntKind.i64.wrap ((k : Int) + 1) = (k : Int) + 1 := wrap_id (by omega) (by omega)
    have w3 : IntKind.i64.wrap (1 + x.1 + x.2.1.length + k) = 1 + x.1 + x.2.1.length + k := wrap_id (by omega) (by omega)
    have hl := f4 _ (List.getElem_mem hlt)
    generalize x.2.2.1[k] = s at *
    have hd : decide (k < x.2.2.1.length) = true := decide_eq_true hlt
    have hb := (o3 k s hx1).2
    obtain ⟨lv, hlv⟩ : ∃ lv, lv = lvlK (1 + x.1.toNat + x.2.1.length) x.2.2.1 N k := ⟨_, rfl⟩
    have hlen : lv.length = N := by rw [hlv, lvlK_len]
    have hle : ∀ v ∈ lv, 0 ≤ v ∧ v ≤ k := by rw [hlv]; exact lvlK_le k
    have hnext : lvlK (1 + x.1.toNat + x.2.1.length) x.2.2.1 N (k + 1) = lv.set (1 + x.1.toNat + x.2.1.length + k) (1 + mxFrom lv 0 s.1) := by rw [lvlK_snoc hx1, ← hlv]
    rw [← hlv]
    simp [hd, hx1, hL, enLut]
    refine aw_loopU [false, true, false, true, true, false, true, false, false, false, false, false, false, false, false, false, false, false, false, false, false, false, false, true, true, true, false, false, false, false, false, true, true, true, false, false, false, false, false, false, false, false, false, false, false, false, false, false, false, false, false, false, false, false, false, false, false, false, false, false, false, false, false, false, false, false, false, false, false, false, false, false, false, false, false, false, false, false, false, false, false, false, false, false, false, false, false, false, false, false] (fun j : Nat => j ≤ s.1.length) (fun j : Nat => [(6, .d (.int .i64 (mxFrom1 lv 1 (s.1.take j)))), (33, .d (.int .i64 j))]) (fun j : Nat => []) (fun j : Nat => s.1.length - j) 0 ?_ ?_ ?_
    · simp
    · exact ⟨[0, 1, 2], by simp [mxFrom1]⟩
    rintro I2 S2 μ2 hI2 hS2 hμ2 j hj
    by_cases hlt2 : j < s.1.length
    · have hx2 : s.1[j]? = some s.1[j] := List.getElem?_eq_getElem hlt2
      have w4 : IntKind.i64.wrap ((j : Int) + 1) = (j : Int) + 1 := wrap_id (by omega) (by omega)
      have hb2 := hb _ (List.getElem_mem hlt2)
      generalize s.1[j] = y at *
      have hd2 : decide (j < s.1.length) = true := decide_eq_true hlt2
      have hr := lv_read (lv := lv) (k := y) (by omega) hb2.1
      have hq1 := hle _ (List.mem_of_getElem? hr)
      have w5 : IntKind.i64.wrap (1 + lvAt lv y) = 1 + lvAt lv y := wrap_id (by omega) (by omega)
      simp [hd2, hx2, hr, hb2.1, show ¬ y < 0 by omega, w4, w5]
      exact round_of hI2 hS2 hμ2 (j + 1) (by omega) (by omega) ⟨[0, 1, 2], by simp [mxFrom1_snoc hx2, gmax]⟩
    · have hj' : j = s.1.length := by omega
      subst hj'
      have e1' : mxFrom1 lv 1 s.1 = 1 + mxFrom lv 0 s.1 := mxFrom1_eq (m := 0)
      simp [hlt2]
      refine call_step (firstLut_con x ⟨n1, n2⟩ n3) ?_
      simp [w3]
      have ht : (1 + x.1 + (x.2.1.length : Int) + (k : Int)).toNat = 1 + x.1.toNat + x.2.1.length + k := by omega
      have hr : lv[1 + x.1.toNat + x.2.1.length + k]? = some (lvAt lv (1 + x.1 + x.2.1.length + k)) := by rw [← ht]; exact lv_read (by omega) (by omega)
      simp [ht, hr, show ¬ 1 + x.1 + (x.2.1.length : Int) + (k : Int) < 0 by omega, w2]
      exact round_of hI hS hμ (k + 1) (by omega) (by omega) ⟨[0, 1], by simp [hnext, ← set_ints, e1']⟩
  · have hk' : k = x.2.2.1.length := by omega
    subst hk'
    obtain ⟨lv, hlv⟩ : ∃ lv, lv = lvlK (1 + x.1.toNat + x.2.1.length) x.2.2.1 N x.2.2.1.length := ⟨_, rfl⟩
    have hlen : lv.length = N := by rw [hlv, lvlK_len]
    have hlu : lutLv x = lv := by rw [hlv, hN]; rfl
    rw [← hlv, hlu]
    simp [hlt]
    refine aw_loopU [false, true, false, true, false, false, false, false, false, true, false, false, false, false, false, false, false, false, false, false, false, false, false, false, false, false, false, false, false, false, false, false, false, false, false, false, false, false, false, false, false, false, false, false, false, false, false, false, false, false, false, false, false, false, true, true, true, false, false, false, false, false, false, false, false, false, false, false, false, false, false, false, false, false, false, false, false, false, false, false, false, false, false, false, false, false, false, false, false, false] (fun k : Nat => k ≤ x.2.2.2.length) (fun k : Nat => [(9, .d (.int .i64 (mxFrom lv 0 (x.2.2.2.take k)))), (56, .d (.int .i64 k))]) (fun k : Nat => []) (fun k : Nat => x.2.2.2.length - k) 0 ?_ ?_ ?_
    · simp
    · exact ⟨[0, 1], by simp [mxFrom]⟩
    clear hI hS hμ
    rintro I S μ hI hS hμ k hk
    by_cases hlt : k < x.2.2.2.length
    · have hx1 : x.2.2.2[k]? = some x.2.2.2[k] := List.getElem?_eq_getElem hlt
      have w2 : IntKind.i64.wrap ((k : Int) + 1) = (k : Int) + 1 := wrap_id (by omega) (by omega)
      have hb2 := o1 _ (List.getElem_mem hlt)
      generalize x.2.2.2[k] = y at *
      have hd : decide (k < x.2.2.2.length) = true := decide_eq_true hlt
      have hr := lv_read (lv := lv) (k := y) (by omega) hb2.1
      simp [hd, hx1, hr, show ¬ y < 0 by omega, w2]
      exact round_of hI hS hμ (k + 1) (by omega) (by omega) ⟨[0, 1], by simp [mxFrom_snoc hx1, gmax]⟩
    · have hk' : k = x.2.2.2.length := by omega
      subst hk'
      simp [hlt]
      refine aw_loopU [false, false, false, true, false, false, false, false, false, true, false, false, false, false, false, false, false, false, false, false, false, false, false, false, false, false, false, false, false, false, false, false, false, false, false, false, false, false, false, false, false, false, false, false, false, false, false, false, false, false, false, false, false, false, false, false, false, false, false, false, false, false, false, false, false, false, false, false, true, true, true, false, false, false, false, false, false, false, false, false, false, false, false, false, false, false, false, false, false, false] (fun k : Nat => k ≤ x.2.1.length) (fun k : Nat => [(9, .d (.int .i64 (mxFrom lv (mxFrom lv 0 x.2.2.2) ((x.2.1.map (·.2.2)).take k).flatten))), (70, .d (.int .i64 k))]) (fun k : Nat => []) (fun k : Nat => x.2.1.length - k) 0 ?_ ?_ ?_
      · simp
      · exact ⟨[0, 1], by simp [mxFrom]⟩
      clear hI hS hμ
      rintro I S μ hI hS hμ k hk
      by_cases hlt : k < x.2.1.length
      · have hx1 : x.2.1[k]? = some x.2.1[k] := List.getElem?_eq_getElem hlt
        have hL : (enSeq x.2.1[k]).length = 3 := rfl
        have w2 : IntKind.i64.wrap ((k : Int) + 1) = (k : Int) + 1 := wrap_id (by omega) (by omega)
        have hl := f2 _ (List.getElem_mem hlt)
        have hb := (o2 _ (List.getElem_mem hlt)).2
        generalize x.2.1[k] = s at *
        have hd : decide (k < x.2.1.length) = true := decide_eq_true hlt
        obtain ⟨m, hm⟩ : ∃ m, m = mxFrom lv (mxFrom lv 0 x.2.2.2) ((x.2.1.map (·.2.2)).take k).flatten := ⟨_, rfl⟩
        have hnext : mxFrom lv (mxFrom lv 0 x.2.2.2) ((x.2.1.map (·.2.2)).take (k + 1)).flatten = mxFrom lv m s.2.2 := by
          rw [take_snoc' (x := s.2.2) (by rw [List.getElem?_map, hx1]; rfl), List.flatten_append, hm]
          simp [mxFrom, List.foldl_append]
        rw [← hm]
        simp [hd, hx1, hL, enSeq]
        refine aw_loopU [false, false, false, true, false, false, false, false, false, true, false, false, false, false, false, false, false, false, false, false, false, false, false, false, false, false, false, false, false, false, false, false, false, false, false, false, false, false, false, false, false, false, false, false, false, false, false, false, false, false, false, false, false, false, false, false, false, false, false, false, false, false, false, false, false, false, false, false, true, true, true, false, false, false, false, true, true, true, false, false, false, false, false, false, false, false, false, false, false, false] (fun j : Nat => j ≤ s.2.2.length) (fun j : Nat => [(9, .d (.int .i64 (mxFrom lv m (s.2.2.take j)))), (77, .d (.int .i64 j))]) (fun j : Nat => []) (fun j : Nat => s.2.2.length - j) 0 ?_ ?_ ?_
        · simp
        · exact ⟨[0, 1, 2], by simp [mxFrom]⟩
        rintro I2 S2 μ2 hI2 hS2 hμ2 j hj
        by_cases hlt2 : j < s.2.2.length
        · have hx2 : s.2.2[j]? = some s.2.2[j] := List.getElem?_eq_getElem hlt2
          have w4 : IntKind.i64.wrap ((j : Int) + 1) = (j : Int) + 1 := wrap_id (by omega) (by omega)
          have hb2 := hb _ (List.getElem_mem hlt2)
          generalize s.2.2[j] = y at *
          have hd2 : decide (j < s.2.2.length) = true := decide_eq_true hlt2
          have hr := lv_read (lv := lv) (k := y) (by omega) hb2.1
          simp [hd2, hx2, hr, show ¬ y < 0 by omega, w4]
          exact round_of hI2 hS2 hμ2 (j + 1) (by omega) (by omega) ⟨[0, 1, 2], by simp [mxFrom_snoc hx2, gmax]⟩
        · have hj' : j = s.2.2.length := by omega
          subst hj'
          simp [hlt2, w2]
          refine round_of hI hS hμ (k + 1) (by omega) (by omega) ⟨[0, 1], by simp [hnext]⟩
      · have hk' : k = x.2.1.length := by omega
        subst hk'
        have htk : (x.2.1.map (·.2.2)).take x.2.1.length = x.2.1.map (·.2.2) := List.take_of_length_le (by simp)
        simp [hlt, lutRoots, mxFrom, List.foldl_append, htk]
end Go.Proofs.Ytklhofpjjbfckaa
