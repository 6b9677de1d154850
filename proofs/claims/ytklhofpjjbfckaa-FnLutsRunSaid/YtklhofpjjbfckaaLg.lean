/-
  Networks of tables by the program: tables of cuts, places of nodes. By abstract walks.
  Conditions: those typed in each theorem.
-/
import Derived.Test.YtklhofpjjbfckaaLb
import Derived.Test.YtklhofpjjbfckaaLe
namespace Go.Proofs.Ytklhofpjjbfckaa
open Go.RowKit Go.ChangeShapes Go.WideShapes
set_option linter.unusedVariables false
set_option linter.unusedSimpArgs false
attribute [local simp ↓] condG_true condG_false condB_true condB_false
attribute [local simp] AWp_skip AWp_region_t AWp_region_d AWp_region_f still_mk AWp_seq AWp_cond condV_bool condB AWp_block AWp_exit AWp_ret
attribute [local simp] AOps_nil AOp_move AOp_assign AOp_pick AOp_binOp AOp_unOp AOp_convert AOp_len AOp_max AOp_min AOp_indexAddr AOp_load
attribute [local simp] AOp_fieldAddr AOp_field AOp_extract AOp_nilCheck AOp_build AOp_alloc AOp_box AOp_call AOp_store AOp_append AOp_buildSlice nextB_some
attribute [local simp] nextB_none adoptO adoptC AOp_makeSlice AOp_slice AOp_makeFunc AOp_guard guardD_some guardG_bool guardG_undef nextO_some nextS_some
attribute [local simp] nextZ_some nextL_some nextM_some nextT_some sliceO sliceL sliceT partO partV boundV funcO pickO
attribute [local simp] convO lenO maxO minO idxO extO nilO buildO litO litC makeO chunks
attribute [local simp] fillV placeOf thenA inBlockA St.get St.put St.eval ofCell evalT abin_add abin_sub abin_mul
attribute [local simp] abin_quo abin_rem abin_and abin_or abin_xor abin_andNot abin_shl abin_shr abin_shlu abin_eql abin_eqp abin_neq
attribute [local simp] abin_lss abin_leq abin_gtr abin_geq abin_eqlb abin_neqb aun pickV lenV intOf? indexV takeD
attribute [local simp] takeV loadV fieldAddrV fieldV ofX presD presDs pres presAll cellsV V.cell storeV
attribute [local simp] freezeC putAt kill takeC plains plainV scalarV nat_neg keepT sets eSl e1
attribute [local simp] e2 e3 e4 eInt eBool afterCall inst inst1 inst1s instD instDs RetA
attribute [local simp] resVs resV gives give1 give1s Le isPin leSlots leS leTmps leV le0
attribute [local simp] le0s ren ren0 renS ren0s frame enterT afterT_some afterC_some lives Slot.live arrsOk
attribute [local simp] viewV view0 renT rens renSs setAll List.range'_succ RetT RetW joinV leT AOpsE_nil
attribute [local simp] AOpsE_cons AOpsT_nil AOpsT_cons isCallT isFnO callOf callVC_fn condC_true condC_false beginT_mk thenT_mk pickE
attribute [local simp] pickT isT loose namesOf namesV names1 names0 stableN sameAt Op.operands Call.operands
theorem shl_pow {n : Nat} (h : n ≤ 4) : shl64 1 (n : Int) = ((2 ^ n : Nat) : Int) ∧ 2 ^ n ≤ 16 := by
  have : n = 0 ∨ n = 1 ∨ n = 2 ∨ n = 3 ∨ n = 4 := by omega
  rcases this with rfl | rfl | rfl | rfl | rfl <;> decide
theorem bit_pack {vs : List Int} {i : Nat} {b : Int} (hb : bitsI vs) (hi : vs[i]? = some b) (h : i ≤ 60) : bit (packL vs) i = b := by
  unfold bit shr64
  have hl : i < vs.length := (List.getElem?_eq_some_iff.1 hi).1
  have hp := packK_bit hb hi vs.length hl
  rw [Int.toNat_natCast, Nat.min_eq_left (by omega), Int.fdiv_eq_ediv_of_nonneg _ (Int.le_of_lt (Int.pow_pos (by omega)))]
  exact hp
theorem packK_one {vs : List Int} {k : Nat} (hb : bitsI vs) (hx : vs[k]? = some 1) (hk : k ≤ 60) : or64 (packK vs k) (shl64 1 (k : Int)) = packK vs (k + 1) := packK_or hb hx hk
theorem packK_none {vs : List Int} {k : Nat} (hx : vs[k]? = some 0) : packK vs (k + 1) = packK vs k := by simp [packK, hx]
set_option maxRecDepth 100000 in
theorem cutClo_conT (x : GrD) (c : List Int) (v i : Nat) (hx : fitGr 1048576 x) (hok : netOkB x = true) (hc : c.length ≤ 1048576) (hv : v < grN x) :
    ConT Try.prog 219 [.d (.int .i64 i), .ptr 0 0, .ptr 1 0, .ptr 2 0] [bxG x, .var 3 [.d (.int .i64 v)], .var 26 [.d (eSl 3 (e1 eInt) c)]] (.d (.bool (vaN x c i v == 1))) [bxG x, .var 3 [.d (.int .i64 v)], .var 26 [.d (eSl 3 (e1 eInt) c)]] := by
  have kv := valueAbove_conT x c i hx hok hc (grN x) v (List.replicate (grN x) 0) hv hv memo_new
  obtain ⟨⟨n1, n2, n3, n4, n5, n6⟩, -, -, -⟩ := netOk_of hok
  obtain ⟨hF, hgl, hNi, hno⟩ := ok_sizes hok
  generalize memoG x c i (grN x) v (List.replicate (grN x) 0) = M at *
  generalize vaN x c i v = z at *
  rw [List.map_replicate] at kv
  refine conT_ofD (by kernel_rfl) Try.func219 rfl rfl rfl (by simp [laters, Later]) (by simp [lives, Slot.live]) ?_
  simp
  refine drawD_of 7 (by kernel_rfl) ?_
  simp
  refine call_step (iNodeCnt_con x ⟨n1, n2⟩ n3 n4) ?_
  simp [hNi, show (grN x : Int) ≤ 1099511627776 by omega]
  refine callT_step (kv) [] [3] (by simp) ?_
  simp
  exact ⟨[0, 1, 2], by simp⟩
set_option maxRecDepth 100000 in
theorem cutTab_conT (x : GrD) (c : List Int) (v : Nat) (hx : fitGr 1048576 x) (hok : netOkB x = true) (hc : c.length ≤ 4) (hv : v < grN x) :
    ConT Try.prog 77 [.d (.int .i64 c.length), .fn 219 [.ptr 0 0, .ptr 1 0, .ptr 2 0]] [bxG x, .var 3 [.d (.int .i64 v)], .var 26 [.d (eSl 3 (e1 eInt) c)]] (.agg [.d (.int .i64 c.length), .d (.int .i64 (tbL x c v))]) [bxG x, .var 3 [.d (.int .i64 v)], .var 26 [.d (eSl 3 (e1 eInt) c)]] := by
  have kc := fun i => cutClo_conT x c v i hx hok (by omega) hv
  obtain ⟨hsh, hm⟩ := shl_pow hc
  have hb := tvL_bits (c := c) hv
  have hvl := tvL_len (x := x) (c := c) (v := v)
  have hva := fun i h => tvL_at (x := x) (c := c) (v := v) (i := i) h
  have hT : tbL x c v = packK (tvL x c v) (2 ^ c.length) := by unfold tbL packL; rw [hvl]
  rw [hT]
  generalize tvL x c v = vs at *
  have hu : IntKind.u64.wrap (c.length : Int) = c.length := u64_id (by omega) (by omega)
  generalize 2 ^ c.length = m at *
  refine conT_of (by kernel_rfl) Try.func77 rfl rfl rfl (by simp [laters, Later]) (by simp [lives, Slot.live]) ?_
  simp
  refine aw_loopU [true, true, false, false, true, true, true, false, false, false, false, false, false, false, false, false, false, false, false, false, false, false, false, false, false, false, false] (fun i : Nat => i ≤ m) (fun i : Nat => [(6, .d (.int .i64 i))]) (fun i : Nat => [(4, .var 95 [.d (.int .i64 c.length), .d (.int .i64 (packK vs i))])]) (fun i : Nat => m - i) 0 ?_ ?_ ?_
  · exact Nat.zero_le _
  · exact ⟨[0, 1, 2, 3, 4], by simp [packK]⟩
  rintro I S μ hI hS hμ i hi
  by_cases hlt : i < m
  · have k := kc i
    have w1 : IntKind.i64.wrap ((i : Int) + 1) = (i : Int) + 1 := wrap_id (by omega) (by omega)
    have w2 : IntKind.u64.wrap (i : Int) = i := u64_id (by omega) (by omega)
    have hx1 := hva i hlt
    have h01 := hb _ (List.mem_of_getElem? hx1)
    generalize vaN x c i v = z at *
    simp [hsh, hu, hlt, AOp_callv, callV_fn]
    rcases (show z = 0 ∨ z = 1 by omega) with rfl | rfl
    · have h1 := packK_none hx1
      refine callT_step (k) [] [0, 1, 2] (by simp) ?_
      simp [w1]
      exact round_of hI hS hμ (i + 1) (by omega) (by omega) ⟨[0, 1, 2, 3, 4], by simp [h1]⟩
    · have h1 := packK_one hb hx1 (by omega)
      refine callT_step (k) [] [0, 1, 2] (by simp) ?_
      simp [w1, w2, h1]
      exact round_of hI hS hμ (i + 1) (by omega) (by omega) ⟨[0, 1, 2, 3, 4], by simp⟩
  · obtain rfl : i = m := by omega
    simp [hsh, hu, hlt]
    exact ⟨[0, 1, 2], by simp⟩
set_option maxRecDepth 100000 in
theorem cutTable_con (x : GrD) (c : List Int) (v : Nat) (hx : fitGr 1048576 x) (hok : netOkB x = true) (hc : c.length ≤ 4) (hv : v < grN x) :
    ConC Try.prog 141 [igr x, .d (.int .i64 v), .d (eSl 3 (e1 eInt) c)] (.agg [.int .i64 c.length, .int .i64 (tbL x c v)]) := by
  have k := cutTab_conT x c v hx hok hc hv
  refine con_of (by kernel_rfl) Try.func141 rfl rfl rfl ?_
  simp [enGr]
  refine callT_step (k) [] [0, 1, 2] (by simp) ?_
  simp
theorem iTableEval_con (n i : Nat) (b : Int) (h : tableOkB n b = true) (hi : i < 2 ^ n) : ConC Try.prog 222 [.agg [.int .i64 n, .int .i64 b], .d (.int .i64 i)] (.d (.bool (bit b i == 1))) := by
  have hn := tableOk_le h
  obtain ⟨hsh, hm⟩ := shl_pow hn
  have hu : IntKind.u64.wrap (n : Int) = n := u64_id (by omega) (by omega)
  have hu2 : IntKind.u64.wrap (i : Int) = i := u64_id (by omega) (by omega)
  generalize 2 ^ n = m at *
  have w1 : IntKind.i64.wrap ((m : Int) - 1) = (m : Int) - 1 := wrap_id (by omega) (by omega)
  have hr : rng (i : Int) 0 ((m : Int) - 1) = true := rng_iff.2 (by omega)
  have hb := and_shr b i
  generalize bit b i = z at *
  refine con_of (by kernel_rfl) Try.func222 rfl rfl rfl ?_
  simp
  refine call_step (iTableOk_con n b) ?_
  simp [h, hu, hsh, w1]
  refine call_step (inr_con _ _ _) ?_
  simp [hr, hu2, hb]
set_option maxRecDepth 100000 in
theorem notClo_conT (n i : Nat) (b : Int) (h : tableOkB n b = true) (hi : i < 2 ^ n) : ConT Try.prog 221 [.d (.int .i64 i), .ptr 0 0] [.var 95 [.d (.int .i64 n), .d (.int .i64 b)]] (.d (.bool (!(bit b i == 1)))) [.var 95 [.d (.int .i64 n), .d (.int .i64 b)]] := by
  have k := iTableEval_con n i b h hi
  generalize (bit b i == 1) = t at *
  refine conT_of (by kernel_rfl) Try.func221 rfl rfl rfl (by simp [laters, Later]) (by simp [lives, Slot.live]) ?_
  simp
  refine call_step (k) ?_
  simp
  exact ⟨[0], by simp⟩
set_option maxRecDepth 100000 in
theorem notTab_conT (vs : List Int) (n : Nat) (hb : bitsI vs) (hl : vs.length = 2 ^ n) (h : tableOkB n (packL vs) = true) : ConT Try.prog 77 [.d (.int .i64 n), .fn 221 [.ptr 0 0]] [.var 95 [.d (.int .i64 n), .d (.int .i64 (packL vs))]] (.agg [.d (.int .i64 n), .d (.int .i64 (packL (vs.map fun b => 1 - b)))]) [.var 95 [.d (.int .i64 n), .d (.int .i64 (packL vs))]] := by
  have hc := tableOk_le h
  have kc := fun i hi => notClo_conT n i (packL vs) h hi
  obtain ⟨hsh, hm⟩ := shl_pow hc
  obtain ⟨us, hus⟩ : ∃ us, us = vs.map fun b => 1 - b := ⟨_, rfl⟩
  have hb' : bitsI us := by rw [hus]; exact bitsI_map fun y hy => by have := hb y hy; omega
  have hva : ∀ i, i < 2 ^ n → us[i]? = some (1 - bit (packL vs) i) := fun i hi => by
    have hx : vs[i]? = some vs[i] := List.getElem?_eq_getElem (by omega)
    rw [bit_pack hb hx (by omega), hus, List.getElem?_map, hx]; rfl
  have hT : packL us = packK us (2 ^ n) := by unfold packL; rw [hus, List.length_map, hl]
  rw [← hus, hT]
  clear hT hus
  have hu : IntKind.u64.wrap (n : Int) = n := u64_id (by omega) (by omega)
  generalize 2 ^ n = m at *
  refine conT_of (by kernel_rfl) Try.func77 rfl rfl rfl (by simp [laters, Later]) (by simp [lives, Slot.live]) ?_
  simp
  refine aw_loopU [true, true, false, false, true, true, true, false, false, false, false, false, false, false, false, false, false, false, false, false, false, false, false, false, false, false, false] (fun i : Nat => i ≤ m) (fun i : Nat => [(6, .d (.int .i64 i))]) (fun i : Nat => [(2, .var 95 [.d (.int .i64 n), .d (.int .i64 (packK us i))])]) (fun i : Nat => m - i) 0 ?_ ?_ ?_
  · exact Nat.zero_le _
  · exact ⟨[0, 1, 2], by simp [packK]⟩
  rintro I S μ hI hS hμ i hi
  by_cases hlt : i < m
  · have k := kc i hlt
    have w1 : IntKind.i64.wrap ((i : Int) + 1) = (i : Int) + 1 := wrap_id (by omega) (by omega)
    have w2 : IntKind.u64.wrap (i : Int) = i := u64_id (by omega) (by omega)
    have hx1 := hva i hlt
    have h01 := hb' _ (List.mem_of_getElem? hx1)
    generalize bit (packL vs) i = z at *
    simp [hsh, hu, hlt, AOp_callv, callV_fn]
    rcases (show z = 1 ∨ z = 0 by omega) with rfl | rfl
    · have h1 := packK_none hx1
      refine callT_step (k) [] [0] (by simp) ?_
      simp [w1]
      exact round_of hI hS hμ (i + 1) (by omega) (by omega) ⟨[0, 1, 2], by simp [h1]⟩
    · have h1 := packK_one hb' hx1 (by omega)
      refine callT_step (k) [] [0] (by simp) ?_
      simp [w1, w2, h1]
      exact round_of hI hS hμ (i + 1) (by omega) (by omega) ⟨[0, 1, 2], by simp⟩
  · obtain rfl : i = m := by omega
    simp [hsh, hu, hlt]
    exact ⟨[0], by simp⟩
theorem iTableNot_con (vs : List Int) (n : Nat) (hb : bitsI vs) (hl : vs.length = 2 ^ n) (h : tableOkB n (packL vs) = true) : ConC Try.prog 143 [.agg [.int .i64 n, .int .i64 (packL vs)]] (.agg [.int .i64 n, .int .i64 (packL (vs.map fun b => 1 - b))]) := by
  have k := notTab_conT vs n hb hl h
  generalize packL (vs.map fun b => 1 - b) = u at *
  generalize packL vs = b at *
  refine con_of (by kernel_rfl) Try.func143 rfl rfl rfl ?_
  simp
  refine call_step (iTableOk_con n b) ?_
  simp [h]
  refine callT_step (k) [] [0] (by simp) ?_
  simp
set_option maxRecDepth 100000 in
theorem mapNodes_con (pl c : List Int) (hp : pl.length ≤ 1048576) (hc : c.length ≤ 1048576) (hi : ∀ y ∈ c, 0 ≤ y ∧ y < pl.length) : ConC Try.prog 140 [.d (eSl 3 (e1 eInt) pl), .d (eSl 3 (e1 eInt) c)] (.d (eSl 3 (e1 eInt) (c.map (atI pl)))) := by
  refine con_of (by kernel_rfl) Try.func140 rfl rfl rfl ?_
  simp
  refine aw_loopN [true, false, false, false, false, true, false, false, true, true, true, false, false, false, false, false, false, false, false, false, false, false, false] (fun i : Nat => i ≤ c.length) (fun i : Nat => [(5, nilR i 0), (10, .d (.int .i64 i))]) (fun i : Nat => nilS i ((c.take i).map (atI pl))) (fun i : Nat => c.length - i) 0 ?_ ?_ ?_
  · simp
  · exact ⟨[], by simp [nilR, nilS]⟩
  rintro I S μ hI hS hμ i hi'
  by_cases hlt : i < c.length
  · have hx1 : c[i]? = some (c.getD i 0) := by rw [List.getD_eq_getElem?_getD, List.getElem?_eq_getElem hlt]; rfl
    have hx2 : ∀ h : i < c.length, c[i]'h = c.getD i 0 := fun h => by simp [List.getD_eq_getElem?_getD, h]
    have hli := hi _ (List.mem_of_getElem? hx1)
    have hnx : (c.take (i + 1)).map (atI pl) = (c.take i).map (atI pl) ++ [atI pl (c.getD i 0)] := by rw [take_snoc' hx1, List.map_append]; rfl
    have hll : ((c.take i).map (atI pl)).length = i := by simp; omega
    have w2 : IntKind.i64.wrap ((i : Int) + 1) = (i : Int) + 1 := wrap_id (by omega) (by omega)
    have hat := at_read (lv := pl) (k := c.getD i 0) hli
    have hn0 : ¬ c.getD i 0 < 0 := by omega
    generalize atI pl (c.getD i 0) = mv at *
    generalize c.getD i 0 = l at *
    generalize (c.take i).map (atI pl) = ms at *
    by_cases hi0 : i = 0
    · subst hi0
      obtain rfl : ms = [] := List.eq_nil_of_length_eq_zero hll
      simp [nilR, nilS, hlt, decide_eq_true hlt, hx1, hx2, hat, hn0]
      refine app_data vt_el_26 rfl (by simp) rfl (by simp) (by simp) (by first | (simp; done) | (simp; omega)) (by simp [flatP, flatD]) ?_
      simp [w2, show IntKind.i64.wrap 1 = 1 from rfl]
      exact round_of hI hS hμ 1 (by omega) (by omega) ⟨[1], by simp only [nilR, nilS]; rw [hnx]; simp [e1, eInt]⟩
    · simp [nilR, nilS, decide_eq_true hlt, hx1, hi0, hat, hn0]
      refine app_data vt_el_26 rfl (by simp) rfl (by simp) (by simp) (by first | (simp; done) | (simp; omega)) (by simp [flatP, flatD]) ?_
      simp [w2]
      exact round_of hI hS hμ (i + 1) (by omega) (by omega) ⟨[2], by simp only [nilR, nilS]; rw [hnx]; simp [e1, eInt]⟩
  · obtain rfl : i = c.length := by omega
    rw [List.take_length]
    by_cases hi0 : c.length = 0
    · obtain rfl := List.eq_nil_of_length_eq_zero hi0
      simp [nilR, nilS]
    · simp [nilR, nilS, hlt, hi0, decide_eq_false hlt]
def rtV (ev ng : List Int) (l : Int) : Int := if l % 2 = 0 then atI ev (l / 2) else atI ng (l / 2)
set_option maxRecDepth 100000 in
set_option maxHeartbeats 1000000 in
theorem rootClo_conT (ev ng ls : List Int) (h0 : ls ≠ []) (hn : ls.length ≤ 1048576) (hl : ∀ y ∈ ls, 0 ≤ y ∧ y / 2 < ev.length ∧ y / 2 < ng.length) (he : ev.length ≤ 1048576) :
    ConT Try.prog 144 [.d (eSl 3 (e1 eInt) ls), .ptr 0 0, .ptr 1 0] [.var 26 [.d (eSl 3 (e1 eInt) ev)], .var 26 [.d (eSl 3 (e1 eInt) ng)]] (.ref 2) [.var 26 [.d (eSl 3 (e1 eInt) ev)], .var 26 [.d (eSl 3 (e1 eInt) ng)], .arr 3 true ((ls.map (rtV ev ng)).map (e1 eInt))] := by
  refine conT_of (by kernel_rfl) Try.func144 rfl rfl rfl (by simp [laters, Later]) (by simp [lives, Slot.live]) ?_
  simp
  refine aw_loopN [false, true, true, false, false, true, false, false, true, true, true, false, false, false, false, false, false, false, false, false, false, false, false, false, false, false, false, false, false, false, false, false, false, false, false] (fun i : Nat => i ≤ ls.length) (fun i : Nat => [(5, nilR i 2), (10, .d (.int .i64 i))]) (fun i : Nat => nilS i ((ls.take i).map (rtV ev ng))) (fun i : Nat => ls.length - i) 0 ?_ ?_ ?_
  · simp
  · exact ⟨[0, 1], by simp [nilR, nilS]⟩
  rintro I S μ hI hS hμ i hi'
  by_cases hlt : i < ls.length
  · have hx1 : ls[i]? = some (ls.getD i 0) := by rw [List.getD_eq_getElem?_getD, List.getElem?_eq_getElem hlt]; rfl
    have hx2 : ∀ h : i < ls.length, ls[i]'h = ls.getD i 0 := fun h => by simp [List.getD_eq_getElem?_getD, h]
    have hli := hl _ (List.mem_of_getElem? hx1)
    have hnx : (ls.take (i + 1)).map (rtV ev ng) = (ls.take i).map (rtV ev ng) ++ [rtV ev ng (ls.getD i 0)] := by rw [take_snoc' hx1, List.map_append]; rfl
    have hll : ((ls.take i).map (rtV ev ng)).length = i := by simp; omega
    have w2 : IntKind.i64.wrap ((i : Int) + 1) = (i : Int) + 1 := wrap_id (by omega) (by omega)
    have hE := at_read (lv := ev) (k := ls.getD i 0 / 2) (by omega)
    have hG := at_read (lv := ng) (k := ls.getD i 0 / 2) (by omega)
    have hR : rtV ev ng (ls.getD i 0) = if ls.getD i 0 % 2 = 0 then atI ev (ls.getD i 0 / 2) else atI ng (ls.getD i 0 / 2) := rfl
    have q1 : IntKind.i64.wrap ((ls.getD i 0).tdiv 2) = ls.getD i 0 / 2 := by rw [Int.tdiv_eq_ediv_of_nonneg hli.1]; exact wrap_id (by omega) (by omega)
    have q2 : (ls.getD i 0).tmod 2 = ls.getD i 0 % 2 := Int.tmod_eq_emod_of_nonneg hli.1
    have hn0 : ¬ ls.getD i 0 / 2 < 0 := by omega
    generalize hmv : rtV ev ng (ls.getD i 0) = mv at *
    generalize atI ev (ls.getD i 0 / 2) = me at *
    generalize atI ng (ls.getD i 0 / 2) = mn at *
    generalize ls.getD i 0 / 2 = l2 at *
    generalize ls.getD i 0 = l at *
    generalize (ls.take i).map (rtV ev ng) = ms at *
    by_cases hi0 : i = 0
    · subst hi0
      obtain rfl : ms = [] := List.eq_nil_of_length_eq_zero hll
      by_cases hp : l % 2 = 0
      · rw [if_pos hp] at hR
        subst hR
        simp [nilR, nilS, hlt, decide_eq_true hlt, hx1, hx2, hE, hn0, q1, q2, hp]
        refine app_data vt_el_26 rfl (by simp) rfl (by simp) (by simp) (by first | (simp; done) | (simp; omega)) (by simp [flatP, flatD]) ?_
        simp [w2, show IntKind.i64.wrap 1 = 1 from rfl]
        exact round_of hI hS hμ 1 (by omega) (by omega) ⟨[0, 1, 3], by simp only [nilR, nilS]; rw [hnx]; simp [e1, eInt]⟩
      · rw [if_neg hp] at hR
        subst hR
        have hp2 : (l % 2 == 0) = false := by simpa using hp
        simp [nilR, nilS, hlt, decide_eq_true hlt, hx1, hx2, hG, hn0, q1, q2, hp, hp2]
        refine app_data vt_el_26 rfl (by simp) rfl (by simp) (by simp) (by first | (simp; done) | (simp; omega)) (by simp [flatP, flatD]) ?_
        simp [w2, show IntKind.i64.wrap 1 = 1 from rfl]
        exact round_of hI hS hμ 1 (by omega) (by omega) ⟨[0, 1, 3], by simp only [nilR, nilS]; rw [hnx]; simp [e1, eInt]⟩
    · by_cases hp : l % 2 = 0
      · rw [if_pos hp] at hR
        subst hR
        simp [nilR, nilS, decide_eq_true hlt, hx1, hi0, hE, hn0, q1, q2, hp]
        refine app_data vt_el_26 rfl (by simp) rfl (by simp) (by simp) (by first | (simp; done) | (simp; omega)) (by simp [flatP, flatD]) ?_
        simp [w2]
        exact round_of hI hS hμ (i + 1) (by omega) (by omega) ⟨[0, 1, 4], by simp only [nilR, nilS]; rw [hnx]; simp [e1, eInt]⟩
      · rw [if_neg hp] at hR
        subst hR
        have hp2 : (l % 2 == 0) = false := by simpa using hp
        simp [nilR, nilS, decide_eq_true hlt, hx1, hi0, hG, hn0, q1, q2, hp, hp2]
        refine app_data vt_el_26 rfl (by simp) rfl (by simp) (by simp) (by first | (simp; done) | (simp; omega)) (by simp [flatP, flatD]) ?_
        simp [w2]
        exact round_of hI hS hμ (i + 1) (by omega) (by omega) ⟨[0, 1, 4], by simp only [nilR, nilS]; rw [hnx]; simp [e1, eInt]⟩
  · obtain rfl : i = ls.length := by omega
    rw [List.take_length]
    have hi0 : ¬ ls.length = 0 := fun e => h0 (List.eq_nil_of_length_eq_zero e)
    simp [nilR, nilS, hlt, hi0, decide_eq_false hlt, h0]
    exact ⟨[0, 1, 2], by simp⟩
theorem rootClo_none (ev ng : List Int) :
    ConT Try.prog 144 [.d (.sl 3 []), .ptr 0 0, .ptr 1 0] [.var 26 [.d (eSl 3 (e1 eInt) ev)], .var 26 [.d (eSl 3 (e1 eInt) ng)]] (.nil 3) [.var 26 [.d (eSl 3 (e1 eInt) ev)], .var 26 [.d (eSl 3 (e1 eInt) ng)]] := by
  refine conT_of (by kernel_rfl) Try.func144 rfl rfl rfl (by simp [laters, Later]) (by simp [lives, Slot.live]) ?_
  simp
  refine aw_loopU [false, true, true, false, false, true, false, false, true, true, true, false, false, false, false, false, false, false, false, false, false, false, false, false, false, false, false, false, false, false, false, false, false, false, false] (fun k : Nat => k = 0) (fun k : Nat => [(5, .nil 3), (10, .d (.int .i64 k))]) (fun k : Nat => []) (fun k : Nat => 0) 0 ?_ ?_ ?_
  · rfl
  · exact ⟨[0, 1], by simp⟩
  rintro I S μ hI hS hμ k rfl
  simp
  exact ⟨[0, 1], by simp⟩
end Go.Proofs.Ytklhofpjjbfckaa
