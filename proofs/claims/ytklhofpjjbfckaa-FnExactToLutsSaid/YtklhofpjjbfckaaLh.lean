/-
  Networks of tables by the reference: places of nodes, tables of cuts. By abstract walks.
  Conditions: those typed in each theorem.
-/
import Derived.Test.YtklhofpjjbfckaaLg
import Derived.Test.YtklhofpjjbfckaaGa
import Derived.Test.YtklhofpjjbfckaaNo
namespace Go.Proofs.Ytklhofpjjbfckaa
open Go.RowKit Go.ChangeShapes Go.WideShapes
set_option linter.unusedVariables false
set_option linter.unusedSimpArgs false
attribute [local simp ↓] condG_true condG_false condB_true condB_false
attribute [local simp] AWp_skip AWp_region_t AWp_region_d AWp_region_f still_mk AWp_seq AWp_cond condV_bool condB AWp_block AWp_exit AWp_ret
attribute [local simp] AOps_nil AOp_move AOp_assign AOp_pick AOp_binOp AOp_unOp AOp_convert AOp_len AOp_max AOp_min AOp_indexAddr AOp_load
attribute [local simp] AOp_fieldAddr AOp_field AOp_extract AOp_nilCheck AOp_build AOp_alloc AOp_box AOp_call AOp_store AOp_append AOp_buildSlice nextB_some
attribute [local simp] nextB_none adoptO adoptC AOp_makeSlice AOp_slice AOp_makeFunc AOp_guard guardD_some guardG_bool guardG_undef nextO_some nextS_some
attribute [local simp] nextZ_some nextL_some nextM_some nextT_some sliceO sliceL sliceT partO partV boundV funcO pickO
attribute [local simp] convO lenO maxO minO idxO extO nilO buildO litO litC makeO chunks
attribute [local simp] fillV placeOf thenA inBlockA St.get St.put St.eval ofCell evalT abin_add abin_sub abin_mul
attribute [local simp] abin_quo abin_rem abin_and abin_or abin_xor abin_andNot abin_shl abin_shr abin_shlu abin_eql abin_eqp abin_neq
attribute [local simp] abin_lss abin_leq abin_gtr abin_geq abin_eqlb abin_neqb aun pickV lenV intOf? indexV takeD
attribute [local simp] takeV loadV fieldAddrV fieldV ofX presD presDs pres presAll cellsV V.cell storeV
attribute [local simp] freezeC putAt kill takeC plains plainV scalarV nat_neg keepT sets eSl e1
attribute [local simp] e2 e3 e4 eInt eBool afterCall inst inst1 inst1s instD instDs RetA
attribute [local simp] resVs resV gives give1 give1s Le isPin leSlots leS leTmps leV le0
attribute [local simp] le0s ren ren0 renS ren0s frame enterT afterT_some afterC_some lives Slot.live arrsOk
attribute [local simp] viewV view0 renT rens renSs setAll List.range'_succ RetT RetW joinV leT AOpsE_nil
attribute [local simp] AOpsE_cons AOpsT_nil AOpsT_cons isCallT isFnO callOf callVC_fn condC_true condC_false beginT_mk thenT_mk pickE
attribute [local simp] pickT isT loose namesOf namesV names1 names0 stableN sameAt Op.operands Call.operands
theorem pairwise_of : ∀ {xs : List Int}, (∀ k : Nat, k + 1 < xs.length → atI xs k < atI xs ((k : Int) + 1)) → AscP xs
  | [], _ => List.Pairwise.nil
  | [a], _ => List.pairwise_singleton _ _
  | a :: b :: l, h => by
    have ht : AscP (b :: l) := pairwise_of fun k hk => by
      have := h (k + 1) (by simp at hk ⊢; omega)
      unfold atI at this ⊢
      rw [show (((k + 1 : Nat) : Int) + 1).toNat = ((k : Int) + 1).toNat + 1 by omega, Int.toNat_natCast, List.getElem?_cons_succ, List.getElem?_cons_succ] at this
      rw [Int.toNat_natCast]; exact this
    have hab : a < b := by have := h 0 (by simp); simpa [atI] using this
    refine List.pairwise_cons.2 ⟨fun z hz => ?_, ht⟩
    rcases List.mem_cons.1 hz with rfl | hz
    · exact hab
    · exact Int.lt_trans hab ((List.pairwise_cons.1 ht).1 z hz)
theorem asc_nodup {xs : List Int} (h : ascB xs = true) : xs.Nodup := by
  have : AscP xs := pairwise_of fun k hk => by
    have := List.all_eq_true.1 h k (List.mem_range.2 (by omega))
    simpa using this
  exact this.imp fun hab => by omega
theorem cutB_snoc {i k y : Int} : ∀ {l : List Int} {j : Nat}, cutB i k (l ++ [y]) j = match cutB i k l j with | some b => some b | none => if y = k then some (bit i (j + l.length)) else none
  | [], j => by simp [cutB]
  | z :: l, j => by
    rw [List.cons_append]
    unfold cutB
    split
    · rfl
    · rw [cutB_snoc (l := l) (j := j + 1), List.length_cons, show j + 1 + l.length = j + (l.length + 1) by omega]
theorem vaL_zero {x : GrD} {c : List Int} {i : Int} : ∀ (k j : Nat), k ≤ j → atI (vaL x c i k) j = 0
  | 0, j, _ => by
    unfold vaL atI
    rw [List.getElem?_replicate]
    split <;> rfl
  | k + 1, j, h => by
    have ih := vaL_zero (x := x) (c := c) (i := i) k j (by omega)
    unfold vaL
    by_cases hl : k < (vaL x c i k).length
    · rw [atI_setn hl, if_neg (by omega)]; exact ih
    · rw [List.set_eq_of_length_le (by omega)]; exact ih
theorem set_same {l : List Int} {k : Nat} {z : Int} (h : l[k]? = some z) : l.set k z = l := by
  apply List.ext_getElem?
  intro j
  rw [List.getElem?_set]
  split
  · rename_i e; subst e; rw [if_pos ((List.getElem?_eq_some_iff.1 h).1), h]
  · rfl
set_option maxRecDepth 100000 in
theorem l20Nodes_con (pl c : List Int) (hp : pl.length ≤ 1048576) (hc : c.length ≤ 1048576) (hi : ∀ y ∈ c, 0 ≤ y ∧ y < pl.length) : ConC Try.prog 135 [.d (eSl 3 (e1 eInt) pl), .d (eSl 3 (e1 eInt) c)] (.d (eSl 3 (e1 eInt) (c.map (atI pl)))) := by
  refine con_of (by kernel_rfl) Try.func135 rfl rfl rfl ?_
  simp
  refine aw_loopU [true, true, false, false, false, true, true, false, false, false, false, false, false, false, false, false, false, false, false, false, false, false, false, false, false] (fun i : Nat => i ≤ c.length) (fun i : Nat => [(6, .d (.int .i64 i))]) (fun i : Nat => [(0, .arr 3 true (((c.take i).map (atI pl)).map (e1 eInt)))]) (fun i : Nat => c.length - i) 0 ?_ ?_ ?_
  · simp
  · exact ⟨[0], by simp⟩
  rintro I S μ hI hS hμ i hi'
  by_cases hlt : i < c.length
  · have hx1 : c[i]? = some c[i] := List.getElem?_eq_getElem hlt
    have hd := decide_eq_true hlt
    have hli := hi _ (List.getElem_mem hlt)
    have hnx : (c.take (i + 1)).map (atI pl) = (c.take i).map (atI pl) ++ [atI pl c[i]] := by rw [take_snoc' hx1, List.map_append]; rfl
    have hll : ((c.take i).map (atI pl)).length = i := by simp; omega
    have w2 : IntKind.i64.wrap ((i : Int) + 1) = (i : Int) + 1 := wrap_id (by omega) (by omega)
    have hat := at_read (lv := pl) (k := c[i]) hli
    generalize atI pl c[i] = mv at *
    generalize c[i] = l at *
    obtain ⟨q, rfl⟩ : ∃ q : Nat, l = q := ⟨l.toNat, by omega⟩
    rw [Int.toNat_natCast] at hat
    generalize (c.take i).map (atI pl) = ms at *
    simp [hd, hx1, hat]
    refine app_data vt_el_26 rfl (by simp) rfl (by simp) (by simp) (by first | (simp; done) | (simp; omega)) (by simp [flatP, flatD]) ?_
    simp [w2]
    exact round_of hI hS hμ (i + 1) (by omega) (by omega) ⟨[2], by simp [hnx, e1, eInt]⟩
  · obtain rfl : i = c.length := by omega
    rw [List.take_length]
    simp [hlt, decide_eq_false hlt]
set_option maxRecDepth 100000 in
theorem l20Roots_con (ev ng ls : List Int) (hn : ls.length ≤ 1048576) (hl : ∀ y ∈ ls, 0 ≤ y ∧ y / 2 < ev.length ∧ y / 2 < ng.length) (he : ev.length ≤ 1048576) : ConC Try.prog 137 [.d (eSl 3 (e1 eInt) ev), .d (eSl 3 (e1 eInt) ng), .d (eSl 3 (e1 eInt) ls)] (.d (eSl 3 (e1 eInt) (ls.map (rtV ev ng)))) := by
  refine con_of (by kernel_rfl) Try.func137 rfl rfl rfl ?_
  simp
  refine aw_loopU [true, true, true, false, false, false, false, true, true, false, false, false, false, false, false, false, false, false, false, false, false, false, false, false, false, false, false, false, false, false, false, false, false, false, false, false, false, false, false, false, false, false, false, false, false] (fun i : Nat => i ≤ ls.length) (fun i : Nat => [(8, .d (.int .i64 i))]) (fun i : Nat => [(0, .arr 3 true (((ls.take i).map (rtV ev ng)).map (e1 eInt)))]) (fun i : Nat => ls.length - i) 0 ?_ ?_ ?_
  · simp
  · exact ⟨[0], by simp⟩
  rintro I S μ hI hS hμ i hi'
  by_cases hlt : i < ls.length
  · have hx1 : ls[i]? = some ls[i] := List.getElem?_eq_getElem hlt
    have hd := decide_eq_true hlt
    have hli := hl _ (List.getElem_mem hlt)
    have hnx : (ls.take (i + 1)).map (rtV ev ng) = (ls.take i).map (rtV ev ng) ++ [rtV ev ng ls[i]] := by rw [take_snoc' hx1, List.map_append]; rfl
    have hll : ((ls.take i).map (rtV ev ng)).length = i := by simp; omega
    have w2 : IntKind.i64.wrap ((i : Int) + 1) = (i : Int) + 1 := wrap_id (by omega) (by omega)
    have hE := at_read (lv := ev) (k := ls[i] / 2) (by omega)
    have hG := at_read (lv := ng) (k := ls[i] / 2) (by omega)
    have hR : rtV ev ng ls[i] = if ls[i] % 2 = 0 then atI ev (ls[i] / 2) else atI ng (ls[i] / 2) := rfl
    have q1 : IntKind.i64.wrap ((ls[i]).tdiv 2) = ls[i] / 2 := by rw [Int.tdiv_eq_ediv_of_nonneg hli.1]; exact wrap_id (by omega) (by omega)
    have q2 : (ls[i]).tmod 2 = ls[i] % 2 := Int.tmod_eq_emod_of_nonneg hli.1
    have hn0 : ¬ ls[i] / 2 < 0 := by omega
    generalize hmv : rtV ev ng ls[i] = mv at *
    generalize atI ev (ls[i] / 2) = me at *
    generalize atI ng (ls[i] / 2) = mn at *
    generalize ls[i] / 2 = l2 at *
    generalize ls[i] = l at *
    generalize (ls.take i).map (rtV ev ng) = ms at *
    by_cases hp : l % 2 = 0
    · rw [if_pos hp] at hR
      subst hR
      simp [hd, hx1, hE, hn0, q1, q2, hp]
      refine app_data vt_el_26 rfl (by simp) rfl (by simp) (by simp) (by first | (simp; done) | (simp; omega)) (by simp [flatP, flatD]) ?_
      simp [w2]
      exact round_of hI hS hμ (i + 1) (by omega) (by omega) ⟨[2], by simp [hnx, e1, eInt]⟩
    · rw [if_neg hp] at hR
      subst hR
      have hp2 : (l % 2 == 0) = false := by simpa using hp
      simp [hd, hx1, hG, hn0, q1, q2, hp, hp2]
      refine app_data vt_el_26 rfl (by simp) rfl (by simp) (by simp) (by first | (simp; done) | (simp; omega)) (by simp [flatP, flatD]) ?_
      simp [w2]
      exact round_of hI hS hμ (i + 1) (by omega) (by omega) ⟨[2], by simp [hnx, e1, eInt]⟩
  · obtain rfl : i = ls.length := by omega
    rw [List.take_length]
    simp [hlt, decide_eq_false hlt]
theorem sTableNot_con (n : Nat) (b : Int) (h : tableOkB n b = true) : ConC Try.prog 136 [.agg [.int .i64 n, .int .i64 b]] (.agg [.int .i64 n, .int .i64 (fullT n - b)]) := by
  have hr := h
  simp only [tableOkB, Bool.and_eq_true] at hr
  obtain ⟨h1, h2⟩ := hr
  have h2 := rng_iff.1 h2
  have kF := sFull_con n h1
  have hf : fullT n ≤ 65535 := by unfold fullT; split <;> (try split) <;> (try split) <;> (try split) <;> omega
  have w1 : IntKind.i64.wrap (fullT n - b) = fullT n - b := wrap_id (by omega) (by omega)
  generalize fullT n = f at *
  refine con_of (by kernel_rfl) Try.func136 rfl rfl rfl ?_
  simp
  refine call_step (sTableOk_con n b) ?_
  simp [h]
  refine ⟨by kernel_rfl, ?_⟩
  refine call_step (kF) ?_
  simp [w1]
def selR (L : List Int) (k : Nat) (o : Option Int) : List Int := match o with | some b => L.set k b | none => L
set_option maxRecDepth 100000 in
set_option maxHeartbeats 1000000 in
theorem sCutTable_con (x : GrD) (c : List Int) (v : Nat) (hx : fitGr 1048576 x) (hg : okGr x) (hok : netOkB x = true) (hc : cutOkB x v c = true) (hv : v < grN x) :
    ConC Try.prog 134 [igr x, .d (.int .i64 v), .d (eSl 3 (e1 eInt) c)] (.agg [.int .i64 c.length, .int .i64 (tbL x c v)]) := by
  have hc' := hc
  simp only [cutOkB, Bool.and_eq_true, decide_eq_true_eq] at hc'
  obtain ⟨⟨⟨h4, hasc⟩, -⟩, -⟩ := hc'
  have hnd := asc_nodup hasc
  have kO := sCutOk_con x v c hx hg hok hv (by omega)
  rw [hc] at kO
  obtain ⟨⟨n1, n2, n3, n4, n5, n6⟩, -, -, -⟩ := netOk_of hok
  obtain ⟨hF, hgl, hNi, hno⟩ := ok_sizes hok
  have hN := grN_eq x
  obtain ⟨hsh, hm⟩ := shl_pow h4
  have hb := tvL_bits (c := c) hv
  have hvl := tvL_len (x := x) (c := c) (v := v)
  have hva := fun i h => tvL_at (x := x) (c := c) (v := v) (i := i) h
  have hT : tbL x c v = packK (tvL x c v) (2 ^ c.length) := by unfold tbL packL; rw [hvl]
  rw [hT]
  generalize tvL x c v = vs at *
  generalize 2 ^ c.length = m at *
  have kN := sNodeCount_con x
  rw [hno] at kN
  refine con_ofD (by kernel_rfl) Try.func134 rfl rfl rfl ?_
  simp [enGr]
  refine call_step (kO) ?_
  simp
  refine aw_loopN [false, true, true, true, false, false, true, true, true, false, false, false, false, false, false, false, false, false, false, false, false, false, false, false, false, false, false, false, false, false, false, false, false, false, false, false, false, false, false, false, false, false, false, false, false, false, false, false, false, false, false, false, false, false, false, false, false, false, false, false, false, false, false, false, false, false, false, false, false, false, false, false, false, false, false, false, false, false, false, false, false, false, false, false, false, false, false, false, false, false, false, false, false, false, false, false] (fun i : Nat => i ≤ m) (fun i : Nat => [(8, .d (.int .i64 i))]) (fun i : Nat => fun sl => [bxG x, .var 95 [.d (.int .i64 0), .d (.int .i64 0)], .var 95 [.d (.int .i64 c.length), .d (.int .i64 (packK vs i))]]) (fun i : Nat => m - i) 0 ?_ ?_ ?_
  · simp
  · exact ⟨[0, 1, 2], by simp [bxG, packK]⟩
  rintro I S μ hI hS hμ i hi
  by_cases hlt : i < m
  · have hd := decide_eq_true hlt
    have w2 : IntKind.i64.wrap ((i : Int) + 1) = (i : Int) + 1 := wrap_id (by omega) (by omega)
    have hx1 := hva i hlt
    have hpk := packK_add hb hx1 (by omega)
    have hvat := at_read (lv := vaL x c i (v + 1)) (k := (v : Int)) (by rw [vaL_len]; omega)
    rw [Int.toNat_natCast, show atI (vaL x c i (v + 1)) (v : Int) = vaN x c i v from rfl] at hvat
    have hz0 : (vaL x c i 0).map (e1 eInt) = List.replicate (grN x) [D.int .i64 0] := by unfold vaL; rw [List.map_replicate]; rfl
    generalize hp2 : packK vs (i + 1) = p2 at *
    generalize packK vs i = p1 at *
    simp [hsh, hd, hlt]
    refine call_step (kN) ?_
    simp [show (grN x : Int) ≤ 1099511627776 by omega]
    refine aw_loopN [false, true, true, true, false, false, true, true, true, true, true, false, false, false, false, false, false, false, false, false, false, false, false, false, false, false, false, false, false, false, false, false, false, false, false, false, false, false, false, false, false, false, false, false, false, false, false, false, false, false, false, false, false, false, false, false, false, false, false, false, false, false, false, false, false, false, false, false, false, false, false, false, false, false, false, false, false, false, false, false, false, false, false, false, false, false, false, false, false, false, false, false, false, false, false, false] (fun k : Nat => k ≤ v + 1) (fun k : Nat => [(10, .d (.int .i64 k))]) (fun k : Nat => fun sl => [bxG x, .var 95 [.d (.int .i64 0), .d (.int .i64 0)], .var 95 [.d (.int .i64 c.length), .d (.int .i64 p1)], .arr 3 true ((vaL x c i k).map (e1 eInt))]) (fun k : Nat => v + 1 - k) 0 ?_ ?_ ?_
    · simp
    · exact ⟨[0, 1, 2, 3], by simp [bxG, hz0]⟩
    rintro I2 S2 μ2 hI2 hS2 hμ2 k hk
    have hLl := vaL_len (x := x) (c := c) (i := i) k
    have hLb := vaL_bits (x := x) (c := c) (i := i) k
    have hLz := vaL_zero (x := x) (c := c) (i := i) k k (Nat.le_refl _)
    have hLs : vaL x c i (k + 1) = (vaL x c i k).set k (vaF x c i (vaL x c i k) k) := rfl
    by_cases hlt2 : k < v + 1
    · have w4 : IntKind.i64.wrap ((k : Int) + 1) = (k : Int) + 1 := wrap_id (by omega) (by omega)
      have hkN : k < grN x := by omega
      have hkv : (k : Int) ≤ v := by omega
      have hLk := at_read (lv := vaL x c i k) (k := (k : Int)) (by rw [hLl]; omega)
      rw [Int.toNat_natCast, hLz] at hLk
      unfold vaF at hLs
      generalize hL0 : vaL x c i k = L at *
      simp [hkv, show k ≤ v by omega]
      refine aw_loopN [false, true, true, true, false, false, true, true, true, true, true, true, true, false, false, false, false, false, false, false, false, false, false, false, false, false, false, false, false, false, false, false, false, false, false, false, false, false, false, false, false, false, false, false, false, false, false, false, false, false, false, false, false, false, false, false, false, false, false, false, false, false, false, false, false, false, false, false, false, false, false, false, false, false, false, false, false, false, false, false, false, false, false, false, false, false, false, false, false, false, false, false, false, false, false, false] (fun j : Nat => j ≤ c.length) (fun j : Nat => [(11, .d (.bool (cutB i k (c.take j) 0).isSome)), (12, .d (.int .i64 j))]) (fun j : Nat => fun sl => [bxG x, .var 95 [.d (.int .i64 0), .d (.int .i64 0)], .var 95 [.d (.int .i64 c.length), .d (.int .i64 p1)], .arr 3 true ((selR L k (cutB i k (c.take j) 0)).map (e1 eInt))]) (fun j : Nat => c.length - j) 0 ?_ ?_ ?_
      · simp
      · exact ⟨[0, 1, 2, 3], by simp [bxG, selR, cutB]⟩
      rintro I3 S3 μ3 hI3 hS3 hμ3 j hj
      by_cases hlt3 : j < c.length
      · have hy1 : c[j]? = some c[j] := List.getElem?_eq_getElem hlt3
        have hd3 := decide_eq_true hlt3
        have w6 : IntKind.i64.wrap ((j : Int) + 1) = (j : Int) + 1 := wrap_id (by omega) (by omega)
        have hsn := cutB_snoc (i := (i : Int)) (k := (k : Int)) (y := c[j]) (l := c.take j) (j := 0)
        rw [← take_snoc' hy1] at hsn
        rw [List.length_take, Nat.min_eq_left (by omega), Nat.zero_add] at hsn
        have hbt := and_shr (i : Int) j
        have hset := map_setI (m := L) (v := k) (z := bit (i : Int) j)
        by_cases he : c[j] = (k : Int)
        · have hno : cutB i k (c.take j) 0 = none := cutB_none fun hm => by
            have h2 : (c.take j ++ [c[j]]).Nodup := by rw [← take_snoc' hy1]; exact hnd.sublist (List.take_sublist _ _)
            rw [List.nodup_append] at h2
            exact h2.2.2 _ hm _ (by simp) he.symm
          rw [hno] at hsn ⊢
          simp only [he, if_true] at hsn
          rw [he] at hy1
          generalize bit (i : Int) j = bt at *
          generalize L.set k bt = L2 at *
          simp [hd3, hy1, selR, hbt, hLk, hset, w6]
          exact round_of hI3 hS3 hμ3 (j + 1) (by omega) (by omega) ⟨[0, 1, 2, 3], by simp [hsn, selR, bxG, hset]⟩
        · have hne : (c[j] == (k : Int)) = false := by simpa using he
          rw [if_neg he] at hsn
          have hsn' : cutB (i : Int) k (c.take (j + 1)) 0 = cutB (i : Int) k (c.take j) 0 := by rw [hsn]; cases cutB (i : Int) k (c.take j) 0 <;> rfl
          generalize c[j] = y at *
          generalize hq : cutB (i : Int) k (c.take j) 0 = o at *
          cases o with
          | none =>
            simp [hd3, hy1, selR, he, hne, w6]
            exact round_of hI3 hS3 hμ3 (j + 1) (by omega) (by omega) ⟨[0, 1, 2, 3], by simp [hsn', selR, bxG]⟩
          | some b =>
            have hset2 := map_setI (m := L) (v := k) (z := b)
            generalize hL2 : L.set k b = L2 at *
            simp [hd3, hy1, selR, he, hne, w6, hL2]
            exact round_of hI3 hS3 hμ3 (j + 1) (by omega) (by omega) ⟨[0, 1, 2, 3], by simp [hsn', selR, bxG, hL2]⟩
      obtain rfl : j = c.length := by omega
      rw [List.take_length]
      cases hq : cutB (i : Int) k c 0 with
      | some b =>
        rw [hq] at hLs
        simp only at hLs
        generalize hL2 : L.set k b = L2 at *
        simp [selR, hL2, decide_eq_false hlt3, hlt3]
        refine round_of hI2 hS2 hμ2 (k + 1) (by omega) (by omega) ⟨[0, 1, 2, 3], ?_⟩
        simp [hLs, bxG, w4]
      | none =>
        rw [hq] at hLs
        simp only at hLs
        have kF := sFirst_con x ⟨n1, n2⟩ n3
        by_cases hf : firstG x ≤ k
        · rw [if_pos hf] at hLs
          obtain ⟨ha, a1, a2, a3, a4, a5, a6⟩ := and_at hok hf hkN
          have w1 : IntKind.i64.wrap ((k : Int) - (1 + x.1 + x.2.1.length)) = (k : Int) - (1 + x.1 + x.2.1.length) := wrap_id (by omega) (by omega)
          have ht : ((k : Int) - (1 + x.1 + x.2.1.length)).toNat = k - firstG x := by omega
          have hL : (enAnd (andAt x k)).length = 2 := rfl
          have hn0 : ¬ (k : Int) - (1 + x.1 + x.2.1.length) < 0 := by omega
          have k1 := l09Bit_con L (andAt x k).1 hLb (by omega) (by omega)
          have k2 := l09Bit_con L (andAt x k).2 hLb (by omega) (by omega)
          have x3 := and64_bit (litL_01 L (andAt x k).1) (litL_01 L (andAt x k).2)
          generalize litL L (andAt x k).1 = v1 at *
          generalize litL L (andAt x k).2 = v2 at *
          generalize v1 * v2 = v3 at *
          have hset := map_setI (m := L) (v := k) (z := v3)
          generalize hL2 : L.set k v3 = L2 at *
          simp [selR, decide_eq_false hlt3, hlt3]
          refine call_step (kF) ?_
          simp [show (1 : Int) + x.1 + x.2.1.length ≤ k by omega]
          refine drawD_of 9 (by kernel_rfl) ?_
          simp
          refine call_step (kF) ?_
          simp [w1, ht, ha, hL, hn0, enAnd]
          refine drawD_of 12 (by kernel_rfl) ?_
          simp
          refine call_step (k1) ?_
          simp
          refine call_step (k2) ?_
          simp [x3, hLk, hset]
          refine round_of hI2 hS2 hμ2 (k + 1) (by omega) (by omega) ⟨[0, 1, 2, 3], ?_⟩
          simp [hLs, bxG, w4]
        · rw [if_neg hf, set_same hLk] at hLs
          simp [selR, decide_eq_false hlt3, hlt3]
          refine call_step (kF) ?_
          simp [show ¬ (1 : Int) + x.1 + x.2.1.length ≤ k by omega, show (k : Int) < 1 + x.1 + x.2.1.length by omega]
          refine round_of hI2 hS2 hμ2 (k + 1) (by omega) (by omega) ⟨[0, 1, 2, 3], ?_⟩
          simp [hLs, bxG, w4]
    obtain rfl : k = v + 1 := by omega
    generalize vaL x c i (v + 1) = L at *
    generalize vaN x c i v = z at *
    simp [show ¬ (v : Int) + 1 ≤ v by omega]
    refine drawD_of 10 (by kernel_rfl) ?_
    simp [hvat, hpk]
    refine round_of hI hS hμ (i + 1) (by omega) (by omega) ⟨[0, 1, 2], ?_⟩
    simp [bxG, w2, hp2]
  obtain rfl : i = m := by omega
  simp [hsh]
end Go.Proofs.Ytklhofpjjbfckaa
