/-
  Tables of cuts by the program: values above a cut, by abstract walks.
  Conditions: those typed in each theorem.
-/
import Derived.Test.YtklhofpjjbfckaaLa
import Derived.Test.YtklhofpjjbfckaaNk
namespace Go.Proofs.Ytklhofpjjbfckaa
open Go.RowKit Go.ChangeShapes Go.WideShapes
set_option linter.unusedVariables false
set_option linter.unusedSimpArgs false
attribute [local simp ↓] condG_true condG_false condB_true condB_false
attribute [local simp] AWp_skip AWp_region_t AWp_region_d AWp_region_f still_mk AWp_seq AWp_cond condV_bool condB AWp_block AWp_exit AWp_ret
attribute [local simp] AOps_nil AOp_move AOp_assign AOp_pick AOp_binOp AOp_unOp AOp_convert AOp_len AOp_max AOp_min AOp_indexAddr AOp_load
attribute [local simp] AOp_fieldAddr AOp_field AOp_extract AOp_nilCheck AOp_build AOp_alloc AOp_box AOp_call AOp_store AOp_append AOp_buildSlice nextB_some
attribute [local simp] nextB_none adoptO adoptC AOp_makeSlice AOp_slice AOp_makeFunc AOp_guard guardD_some guardG_bool guardG_undef nextO_some nextS_some
attribute [local simp] nextZ_some nextL_some nextM_some nextT_some sliceO sliceL sliceT partO partV boundV funcO pickO
attribute [local simp] convO lenO maxO minO idxO extO nilO buildO litO litC makeO chunks
attribute [local simp] fillV placeOf thenA inBlockA St.get St.put St.eval ofCell evalT abin_add abin_sub abin_mul
attribute [local simp] abin_quo abin_rem abin_and abin_or abin_xor abin_andNot abin_shl abin_shr abin_shlu abin_eql abin_eqp abin_neq
attribute [local simp] abin_lss abin_leq abin_gtr abin_geq abin_eqlb abin_neqb aun pickV lenV intOf? indexV takeD
attribute [local simp] takeV loadV fieldAddrV fieldV ofX presD presDs pres presAll cellsV V.cell storeV
attribute [local simp] freezeC putAt kill takeC plains plainV scalarV nat_neg keepT sets eSl e1
attribute [local simp] e2 e3 e4 eInt eBool afterCall inst inst1 inst1s instD instDs RetA
attribute [local simp] resVs resV gives give1 give1s Le isPin leSlots leS leTmps leV le0
attribute [local simp] le0s ren ren0 renS ren0s frame enterT afterT_some afterC_some lives Slot.live arrsOk
attribute [local simp] viewV view0 renT rens renSs setAll List.range'_succ RetT RetW joinV leT AOpsE_nil
attribute [local simp] AOpsE_cons AOpsT_nil AOpsT_cons isCallT isFnO callOf callVC_fn condC_true condC_false beginT_mk thenT_mk pickE
attribute [local simp] pickT isT loose namesOf namesV names1 names0 stableN sameAt Op.operands Call.operands
theorem cutB_hit {i k : Int} : ∀ {c : List Int} {j p : Nat}, (∀ q, q < p → c[q]? ≠ some k) → c[p]? = some k → cutB i k c j = some (bit i (j + p))
  | [], _, _, _, h => by simp at h
  | y :: c, j, 0, _, h => by
    simp only [List.getElem?_cons_zero, Option.some.injEq] at h
    unfold cutB
    rw [if_pos h]
    rfl
  | y :: c, j, p + 1, hq, h => by
    simp only [List.getElem?_cons_succ] at h
    have h0 : y ≠ k := fun e => hq 0 (by omega) (by rw [e]; rfl)
    unfold cutB
    rw [if_neg h0, cutB_hit (j := j + 1) (p := p) (fun q hlt => by have := hq (q + 1) (by omega); simpa using this) h]
    congr 2
    omega
theorem vaN_hit {x : GrD} {c : List Int} {i : Int} {k p : Nat} (hk : k < grN x) (hq : ∀ q, q < p → c[q]? ≠ some (k : Int)) (h : c[p]? = some (k : Int)) : vaN x c i k = bit i p := by
  rw [vaN_eq hk, vaF, cutB_hit hq h, Nat.zero_add]
theorem not_mem_of {c : List Int} {k : Int} (h : ∀ q, q < c.length → c[q]? ≠ some k) : k ∉ c := fun hm => by
  obtain ⟨q, hq, he⟩ := List.getElem_of_mem hm
  exact h q hq (by rw [List.getElem?_eq_getElem hq, he])
theorem memoG_keep {x : GrD} {c : List Int} {i : Int} {n v : Nat} {m : List Int} (h : (v : Int) ∈ c ∨ v < firstG x ∨ atI m v ≠ 0) : memoG x c i n v m = m := by
  cases n with
  | zero => rfl
  | succ n => unfold memoG; rw [if_pos h]
theorem memoG_new {x : GrD} {c : List Int} {i : Int} {n v : Nat} {m : List Int} (h1 : (v : Int) ∉ c) (h2 : firstG x ≤ v) (h3 : atI m v = 0) : memoG x c i (n + 1) v m = (memoG x c i n (kidB x v) (memoG x c i n (kidA x v) m)).set v (1 + vaN x c i v) := by
  have e : memoG x c i (n + 1) v m = if (v : Int) ∈ c ∨ v < firstG x ∨ atI m v ≠ 0 then m else (memoG x c i n (kidB x v) (memoG x c i n (kidA x v) m)).set v (1 + vaN x c i v) := rfl
  rw [e, if_neg (by rintro (h | h | h) <;> first | exact h1 h | omega)]
theorem memoG_len {x : GrD} {c : List Int} {i : Int} : ∀ (n v : Nat) (m : List Int), (memoG x c i n v m).length = m.length
  | 0, _, _ => rfl
  | n + 1, v, m => by
    have e : memoG x c i (n + 1) v m = if (v : Int) ∈ c ∨ v < firstG x ∨ atI m v ≠ 0 then m else (memoG x c i n (kidB x v) (memoG x c i n (kidA x v) m)).set v (1 + vaN x c i v) := rfl
    rw [e]
    split
    · rfl
    · rw [List.length_set, memoG_len n, memoG_len n]
theorem map_setI {m : List Int} {v : Nat} {z : Int} : (m.map (e1 eInt)).set v [D.int .i64 z] = (m.set v z).map (e1 eInt) := by rw [List.map_set]; rfl
abbrev bxG (x : GrD) : Slot := .var 28 [.d (.int .i64 x.1), .d (eSl 31 enSeq x.2.1), .d (eSl 61 enAnd x.2.2.1), .d (eSl 3 (e1 eInt) x.2.2.2)]
set_option maxRecDepth 100000 in
theorem valueAbove_conT (x : GrD) (c : List Int) (i : Int) (hx : fitGr 1048576 x) (hok : netOkB x = true) (hc : c.length ≤ 1048576) : ∀ (n v : Nat) (m : List Int), v < n → v < grN x → MemoOk x c i m →
    ConT Try.prog 220 [vgr x, .d (.int .i64 v), .d (eSl 3 (e1 eInt) c), .d (.int .i64 i), .ref 0] [.arr 3 true (m.map (e1 eInt))] (.d (.int .i64 (vaN x c i v))) [.arr 3 true ((memoG x c i n v m).map (e1 eInt))] := by
  intro n
  induction n with
  | zero => intro v m h; omega
  | succ n ih =>
    intro v m hn hv hmo
    obtain ⟨⟨n1, n2, n3, n4, n5, n6⟩, -, -, -⟩ := netOk_of hok
    obtain ⟨hF, hgl, hNi, hno⟩ := ok_sizes hok
    have hN := grN_eq x
    have hm1 := hmo.1
    have hm2 := hmo.2 v
    have hat := at_read (lv := m) (k := (v : Int)) (by omega)
    rw [Int.toNat_natCast] at hat
    have hgl' := memoG_len (x := x) (c := c) (i := i) (n + 1) v m
    generalize hM : memoG x c i (n + 1) v m = M at *
    refine conT_ofD (by kernel_rfl) Try.func220 rfl rfl rfl (by simp [laters, Later, hgl']) (by simp [lives, Slot.live]) ?_
    simp
    refine aw_loopU [false, true, true, true, true, true, false, false, false, false, false, false, false, false, false, false, true, true, true, false, false, false, false, false, false, false, false, false, false, false, false, false, false, false, false, false, false, false, false, false, false, false, false, false, false, false, false, false, false, false, false, false, false, false, false, false, false, false, false, false, false, false, false, false, false, false, false, false, false, false, false, false, false, false, false, false, false, false, false, false, false, false, false, false, false] (fun k : Nat => k ≤ c.length ∧ ∀ q, q < k → c[q]? ≠ some (v : Int)) (fun k : Nat => [(18, .d (.int .i64 k))]) (fun k : Nat => []) (fun k : Nat => c.length - k) 0 ?_ ?_ ?_
    · exact ⟨Nat.zero_le _, fun q hq => by omega⟩
    · exact ⟨[0, 1], by simp⟩
    rintro I S μ hI hS hμ k ⟨hk, hnh⟩
    by_cases hlt : k < c.length
    · have hx1 : c[k]? = some c[k] := List.getElem?_eq_getElem hlt
      have w2 : IntKind.i64.wrap ((k : Int) + 1) = (k : Int) + 1 := wrap_id (by omega) (by omega)
      have u2 : IntKind.u64.wrap (k : Int) = k := u64_id (by omega) (by omega)
      have hd : decide (k < c.length) = true := decide_eq_true hlt
      by_cases he : c[k] = (v : Int)
      · have hvv : vaN x c i v = bit i k := vaN_hit hv hnh (by rw [hx1, he])
        have hkp : memoG x c i (n + 1) v m = m := memoG_keep (.inl (by rw [← he]; exact List.getElem_mem hlt))
        rw [hkp] at hM
        subst hM
        rw [hvv]
        have hb := and_shr i k
        rw [he] at hx1
        simp [hd, hx1, u2, hb]
        exact ⟨[0], by simp⟩
      · have hne : (c[k] == (v : Int)) = false := by simpa using he
        generalize c[k] = y at *
        simp [hd, hx1, he, hne, w2]
        exact round_of hI hS hμ (k + 1) ⟨by omega, fun q hq => by
          by_cases e : q = k
          · rw [e, hx1]; simpa using he
          · exact hnh q (by omega)⟩ (by omega) ⟨[0, 1], by simp⟩
    have hk' : k = c.length := by omega
    subst hk'
    have hnc := not_mem_of hnh
    simp [hlt]
    refine call_step (isAnd_con x v ⟨n1, n2⟩ n3 n4) ?_
    simp
    by_cases hf : v < firstG x
    · have hkp : memoG x c i (n + 1) v m = m := memoG_keep (.inr (.inl hf))
      rw [hkp] at hM
      subst hM
      rw [vaN_low hv hnc hf]
      simp [hf, show ¬ firstG x ≤ v by omega]
      exact ⟨[0], by simp⟩
    have hfv : firstG x ≤ v := by omega
    by_cases h0 : atI m v ≠ 0
    · have hkp : memoG x c i (n + 1) v m = m := memoG_keep (.inr (.inr h0))
      rw [hkp] at hM
      subst hM
      have hva : vaN x c i v = atI m v - 1 := by omega
      have hrg := vaN_01 (x := x) (c := c) (i := i) hv
      have w5 : IntKind.i64.wrap (atI m v - 1) = atI m v - 1 := wrap_id (by omega) (by omega)
      have hne : (atI m v == 0) = false := by simpa using h0
      rw [hva]
      generalize atI m v = z at *
      simp [hfv, hf, hv, show ¬ grN x ≤ v by omega, hat, hne, h0, w5]
      exact ⟨[0], by simp⟩
    have h0 : atI m v = 0 := Decidable.of_not_not h0
    obtain ⟨ha, a1, a2, a3, a4, a5, a6⟩ := and_at hok (by omega) hv
    have w1 : IntKind.i64.wrap ((v : Int) - (1 + x.1 + x.2.1.length)) = (v : Int) - (1 + x.1 + x.2.1.length) := wrap_id (by omega) (by omega)
    have ht : ((v : Int) - (1 + x.1 + x.2.1.length)).toNat = v - firstG x := by omega
    have hL : (enAnd (andAt x v)).length = 2 := rfl
    have hn0 : ¬ (v : Int) - (1 + x.1 + x.2.1.length) < 0 := by omega
    have q1 : IntKind.i64.wrap ((andAt x v).1.tdiv 2) = (kidA x v : Int) := by rw [Int.tdiv_eq_ediv_of_nonneg a1, a3]; exact wrap_id (by omega) (by omega)
    have q2 : IntKind.i64.wrap ((andAt x v).2.tdiv 2) = (kidB x v : Int) := by rw [Int.tdiv_eq_ediv_of_nonneg a2, a4]; exact wrap_id (by omega) (by omega)
    have hmA := memoG_ok hok n (kidA x v) m (by omega) hmo
    have hA := ih (kidA x v) m (by omega) (by omega) hmo
    have hmB := memoG_ok hok n (kidB x v) _ (by omega) hmA
    have hB := ih (kidB x v) _ (by omega) (by omega) hmA
    have hnw := memoG_new (i := i) (n := n) hnc hfv h0
    rw [hnw] at hM
    subst hM
    have vA := vaN_01 (x := x) (c := c) (i := i) (k := kidA x v) (by omega)
    have vB := vaN_01 (x := x) (c := c) (i := i) (k := kidB x v) (by omega)
    have hva := vaN_and hok hv hnc hfv (i := i)
    have x1 : xor64 (vaN x c i (kidA x v)) ((andAt x v).1 % 2) = (vaN x c i (kidA x v) + (andAt x v).1 % 2) % 2 := xor64_bit vA (by omega)
    have x2 : xor64 (vaN x c i (kidB x v)) ((andAt x v).2 % 2) = (vaN x c i (kidB x v) + (andAt x v).2 % 2) % 2 := xor64_bit vB (by omega)
    have b1 := and64_one (andAt x v).1
    have b2 := and64_one (andAt x v).2
    have x3 : and64 ((vaN x c i (kidA x v) + (andAt x v).1 % 2) % 2) ((vaN x c i (kidB x v) + (andAt x v).2 % 2) % 2) = vaN x c i v := by rw [hva]; exact and64_bit (by omega) (by omega)
    rw [show (vaN x c i (kidA x v) + (andAt x v).1 % 2) % 2 = (vaN x c i (kidA x v) + (andAt x v).1) % 2 by omega, show (vaN x c i (kidB x v) + (andAt x v).2 % 2) % 2 = (vaN x c i (kidB x v) + (andAt x v).2) % 2 by omega] at x3
    have hv01 := vaN_01 (x := x) (c := c) (i := i) hv
    have w6 : IntKind.i64.wrap (1 + vaN x c i v) = 1 + vaN x c i v := wrap_id (by omega) (by omega)
    have w7 : IntKind.i64.wrap (1 + vaN x c i v - 1) = vaN x c i v := by rw [wrap_id (by omega) (by omega)]; omega
    have hlB := hmB.1
    have hlA := hmA.1
    rw [← hm1] at hlA hlB
    generalize memoG x c i n (kidB x v) (memoG x c i n (kidA x v) m) = m2 at *
    generalize memoG x c i n (kidA x v) m = m1 at *
    have hat2 : (m2.set v (1 + vaN x c i v))[v]? = some (1 + vaN x c i v) := by rw [List.getElem?_set_self (by omega)]
    have hin : (m2[v]?).isSome = true := by rw [List.getElem?_eq_getElem (by omega)]; rfl
    obtain ⟨z2, hz2⟩ : ∃ z, m2[v]? = some z := ⟨_, List.getElem?_eq_getElem (by omega)⟩
    have hset := map_setI (m := m2) (v := v) (z := 1 + vaN x c i v)
    generalize vaN x c i v = z0 at *
    generalize m2.set v (1 + z0) = m3 at *
    generalize vaN x c i (kidA x v) = VA at *
    generalize vaN x c i (kidB x v) = VB at *
    rw [h0] at hat
    simp [hfv, hf, hv, show ¬ grN x ≤ v by omega, hat]
    refine drawD_of 9 (by kernel_rfl) ?_
    simp
    refine call_step (firstAnd_con x ⟨n1, n2⟩ n3) ?_
    simp [w1, ha, ht, hL, hn0, enAnd, q1]
    refine drawE_of [(7, [8, 9, 10]), (11, []), (12, [])] (by kernel_rfl) ?_
    simp [q1, b1]
    refine callC_step (hA) [] [0] (by simp) (by simp [nearTo]) ?_
    simp [b1, x1]
    refine drawE_of [(7, [8, 9, 10]), (11, []), (12, [])] (by kernel_rfl) ?_
    simp [q2, b2]
    refine callC_step (hB) [] [0] (by simp) (by simp [nearTo]) ?_
    simp [b2, x2]
    simp [x3, w6, hz2, hset, hat2, w7]
    exact ⟨[0], by simp⟩
end Go.Proofs.Ytklhofpjjbfckaa
