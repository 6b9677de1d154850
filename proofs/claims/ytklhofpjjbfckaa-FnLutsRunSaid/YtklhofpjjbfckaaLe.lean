/-
  The network of a mapping: it is valid. Plain lemmas.
  Conditions: those typed in each theorem.
-/
import Derived.Test.YtklhofpjjbfckaaLa
import Derived.Test.YtklhofpjjbfckaaWc
namespace Go.Proofs.Ytklhofpjjbfckaa
open Go.RowKit Go.ChangeShapes Go.WideShapes
set_option linter.unusedVariables false
set_option linter.unusedSimpArgs false
theorem cnP_mono {pos : List Bool} {F : Nat} {i : Nat} : ∀ j, i ≤ j → cnP pos F i ≤ cnP pos F j
  | 0, h => by obtain rfl : i = 0 := by omega
               exact Nat.le_refl _
  | j + 1, h => by
    by_cases e : i = j + 1
    · subst e; exact Nat.le_refl _
    · have ih := cnP_mono (pos := pos) (F := F) j (show i ≤ j by omega)
      conv => rhs; unfold cnP
      split <;> omega
theorem cnP_lt {pos : List Bool} {F i j : Nat} (h : i < j) (hp : getB pos (F + i) = true) : cnP pos F i < cnP pos F j := by
  have := cnP_mono (pos := pos) (F := F) j (show i + 1 ≤ j by omega)
  have h1 : cnP pos F (i + 1) = cnP pos F i + 1 := by
    show (if getB pos (F + i) = true then cnP pos F i + 1 else cnP pos F i) = _
    rw [if_pos hp]
  omega
noncomputable def lutP (x : GrD) (cs : List RowD) (i : Nat) : LutD := (((cs[i]?).getD []).map (plN (firstG x) (posL x cs)), tbL x ((cs[i]?).getD []) (firstG x + i))
theorem ltP_succ {x : GrD} {cs : List RowD} {i : Nat} : ltP x cs (i + 1) = if getB (posL x cs) (firstG x + i) = true then ltP x cs i ++ [lutP x cs i] else ltP x cs i := rfl
theorem ltP_get {x : GrD} {cs : List RowD} {i : Nat} (hp : getB (posL x cs) (firstG x + i) = true) : ∀ n, i < n → (ltP x cs n)[cnP (posL x cs) (firstG x) i]? = some (lutP x cs i)
  | 0, h => by omega
  | n + 1, h => by
    have hl := ltP_len (x := x) (cs := cs) n
    rw [ltP_succ]
    by_cases e : i = n
    · subst e
      rw [if_pos hp, List.getElem?_append_right (by omega), hl, Nat.sub_self]
      rfl
    · have ih := ltP_get hp n (by omega)
      have := cnP_lt (F := firstG x) (show i < n by omega) hp
      split
      · rw [List.getElem?_append_left (by omega)]; exact ih
      · exact ih
theorem ltP_all {x : GrD} {cs : List RowD} {q : Nat} {l : LutD} : ∀ n, (ltP x cs n)[q]? = some l → ∃ i, i < n ∧ getB (posL x cs) (firstG x + i) = true ∧ q = cnP (posL x cs) (firstG x) i ∧ l = lutP x cs i
  | 0, h => by simp [ltP] at h
  | n + 1, h => by
    have hl := ltP_len (x := x) (cs := cs) n
    rw [ltP_succ] at h
    split at h
    · rename_i hp
      by_cases hq : q < (ltP x cs n).length
      · rw [List.getElem?_append_left hq] at h
        obtain ⟨i, h1, h2⟩ := ltP_all n h
        exact ⟨i, by omega, h2⟩
      · rw [List.getElem?_append_right (by omega)] at h
        have h0 : q - (ltP x cs n).length = 0 := by have := (List.getElem?_eq_some_iff.1 h).1; simp at this; omega
        rw [h0] at h
        simp at h
        exact ⟨n, by omega, hp, by omega, h.symm⟩
    · obtain ⟨i, h1, h2⟩ := ltP_all n h
      exact ⟨i, by omega, h2⟩
theorem ltN_succ {x : GrD} {cs : List RowD} {k : Nat} : ltN x cs (k + 1) = if getB (ngM x) k = true then ltN x cs k ++ [ltNeg x cs k] else ltN x cs k := rfl
theorem ltN_pre {x : GrD} {cs : List RowD} {q : Nat} {l : LutD} {m : Nat} (h : (ltN x cs m)[q]? = some l) : ∀ d, (ltN x cs (m + d))[q]? = some l
  | 0 => h
  | d + 1 => by
    have ih := ltN_pre h d
    have hq := (List.getElem?_eq_some_iff.1 ih).1
    show (ltN x cs (m + d + 1))[q]? = _
    rw [ltN_succ]
    split
    · rw [List.getElem?_append_left hq]; exact ih
    · exact ih
theorem ltN_get {x : GrD} {cs : List RowD} {k : Nat} (hp : getB (ngM x) k = true) {n : Nat} (h : k < n) : (ltN x cs n)[(ltN x cs k).length]? = some (ltNeg x cs k) := by
  have h1 : (ltN x cs (k + 1))[(ltN x cs k).length]? = some (ltNeg x cs k) := by
    rw [ltN_succ, if_pos hp, List.getElem?_append_right (Nat.le_refl _), Nat.sub_self]
    rfl
  have h2 := ltN_pre h1 (n - (k + 1))
  rw [show k + 1 + (n - (k + 1)) = n by omega] at h2
  exact h2
theorem ltN_pos {x : GrD} {cs : List RowD} {i : Nat} (hi : i < cs.length) (hp : getB (posL x cs) (firstG x + i) = true) (n : Nat) : (ltN x cs n)[cnP (posL x cs) (firstG x) i]? = some (lutP x cs i) := by
  have h1 : (ltN x cs 0)[cnP (posL x cs) (firstG x) i]? = some (lutP x cs i) := ltP_get hp _ hi
  have h2 := ltN_pre h1 n
  rw [Nat.zero_add] at h2
  exact h2
theorem ltN_ge {x : GrD} {cs : List RowD} : ∀ k, cnP (posL x cs) (firstG x) cs.length ≤ (ltN x cs k).length
  | 0 => by unfold ltN; rw [ltP_len]; exact Nat.le_refl _
  | k + 1 => by
    have ih := ltN_ge (x := x) (cs := cs) k
    rw [ltN_succ]
    split
    · rw [List.length_append]; omega
    · exact ih
theorem ltN_all {x : GrD} {cs : List RowD} {q : Nat} {l : LutD} : ∀ n, (ltN x cs n)[q]? = some l → (∃ i, i < cs.length ∧ getB (posL x cs) (firstG x + i) = true ∧ q = cnP (posL x cs) (firstG x) i ∧ l = lutP x cs i) ∨ ∃ k, k < n ∧ getB (ngM x) k = true ∧ q = (ltN x cs k).length ∧ l = ltNeg x cs k
  | 0, h => .inl (ltP_all _ h)
  | n + 1, h => by
    rw [ltN_succ] at h
    split at h
    · rename_i hp
      by_cases hq : q < (ltN x cs n).length
      · rw [List.getElem?_append_left hq] at h
        rcases ltN_all n h with h1 | ⟨k, h1, h2⟩
        · exact .inl h1
        · exact .inr ⟨k, by omega, h2⟩
      · rw [List.getElem?_append_right (by omega)] at h
        have h0 : q - (ltN x cs n).length = 0 := by have := (List.getElem?_eq_some_iff.1 h).1; simp at this; omega
        rw [h0] at h
        simp at h
        exact .inr ⟨n, by omega, hp, by omega, h.symm⟩
    · rcases ltN_all n h with h1 | ⟨k, h1, h2⟩
      · exact .inl h1
      · exact .inr ⟨k, by omega, h2⟩
theorem ngP_at {x : GrD} {cs : List RowD} {k : Nat} (hp : getB (ngM x) k = true) : ∀ n, k < n → n ≤ grN x → atI (ngP x cs n) k = ((firstG x + (ltN x cs k).length : Nat) : Int)
  | 0, h, _ => by omega
  | n + 1, h, hn => by
    have hs : ngP x cs (n + 1) = if getB (ngM x) n = true then (ngP x cs n).set n ((firstG x + (ltN x cs n).length : Nat) : Int) else ngP x cs n := rfl
    rw [hs]
    by_cases e : k = n
    · subst e
      rw [if_pos hp, atI_setn (by rw [ngP_len]; omega), if_pos rfl]
    · have ih := ngP_at (cs := cs) hp n (by omega) (by omega)
      split
      · rw [atI_setn (by rw [ngP_len]; omega), if_neg e]; exact ih
      · exact ih
theorem odM_has {rs : List Int} {s : List Bool} {j : Nat} {y : Int} (hj : rs[j]? = some y) (he : y % 2 ≠ 0) (hl : (y / 2).toNat < s.length) : ∀ n, j < n → getB (odM rs s n) (y / 2).toNat = true
  | 0, h => by omega
  | n + 1, h => by
    by_cases e : j = n
    · subst e
      unfold odM
      rw [atI_get hj, if_neg he, getB_set (by rw [odM_len]; exact hl)]
      simp
    · have ih := odM_has hj he hl n (by omega)
      unfold odM
      split
      · exact ih
      · exact getB_keep ih
theorem ng_root {x : GrD} (hok : netOkB x = true) {y : Int} (hy : y ∈ grRoots x) (he : y % 2 ≠ 0) : getB (ngM x) (y / 2).toNat = true := by
  obtain ⟨j, hj, hjy⟩ := List.getElem_of_mem hy
  have hr := rootsN_in hok y hy
  exact odM_has (j := j) (by rw [List.getElem?_eq_getElem hj, hjy]) he (by simp; omega) _ hj
theorem pl_lt {x : GrD} {cs : List RowD} (hm : mapOkB x cs = true) {i : Nat} {c : RowD} (hc : cs[i]? = some c) (hu : (getB (posL x cs) (firstG x + i) || getB (ngM x) (firstG x + i)) = true) : ∀ y ∈ c.map (plN (firstG x) (posL x cs)), 0 ≤ y ∧ y < ((firstG x + cnP (posL x cs) (firstG x) i : Nat) : Int) := fun z hz => by
  obtain ⟨y, hy, rfl⟩ := List.mem_map.1 hz
  have hb := cut_below hm hc y hy
  have hp := pos_closed hm hc hu y hy
  unfold plN
  split
  · omega
  · rename_i hf
    obtain ⟨j, hj⟩ : ∃ j, y.toNat = firstG x + j := ⟨y.toNat - firstG x, by omega⟩
    rw [hj] at hp ⊢
    rw [Nat.add_sub_cancel_left]
    have := cnP_lt (F := firstG x) (show j < i by omega) hp
    omega
theorem fullT_eq {n : Nat} (h : n ≤ 4) : fullT n = 2 ^ (2 ^ n) - 1 := by
  have : n = 0 ∨ n = 1 ∨ n = 2 ∨ n = 3 ∨ n = 4 := by omega
  rcases this with rfl | rfl | rfl | rfl | rfl <;> decide
theorem tbL_ok {x : GrD} {c : List Int} {v : Nat} (hv : v < grN x) (h : c.length ≤ 4) : tableOkB c.length (tbL x c v) = true ∧ tableOkB c.length (tnL x c v) = true := by
  have h1 := packK_lt (tvL_bits (c := c) hv) (2 ^ c.length)
  have e : tbL x c v = packK (tvL x c v) (2 ^ c.length) := by unfold tbL packL; rw [tvL_len]
  have h2 := tnL_eq (x := x) (c := c) (v := v)
  have hf := fullT_eq h
  rw [← e] at h1
  unfold tableOkB
  constructor
  · rw [Bool.and_eq_true, rng_iff, rng_iff, hf]; omega
  · rw [Bool.and_eq_true, rng_iff, rng_iff, hf, h2]; omega
theorem below_of {xs : List Int} {n : Int} (h : ∀ y ∈ xs, 0 ≤ y ∧ y < n) : belowB xs n = true := List.all_eq_true.2 fun y hy => rng_iff.2 (by have := h y hy; omega)
theorem lutsFit_of {f : Int} : ∀ {xs : List LutD} {k : Nat}, (∀ q l, xs[q]? = some l → lutFits (f + ((k + q : Nat) : Int)) l = true) → lutsFit f k xs = true
  | [], _, _ => rfl
  | x :: xs, k, h => by
    unfold lutsFit
    have h0 := h 0 x rfl
    rw [Nat.add_zero] at h0
    rw [h0, lutsFit_of (k := k + 1) fun q l hl => by have := h (q + 1) l (by simpa using hl); rw [show k + 1 + q = k + (q + 1) by omega]; exact this]
    rfl
theorem lut_fit {x : GrD} {cs : List RowD} (hm : mapOkB x cs = true) {q : Nat} {l : LutD} (h : (ltN x cs (grN x))[q]? = some l) : tableOkB l.1.length l.2 = true ∧ ∀ y ∈ l.1, 0 ≤ y ∧ y < ((firstG x + q : Nat) : Int) := by
  obtain ⟨hok, hl, hcs⟩ := mapOk_of hm
  have hN := grN_eq x
  rcases ltN_all _ h with ⟨i, hi, hp, rfl, rfl⟩ | ⟨k, hk, hp, rfl, rfl⟩
  · have hc : cs[i]? = some cs[i] := List.getElem?_eq_getElem hi
    obtain ⟨-, h4, -⟩ := hcs i _ hc
    have h1 := (tbL_ok (x := x) (c := cs[i]) (v := firstG x + i) (by omega) h4).1
    have h2 := pl_lt hm hc (by rw [hp]; rfl)
    unfold lutP
    rw [hc]
    exact ⟨by simpa using h1, h2⟩
  · have hge := ltN_ge (x := x) (cs := cs) k
    unfold ltNeg
    split
    · exact ⟨rfl, by simp⟩
    split
    · refine ⟨rfl, fun y hy => ?_⟩
      rw [List.mem_singleton.1 hy]
      omega
    obtain ⟨i, rfl⟩ : ∃ i, k = firstG x + i := ⟨k - firstG x, by omega⟩
    rw [Nat.add_sub_cancel_left]
    have hi : i < cs.length := by omega
    have hc : cs[i]? = some cs[i] := List.getElem?_eq_getElem hi
    obtain ⟨-, h4, -⟩ := hcs i _ hc
    have h1 := (tbL_ok (x := x) (c := cs[i]) (v := firstG x + i) (by omega) h4).2
    have h2 := pl_lt hm hc (by rw [hp]; simp)
    have hmn := cnP_mono (pos := posL x cs) (F := firstG x) cs.length (Nat.le_of_lt hi)
    rw [hc]
    refine ⟨by simpa using h1, fun y hy => ?_⟩
    have := h2 y hy
    omega
theorem plN_rng {x : GrD} {cs : List RowD} (hm : mapOkB x cs = true) {y : Nat} (hy : y < grN x) (hp : getB (posL x cs) y = true) : 0 ≤ plN (firstG x) (posL x cs) y ∧ plN (firstG x) (posL x cs) y < ((firstG x + cnP (posL x cs) (firstG x) cs.length : Nat) : Int) := by
  obtain ⟨hok, hl, hcs⟩ := mapOk_of hm
  have hN := grN_eq x
  unfold plN
  split
  · omega
  · rename_i hf
    obtain ⟨j, rfl⟩ : ∃ j, y = firstG x + j := ⟨y - firstG x, by omega⟩
    rw [Int.toNat_natCast, Nat.add_sub_cancel_left]
    have := cnP_lt (F := firstG x) (show j < cs.length by omega) hp
    omega
theorem rtP_rng {x : GrD} {cs : List RowD} (hm : mapOkB x cs = true) {y : Int} (hy : y ∈ grRoots x) : 0 ≤ rtP x cs y ∧ rtP x cs y < ((firstG x + (ltN x cs (grN x)).length : Nat) : Int) := by
  obtain ⟨hok, hl, hcs⟩ := mapOk_of hm
  have hr := rootsN_in hok y hy
  have hge := ltN_ge (x := x) (cs := cs) (grN x)
  obtain ⟨v, hv⟩ : ∃ v : Nat, y / 2 = v := ⟨(y / 2).toNat, by omega⟩
  unfold rtP
  rw [hv]
  split
  · rename_i he
    have hp := pos_root (cs := cs) hok hy he
    rw [hv, Int.toNat_natCast] at hp
    have := plN_rng hm (by omega) hp
    omega
  · rename_i he
    have hp := ng_root hok hy he
    rw [hv, Int.toNat_natCast] at hp
    rw [ngP_at hp _ (by omega) (Nat.le_refl _)]
    have := (List.getElem?_eq_some_iff.1 (ltN_get (cs := cs) hp (show v < grN x by omega))).1
    omega
theorem root_out {x : GrD} {y : Int} (h : y ∈ x.2.2.2) : y ∈ grRoots x := List.mem_append_left _ h
theorem root_seq {x : GrD} {s : SeqD} {y : Int} (hs : s ∈ x.2.1) (h : y ∈ s.2.2) : y ∈ grRoots x := List.mem_append_right _ (List.mem_flatten.2 ⟨s.2.2, List.mem_map.2 ⟨s, hs, rfl⟩, h⟩)
theorem lutsOf_ok {x : GrD} {cs : List RowD} (hm : mapOkB x cs = true) (h4 : (ltN x cs (grN x)).length ≤ 400) : lutNetOkB (lutsOf x cs) = true ∧ nodesL (lutsOf x cs) = ((firstG x + (ltN x cs (grN x)).length : Nat) : Int) := by
  obtain ⟨hok, hl, hcs⟩ := mapOk_of hm
  obtain ⟨⟨n1, n2, n3, n4, n5, n6⟩, o1, o2, -⟩ := netOk_of hok
  obtain ⟨hF, hgl, hNi, hno⟩ := ok_sizes hok
  have hnd : nodesL (lutsOf x cs) = ((firstG x + (ltN x cs (grN x)).length : Nat) : Int) := by
    unfold nodesL lutsOf
    simp only [List.length_map]
    rw [if_pos (by simp [rng]; omega)]
    omega
  refine ⟨?_, hnd⟩
  unfold lutNetOkB
  rw [hnd]
  have a1 : decide (((firstG x + (ltN x cs (grN x)).length : Nat) : Int) ≠ 0) = true := decide_eq_true (by omega)
  have a2 : belowB (lutsOf x cs).2.2.2 ((firstG x + (ltN x cs (grN x)).length : Nat) : Int) = true := below_of fun y hy => by
    obtain ⟨z, hz, rfl⟩ := List.mem_map.1 hy
    exact rtP_rng hm (root_out hz)
  have a3 : (lutsOf x cs).2.1.all (seqFits ((firstG x + (ltN x cs (grN x)).length : Nat) : Int)) = true := List.all_eq_true.2 fun s hs => by
    obtain ⟨t, ht, rfl⟩ := List.mem_map.1 hs
    unfold seqFits
    rw [Bool.and_eq_true]
    refine ⟨?_, below_of fun y hy => ?_⟩
    · have := o1 t ht
      unfold seqOkB sqP at *
      simpa using this
    · obtain ⟨z, hz, rfl⟩ := List.mem_map.1 hy
      exact rtP_rng hm (root_seq ht hz)
  have a4 : lutsFit (1 + (lutsOf x cs).1 + (lutsOf x cs).2.1.length) 0 (lutsOf x cs).2.2.1 = true := lutsFit_of fun q l h => by
    obtain ⟨h1, h2⟩ := lut_fit hm h
    unfold lutFits
    rw [h1, Bool.true_and]
    refine below_of fun y hy => ?_
    have := h2 y hy
    have e : (lutsOf x cs).2.1.length = x.2.1.length := by unfold lutsOf; simp
    have e1 : (lutsOf x cs).1 = x.1 := rfl
    omega
  rw [a1, a2, a3, a4]
  rfl
end Go.Proofs.Ytklhofpjjbfckaa
