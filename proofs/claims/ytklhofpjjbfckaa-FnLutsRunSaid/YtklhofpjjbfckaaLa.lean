/-
  Values of nodes over a cut, tables of cuts, places of nodes in a network of tables. Plain lemmas.
  Conditions: those typed in each theorem.
-/
import Derived.Test.YtklhofpjjbfckaaNr
import Derived.Test.YtklhofpjjbfckaaWc
namespace Go.Proofs.Ytklhofpjjbfckaa
open Go.RowKit Go.ChangeShapes Go.WideShapes
set_option linter.unusedVariables false
set_option linter.unusedSimpArgs false
attribute [local simp] mcone_len esc_len
def cutB (i k : Int) : List Int → Nat → Option Int
  | [], _ => none
  | y :: c, j => if y = k then some (bit i j) else cutB i k c (j + 1)
theorem cutB_none {i k : Int} : ∀ {c : List Int} {j : Nat}, k ∉ c → cutB i k c j = none
  | [], _, _ => rfl
  | y :: c, j, h => by
    simp only [List.mem_cons, not_or] at h
    unfold cutB
    rw [if_neg (fun e => h.1 e.symm)]
    exact cutB_none h.2
theorem cutB_at {i k : Int} : ∀ {c : List Int} {j p : Nat}, c.Nodup → c[p]? = some k → cutB i k c j = some (bit i (j + p))
  | [], _, _, _, h => by simp at h
  | y :: c, j, 0, _, h => by
    simp only [List.getElem?_cons_zero, Option.some.injEq] at h
    unfold cutB
    rw [if_pos h]
    rfl
  | y :: c, j, p + 1, hn, h => by
    simp only [List.getElem?_cons_succ] at h
    rw [List.nodup_cons] at hn
    unfold cutB
    rw [if_neg (fun e => hn.1 (by rw [e]; exact List.mem_of_getElem? h)), cutB_at hn.2 h]
    congr 2
    omega
def vaF (x : GrD) (c : List Int) (i : Int) (lv : List Int) (k : Nat) : Int :=
  match cutB i k c 0 with
  | some b => b
  | none => if firstG x ≤ k then litL lv (andAt x k).1 * litL lv (andAt x k).2 else 0
def vaL (x : GrD) (c : List Int) (i : Int) : Nat → List Int
  | 0 => List.replicate (grN x) 0
  | k + 1 => (vaL x c i k).set k (vaF x c i (vaL x c i k) k)
def vaN (x : GrD) (c : List Int) (i : Int) (k : Nat) : Int := atI (vaL x c i (k + 1)) k
theorem vaL_len {x : GrD} {c : List Int} {i : Int} : ∀ k, (vaL x c i k).length = grN x
  | 0 => by simp [vaL]
  | k + 1 => by simp [vaL, vaL_len k]
theorem cutB_01 {i k : Int} {b : Int} : ∀ {c : List Int} {j : Nat}, cutB i k c j = some b → 0 ≤ b ∧ b ≤ 1
  | [], _, h => by simp [cutB] at h
  | y :: c, j, h => by
    unfold cutB at h
    split at h
    · cases h; exact bit_01 _ _
    · exact cutB_01 h
theorem vaF_01 (x : GrD) (c : List Int) (i : Int) (lv : List Int) (k : Nat) : 0 ≤ vaF x c i lv k ∧ vaF x c i lv k ≤ 1 := by
  unfold vaF
  split
  · rename_i h; exact cutB_01 h
  · split
    · have a := litL_01 lv (andAt x k).1
      have b := litL_01 lv (andAt x k).2
      rcases bit_cases a with h | h <;> rcases bit_cases b with g | g <;> rw [h, g] <;> omega
    · omega
theorem atI_setn {lv : List Int} {k j : Nat} {v : Int} (hk : k < lv.length) : atI (lv.set k v) j = if j = k then v else atI lv j := by
  unfold atI
  rw [Int.toNat_natCast, List.getElem?_set]
  by_cases h : j = k
  · subst h; simp [hk]
  · rw [if_neg (fun e => h e.symm), if_neg h]
theorem vaL_keep {x : GrD} {c : List Int} {i : Int} {k : Nat} : ∀ n, k < n → n ≤ grN x → atI (vaL x c i n) k = vaN x c i k
  | 0, h, _ => by omega
  | n + 1, h, hn => by
    by_cases e : k = n
    · subst e; rfl
    · show atI ((vaL x c i n).set n _) k = _
      rw [atI_setn (by rw [vaL_len]; omega), if_neg e]
      exact vaL_keep n (by omega) (by omega)
theorem vaN_eq {x : GrD} {c : List Int} {i : Int} {k : Nat} (hk : k < grN x) : vaN x c i k = vaF x c i (vaL x c i k) k := by
  show atI ((vaL x c i k).set k _) k = _
  rw [atI_setn (by rw [vaL_len]; omega), if_pos rfl]
theorem vaN_01 {x : GrD} {c : List Int} {i : Int} {k : Nat} (hk : k < grN x) : 0 ≤ vaN x c i k ∧ vaN x c i k ≤ 1 := by rw [vaN_eq hk]; exact vaF_01 _ _ _ _ _
theorem vaN_cut {x : GrD} {c : List Int} {i : Int} {k p : Nat} (hk : k < grN x) (hn : c.Nodup) (h : c[p]? = some (k : Int)) : vaN x c i k = bit i p := by
  rw [vaN_eq hk, vaF, cutB_at hn h, Nat.zero_add]
theorem vaN_low {x : GrD} {c : List Int} {i : Int} {k : Nat} (hk : k < grN x) (h : (k : Int) ∉ c) (hf : k < firstG x) : vaN x c i k = 0 := by
  rw [vaN_eq hk, vaF, cutB_none h]
  show (if firstG x ≤ k then _ else (0 : Int)) = 0
  rw [if_neg (by omega)]
theorem vaN_and {x : GrD} {c : List Int} {i : Int} {k : Nat} (hok : netOkB x = true) (hk : k < grN x) (h : (k : Int) ∉ c) (hf : firstG x ≤ k) : vaN x c i k = ((vaN x c i (kidA x k) + (andAt x k).1 % 2) % 2) * ((vaN x c i (kidB x k) + (andAt x k).2 % 2) % 2) := by
  obtain ⟨-, -, -, a3, a4, a5, a6⟩ := and_at hok hf hk
  rw [vaN_eq hk, vaF, cutB_none h]
  show (if firstG x ≤ k then litL (vaL x c i k) (andAt x k).1 * litL (vaL x c i k) (andAt x k).2 else (0 : Int)) = _
  rw [if_pos hf]
  unfold litL
  rw [a3, a4, vaL_keep k a5 (by omega), vaL_keep k a6 (by omega)]
def memoG (x : GrD) (c : List Int) (i : Int) : Nat → Nat → List Int → List Int
  | 0, _, m => m
  | n + 1, v, m => if (v : Int) ∈ c ∨ v < firstG x ∨ atI m v ≠ 0 then m else (memoG x c i n (kidB x v) (memoG x c i n (kidA x v) m)).set v (1 + vaN x c i v)
def MemoOk (x : GrD) (c : List Int) (i : Int) (m : List Int) : Prop := m.length = grN x ∧ ∀ v : Nat, atI m v = 0 ∨ atI m v = 1 + vaN x c i v
theorem memoG_ok {x : GrD} {c : List Int} {i : Int} (hok : netOkB x = true) : ∀ (n v : Nat) (m : List Int), v < grN x → MemoOk x c i m → MemoOk x c i (memoG x c i n v m)
  | 0, _, _, _, h => h
  | n + 1, v, m, hv, h => by
    unfold memoG
    split
    · exact h
    · rename_i hc
      simp only [not_or] at hc
      obtain ⟨-, -, -, -, -, a5, a6⟩ := and_at hok (v := v) (by omega) hv
      have h1 := memoG_ok hok n (kidB x v) _ (by omega) (memoG_ok hok n (kidA x v) m (by omega) h)
      refine ⟨by rw [List.length_set]; exact h1.1, fun u => ?_⟩
      rw [atI_setn (by rw [h1.1]; exact hv)]
      split
      · rename_i e; subst e; exact .inr rfl
      · exact h1.2 u
theorem memo_new {x : GrD} {c : List Int} {i : Int} : MemoOk x c i (List.replicate (grN x) 0) := by
  refine ⟨by simp, fun v => .inl ?_⟩
  unfold atI
  rw [List.getElem?_replicate]
  split <;> rfl
def tvL (x : GrD) (c : List Int) (v : Nat) : List Int := (List.range (2 ^ c.length)).map fun i : Nat => vaN x c i v
noncomputable def tbL (x : GrD) (c : List Int) (v : Nat) : Int := packL (tvL x c v)
noncomputable def tnL (x : GrD) (c : List Int) (v : Nat) : Int := packL ((tvL x c v).map fun b => 1 - b)
theorem tvL_len {x : GrD} {c : List Int} {v : Nat} : (tvL x c v).length = 2 ^ c.length := by simp [tvL]
theorem tvL_at {x : GrD} {c : List Int} {v i : Nat} (h : i < 2 ^ c.length) : (tvL x c v)[i]? = some (vaN x c i v) := by
  unfold tvL
  rw [List.getElem?_map, List.getElem?_range h]
  rfl
theorem tvL_bits {x : GrD} {c : List Int} {v : Nat} (hv : v < grN x) : bitsI (tvL x c v) := bitsI_map fun i _ => vaN_01 hv
theorem packK_not {vs : List Int} : ∀ k, k ≤ vs.length → packK (vs.map fun b => 1 - b) k = 2 ^ k - 1 - packK vs k
  | 0, _ => by simp [packK]
  | k + 1, h => by
    have ih := packK_not (vs := vs) k (by omega)
    have hk : vs[k]? = some vs[k] := List.getElem?_eq_getElem (by omega)
    have hp : (2 : Int) ^ (k + 1) = 2 ^ k * 2 := Int.pow_succ 2 k
    unfold packK
    rw [List.getElem?_map, hk, ih, hp]
    simp only [Option.map_some, Option.getD_some, Int.sub_mul]
    omega
theorem tnL_eq {x : GrD} {c : List Int} {v : Nat} : tnL x c v = 2 ^ (2 ^ c.length) - 1 - tbL x c v := by
  unfold tnL tbL packL
  rw [List.length_map, packK_not _ (Nat.le_refl _), tvL_len]
theorem packK_bit {vs : List Int} (hb : bitsI vs) {i : Nat} {b : Int} (hi : vs[i]? = some b) : ∀ n, i < n → packK vs n / 2 ^ i % 2 = b
  | 0, h => by omega
  | n + 1, h => by
    have hv := hb b (List.mem_of_getElem? hi)
    have hp : (0 : Int) < 2 ^ i := Int.pow_pos (by omega)
    by_cases e : i = n
    · subst e
      have hl := packK_lt hb i
      unfold packK
      rw [hi, Option.getD_some, Int.add_mul_ediv_right _ _ (by omega), Int.ediv_eq_zero_of_lt hl.1 hl.2]
      omega
    · have ih := packK_bit hb hi n (by omega)
      obtain ⟨d, hd⟩ : ∃ d, n = i + 1 + d := ⟨n - (i + 1), by omega⟩
      have h2 : (vs[n]?).getD 0 * 2 ^ n = ((vs[n]?).getD 0 * 2 ^ d * 2) * 2 ^ i := by
        rw [hd, Int.pow_add, Int.pow_succ]
        simp only [Int.mul_assoc, Int.mul_comm, Int.mul_left_comm]
      unfold packK
      rw [h2, Int.add_mul_ediv_right _ _ (by omega)]
      omega
def evM (rs : List Int) (s : List Bool) : Nat → List Bool
  | 0 => s
  | j + 1 => if atI rs j % 2 = 0 then (evM rs s j).set (atI rs j / 2).toNat true else evM rs s j
def odM (rs : List Int) (s : List Bool) : Nat → List Bool
  | 0 => s
  | j + 1 => if atI rs j % 2 = 0 then odM rs s j else (odM rs s j).set (atI rs j / 2).toNat true
theorem evM_len {rs : List Int} {s : List Bool} : ∀ j, (evM rs s j).length = s.length
  | 0 => rfl
  | j + 1 => by unfold evM; split <;> simp [evM_len j]
theorem odM_len {rs : List Int} {s : List Bool} : ∀ j, (odM rs s j).length = s.length
  | 0 => rfl
  | j + 1 => by unfold odM; split <;> simp [odM_len j]
theorem getB_keep {s : List Bool} {v u : Nat} (h : getB s v = true) : getB (s.set u true) v = true := by
  by_cases hu : u < s.length
  · rw [getB_set hu, h]; simp
  · rw [List.set_eq_of_length_le (by omega)]; exact h
theorem evM_has {rs : List Int} {s : List Bool} {j : Nat} {y : Int} (hj : rs[j]? = some y) (he : y % 2 = 0) (hl : (y / 2).toNat < s.length) : ∀ n, j < n → getB (evM rs s n) (y / 2).toNat = true
  | 0, h => by omega
  | n + 1, h => by
    by_cases e : j = n
    · subst e
      unfold evM
      rw [atI_get hj, if_pos he, getB_set (by rw [evM_len]; exact hl)]
      simp
    · have ih := evM_has hj he hl n (by omega)
      unfold evM
      split
      · exact getB_keep ih
      · exact ih
noncomputable def ngM (x : GrD) : List Bool := odM (grRoots x) (List.replicate (grN x) false) (grRoots x).length
theorem ngM_len {x : GrD} : (ngM x).length = grN x := by unfold ngM; rw [odM_len]; simp
noncomputable def posM (x : GrD) (cs : List RowD) : Nat → List Bool
  | 0 => evM (grRoots x) (List.replicate (grN x) false) (grRoots x).length
  | j + 1 => if (getB (posM x cs j) (grN x - 1 - j) || getB (ngM x) (grN x - 1 - j)) = true then ctM (posM x cs j) ((cs[cs.length - 1 - j]?).getD []) ((cs[cs.length - 1 - j]?).getD []).length else posM x cs j
theorem posM_len {x : GrD} {cs : List RowD} : ∀ j, (posM x cs j).length = grN x
  | 0 => by unfold posM; rw [evM_len]; simp
  | j + 1 => by
    unfold posM
    split
    · rw [ctM_len, posM_len j]
    · exact posM_len j
noncomputable def posL (x : GrD) (cs : List RowD) : List Bool := posM x cs cs.length
theorem posL_len {x : GrD} {cs : List RowD} : (posL x cs).length = grN x := posM_len _
theorem posM_mono {x : GrD} {cs : List RowD} {v j : Nat} (h : getB (posM x cs j) v = true) : ∀ d, getB (posM x cs (j + d)) v = true
  | 0 => h
  | d + 1 => by
    have ih := posM_mono h d
    show getB (posM x cs (j + d + 1)) v = true
    unfold posM
    split
    · exact ctM_keep ih _
    · exact ih
theorem ctM_has {s : List Bool} {c : List Int} {y : Int} {p : Nat} (hy : c[p]? = some y) (hl : y.toNat < s.length) : ∀ n, p < n → getB (ctM s c n) y.toNat = true
  | 0, h => by omega
  | n + 1, h => by
    by_cases e : p = n
    · subst e
      unfold ctM
      rw [atI_get hy, getB_set (by rw [ctM_len]; exact hl)]
      simp
    · unfold ctM
      exact getB_keep (ctM_has hy hl n (by omega))
theorem posM_low {x : GrD} {cs : List RowD} (hm : mapOkB x cs = true) {v j : Nat} (hj : grN x ≤ v + 1 + j) : ∀ d, j + d ≤ cs.length → getB (posM x cs (j + d)) v = getB (posM x cs j) v
  | 0, _ => rfl
  | d + 1, h => by
    have ih := posM_low hm hj d (by omega)
    obtain ⟨hok, hl, hcs⟩ := mapOk_of hm
    have hN := grN_eq x
    rw [← ih]
    show getB (posM x cs (j + d + 1)) v = _
    conv => lhs; unfold posM
    split
    · obtain ⟨c, hc⟩ : ∃ c, cs[cs.length - 1 - (j + d)]? = some c := ⟨_, List.getElem?_eq_getElem (by omega)⟩
      rw [hc]
      refine ctM_only (fun y hy e => ?_) _ (Nat.le_refl _)
      have := cut_below hm hc y hy
      omega
    · rfl
theorem pos_closed {x : GrD} {cs : List RowD} (hm : mapOkB x cs = true) {p : Nat} {c : RowD} (hc : cs[p]? = some c) (hu : (getB (posL x cs) (firstG x + p) || getB (ngM x) (firstG x + p)) = true) : ∀ y ∈ c, getB (posL x cs) y.toNat = true := fun y hy => by
  obtain ⟨hok, hl, hcs⟩ := mapOk_of hm
  have hp : p < cs.length := (List.getElem?_eq_some_iff.1 hc).1
  have hN := grN_eq x
  obtain ⟨j, hj⟩ : ∃ j, j = cs.length - 1 - p := ⟨_, rfl⟩
  have hv : firstG x + p = grN x - 1 - j := by omega
  have hL := posM_low hm (v := firstG x + p) (j := j) (by omega) (cs.length - j) (by omega)
  rw [show j + (cs.length - j) = cs.length by omega] at hL
  rw [show posL x cs = posM x cs cs.length from rfl, hL, hv] at hu
  have h1 : posM x cs (j + 1) = ctM (posM x cs j) c c.length := by
    conv => lhs; unfold posM
    rw [if_pos hu, show cs.length - 1 - j = p by omega, hc]
    rfl
  obtain ⟨q, hq, hqy⟩ := List.getElem_of_mem hy
  have h2 := posM_mono (x := x) (cs := cs) (v := y.toNat) (j := j + 1) (by
    rw [h1]
    refine ctM_has (p := q) (by rw [List.getElem?_eq_getElem hq, hqy]) ?_ _ hq
    rw [posM_len]
    have := cut_below hm hc y hy
    omega) (cs.length - (j + 1))
  rw [show j + 1 + (cs.length - (j + 1)) = cs.length by omega] at h2
  exact h2
theorem pos_root {x : GrD} {cs : List RowD} (hok : netOkB x = true) {y : Int} (hy : y ∈ grRoots x) (he : y % 2 = 0) : getB (posL x cs) (y / 2).toNat = true := by
  obtain ⟨j, hj, hjy⟩ := List.getElem_of_mem hy
  have hr := rootsN_in hok y hy
  have h := posM_mono (x := x) (cs := cs) (v := (y / 2).toNat) (j := 0) (by
    unfold posM
    exact evM_has (j := j) (by rw [List.getElem?_eq_getElem hj, hjy]) he (by simp; omega) _ hj) cs.length
  rw [Nat.zero_add] at h
  exact h
def cnP (pos : List Bool) (F : Nat) : Nat → Nat
  | 0 => 0
  | i + 1 => if getB pos (F + i) = true then cnP pos F i + 1 else cnP pos F i
theorem cnP_le {pos : List Bool} {F : Nat} : ∀ i, cnP pos F i ≤ i
  | 0 => Nat.le_refl _
  | i + 1 => by
    have := cnP_le (pos := pos) (F := F) i
    unfold cnP
    split <;> omega
def plN (F : Nat) (pos : List Bool) (y : Int) : Int := if y < (F : Int) then y else ((F + cnP pos F (y.toNat - F) : Nat) : Int)
def idK (N : Nat) : Nat → List Int
  | 0 => List.replicate N 0
  | k + 1 => (idK N k).set k (k : Int)
theorem idK_len {N : Nat} : ∀ k, (idK N k).length = N
  | 0 => by simp [idK]
  | k + 1 => by simp [idK, idK_len k]
theorem idK_at {N y : Nat} : ∀ k, y < k → k ≤ N → atI (idK N k) y = y
  | 0, h, _ => by omega
  | k + 1, h, hk => by
    unfold idK
    rw [atI_setn (by rw [idK_len]; omega)]
    split
    · rename_i e; rw [e]
    · exact idK_at k (by omega) (by omega)
def evI (F N : Nat) (pos : List Bool) : Nat → List Int
  | 0 => idK N F
  | i + 1 => if getB pos (F + i) = true then (evI F N pos i).set (F + i) ((F + cnP pos F i : Nat) : Int) else evI F N pos i
theorem evI_len {F N : Nat} {pos : List Bool} : ∀ i, (evI F N pos i).length = N
  | 0 => idK_len _
  | i + 1 => by unfold evI; split <;> simp [evI_len i]
theorem evI_at {F N : Nat} {pos : List Bool} {y : Nat} (hp : getB pos y = true ∨ y < F) : ∀ i, y < F + i → F + i ≤ N → atI (evI F N pos i) y = plN F pos y
  | 0, h, hN => by
    unfold evI plN
    rw [idK_at F (by omega) (by omega), if_pos (by omega)]
  | i + 1, h, hN => by
    by_cases e : y = F + i
    · subst e
      have hp' : getB pos (F + i) = true := by
        rcases hp with hp | hp
        · exact hp
        · omega
      unfold evI plN
      rw [if_pos hp', atI_setn (k := F + i) (by rw [evI_len]; omega), if_pos rfl, if_neg (by omega), Int.toNat_natCast, Nat.add_sub_cancel_left]
    · have ih := evI_at (N := N) hp i (by omega) (by omega)
      unfold evI
      split
      · rw [atI_setn (k := F + i) (by rw [evI_len]; omega), if_neg e]; exact ih
      · exact ih
noncomputable def ltP (x : GrD) (cs : List RowD) : Nat → List LutD
  | 0 => []
  | i + 1 => if getB (posL x cs) (firstG x + i) = true then ltP x cs i ++ [(((cs[i]?).getD []).map (plN (firstG x) (posL x cs)), tbL x ((cs[i]?).getD []) (firstG x + i))] else ltP x cs i
theorem ltP_len {x : GrD} {cs : List RowD} : ∀ i, (ltP x cs i).length = cnP (posL x cs) (firstG x) i
  | 0 => rfl
  | i + 1 => by
    have ih := ltP_len (x := x) (cs := cs) i
    unfold ltP cnP
    split <;> simp [ih]
noncomputable def ltNeg (x : GrD) (cs : List RowD) (k : Nat) : LutD := if k = 0 then ([], 1) else if k < firstG x then ([(k : Int)], 1) else (((cs[k - firstG x]?).getD []).map (plN (firstG x) (posL x cs)), tnL x ((cs[k - firstG x]?).getD []) k)
noncomputable def ltN (x : GrD) (cs : List RowD) : Nat → List LutD
  | 0 => ltP x cs cs.length
  | k + 1 => if getB (ngM x) k = true then ltN x cs k ++ [ltNeg x cs k] else ltN x cs k
theorem ltN_len {x : GrD} {cs : List RowD} : ∀ k, (ltN x cs k).length ≤ cs.length + k
  | 0 => by unfold ltN; rw [ltP_len]; exact cnP_le _
  | k + 1 => by
    have ih := ltN_len (x := x) (cs := cs) k
    unfold ltN
    split <;> simp <;> omega
noncomputable def ngP (x : GrD) (cs : List RowD) : Nat → List Int
  | 0 => List.replicate (grN x) 0
  | k + 1 => if getB (ngM x) k = true then (ngP x cs k).set k ((firstG x + (ltN x cs k).length : Nat) : Int) else ngP x cs k
theorem ngP_len {x : GrD} {cs : List RowD} : ∀ k, (ngP x cs k).length = grN x
  | 0 => by simp [ngP]
  | k + 1 => by unfold ngP; split <;> simp [ngP_len k]
noncomputable def rtP (x : GrD) (cs : List RowD) (l : Int) : Int := if l % 2 = 0 then plN (firstG x) (posL x cs) (l / 2) else atI (ngP x cs (grN x)) (l / 2)
noncomputable def sqP (x : GrD) (cs : List RowD) (s : SeqD) : SeqD := (s.1, s.2.1, s.2.2.map (rtP x cs))
noncomputable def lutsOf (x : GrD) (cs : List RowD) : NetD := (x.1, x.2.1.map (sqP x cs), ltN x cs (grN x), x.2.2.2.map (rtP x cs))
noncomputable def lutsL (x : GrD) (cs : List RowD) : NetD := if mapOkB x cs = true then lutsOf x cs else (0, [], [], [])
end Go.Proofs.Ytklhofpjjbfckaa
