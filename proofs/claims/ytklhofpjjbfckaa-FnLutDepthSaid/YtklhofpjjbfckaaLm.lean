/-
  The depth of a mapping's network of tables, and how many tables it has. Plain lemmas.
  Conditions: those typed in each theorem.
-/
import Derived.Test.YtklhofpjjbfckaaLe
import Derived.Test.YtklhofpjjbfckaaWf
import Derived.Test.YtklhofpjjbfckaaMb
namespace Go.Proofs.Ytklhofpjjbfckaa
open Go.RowKit Go.ChangeShapes Go.WideShapes
set_option linter.unusedVariables false
set_option linter.unusedSimpArgs false
/-! ### Levels of tables stay -/
theorem lvlK_stay {f : Nat} {ls : List LutD} {n q : Nat} {k : Nat} (hq : q < f + k) : ∀ d, lvAt (lvlK f ls n (k + d)) (q : Int) = lvAt (lvlK f ls n k) (q : Int)
  | 0 => rfl
  | d + 1 => by
    have ih := lvlK_stay (ls := ls) (n := n) hq d
    rw [← ih]
    show lvAt ((lvlK f ls n (k + d)).set (f + (k + d)) _) (q : Int) = _
    unfold lvAt
    rw [Int.toNat_natCast, List.getElem?_set_ne (by omega)]
theorem mxFrom_congr {lv lv' : List Int} : ∀ {xs : List Int} {m : Int}, (∀ y ∈ xs, lvAt lv y = lvAt lv' y) → mxFrom lv m xs = mxFrom lv' m xs
  | [], _, _ => rfl
  | y :: xs, m, h => by
    show mxFrom lv (gmax m (lvAt lv y)) xs = mxFrom lv' (gmax m (lvAt lv' y)) xs
    rw [h y (by simp), mxFrom_congr fun z hz => h z (by simp [hz])]
theorem lvlK_low {f : Nat} {ls : List LutD} {n q : Nat} (hq : q < f) (k : Nat) : lvAt (lvlK f ls n k) (q : Int) = 0 := by
  have := lvlK_stay (f := f) (ls := ls) (n := n) (q := q) (k := 0) (by omega) k
  rw [Nat.zero_add] at this
  rw [this]
  unfold lvlK lvAt
  rw [List.getElem?_replicate]
  split <;> rfl
/-- A table's level from those of its inputs, all told. -/
theorem lvlK_at {f : Nat} {ls : List LutD} {n q : Nat} {l : LutD} (hl : ls[q]? = some l) (hn : f + ls.length ≤ n) (hin : ∀ y ∈ l.1, 0 ≤ y ∧ y < ((f + q : Nat) : Int)) :
    lvAt (lvlK f ls n ls.length) ((f + q : Nat) : Int) = 1 + mxFrom (lvlK f ls n ls.length) 0 l.1 := by
  have hq := (List.getElem?_eq_some_iff.1 hl).1
  have h1 := lvlK_stay (f := f) (ls := ls) (n := n) (q := f + q) (k := q + 1) (by omega) (ls.length - (q + 1))
  rw [show q + 1 + (ls.length - (q + 1)) = ls.length by omega] at h1
  rw [h1, lvlK_snoc hl]
  have h2 : lvAt ((lvlK f ls n q).set (f + q) (1 + mxFrom (lvlK f ls n q) 0 l.1)) ((f + q : Nat) : Int) = 1 + mxFrom (lvlK f ls n q) 0 l.1 := by
    unfold lvAt
    rw [Int.toNat_natCast, List.getElem?_set_self (by rw [lvlK_len]; omega)]
    rfl
  rw [h2]
  congr 1
  refine mxFrom_congr fun y hy => ?_
  obtain ⟨y0, y1⟩ := hin y hy
  obtain ⟨v, rfl⟩ : ∃ v : Nat, y = v := ⟨y.toNat, by omega⟩
  have h3 := lvlK_stay (f := f) (ls := ls) (n := n) (q := v) (k := q) (by omega) (ls.length - q)
  rw [show q + (ls.length - q) = ls.length by omega] at h3
  exact h3.symm
/-! ### Levels of a mapping stay -/
theorem lvM_stay {x : GrD} {cs : List RowD} {v i : Nat} (h : v < firstG x + i) : ∀ d, atI (lvM x cs (i + d)) (v : Int) = atI (lvM x cs i) (v : Int)
  | 0 => rfl
  | d + 1 => by
    have ih := lvM_stay (x := x) (cs := cs) h d
    rw [← ih]
    show atI ((lvM x cs (i + d)).set (firstG x + (i + d)) _) (v : Int) = _
    unfold atI
    rw [Int.toNat_natCast, List.getElem?_set_ne (by omega)]
theorem lvL_low {x : GrD} {cs : List RowD} {v : Nat} (h : v < firstG x) : atI (levelsL x cs) (v : Int) = 0 := by
  have := lvM_stay (x := x) (cs := cs) (v := v) (i := 0) (by omega) cs.length
  rw [Nat.zero_add] at this
  unfold levelsL
  rw [this]
  unfold lvM atI
  rw [List.getElem?_replicate]
  split <;> rfl
theorem mxK_congr {lv lv' c : List Int} (h : ∀ y ∈ c, atI lv y = atI lv' y) : ∀ j, j ≤ c.length → mxK lv c j = mxK lv' c j
  | 0, _ => rfl
  | j + 1, hj => by
    have ih := mxK_congr h j (by omega)
    have hc : c[j]? = some c[j] := List.getElem?_eq_getElem (by omega)
    unfold mxK
    rw [ih, atI_get hc, h _ (List.getElem_mem _)]
theorem lvL_at {x : GrD} {cs : List RowD} (hm : mapOkB x cs = true) {i : Nat} {c : RowD} (hc : cs[i]? = some c) : atI (levelsL x cs) ((firstG x + i : Nat) : Int) = 1 + mxK (levelsL x cs) c c.length := by
  obtain ⟨hok, hl, hcs⟩ := mapOk_of hm
  have hN := grN_eq x
  have hi := (List.getElem?_eq_some_iff.1 hc).1
  have h1 := lvM_stay (x := x) (cs := cs) (v := firstG x + i) (i := i + 1) (by omega) (cs.length - (i + 1))
  rw [show i + 1 + (cs.length - (i + 1)) = cs.length by omega] at h1
  unfold levelsL
  rw [h1]
  have h2 : atI (lvM x cs (i + 1)) ((firstG x + i : Nat) : Int) = 1 + mxK (lvM x cs i) c c.length := by
    show atI ((lvM x cs i).set (firstG x + i) (1 + mxK (lvM x cs i) ((cs[i]?).getD []) ((cs[i]?).getD []).length)) _ = _
    unfold atI
    rw [Int.toNat_natCast, List.getElem?_set_self (by rw [lvM_len]; omega), hc]
    rfl
  rw [h2]
  congr 1
  refine mxK_congr (fun y hy => ?_) _ (Nat.le_refl _)
  obtain ⟨y0, y1⟩ := cut_below hm hc y hy
  obtain ⟨v, rfl⟩ : ∃ v : Nat, y = v := ⟨y.toNat, by omega⟩
  have h3 := lvM_stay (x := x) (cs := cs) (v := v) (i := i) (by omega) (cs.length - i)
  rw [show i + (cs.length - i) = cs.length by omega] at h3
  exact h3.symm
/-- The two ways to the greatest. -/
theorem mx_two {lv lv' : List Int} {f : Int → Int} : ∀ {c : List Int}, (∀ y ∈ c, lvAt lv (f y) = atI lv' y) → mxFrom lv 0 (c.map f) = mxK lv' c c.length := fun {c} h => by
  have key : ∀ j, j ≤ c.length → mxFrom lv 0 ((c.map f).take j) = mxK lv' c j := by
    intro j
    induction j with
    | zero => intro _; rfl
    | succ j ih =>
      intro hj
      have hc : c[j]? = some c[j] := List.getElem?_eq_getElem (by omega)
      have hcf : (c.map f)[j]? = some (f c[j]) := by rw [List.getElem?_map, hc]; rfl
      rw [mxFrom_snoc hcf, ih (by omega), h _ (List.getElem_mem _)]
      show _ = mx (mxK lv' c j) (atI lv' (atI c j))
      rw [atI_get hc]
      rfl
  have := key c.length (Nat.le_refl _)
  rwa [List.take_of_length_le (by simp)] at this
/-! ### Levels of the network's nodes -/
section
variable {x : GrD} {cs : List RowD}
noncomputable def lvF (x : GrD) (cs : List RowD) : List Int := lvlK (firstG x) (ltN x cs (grN x)) (firstG x + (ltN x cs (grN x)).length) (ltN x cs (grN x)).length
theorem pl_level (hm : mapOkB x cs = true) : ∀ (v : Nat), v < grN x → (getB (posL x cs) v = true ∨ v < firstG x) → lvAt (lvF x cs) (plN (firstG x) (posL x cs) v) = atI (levelsL x cs) v := by
  intro v
  induction v using Nat.strongRecOn with
  | ind v ih =>
    intro hv hp
    obtain ⟨hok, hl, hcs⟩ := mapOk_of hm
    have hN := grN_eq x
    unfold plN
    by_cases hf : v < firstG x
    · rw [if_pos (by omega), lvL_low hf]
      exact lvlK_low hf _
    · rw [if_neg (by omega), Int.toNat_natCast]
      obtain ⟨i, rfl⟩ : ∃ i, v = firstG x + i := ⟨v - firstG x, by omega⟩
      have hp' : getB (posL x cs) (firstG x + i) = true := by rcases hp with h | h <;> first | exact h | omega
      rw [Nat.add_sub_cancel_left]
      have hi : i < cs.length := by omega
      obtain ⟨c, hc⟩ : ∃ c, cs[i]? = some c := ⟨_, List.getElem?_eq_getElem hi⟩
      have hg := ltN_pos hi hp' (grN x)
      have hlp : lutP x cs i = (c.map (plN (firstG x) (posL x cs)), tbL x c (firstG x + i)) := by unfold lutP; rw [hc]; rfl
      rw [hlp] at hg
      have hu : (getB (posL x cs) (firstG x + i) || getB (ngM x) (firstG x + i)) = true := by rw [hp']; rfl
      have hlow := pl_lt hm hc hu
      have h1 := lvlK_at (n := firstG x + (ltN x cs (grN x)).length) hg (Nat.le_refl _) hlow
      unfold lvF
      rw [h1, lvL_at hm hc]
      congr 1
      refine mx_two fun y hy => ?_
      obtain ⟨y0, y1⟩ := cut_below hm hc y hy
      obtain ⟨w, rfl⟩ : ∃ w : Nat, y = w := ⟨y.toNat, by omega⟩
      have hpy := pos_closed hm hc hu _ hy
      rw [Int.toNat_natCast] at hpy
      exact ih w (by omega) (by omega) (.inl hpy)
/-- A root's level in the network: the node's, or that of an inverter. -/
theorem rt_level (hm : mapOkB x cs = true) {y : Int} (hy : y ∈ grRoots x) : lvAt (lvF x cs) (rtP x cs y) = atI (levelsL x cs) (y / 2) ∨ (lvAt (lvF x cs) (rtP x cs y) = 1 ∧ atI (levelsL x cs) (y / 2) = 0) := by
  obtain ⟨hok, hl, hcs⟩ := mapOk_of hm
  have hN := grN_eq x
  have hr := rootsN_in hok y hy
  obtain ⟨k, hk⟩ : ∃ k : Nat, y / 2 = k := ⟨(y / 2).toNat, by omega⟩
  unfold rtP
  rw [hk]
  split
  · rename_i he
    have hp := pos_root (cs := cs) hok hy he
    rw [hk, Int.toNat_natCast] at hp
    exact .inl (pl_level hm k (by omega) (.inl hp))
  · rename_i he
    have hg := ng_root hok hy he
    rw [hk, Int.toNat_natCast] at hg
    have hkN : k < grN x := by omega
    rw [ngP_at hg (grN x) hkN (Nat.le_refl _)]
    have hget := ltN_get (cs := cs) hg hkN
    have hneg : ltNeg x cs k = if k = 0 then ([], 1) else if k < firstG x then ([(k : Int)], 1) else (((cs[k - firstG x]?).getD []).map (plN (firstG x) (posL x cs)), tnL x ((cs[k - firstG x]?).getD []) k) := rfl
    have hfit := (lut_fit hm hget).2
    have h1 := lvlK_at (n := firstG x + (ltN x cs (grN x)).length) hget (Nat.le_refl _) hfit
    unfold lvF
    rw [h1]
    by_cases hf : k < firstG x
    · right
      refine ⟨?_, lvL_low hf⟩
      by_cases h0 : k = 0
      · rw [hneg, if_pos h0]; rfl
      · rw [hneg, if_neg h0, if_pos hf]
        have := lvlK_low (ls := ltN x cs (grN x)) (n := firstG x + (ltN x cs (grN x)).length) hf (ltN x cs (grN x)).length
        show 1 + gmax 0 (lvAt _ (k : Int)) = 1
        rw [this]; rfl
    · left
      obtain ⟨i, rfl⟩ : ∃ i, k = firstG x + i := ⟨k - firstG x, by omega⟩
      obtain ⟨c, hc⟩ : ∃ c, cs[i]? = some c := ⟨_, List.getElem?_eq_getElem (by omega)⟩
      rw [hneg, if_neg (by unfold firstG at *; omega), if_neg hf, Nat.add_sub_cancel_left, hc, Option.getD_some, lvL_at hm hc]
      congr 1
      have hu : (getB (posL x cs) (firstG x + i) || getB (ngM x) (firstG x + i)) = true := by rw [hg, Bool.or_true]
      refine mx_two fun z hz => ?_
      obtain ⟨z0, z1⟩ := cut_below hm hc z hz
      obtain ⟨w, rfl⟩ : ∃ w : Nat, z = w := ⟨z.toNat, by omega⟩
      have hpz := pos_closed hm hc hu _ hz
      rw [Int.toNat_natCast] at hpz
      exact pl_level hm w (by omega) (.inl hpz)
end
end Go.Proofs.Ytklhofpjjbfckaa
