/-
  The depth of a mapping's network against the mapping's, the number of its tables against the used nodes. Plain lemmas.
  Conditions: those typed in each theorem.
-/
import Derived.Test.YtklhofpjjbfckaaLm
namespace Go.Proofs.Ytklhofpjjbfckaa
open Go.RowKit Go.ChangeShapes Go.WideShapes
set_option linter.unusedVariables false
set_option linter.unusedSimpArgs false
theorem two_max {lv lv' : List Int} {f : Int → Int} {rs : List Int} (h : ∀ y ∈ rs, lvAt lv (f y) = atI lv' (y / 2) ∨ (lvAt lv (f y) = 1 ∧ atI lv' (y / 2) = 0)) : ∀ j, j ≤ rs.length →
    dpK lv' rs j ≤ mxFrom lv 0 ((rs.map f).take j) ∧ mxFrom lv 0 ((rs.map f).take j) ≤ max 1 (dpK lv' rs j)
  | 0, _ => by
    have e1 : dpK lv' rs 0 = 0 := rfl
    have e2 : mxFrom lv 0 ((rs.map f).take 0) = 0 := rfl
    rw [e1, e2]; omega
  | j + 1, hj => by
    obtain ⟨h1, h2⟩ := two_max h j (by omega)
    have hr : rs[j]? = some rs[j] := List.getElem?_eq_getElem (by omega)
    have hrf : (rs.map f)[j]? = some (f rs[j]) := by rw [List.getElem?_map, hr]; rfl
    rw [mxFrom_snoc hrf]
    have hy := h _ (List.getElem_mem (show j < rs.length by omega))
    have hd : dpK lv' rs (j + 1) = mx (dpK lv' rs j) (atI lv' (rs[j] / 2)) := by
      show mx (dpK lv' rs j) (atI lv' (atI rs j / 2)) = _
      rw [atI_get hr]
    rw [hd]
    generalize atI lv' (rs[j] / 2) = a at *
    generalize lvAt lv (f rs[j]) = b at *
    generalize dpK lv' rs j = A at *
    generalize mxFrom lv 0 ((rs.map f).take j) = B at *
    unfold gmax mx
    rcases hy with rfl | ⟨rfl, rfl⟩
    · split <;> split <;> omega
    · split <;> split <;> omega
section
variable {x : GrD} {cs : List RowD}
theorem lutRoots_eq : lutRoots (lutsOf x cs) = (grRoots x).map (rtP x cs) := by
  show x.2.2.2.map (rtP x cs) ++ ((x.2.1.map (sqP x cs)).map (·.2.2)).flatten = (x.2.2.2 ++ (x.2.1.map (·.2.2)).flatten).map (rtP x cs)
  rw [List.map_append, List.map_flatten, List.map_map, List.map_map]
  rfl
theorem lutLv_eq : lutLv (lutsOf x cs) = lvF x cs := by
  have : 1 + (lutsOf x cs).1.toNat + (lutsOf x cs).2.1.length = firstG x := by
    show 1 + x.1.toNat + (x.2.1.map (sqP x cs)).length = _
    simp [firstG]
  unfold lutLv lvF
  rw [this]
  rfl
theorem lut_depth (hm : mapOkB x cs = true) (hok : lutNetOkB (lutsOf x cs) = true) : depthL x cs ≤ lutDepthL (lutsOf x cs) ∧ lutDepthL (lutsOf x cs) ≤ max 1 (depthL x cs) := by
  unfold lutDepthL
  rw [if_pos hok, lutRoots_eq, lutLv_eq]
  have := two_max (lv := lvF x cs) (lv' := levelsL x cs) (f := rtP x cs) (rs := grRoots x) (fun y hy => rt_level hm hy) (grRoots x).length (Nat.le_refl _)
  rw [List.take_of_length_le (by simp)] at this
  exact this
/-! ### Used nodes -/
theorem rt_or {rs : List Int} {s : List Bool} (hs : ∀ v, getB s v = false) (hr : ∀ y ∈ rs, (y / 2).toNat < s.length) : ∀ j, j ≤ rs.length → ∀ v, getB (rtM s rs j) v = (getB (evM rs s j) v || getB (odM rs s j) v)
  | 0, _, v => by show getB s v = (getB s v || getB s v); simp
  | j + 1, hj, v => by
    have ih := rt_or hs hr j (by omega) v
    have hx : rs[j]? = some rs[j] := List.getElem?_eq_getElem (by omega)
    have hl := hr _ (List.getElem_mem (show j < rs.length by omega))
    have e1 : rtM s rs (j + 1) = (rtM s rs j).set (rs[j] / 2).toNat true := by simp [rtM, atI_get hx]
    have e2 : evM rs s (j + 1) = if rs[j] % 2 = 0 then (evM rs s j).set (rs[j] / 2).toNat true else evM rs s j := by
      show (if atI rs j % 2 = 0 then (evM rs s j).set (atI rs j / 2).toNat true else evM rs s j) = _
      rw [atI_get hx]
    have e3 : odM rs s (j + 1) = if rs[j] % 2 = 0 then odM rs s j else (odM rs s j).set (rs[j] / 2).toNat true := by
      show (if atI rs j % 2 = 0 then odM rs s j else (odM rs s j).set (atI rs j / 2).toNat true) = _
      rw [atI_get hx]
    rw [e1, e2, e3, getB_set (by rw [rtM_len]; exact hl), ih]
    split
    · rw [getB_set (by rw [evM_len]; exact hl), Bool.or_assoc]
    · rw [getB_set (by rw [odM_len]; exact hl)]
      cases getB (evM rs s j) v <;> cases getB (odM rs s j) v <;> simp
theorem ct_or {s s' g : List Bool} {c : List Int} (hl : s.length = s'.length) (h : ∀ v, getB s v = (getB s' v || getB g v)) : ∀ n v, getB (ctM s c n) v = (getB (ctM s' c n) v || getB g v)
  | 0, v => h v
  | n + 1, v => by
    have ih := ct_or (c := c) hl h n v
    have e1 : ctM s c (n + 1) = (ctM s c n).set (atI c n).toNat true := rfl
    have e2 : ctM s' c (n + 1) = (ctM s' c n).set (atI c n).toNat true := rfl
    rw [e1, e2]
    by_cases hb : (atI c n).toNat < s.length
    · rw [getB_set (by rw [ctM_len]; exact hb), getB_set (by rw [ctM_len]; omega), ih, Bool.or_assoc]
    · rw [List.set_eq_of_length_le (by rw [ctM_len]; omega), List.set_eq_of_length_le (by rw [ctM_len]; omega)]
      exact ih
theorem us_or (hok : netOkB x = true) : ∀ j v, getB (usM x cs j) v = (getB (posM x cs j) v || getB (ngM x) v)
  | 0, v => by
    have hri := rootsN_in hok
    exact rt_or (rs := grRoots x) (s := List.replicate (grN x) false) (fun v => by unfold getB; rw [List.getElem?_replicate]; split <;> rfl) (fun y hy => by have := hri y hy; simp; omega) _ (Nat.le_refl _) v
  | j + 1, v => by
    have ih := us_or hok j
    have e1 : usM x cs (j + 1) = if getB (usM x cs j) (grN x - 1 - j) = true then ctM (usM x cs j) ((cs[cs.length - 1 - j]?).getD []) ((cs[cs.length - 1 - j]?).getD []).length else usM x cs j := rfl
    have e2 : posM x cs (j + 1) = if (getB (posM x cs j) (grN x - 1 - j) || getB (ngM x) (grN x - 1 - j)) = true then ctM (posM x cs j) ((cs[cs.length - 1 - j]?).getD []) ((cs[cs.length - 1 - j]?).getD []).length else posM x cs j := rfl
    rw [e1, e2, ih (grN x - 1 - j)]
    split
    · exact ct_or (by rw [usM_len, posM_len]) ih _ v
    · exact ih v
theorem used_or (hok : netOkB x = true) (i : Nat) : getB (usedL x cs) i = (getB (posL x cs) (firstG x + i) || getB (ngM x) (firstG x + i)) := by
  have := us_or (cs := cs) hok cs.length (firstG x + i)
  unfold posL
  rw [← this]
  unfold usedL getB
  rw [List.getElem?_drop]
/-! ### Counting -/
theorem cnP_split {s : List Bool} {F : Nat} : ∀ n, cnP s 0 (F + n) = cnP s 0 F + cnP s F n
  | 0 => rfl
  | n + 1 => by
    have ih := cnP_split (s := s) (F := F) n
    show (if getB s (0 + (F + n)) = true then cnP s 0 (F + n) + 1 else cnP s 0 (F + n)) = cnP s 0 F + (if getB s (F + n) = true then cnP s F n + 1 else cnP s F n)
    rw [Nat.zero_add, ih]
    split <;> omega
theorem ltN_cnt : ∀ k, (ltN x cs k).length = cnP (posL x cs) (firstG x) cs.length + cnP (ngM x) 0 k
  | 0 => by
    show (ltP x cs cs.length).length = _
    rw [ltP_len]; rfl
  | k + 1 => by
    have ih := ltN_cnt k
    have e : cnP (ngM x) 0 (k + 1) = if getB (ngM x) (0 + k) = true then cnP (ngM x) 0 k + 1 else cnP (ngM x) 0 k := rfl
    rw [Nat.zero_add] at e
    rw [ltN_succ, e]
    split
    · rw [List.length_append, ih]; simp; omega
    · exact ih
theorem cnK_two {u p g : List Bool} {F : Nat} (h : ∀ i, getB u i = (getB p (F + i) || getB g (F + i))) : ∀ n, cnK u n ≤ cnP p F n + cnP g F n ∧ cnP p F n ≤ cnK u n
  | 0 => ⟨Nat.le_refl _, Nat.le_refl _⟩
  | n + 1 => by
    obtain ⟨h1, h2⟩ := cnK_two h n
    have hn := h n
    show (if getB u n = true then cnK u n + 1 else cnK u n) ≤ (if getB p (F + n) = true then cnP p F n + 1 else cnP p F n) + (if getB g (F + n) = true then cnP g F n + 1 else cnP g F n) ∧ (if getB p (F + n) = true then cnP p F n + 1 else cnP p F n) ≤ (if getB u n = true then cnK u n + 1 else cnK u n)
    rw [hn]
    cases getB p (F + n) <;> cases getB g (F + n) <;> simp <;> omega
theorem cnP_set {s : List Bool} {t : Nat} (ht : t < s.length) : ∀ n, cnP (s.set t true) 0 n ≤ cnP s 0 n + (if t < n then 1 else 0)
  | 0 => Nat.zero_le _
  | n + 1 => by
    have ih := cnP_set ht n
    have e1 : cnP (s.set t true) 0 (n + 1) = if getB (s.set t true) (0 + n) = true then cnP (s.set t true) 0 n + 1 else cnP (s.set t true) 0 n := rfl
    have e2 : cnP s 0 (n + 1) = if getB s (0 + n) = true then cnP s 0 n + 1 else cnP s 0 n := rfl
    rw [Nat.zero_add] at e1 e2
    rw [e1, e2, getB_set ht]
    generalize cnP (s.set t true) 0 n = A at *
    generalize cnP s 0 n = B at *
    by_cases e : n = t
    · have i1 : (if t < n then 1 else 0 : Nat) = 0 := if_neg (by omega)
      have i2 : (if t < n + 1 then 1 else 0 : Nat) = 1 := if_pos (by omega)
      rw [i1] at ih
      rw [i2, decide_eq_true e]
      cases getB s n
      · show A + 1 ≤ B + 1; omega
      · show A + 1 ≤ B + 1 + 1; omega
    · have i1 : (if t < n + 1 then 1 else 0 : Nat) = if t < n then 1 else 0 := by split <;> split <;> omega
      rw [i1, decide_eq_false e]
      generalize (if t < n then 1 else 0 : Nat) = C at *
      cases getB s n
      · show A ≤ B + C; omega
      · show A + 1 ≤ B + 1 + C; omega
theorem od_cnt {rs : List Int} {s : List Bool} (hr : ∀ y ∈ rs, (y / 2).toNat < s.length) (n : Nat) : ∀ j, j ≤ rs.length → cnP (odM rs s j) 0 n ≤ cnP s 0 n + j
  | 0, _ => Nat.le_refl _
  | j + 1, hj => by
    have ih := od_cnt hr n j (by omega)
    have hx : rs[j]? = some rs[j] := List.getElem?_eq_getElem (by omega)
    have hl := hr _ (List.getElem_mem (show j < rs.length by omega))
    have e3 : odM rs s (j + 1) = if rs[j] % 2 = 0 then odM rs s j else (odM rs s j).set (rs[j] / 2).toNat true := by
      show (if atI rs j % 2 = 0 then odM rs s j else (odM rs s j).set (atI rs j / 2).toNat true) = _
      rw [atI_get hx]
    rw [e3]
    split
    · omega
    · have := cnP_set (s := odM rs s j) (t := (rs[j] / 2).toNat) (by rw [odM_len]; exact hl) n
      split at this <;> omega
theorem cnP_none {n m : Nat} : ∀ k, cnP (List.replicate n false) m k = 0
  | 0 => rfl
  | k + 1 => by
    have ih := cnP_none (n := n) (m := m) k
    show (if getB (List.replicate n false) (m + k) = true then _ else cnP (List.replicate n false) m k) = 0
    rw [if_neg (by unfold getB; rw [List.getElem?_replicate]; split <;> simp), ih]
theorem lut_count (hm : mapOkB x cs = true) : cnK (usedL x cs) x.2.2.1.length ≤ (ltN x cs (grN x)).length ∧ (ltN x cs (grN x)).length ≤ cnK (usedL x cs) x.2.2.1.length + (grRoots x).length := by
  obtain ⟨hok, hl, hcs⟩ := mapOk_of hm
  have hN := grN_eq x
  have hri := rootsN_in hok
  obtain ⟨h1, h2⟩ := cnK_two (used_or (cs := cs) hok) x.2.2.1.length
  have h3 := ltN_cnt (x := x) (cs := cs) (grN x)
  have h4 := cnP_split (s := ngM x) (F := firstG x) x.2.2.1.length
  rw [← hN] at h4
  rw [hl] at h3
  have h5 := od_cnt (rs := grRoots x) (s := List.replicate (grN x) false) (fun y hy => by have := hri y hy; simp; omega) (grN x) (grRoots x).length (Nat.le_refl _)
  rw [cnP_none] at h5
  have h6 : ngM x = odM (grRoots x) (List.replicate (grN x) false) (grRoots x).length := rfl
  rw [← h6] at h5
  omega
end
end Go.Proofs.Ytklhofpjjbfckaa
